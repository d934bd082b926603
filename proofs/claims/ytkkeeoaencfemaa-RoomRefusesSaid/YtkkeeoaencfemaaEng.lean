/- A small engine: triples over the model's wp with memory as disjoint fragments. No premise; lemmas only. -/
import Derived.WalkKit
import Derived.OrdersHeld
import Derived.Deep.LoopGhost
import Derived.KernelRfl
namespace Go.Eng

/-! ## Fragments of the heap -/
abbrev Frag := Nat → Option Obj
abbrev Fr := List Frag
def pt (b : Nat) (o : Obj) : Frag := fun k => if k = b then some o else none
abbrev blk (b : Nat) (o : Obj) : Fr := [pt b o]
def Frag.apart (f g : Frag) : Prop := ∀ k, f k = none ∨ g k = none
theorem Frag.apart_symm {f g : Frag} (h : f.apart g) : g.apart f := fun k => (h k).symm

/-- The world holds these fragments, pairwise apart; the streams are as in 'c'. -/
structure SepL (c w : World) (L : Fr) : Prop where
  os : w.os = c.os
  out : w.output = c.output
  apart : L.Pairwise Frag.apart
  holds : ∀ f ∈ L, ∀ k o, f k = some o → w.heap[k]? = some o
def Sep (c w : World) (G : List Fr) : Prop := SepL c w G.flatten

theorem SepL.perm {c w : World} {L L' : Fr} (h : SepL c w L) (p : L.Perm L') : SepL c w L' :=
  ⟨h.os, h.out, (p.pairwise_iff (fun hxy => Frag.apart_symm hxy)).1 h.apart, fun f hf => h.holds f (p.mem_iff.2 hf)⟩
theorem Sep.permL {c w : World} {G G' : List Fr} (h : Sep c w G) (p : G.flatten.Perm G'.flatten) : Sep c w G' := SepL.perm h p
theorem Sep.perm {c w : World} {G G' : List Fr} (h : Sep c w G) (p : G.Perm G') : Sep c w G' := h.permL p.flatten
theorem Sep.drop {c w : World} {g : Fr} {G : List Fr} (h : Sep c w (g :: G)) : Sep c w G :=
  ⟨h.os, h.out, by have := h.apart; simp only [List.flatten_cons, List.pairwise_append] at this; exact this.2.1, fun f hf => h.holds f (by simp only [List.flatten_cons, List.mem_append]; exact .inr hf)⟩
theorem Sep.drewN {c w : World} {G : List Fr} (h : Sep c w G) : Sep c { w with drawn := w.drawn + 1 } G := ⟨h.os, h.out, h.apart, h.holds⟩
/-- Same heap, other draws. -/
theorem Sep.same {c w w' : World} {G : List Fr} (h : Sep c w G) (ho : w'.os = w.os) (hu : w'.output = w.output) (hh : w'.heap = w.heap) : Sep c w' G :=
  ⟨ho.trans h.os, hu.trans h.out, h.apart, fun f hf k o hk => by rw [hh]; exact h.holds f hf k o hk⟩

theorem SepL.lt {c w : World} {L : Fr} (h : SepL c w L) {f : Frag} (hf : f ∈ L) {k : Nat} {o : Obj} (hk : f k = some o) : k < w.heap.size :=
  (Array.getElem?_eq_some_iff.1 (h.holds f hf k o hk)).1

/-- A new block. -/
theorem Sep.alloc {c w : World} {G : List Fr} (h : Sep c w G) (o : Obj) : Sep c (w.alloc o) (blk w.heap.size o :: G) := by
  refine ⟨h.os, h.out, ?_, ?_⟩
  · simp only [List.flatten_cons, List.cons_append, List.nil_append, List.pairwise_cons]
    refine ⟨fun f hf k => ?_, h.apart⟩
    by_cases hk : k = w.heap.size
    · right
      cases hfk : f k with
      | none => rfl
      | some o' => have := SepL.lt h hf hfk; omega
    · left; simp [pt, hk]
  · intro f hf k o' hk
    simp only [List.flatten_cons, List.cons_append, List.nil_append, List.mem_cons] at hf
    rcases hf with rfl | hf
    · simp only [pt] at hk
      split at hk
      · rename_i e; subst e; cases hk; exact heap_alloc_new w _
      · cases hk
    · rw [RowKit.Below.heap_alloc w o k (SepL.lt h hf hk)]; exact h.holds f hf k o' hk

/-- One block is written: it stands first. -/
theorem Sep.write {c w w' : World} {b : Nat} {o o' : Obj} {G : List Fr} (h : Sep c w (blk b o :: G)) (ho : w'.os = w.os) (hu : w'.output = w.output)
    (hb : w'.heap[b]? = some o') (hn : ∀ k, k ≠ b → w'.heap[k]? = w.heap[k]?) : Sep c w' (blk b o' :: G) := by
  have hap := h.apart
  simp only [List.flatten_cons, List.cons_append, List.nil_append, List.pairwise_cons] at hap
  have hne : ∀ f ∈ G.flatten, f b = none := fun f hf => (hap.1 f hf b).resolve_left (by simp [pt])
  refine ⟨ho.trans h.os, hu.trans h.out, ?_, ?_⟩
  · simp only [List.flatten_cons, List.cons_append, List.nil_append, List.pairwise_cons]
    refine ⟨fun f hf k => ?_, hap.2⟩
    by_cases hk : k = b
    · subst hk; exact .inr (hne f hf)
    · left; simp [pt, hk]
  · intro f hf k o1 hk
    simp only [List.flatten_cons, List.cons_append, List.nil_append, List.mem_cons] at hf
    rcases hf with rfl | hf
    · simp only [pt] at hk
      split at hk
      · rename_i e; subst e; cases hk; exact hb
      · cases hk
    · have hkb : k ≠ b := fun e => by subst e; rw [hne f hf] at hk; cases hk
      rw [hn k hkb]
      exact h.holds f (by simp only [List.flatten_cons, List.mem_append]; exact .inr hf) k o1 hk

/-! ### Looking for a block, by instances -/
class Look (G : List Fr) (b : Nat) (o : outParam Obj) : Prop where
  ok : ∃ f ∈ G.flatten, f b = some o
instance (priority := 200) lookHere {b : Nat} {o : Obj} {G : List Fr} : Look (blk b o :: G) b o := ⟨pt b o, by simp, by simp [pt]⟩
instance (priority := 100) lookThere {b : Nat} {o : Obj} {g : Fr} {G : List Fr} [h : Look G b o] : Look (g :: G) b o :=
  let ⟨f, hf, hb⟩ := h.ok
  ⟨f, by simp only [List.flatten_cons, List.mem_append]; exact .inr hf, hb⟩
/-- A fact on a fragment that is a name. -/
class Knows (f : Frag) (b : Nat) (o : outParam Obj) : Prop where
  ok : f b = some o
instance (priority := 150) lookKnows {b : Nat} {o : Obj} {f : Frag} {g : Fr} {G : List Fr} [h : Knows f b o] : Look ((f :: g) :: G) b o := ⟨f, by simp, h.ok⟩
theorem Sep.look {c w : World} {G : List Fr} (h : Sep c w G) {b : Nat} {o : Obj} (hl : Look G b o) : w.heap[b]? = some o :=
  let ⟨f, hf, hb⟩ := hl.ok
  h.holds f hf b o hb

/-- Taking the block's place: 'Upd G b o o' G'': G has 'blk b o' as one of its groups; G' has 'blk b o'' there. -/
class Upd (G : List Fr) (b : Nat) (o : outParam Obj) (o' : Obj) (G' : outParam (List Fr)) : Prop where
  ok : ∃ R, G.Perm (blk b o :: R) ∧ (blk b o' :: R).Perm G'
instance (priority := 200) updHere {b : Nat} {o o' : Obj} {G : List Fr} : Upd (blk b o :: G) b o o' (blk b o' :: G) := ⟨G, .refl _, .refl _⟩
instance (priority := 100) updThere {b : Nat} {o o' : Obj} {g : Fr} {G G' : List Fr} [h : Upd G b o o' G'] : Upd (g :: G) b o o' (g :: G') :=
  let ⟨R, h1, h2⟩ := h.ok
  ⟨g :: R, (h1.cons g).trans (.swap _ _ _), (List.Perm.swap _ _ _).trans (h2.cons g)⟩
theorem Sep.upd {c w w' : World} {b : Nat} {o o' : Obj} {G G' : List Fr} (h : Sep c w G) (hu : Upd G b o o' G') (ho : w'.os = w.os) (hout : w'.output = w.output)
    (hb : w'.heap[b]? = some o') (hn : ∀ k, k ≠ b → w'.heap[k]? = w.heap[k]?) : Sep c w' G' :=
  let ⟨_, h1, h2⟩ := hu.ok
  ((h.perm h1).write ho hout hb hn).perm h2
theorem Upd.look {b : Nat} {o o' : Obj} {G G' : List Fr} (hu : Upd G b o o' G') {c w : World} (h : Sep c w G) : w.heap[b]? = some o :=
  let ⟨_, h1, _⟩ := hu.ok
  (h.perm h1).look lookHere

/-! ### Picking groups by their places -/
def pick (G : List Fr) : List Nat → List Fr
  | [] => []
  | i :: r => G.getD i [] :: pick G r
theorem perm_pick_one (G : List Fr) (i : Nat) (h : i < G.length) : G.Perm (G.getD i [] :: G.eraseIdx i) := by
  induction G generalizing i with
  | nil => cases h
  | cons g G ih =>
    cases i with
    | zero => exact .refl _
    | succ i =>
      have := ih i (by simpa using h)
      simp only [List.getD_cons_succ, List.eraseIdx_cons_succ]
      exact (this.cons g).trans (.swap _ _ _)
/-- Picks by places in the list that is left (a place counts what has not been taken yet). -/
def takes (G : List Fr) : List Nat → List Fr
  | [] => []
  | i :: r => G.getD i [] :: takes (G.eraseIdx i) r
def rests (G : List Fr) : List Nat → List Fr
  | [] => G
  | i :: r => rests (G.eraseIdx i) r
def fits (n : Nat) : List Nat → Bool
  | [] => true
  | i :: r => Nat.blt i n && fits (n - 1) r
theorem perm_takes : ∀ (is : List Nat) (G : List Fr), fits G.length is = true → G.Perm (takes G is ++ rests G is)
  | [], G, _ => by simp [takes, rests]
  | i :: r, G, h => by
    simp only [fits, Bool.and_eq_true, Nat.blt_eq] at h
    have h1 := perm_pick_one G i h.1
    have h2 := perm_takes r (G.eraseIdx i) (by rw [List.length_eraseIdx_of_lt h.1]; exact h.2)
    exact h1.trans (h2.cons _)

/-! ## The frame of a call: slots -/
def get : List (Nat × Value) → Nat → Option Value
  | [], _ => none
  | (k, v) :: r, t => bif k == t then some v else get r t
structure Tm (n : Nat) (D : List Deferred) (σ : List (Nat × Value)) (a : Act) : Prop where
  size : a.tmps.size = n
  defers : a.defers = D
  at_ : ∀ t v, get σ t = some v → a.tmps[t]? = some v
def ev (σ : List (Nat × Value)) : Operand → Option Value
  | .tmp t => get σ t
  | .const v => some v
  | .global g => some (.pointer (some ⟨g, 0, none⟩))
  | .func f => some (.func (.func f) #[] #[])
theorem Tm.ev {n : Nat} {D : List Deferred} {σ : List (Nat × Value)} {a : Act} (h : Tm n D σ a) {x : Operand} {v : Value} (hx : ev σ x = some v) : a.eval x = v := by
  cases x with
  | tmp t => have := h.at_ t v hx; simp [Act.eval, Array.getD_eq_getD_getElem?, this]
  | const u => simpa [Act.eval, Eng.ev] using hx
  | global g => simpa [Act.eval, Eng.ev] using hx
  | func f => simpa [Act.eval, Eng.ev] using hx
theorem Tm.put {n : Nat} {D : List Deferred} {σ : List (Nat × Value)} {a : Act} (h : Tm n D σ a) (t : Nat) (v : Value) (ht : Nat.blt t n = true) : Tm n D ((t, v) :: σ) (a.put (some t) v) := by
  have htn : t < a.tmps.size := by rw [h.size]; simpa using ht
  refine ⟨by simp [Act.put, h.size], h.defers, fun s u hs => ?_⟩
  simp only [get] at hs
  by_cases e : t = s
  · subst e; simp at hs; subst hs; simp [Act.put, htn]
  · have : (t == s) = false := by simpa using e
    simp only [this, cond_false] at hs
    simp only [Act.put]
    rw [Array.getElem?_setIfInBounds_ne e]
    exact h.at_ s u hs
theorem Tm.none {n : Nat} {D : List Deferred} {σ : List (Nat × Value)} {a : Act} (h : Tm n D σ a) (v : Value) : Tm n D σ (a.put none v) := h
def puts (σ : List (Nat × Value)) (d : Option Tmp) (v : Value) : List (Nat × Value) :=
  match d with
  | some t => (t, v) :: σ
  | none => σ
def dstOk (n : Nat) : Option Tmp → Bool
  | some t => Nat.blt t n
  | none => true
theorem Tm.puts {n : Nat} {D : List Deferred} {σ : List (Nat × Value)} {a : Act} (h : Tm n D σ a) (d : Option Tmp) (v : Value) (ht : dstOk n d = true) : Tm n D (puts σ d v) (a.put d v) := by
  cases d with
  | none => exact h
  | some t => exact h.put t v ht
/-- Fewer slots are known. -/
theorem Tm.weak {n : Nat} {D : List Deferred} {σ σ' : List (Nat × Value)} {a : Act} (h : Tm n D σ a) (hs : ∀ t v, get σ' t = some v → get σ t = some v) : Tm n D σ' a :=
  ⟨h.size, h.defers, fun t v hv => h.at_ t v (hs t v hv)⟩
def keep (ks : List Nat) (σ : List (Nat × Value)) : List (Nat × Value) :=
  match ks with
  | [] => []
  | k :: r => match get σ k with
    | some v => (k, v) :: keep r σ
    | none => keep r σ
theorem get_keep {ks : List Nat} {σ : List (Nat × Value)} {t : Nat} {v : Value} (h : get (keep ks σ) t = some v) : get σ t = some v := by
  induction ks with
  | nil => cases h
  | cons k r ih =>
    simp only [keep] at h
    split at h
    · rename_i u hu
      simp only [get] at h
      by_cases e : k = t
      · subst e; simp at h; subst h; exact hu
      · have : (k == t) = false := by simpa using e
        simp only [this, cond_false] at h
        exact ih h
    · exact ih h

end Go.Eng
