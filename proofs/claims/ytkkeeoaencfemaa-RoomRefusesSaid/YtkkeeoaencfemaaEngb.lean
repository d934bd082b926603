/- The engine, second part: triples, and the steps that only look. No premise; lemmas only. -/
import Derived.Test.YtkkeeoaencfemaaEng
namespace Go.Eng
variable {P : Program} {c : World} {n : Nat} {D : List Deferred} {σ : List (Nat × Value)} {G : List Fr}

/-- From every frame with these slots, in every world with these fragments: K. -/
def HT (c : World) (K : Act → World → Prop) (n : Nat) (D : List Deferred) (σ : List (Nat × Value)) (G : List Fr) : Prop :=
  ∀ a w, Tm n D σ a → Sep c w G → K a w
/-- A call: what it needs, what it hands back; anything beside stays. -/
def Post (c : World) (Φ : Value → List Fr → Prop) (F : List Fr) (e : Ending) (w' : World) : Prop := ∃ v post, e = .returned v ∧ Φ v post ∧ Sep c w' (post ++ F)
def Ct (P : Program) (k : FuncId) (args : Array Value) (pre : List Fr) (Φ : Value → List Fr → Prop) : Prop :=
  ∀ (c w : World) (F : List Fr), Sep c w (pre ++ F) → Calls P k args w (Post c Φ F)
theorem Ct.mono {k : FuncId} {args : Array Value} {pre : List Fr} {Φ Ψ : Value → List Fr → Prop} (h : Ct P k args pre Φ) (hm : ∀ v post, Φ v post → Ψ v post) : Ct P k args pre Ψ :=
  fun c w F hs => (h c w F hs).mono fun _ _ ⟨v, post, he, hΦ, hsep⟩ => ⟨v, post, he, hm v post hΦ, hsep⟩

def slotsFrom : Nat → List Value → List (Nat × Value)
  | _, [] => []
  | i, v :: r => (i, v) :: slotsFrom (i + 1) r
theorem get_slotsFrom : ∀ (vs : List Value) (i t : Nat) (v : Value), get (slotsFrom i vs) t = some v → i ≤ t ∧ vs[t - i]? = some v
  | [], _, _, _, h => by cases h
  | u :: r, i, t, v, h => by
    simp only [slotsFrom, get] at h
    by_cases e : i = t
    · subst e; simp at h; subst h; simp
    · have he : (i == t) = false := by simpa using e
      simp only [he, cond_false] at h
      obtain ⟨h1, h2⟩ := get_slotsFrom r (i + 1) t v h
      refine ⟨by omega, ?_⟩
      rw [show t - i = (t - (i + 1)) + 1 from by omega]
      simpa using h2

/-! Wrappers, so that the steps do not see through each other. -/
def CW (P : Program) (x : Code) (Q : Exit → Act → World → Prop) : Act → World → Prop := x.wp P Q
def EX (Q : Exit → Act → World → Prop) (e : Exit) : Act → World → Prop := Q e
def Thn (K : Act → World → Prop) (Q : Exit → Act → World → Prop) : Exit → Act → World → Prop := Exit.then K Q
def InB (i : Nat) (Q : Exit → Act → World → Prop) : Exit → Act → World → Prop := Exit.inBlock i Q
def BP (P : Program) (fn : Func) (c : World) (Φ : Value → List Fr → Prop) (F : List Fr) : Exit → Act → World → Prop := bodyPost P fn (Post c Φ F)
def OL (P : Program) (ops : Array Oper) (Q : Exit → Act → World → Prop) (l : List Oper) : Act → World → Prop := wpList P ops Q l
theorem Ct.enter {f : FuncId} {fn : Func} {code : Code} {args : Array Value} {pre : List Fr} {Φ : Value → List Fr → Prop} {n : Nat} (hf : P.funcs[f]? = some fn) (hb : fn.body = some code) (hn : fn.ntmps = n)
    (hsz : Nat.ble args.size n = true) {σ : List (Nat × Value)} (hσ : slotsFrom 0 args.toList = σ)
    (h : ∀ c F, HT c (CW P code (BP P fn c Φ F)) n [] σ (pre ++ F)) : Ct P f args pre Φ := by
  intro c w F hs
  refine calls_of_wp hf hb (h c F _ w ⟨?_, rfl, fun t v hv => ?_⟩ hs)
  · have := Nat.le_of_ble_eq_true hsz
    simp [hn]; omega
  · subst hσ
    obtain ⟨_, h2⟩ := get_slotsFrom args.toList 0 t v hv
    simp only [Nat.sub_zero, Array.getElem?_toList] at h2
    have hlt := (Array.getElem?_eq_some_iff.1 h2).1
    rw [Array.getElem?_append_left hlt]
    exact h2

/-! ### Code -/
section code
variable {Q : Exit → Act → World → Prop} {K : Act → World → Prop}
theorem HT.mono {K K' : Act → World → Prop} (h : HT c K n D σ G) (hk : ∀ a w, K a w → K' a w) : HT c K' n D σ G := fun a w ht hs => hk a w (h a w ht hs)
theorem ht_seq {x y : Code} (h : HT c (CW P x (Thn (CW P y Q) Q)) n D σ G) : HT c (CW P (Code.seq x y) Q) n D σ G := h.mono fun _ _ => wp_seq
theorem ht_skip (h : HT c (EX Q .normal) n D σ G) : HT c (CW P Code.skip Q) n D σ G := h.mono fun _ _ => wp_skip
theorem ht_ret (h : HT c (EX Q .ret) n D σ G) : HT c (CW P Code.ret Q) n D σ G := h.mono fun _ _ => wp_ret
theorem ht_exit {i : Nat} (h : HT c (EX Q (.exit i)) n D σ G) : HT c (CW P (Code.exit i) Q) n D σ G := h.mono fun _ _ => wp_exit
theorem ht_label {i : Nat} (h : HT c (EX Q .normal) n D σ G) : HT c (CW P (Code.label i) Q) n D σ G := h.mono fun _ _ => wp_label
theorem ht_block {i : Nat} {x : Code} (h : HT c (CW P x (InB i Q)) n D σ G) : HT c (CW P (Code.block i x) Q) n D σ G := h.mono fun _ _ => wp_block
theorem ht_cond_t {x y : Code} {o : Operand} {v : Value} (he : ev σ o = some v) (hb : v = .bool true) (h : HT c (CW P x Q) n D σ G) : HT c (CW P (Code.cond o x y) Q) n D σ G := by
  subst hb
  exact fun a w ht hs => wp_cond_true (ht.ev he) (h a w ht hs)
theorem ht_cond_f {x y : Code} {o : Operand} {v : Value} (he : ev σ o = some v) (hb : v = .bool false) (h : HT c (CW P y Q) n D σ G) : HT c (CW P (Code.cond o x y) Q) n D σ G := by
  subst hb
  exact fun a w ht hs => wp_cond_false (ht.ev he) (h a w ht hs)
theorem ht_cond {x y : Code} {o : Operand} {b : Bool} (he : ev σ o = some (.bool b)) (ht : b = true → HT c (CW P x Q) n D σ G) (hf : b = false → HT c (CW P y Q) n D σ G) :
    HT c (CW P (Code.cond o x y) Q) n D σ G := fun a w hta hs => wp_cond_split (hta.ev he) (fun e => ht e a w hta hs) (fun e => hf e a w hta hs)
theorem ht_cond_d {x y : Code} {o : Operand} {v : Value} {p : Prop} [Decidable p] (he : ev σ o = some v) (hb : v = .bool (decide p)) (ht : p → HT c (CW P x Q) n D σ G) (hf : ¬ p → HT c (CW P y Q) n D σ G) :
    HT c (CW P (Code.cond o x y) Q) n D σ G := by
  subst hb
  exact ht_cond he (fun e => ht (of_decide_eq_true e)) (fun e => hf (of_decide_eq_false e))
theorem ht_region {id : Nat} {l : List Oper} (h : HT c (OL P l.toArray Q l) n D σ G) : HT c (CW P (Code.region id l.toArray false) Q) n D σ G :=
  h.mono fun _ _ hh => wp_region_lit hh
theorem ht_nil {ops : Array Oper} (h : HT c (EX Q .normal) n D σ G) : HT c (OL P ops Q []) n D σ G := h
theorem ht_then {y : Act → World → Prop} (h : HT c y n D σ G) : HT c (EX (Thn y Q) .normal) n D σ G := h
theorem ht_then_exit {y : Act → World → Prop} {i : Nat} (h : HT c (EX Q (.exit i)) n D σ G) : HT c (EX (Thn y Q) (.exit i)) n D σ G := h
theorem ht_then_ret {y : Act → World → Prop} (h : HT c (EX Q .ret) n D σ G) : HT c (EX (Thn y Q) .ret) n D σ G := h
theorem ht_in_normal {i : Nat} (h : HT c (EX Q .normal) n D σ G) : HT c (EX (InB i Q) .normal) n D σ G := h
theorem ht_in_ret {i : Nat} (h : HT c (EX Q .ret) n D σ G) : HT c (EX (InB i Q) .ret) n D σ G := h
theorem ht_in_same {i j : Nat} (hij : Nat.beq j i = true) (h : HT c (EX Q .normal) n D σ G) : HT c (EX (InB i Q) (.exit j)) n D σ G := by
  have e := Nat.eq_of_beq_eq_true hij
  refine h.mono fun a w hq => ?_
  show (if j = i then Q .normal a w else Q (.exit j) a w)
  rw [if_pos e]; exact hq
theorem ht_in_other {i j : Nat} (hij : Nat.beq j i = false) (h : HT c (EX Q (.exit j)) n D σ G) : HT c (EX (InB i Q) (.exit j)) n D σ G := by
  have e : j ≠ i := fun e => by subst e; simp at hij
  refine h.mono fun a w hq => ?_
  show (if j = i then Q .normal a w else Q (.exit j) a w)
  rw [if_neg e]; exact hq

/-! ### Less is known -/
def covers : List (Nat × Value) → List (Nat × Value) → Prop
  | [], _ => True
  | p :: r, σ => get σ p.1 = some p.2 ∧ covers r σ
theorem get_of_covers {σ' σ : List (Nat × Value)} (h : covers σ' σ) {t : Nat} {v : Value} (hg : get σ' t = some v) : get σ t = some v := by
  induction σ' with
  | nil => cases hg
  | cons p r ih =>
    simp only [get] at hg
    by_cases e : p.1 = t
    · subst e; simp at hg; subst hg; exact h.1
    · have he : (p.1 == t) = false := by simpa using e
      simp only [he, cond_false] at hg
      exact ih h.2 hg
def Ent (G G' : List Fr) : Prop := ∀ c w, Sep c w G → Sep c w G'
theorem Ent.refl (G : List Fr) : Ent G G := fun _ _ h => h
theorem Sep.dropk {c w : World} : ∀ (k : Nat) {G : List Fr}, Sep c w G → Sep c w (G.drop k)
  | 0, _, h => h
  | _ + 1, [], h => h
  | k + 1, _ :: _, h => Sep.dropk k h.drop
theorem Ent.drop {G G' : List Fr} (k : Nat) (h : G.drop k = G') : Ent G G' := fun _ _ hs => h ▸ hs.dropk k
def fitsL : List Fr → List Nat → Bool
  | _, [] => true
  | G, i :: r => (G[i]?).isSome && fitsL (G.eraseIdx i) r
theorem perm_takesL : ∀ (is : List Nat) (G : List Fr), fitsL G is = true → G.Perm (takes G is ++ rests G is)
  | [], G, _ => by simp [takes, rests]
  | i :: r, G, h => by
    simp only [fitsL, Bool.and_eq_true] at h
    have hlt : i < G.length := by
      have := h.1
      rcases Nat.lt_or_ge i G.length with h' | h'
      · exact h'
      · simp [List.getElem?_eq_none h'] at this
    exact (perm_pick_one G i hlt).trans ((perm_takesL r (G.eraseIdx i) h.2).cons _)
/-- Picks 'is' to the front (in this order), of what is left the first k are dropped. -/
theorem Ent.picks {G G1 G2 G' : List Fr} (is : List Nat) (k : Nat) (hf : fitsL G is = true) (h1 : takes G is = G1) (h2 : (rests G is).drop k = G2) (h : G1 ++ G2 = G') : Ent G G' := by
  intro c w hs
  have h3 := (hs.perm (perm_takesL is G hf)).perm List.perm_append_comm
  have h4 : Sep c w (takes G is ++ (rests G is).drop k) := by
    refine Sep.perm ?_ (List.perm_append_comm (l₁ := (rests G is).drop k))
    have h5 := h3
    clear h3
    generalize takes G is = A at *
    generalize rests G is = B at *
    have : ∀ (k : Nat) (B : List Fr), Sep c w (B ++ A) → Sep c w (B.drop k ++ A) := by
      intro k
      induction k with
      | zero => intro B h; exact h
      | succ k ih =>
        intro B h
        cases B with
        | nil => exact h
        | cons b B => exact ih B h.drop
    exact this k B h5
  rw [h1, h2, h] at h4
  exact h4
theorem HT.weak {K : Act → World → Prop} {σ' : List (Nat × Value)} {G' : List Fr} (hc : covers σ' σ) (hG : Ent G G') (h : HT c K n D σ' G') : HT c K n D σ G :=
  fun a w ht hs => h a w (ht.weak fun _ _ hg => get_of_covers hc hg) (hG c w hs)
theorem HT.ent {K : Act → World → Prop} {G' : List Fr} (hG : Ent G G') (h : HT c K n D σ G') : HT c K n D σ G :=
  fun a w ht hs => h a w ht (hG c w hs)
/-- A cut: behind the piece x only these slots and these fragments are known. -/
def CutQ (c : World) (n : Nat) (D : List Deferred) {α : Type} (ok : α → Prop) (σf : α → List (Nat × Value)) (Gf : α → List Fr) (Q : Exit → Act → World → Prop) : Exit → Act → World → Prop
  | .normal, a, w => ∃ x, ok x ∧ Tm n D (σf x) a ∧ Sep c w (Gf x)
  | e, a, w => Q e a w
theorem ht_cut {x : Code} {α : Type} (ok : α → Prop) (σf : α → List (Nat × Value)) (Gf : α → List Fr)
    (h1 : HT c (CW P x (CutQ c n D ok σf Gf Q)) n D σ G) (h2 : ∀ y, ok y → HT c (EX Q .normal) n D (σf y) (Gf y)) : HT c (CW P x Q) n D σ G :=
  h1.mono fun a w hx => wp_mono hx fun e a w he => by
    cases e with
    | normal => obtain ⟨y, hy, ht, hs⟩ := he; exact h2 y hy a w ht hs
    | _ => exact he
theorem ht_cut_end {α : Type} {ok : α → Prop} {σf : α → List (Nat × Value)} {Gf : α → List Fr} (y : α) (hy : ok y) (hc : covers (σf y) σ) (hG : Ent G (Gf y)) :
    HT c (EX (CutQ c n D ok σf Gf Q) .normal) n D σ G := fun _ w ht hs => ⟨y, hy, ht.weak fun _ _ hg => get_of_covers hc hg, hG c w hs⟩
theorem ht_cut_exit {α : Type} {ok : α → Prop} {σf : α → List (Nat × Value)} {Gf : α → List Fr} {i : Nat} (h : HT c (EX Q (.exit i)) n D σ G) : HT c (EX (CutQ c n D ok σf Gf Q) (.exit i)) n D σ G := h
theorem ht_cut_ret {α : Type} {ok : α → Prop} {σf : α → List (Nat × Value)} {Gf : α → List Fr} (h : HT c (EX Q .ret) n D σ G) : HT c (EX (CutQ c n D ok σf Gf Q) .ret) n D σ G := h

/-! ### A loop by a family of states -/
def LoopK (c : World) (n : Nat) (D : List Deferred) {α : Type} (ok : α → Prop) (σf : α → List (Nat × Value)) (Gf : α → List Fr) (m : Nat → Prop) (μ : α → Nat) : Act → World → Prop :=
  fun a w => ∃ y, m (μ y) ∧ ok y ∧ Tm n D (σf y) a ∧ Sep c w (Gf y)
theorem ht_loop {α : Type} {x : Code} (ok : α → Prop) (σf : α → List (Nat × Value)) (Gf : α → List Fr) (μ : α → Nat) (y0 : α) (h0 : ok y0) (hc : covers (σf y0) σ) (hG : Ent G (Gf y0))
    (round : ∀ y, ok y → HT c (CW P x (Thn (LoopK c n D ok σf Gf (· < μ y) μ) Q)) n D (σf y) (Gf y)) :
    HT c (CW P (Code.loop x) Q) n D σ G := by
  intro a w ht hs
  refine wp_loop_ghost (fun m a w => ∃ y, μ y = m ∧ ok y ∧ Tm n D (σf y) a ∧ Sep c w (Gf y)) (μ y0) ⟨y0, rfl, h0, ht.weak fun _ _ hg => get_of_covers hc hg, hG c w hs⟩ ?_
  rintro m a w ⟨y, rfl, hy, ht, hs⟩
  refine wp_mono (round y hy a w ht hs) ?_
  intro e a' w' he
  cases e with
  | normal => obtain ⟨z, hm, hz, ht', hs'⟩ := he; exact ⟨μ z, hm, z, rfl, hz, ht', hs'⟩
  | _ => exact he
theorem ht_round {α : Type} {ok : α → Prop} {σf : α → List (Nat × Value)} {Gf : α → List Fr} {m : Nat → Prop} {μ : α → Nat} (y : α) (hm : m (μ y)) (hy : ok y) (hc : covers (σf y) σ) (hG : Ent G (Gf y)) :
    HT c (LoopK c n D ok σf Gf m μ) n D σ G := fun _ w ht hs => ⟨y, hm, hy, ht.weak fun _ _ hg => get_of_covers hc hg, hG c w hs⟩

end code

/-! ### Operations -/
def OpW (P : Program) (o : Oper) (K : Act → World → Prop) (Q : Exit → Act → World → Prop) : Act → World → Prop := fun a w => o.wp P a w K Q
def wantE (ops : Array Oper) (σ : List (Nat × Value)) (o : Oper) : Option Bool :=
  match o.guard with
  | none => some true
  | some (j, want) => match (ops[j]?).bind (·.dst) with
    | some t => match get σ t with
      | some (.bool b) => some (b == want)
      | _ => none
    | none => none
theorem wantE_ok {ops : Array Oper} {o : Oper} {b : Bool} {a : Act} (h : wantE ops σ o = some b) (ht : Tm n D σ a) : Region.wanted o (yielded ops a.tmps) = b := by
  unfold wantE at h
  unfold Region.wanted
  cases hg : o.guard with
  | none => simp [hg] at h; simp [h]
  | some jw =>
    obtain ⟨j, want⟩ := jw
    simp only [hg] at h
    cases hj : (ops[j]?).bind (·.dst) with
    | none => simp [hj] at h
    | some t =>
      simp only [hj] at h
      cases ht' : get σ t with
      | none => simp [ht'] at h
      | some v =>
        simp only [ht'] at h
        have h2 := ht.at_ t v ht'
        cases v <;> simp at h
        rename_i x
        simp only [yielded, hj, Option.bind_some, h2]
        cases x <;> cases want <;> simp_all
section ops
variable {Q : Exit → Act → World → Prop} {K : Act → World → Prop} {ops : Array Oper} {i : Nat} {rest : List Oper} {o : Oper} {t : Tmp} {op : Op} {ty : TypeId} {pos : String} {af : Array Edge} {gd : Option (Nat × Bool)}
theorem ht_op (hw : wantE ops σ o = some true) (h : HT c (OpW P o (OL P ops Q rest) Q) n D σ G) : HT c (OL P ops Q (o :: rest)) n D σ G := by
  intro a w ht hs
  have := h a w ht hs
  simp only [OL, wpList, wantE_ok hw ht, if_true]
  exact .inl this
theorem ht_op_skip (hw : wantE ops σ ⟨some t, op, ty, pos, af, gd⟩ = some false) (hd : Nat.blt t n = true) (h : HT c (OL P ops Q rest) n D ((t, undef) :: σ) G) : HT c (OL P ops Q (⟨some t, op, ty, pos, af, gd⟩ :: rest)) n D σ G := by
  intro a w ht hs
  have := h _ w (ht.put t undef hd) hs
  simp only [OL, wpList, wantE_ok hw ht, Bool.false_eq_true, if_false]
  exact this
theorem ht_op_skip0 (hw : wantE ops σ ⟨none, op, ty, pos, af, gd⟩ = some false) (h : HT c (OL P ops Q rest) n D σ G) : HT c (OL P ops Q (⟨none, op, ty, pos, af, gd⟩ :: rest)) n D σ G := by
  intro a w ht hs
  have := h _ w ht hs
  simp only [OL, wpList, wantE_ok hw ht, Bool.false_eq_true, if_false]
  exact this

/-- The fragments are in the world. -/
def Hd (G : List Fr) (w : World) : Prop := ∀ f ∈ G.flatten, ∀ k ob, f k = some ob → w.heap[k]? = some ob
theorem Sep.hd {c w : World} {G : List Fr} (h : Sep c w G) : Hd G w := h.holds
theorem Hd.look {w : World} {G : List Fr} (h : Hd G w) {b : Nat} {ob : Obj} (hl : Look G b ob) : w.heap[b]? = some ob :=
  let ⟨f, hf, hb⟩ := hl.ok
  h f hf b ob hb
/-- It only looks: its value, in every world that holds the fragments. -/
def QF (P : Program) (n : Nat) (D : List Deferred) (σ : List (Nat × Value)) (G : List Fr) (o : Oper) (v : Value) : Prop :=
  ∀ a, Tm n D σ a → ∀ w, Hd G w → (execOp a.eval o).run P w = .ok (.value v) w
theorem ht_q {v : Value} (hd : Nat.blt t n = true) (hq : QF P n D σ G ⟨some t, op, ty, pos, af, gd⟩ v) (h : HT c K n D ((t, v) :: σ) G) : HT c (OpW P ⟨some t, op, ty, pos, af, gd⟩ K Q) n D σ G := by
  intro a w ht hs
  unfold OpW Oper.wp
  rw [hq a ht w hs.hd]
  exact h _ w (ht.put t v hd) hs
end ops
end Go.Eng
