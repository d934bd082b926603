/- The engine, fifth part: regions that draw their order. No premise; lemmas only. -/
import Derived.Test.YtkkeeoaencfemaaEngd
namespace Go.Eng
section any
variable {P : Program} {ops : Array Oper} {Q : Exit → Act → World → Prop} {S : World → Prop} {tail : List Nat}
/-- Any order from here on; S holds behind each operation that is not of the tail. -/
def anyT (P : Program) (ops : Array Oper) (Q : Exit → Act → World → Prop) (S : World → Prop) (tail : List Nat) : Nat → Array Bool → Act → World → Prop
  | 0, listed, a, w => Region.ready .any ops listed = [] ∧ Q .normal a w
  | m + 1, listed, a, w => (Region.ready .any ops listed = [] → Q .normal a w) ∧
      ∀ i ∈ Region.ready .any ops listed, wpOp P ops Q i (fun a' w' => (tail.contains i = false → S w') ∧ anyT P ops Q S tail m (listed.setIfInBounds i true) a' w') a w
theorem anyT_any : ∀ (m : Nat) (listed : Array Bool) (a : Act) (w : World), anyT P ops Q S tail m listed a w → wpAny P .any ops Q m listed a w
  | 0, _, _, _, h => h
  | m + 1, _, _, _, h => ⟨h.1, fun i hi => wpOp_mono (fun a' w' h' => anyT_any m _ a' w' h'.2) (h.2 i hi)⟩
/-- What waits for number i, by one road or another. -/
def cone (ops : Array Oper) (listed : Array Bool) : List Nat → List Nat → List Nat
  | [], C => C
  | k :: ks, C => cone ops listed ks (cond (!(listed.getD k true) && match ops[k]? with
    | some o => o.after.any fun e => Region.binds .any e && C.contains e.on
    | none => false) (k :: C) C)
/-- Each of the tail that has not come up waits for number i. -/
def tailWaits (ops : Array Oper) (listed : Array Bool) (tail : List Nat) (i : Nat) : Bool :=
  (tail.all fun t => listed.getD t true || match ops[t]? with
    | some ot => ot.after.any fun e => Region.binds .any e && e.on == i
    | none => false) || tail.all fun t => listed.getD t true || (cone ops listed (List.range ops.size) [i]).contains t
def Cone (ops : Array Oper) (listed : Array Bool) (i : Nat) (C : List Nat) : Prop :=
  (∀ c ∈ C, listed.getD c true = false) ∧ ∀ c ∈ C, c ≠ i → ∃ oc, ops[c]? = some oc ∧ ∃ e ∈ oc.after, Region.binds .any e = true ∧ e.on ∈ C
theorem cone_ok {listed : Array Bool} {i : Nat} : ∀ (ks C : List Nat), Cone ops listed i C → Cone ops listed i (cone ops listed ks C)
  | [], _, h => h
  | k :: ks, C, h => by
    unfold cone
    refine cone_ok ks _ ?_
    cases hb : (!(listed.getD k true) && match ops[k]? with
      | some o => o.after.any fun e => Region.binds .any e && C.contains e.on
      | none => false)
    · exact h
    · simp only [Bool.and_eq_true, Bool.not_eq_true'] at hb
      obtain ⟨hb1, hb2⟩ := hb
      have hk : ∃ oc, ops[k]? = some oc ∧ ∃ e ∈ oc.after, Region.binds .any e = true ∧ e.on ∈ C := by
        cases ho : ops[k]? with
        | none => rw [ho] at hb2; cases hb2
        | some oc =>
          rw [ho] at hb2
          obtain ⟨e, he, hb⟩ := Array.any_eq_true'.1 hb2
          simp only [Bool.and_eq_true, List.contains_iff_mem] at hb
          exact ⟨oc, rfl, e, he, hb.1, hb.2⟩
      simp only [cond_true]
      refine ⟨fun c hc => ?_, fun c hc hci => ?_⟩
      · rcases List.mem_cons.1 hc with rfl | hc
        · exact hb1
        · exact h.1 c hc
      · rcases List.mem_cons.1 hc with rfl | hc
        · obtain ⟨oc, h1, e, h2, h3, h4⟩ := hk; exact ⟨oc, h1, e, h2, h3, List.mem_cons_of_mem _ h4⟩
        · obtain ⟨oc, h1, e, h2, h3, h4⟩ := h.2 c hc hci; exact ⟨oc, h1, e, h2, h3, List.mem_cons_of_mem _ h4⟩
def Waits (ops : Array Oper) (listed : Array Bool) (tail : List Nat) (i : Nat) : Prop := ∃ C, Cone ops listed i C ∧ ∀ t, tail.contains t = true → listed.getD t true = true ∨ t ∈ C
theorem tailWaits_spec {listed : Array Bool} {i : Nat} (h : tailWaits ops listed tail i = true) (hl : listed.getD i true = false) : Waits ops listed tail i := by
  have h0 : Cone ops listed i [i] := ⟨fun c hc => by rw [List.mem_singleton.1 hc]; exact hl, fun c hc hci => absurd (List.mem_singleton.1 hc) hci⟩
  rcases Bool.or_eq_true_iff.1 h with h | h
  · refine ⟨i :: tail.filter (fun t => !(listed.getD t true)), ⟨fun c hc => ?_, fun c hc hci => ?_⟩, fun t ht => ?_⟩
    · rcases List.mem_cons.1 hc with rfl | hc
      · exact hl
      · simpa using (List.mem_filter.1 hc).2
    · rcases List.mem_cons.1 hc with rfl | hc
      · exact absurd rfl hci
      · obtain ⟨hc1, hc2⟩ := List.mem_filter.1 hc
        have h1 := List.all_eq_true.1 h c hc1
        simp only [Bool.not_eq_true'] at hc2
        simp only [hc2, Bool.false_or] at h1
        cases ho : ops[c]? with
        | none => rw [ho] at h1; cases h1
        | some oc =>
          rw [ho] at h1
          obtain ⟨e, he, hb⟩ := Array.any_eq_true'.1 h1
          simp only [Bool.and_eq_true, beq_iff_eq] at hb
          exact ⟨oc, rfl, e, he, hb.1, by rw [hb.2]; exact List.mem_cons_self⟩
    · cases hlt : listed.getD t true with
      | true => exact .inl rfl
      | false => exact .inr (List.mem_cons_of_mem _ (List.mem_filter.2 ⟨by simpa using ht, by rw [hlt]; rfl⟩))
  · refine ⟨_, cone_ok (List.range ops.size) [i] h0, fun t ht => ?_⟩
    have h1 := List.all_eq_true.1 h t (by simpa using ht)
    simpa [List.contains_iff_mem] using h1
theorem not_ready_of_waits {listed : Array Bool} {i j : Nat} {oj : Oper} (hi : listed.getD i true = false) (hj : j ∈ Region.ready .any ops listed) (ho : ops[j]? = some oj) {e : Edge} (he : e ∈ oj.after) (hb : Region.binds .any e = true) (hon : e.on = i) : False := by
  obtain ⟨_, o, ho', hall⟩ := mem_ready.1 hj
  rw [ho] at ho'; cases ho'
  have h1 := hall e he hb
  rw [hon] at h1
  rcases Nat.lt_or_ge i listed.size with h' | h'
  · simp [h'] at h1 hi; rw [hi] at h1; cases h1
  · simp [Array.getElem?_eq_none h'] at h1
theorem Waits.not_cone {listed : Array Bool} {i j : Nat} {C : List Nat} (hC : Cone ops listed i C) (hj : j ∈ Region.ready .any ops listed) (hji : j ≠ i) : j ∉ C := by
  intro hjC
  obtain ⟨oc, ho, e, he, hb, hon⟩ := hC.2 j hjC hji
  exact not_ready_of_waits (hC.1 _ hon) hj ho he hb rfl
theorem Waits.no_tail {listed : Array Bool} {i j : Nat} (h : Waits ops listed tail i) (hj : j ∈ Region.ready .any ops listed) (hji : j ≠ i) : tail.contains j = false := by
  obtain ⟨C, hC, ht⟩ := h
  cases hc : tail.contains j with
  | false => rfl
  | true =>
    have hl := (mem_ready.1 hj).1
    rcases ht j hc with h1 | h1
    · rw [hl] at h1; cases h1
    · exact absurd h1 (Waits.not_cone hC hj hji)
theorem Waits.set {listed : Array Bool} {i j : Nat} (h : Waits ops listed tail i) (hj : j ∈ Region.ready .any ops listed) (hji : j ≠ i) : Waits ops (listed.setIfInBounds j true) tail i := by
  obtain ⟨C, hC, ht⟩ := h
  have hn := Waits.not_cone hC hj hji
  refine ⟨C, ⟨fun c hc => ?_, hC.2⟩, fun t htt => ?_⟩
  · rw [getD_set_ne true (fun e => hn (by rw [e]; exact hc))]; exact hC.1 c hc
  · rcases ht t htt with h1 | h1
    · left
      by_cases e : j = t
      · subst e
        rcases Nat.lt_or_ge j listed.size with h' | h' <;> simp [h']
      · rw [getD_set_ne true e]; exact h1
    · exact .inr h1
theorem anyT_first {i : Nat} {oi : Oper} {v : Value} (hi : ops[i]? = some oi) (hsel : Region.noSelect ops = true)
    (hQ : ∀ ch a w, Q (.panic ch) (a.put oi.dst v) w → Q (.panic ch) a w) (hti : tail.contains i = false) :
    ∀ (m : Nat) (listed : Array Bool) (a : Act) (w : World),
      (∀ j oj, ops[j]? = some oj → j ≠ i → listed.getD j true = false → (∀ e ∈ oj.after, Region.binds .any e = true → e.on ≠ i) → oi.apart ops oj = true) →
      Waits ops listed tail i → i ∈ Region.ready .any ops listed → YieldsIf P ops S oi v a → S w →
      anyT P ops Q S tail m (listed.setIfInBounds i true) (a.put oi.dst v) w → anyT P ops Q S tail (m + 1) listed a w := by
  intro m
  induction m with
  | zero =>
    intro listed a w _ _ hr hy hS H
    refine ⟨fun h => (by rw [h] at hr; cases hr), fun j hj => ?_⟩
    by_cases hji : j = i
    · subst hji; exact hy.wpOp hi hS ⟨fun _ => hS, H⟩
    · have h2 := ready_mono hj hji
      rw [H.1] at h2; cases h2
  | succ m ih =>
    intro listed a w hfree htw hr hy hS H
    refine ⟨fun h => (by rw [h] at hr; cases hr), fun j hj => ?_⟩
    by_cases hji : j = i
    · subst hji; exact hy.wpOp hi hS ⟨fun _ => hS, H⟩
    · obtain ⟨hjl, oj, hoj, _⟩ := mem_ready.1 hj
      have hil := (mem_ready.1 hr).1
      have hno : ∀ e ∈ oj.after, Region.binds .any e = true → e.on ≠ i := fun e he hb hon => not_ready_of_waits hil hj hoj he hb hon
      have hjt : tail.contains j = false := htw.no_tail hj hji
      have h1 := H.2 j (ready_mono hj hji)
      have h2 := wpOp_putIf hoj (hfree j oj hoj hji hjl hno) (fun cs b => Region.noSelect_spec hsel i oi cs b hi) (fun cs b => Region.noSelect_spec hsel j oj cs b hoj) hQ hy h1
      refine wpOp_mono (fun a' w' h3 => ⟨fun _ => h3.2.1 hjt, ih (listed.setIfInBounds j true) a' w' ?_ (htw.set hj hji) (ready_mono hr (Ne.symm hji)) h3.1 (h3.2.1 hjt) ?_⟩) h2
      · intro k ok hk hki hun hno'
        refine hfree k ok hk hki ?_ hno'
        by_cases hjk : j = k
        · subst hjk; exact hjl
        · rw [getD_set_ne true hjk] at hun; exact hun
      · rw [Array.setIfInBounds_comm _ _ hji]; exact h3.2.2
end any

/-- What a panic leaves does not hang on the slots. -/
class PanicFree (Q : Exit → Act → World → Prop) : Prop where
  ok : ∀ ch a d v w, Q (.panic ch) (Act.put a d v) w → Q (.panic ch) a w
instance {P : Program} {fn : Func} {c : World} {Φ : Value → List Fr → Prop} {F : List Fr} : PanicFree (BP P fn c Φ F) := ⟨fun ch a d v w h => by cases d <;> exact h⟩
instance {K : Act → World → Prop} {Q : Exit → Act → World → Prop} [h : PanicFree Q] : PanicFree (Thn K Q) := ⟨fun ch a d v w hh => h.ok ch a d v w hh⟩
instance {i : Nat} {Q : Exit → Act → World → Prop} [h : PanicFree Q] : PanicFree (InB i Q) := ⟨fun ch a d v w hh => h.ok ch a d v w hh⟩
instance {c : World} {n : Nat} {D : List Deferred} {α : Type} {ok : α → Prop} {σf : α → List (Nat × Value)} {Gf : α → List Fr} {Q : Exit → Act → World → Prop} [h : PanicFree Q] : PanicFree (CutQ c n D ok σf Gf Q) := ⟨fun ch a d v w hh => h.ok ch a d v w hh⟩

class MemR (r : Fr) (G : List Fr) : Prop where
  ok : r ∈ G
instance (priority := 200) memHere {r : Fr} {G : List Fr} : MemR r (r :: G) := ⟨by simp⟩
instance (priority := 100) memThere {r g : Fr} {G : List Fr} [h : MemR r G] : MemR r (g :: G) := ⟨by simp [h.ok]⟩
class SubR (R G : List Fr) : Prop where
  ok : ∀ r ∈ R, r ∈ G
instance (priority := 100) subNil {G : List Fr} : SubR [] G := ⟨by simp⟩
instance (priority := 100) subCons {r : Fr} {R G : List Fr} [h1 : MemR r G] [h2 : SubR R G] : SubR (r :: R) G := ⟨fun x hx => by rcases List.mem_cons.1 hx with rfl | hx; exact h1.ok; exact h2.ok x hx⟩
instance (priority := 300) subSelf {G : List Fr} : SubR G G := ⟨fun _ h => h⟩
instance (priority := 400) subSame {r : Fr} {R G : List Fr} [h : SubR R G] : SubR (r :: R) (r :: G) := ⟨fun x hx => by rcases List.mem_cons.1 hx with rfl | hx; exact List.mem_cons_self; exact List.mem_cons_of_mem _ (h.ok x hx)⟩
instance (priority := 200) subThere {g : Fr} {R G : List Fr} [h : SubR R G] : SubR R (g :: G) := ⟨fun r hr => by simp [h.ok r hr]⟩
theorem Sep.hdR {c w : World} {R G : List Fr} (h : Sep c w G) [hr : SubR R G] : Hd R w := fun f hf => h.holds f (by
  obtain ⟨r, hr1, hr2⟩ := List.mem_flatten.1 hf
  exact List.mem_flatten.2 ⟨r, hr.ok r hr1, hr2⟩)

section want
variable {σ : List (Nat × Value)}
theorem wantE_some {ops : Array Oper} {dd : Option Tmp} {op : Op} {ty : TypeId} {pos : String} {af : Array Edge} {j : Nat} {want b : Bool} {t : Tmp} {v : Value} (hj : (ops[j]?).bind (·.dst) = some t) (hv : get σ t = some v) (hb : v = .bool b) :
    wantE ops σ ⟨dd, op, ty, pos, af, some (j, want)⟩ = some (b == want) := by
  subst hb
  simp only [wantE, hj, hv]
end want
section steps
variable {P : Program} {c : World} {n : Nat} {D : List Deferred} {σ : List (Nat × Value)} {G R : List Fr} {l : List Oper} {Q : Exit → Act → World → Prop} {tail : List Nat} {m : Nat} {listed : Array Bool} {o : Oper}
  {t : Tmp} {op : Op} {ty : TypeId} {pos : String} {af : Array Edge} {gd : Option (Nat × Bool)}
theorem ht_draw {id : Nat} (hm : P.follows .mixedOrders = true) (R : List Fr) (tail : List Nat) {listed : Array Bool} (hl : Array.replicate l.length false = listed) {m : Nat} (hsz : l.length = m) (h : HT c (anyT P l.toArray Q (Hd R) tail m listed) n D σ G) : HT c (CW P (Code.region id l.toArray true) Q) n D σ G := by
  subst hl; subst hsz
  exact fun a w ht hs => wp_region_any hm (anyT_any _ _ _ _ (by simpa using h a _ ht hs.drewN))
def chk (ops : Array Oper) (listed : Array Bool) (tail : List Nat) (i : Nat) : Bool :=
  Region.noSelect ops && Region.free .any ops listed i && (Region.ready .any ops listed).contains i && !tail.contains i && tailWaits ops listed tail i
theorem ht_take {i : Nat} {v : Value} [SubR R G] [hpf : PanicFree Q] (ho : l[i]? = some ⟨some t, op, ty, pos, af, gd⟩) (hw : wantE l.toArray σ ⟨some t, op, ty, pos, af, gd⟩ = some true) (hchk : chk l.toArray listed tail i = true)
    (hd : Nat.blt t n = true) (hq : QF P n D σ R ⟨some t, op, ty, pos, af, gd⟩ v) (h : HT c (anyT P l.toArray Q (Hd R) tail m (listed.setIfInBounds i true)) n D ((t, v) :: σ) G) : HT c (anyT P l.toArray Q (Hd R) tail (m + 1) listed) n D σ G := by
  intro a w ht hs
  simp only [chk, Bool.and_eq_true, Bool.not_eq_true'] at hchk
  obtain ⟨⟨⟨⟨h1, h2⟩, h3⟩, h4⟩, h5⟩ := hchk
  have ho' : l.toArray[i]? = some ⟨some t, op, ty, pos, af, gd⟩ := by simpa using ho
  exact anyT_first ho' h1 (fun ch a w => hpf.ok ch a (some t) v w) h4 m listed a w (Region.free_spec ho' h2) (tailWaits_spec h5 (mem_ready.1 (by simpa using h3)).1) (by simpa using h3) (.inl ⟨wantE_ok hw ht, fun w hw => hq a ht w hw⟩) hs.hdR (h _ w (ht.put t v hd) hs)
theorem ht_take_skip {i : Nat} [SubR R G] [hpf : PanicFree Q] (ho : l[i]? = some ⟨some t, op, ty, pos, af, gd⟩) (hw : wantE l.toArray σ ⟨some t, op, ty, pos, af, gd⟩ = some false) (hchk : chk l.toArray listed tail i = true)
    (hd : Nat.blt t n = true) (h : HT c (anyT P l.toArray Q (Hd R) tail m (listed.setIfInBounds i true)) n D ((t, undef) :: σ) G) : HT c (anyT P l.toArray Q (Hd R) tail (m + 1) listed) n D σ G := by
  intro a w ht hs
  simp only [chk, Bool.and_eq_true, Bool.not_eq_true'] at hchk
  obtain ⟨⟨⟨⟨h1, h2⟩, h3⟩, h4⟩, h5⟩ := hchk
  have ho' : l.toArray[i]? = some ⟨some t, op, ty, pos, af, gd⟩ := by simpa using ho
  exact anyT_first ho' h1 (fun ch a w => hpf.ok ch a (some t) undef w) h4 m listed a w (Region.free_spec ho' h2) (tailWaits_spec h5 (mem_ready.1 (by simpa using h3)).1) (by simpa using h3) (.inr ⟨wantE_ok hw ht, rfl⟩) hs.hdR (h _ w (ht.put t undef hd) hs)
theorem ht_take_g {i j : Nat} {want : Bool} {u : Tmp} {vb v : Value} [SubR R G] [PanicFree Q] (ho : l[i]? = some ⟨some t, op, ty, pos, af, some (j, want)⟩) (hj : (l.toArray[j]?).bind (·.dst) = some u) (hv : Eng.get σ u = some vb) (hb : vb = .bool want) (hchk : chk l.toArray listed tail i = true)
    (hd : Nat.blt t n = true) (hq : QF P n D σ R ⟨some t, op, ty, pos, af, some (j, want)⟩ v) (h : HT c (anyT P l.toArray Q (Hd R) tail m (listed.setIfInBounds i true)) n D ((t, v) :: σ) G) : HT c (anyT P l.toArray Q (Hd R) tail (m + 1) listed) n D σ G :=
  ht_take ho (by rw [wantE_some hj hv hb]; simp) hchk hd hq h
theorem ht_take_st {i j : Nat} {u : Tmp} {vb : Value} [SubR R G] [PanicFree Q] (ho : l[i]? = some ⟨some t, op, ty, pos, af, some (j, true)⟩) (hj : (l.toArray[j]?).bind (·.dst) = some u) (hv : Eng.get σ u = some vb) (hb : vb = .bool false) (hchk : chk l.toArray listed tail i = true)
    (hd : Nat.blt t n = true) (h : HT c (anyT P l.toArray Q (Hd R) tail m (listed.setIfInBounds i true)) n D ((t, undef) :: σ) G) : HT c (anyT P l.toArray Q (Hd R) tail (m + 1) listed) n D σ G :=
  ht_take_skip ho (by rw [wantE_some hj hv hb]; rfl) hchk hd h
theorem ht_take_sf {i j : Nat} {u : Tmp} {vb : Value} [SubR R G] [PanicFree Q] (ho : l[i]? = some ⟨some t, op, ty, pos, af, some (j, false)⟩) (hj : (l.toArray[j]?).bind (·.dst) = some u) (hv : Eng.get σ u = some vb) (hb : vb = .bool true) (hchk : chk l.toArray listed tail i = true)
    (hd : Nat.blt t n = true) (h : HT c (anyT P l.toArray Q (Hd R) tail m (listed.setIfInBounds i true)) n D ((t, undef) :: σ) G) : HT c (anyT P l.toArray Q (Hd R) tail (m + 1) listed) n D σ G :=
  ht_take_skip ho (by rw [wantE_some hj hv hb]; rfl) hchk hd h
/-- One alone may come up. -/
theorem ht_next {i : Nat} (ho : l[i]? = some o) (hw : wantE l.toArray σ o = some true) (hr : Region.ready .any l.toArray listed = [i])
    (h : HT c (OpW P o (fun a w => (tail.contains i = false → Hd R w) ∧ anyT P l.toArray Q (Hd R) tail m (listed.setIfInBounds i true) a w) Q) n D σ G) : HT c (anyT P l.toArray Q (Hd R) tail (m + 1) listed) n D σ G := by
  intro a w ht hs
  refine ⟨fun h0 => (by rw [hr] at h0; cases h0), fun j hj => ?_⟩
  rw [hr] at hj
  have : j = i := by simpa using hj
  subst this
  have ho' : l.toArray[j]? = some o := by simpa using ho
  unfold wpOp
  simp only [ho', wantE_ok hw ht, if_true]
  exact .inl (h a w ht hs)
/-- Two may come up. -/
theorem ht_next2 {i j : Nat} {o' : Oper} (ho : l[i]? = some o) (ho' : l[j]? = some o') (hw : wantE l.toArray σ o = some true) (hw' : wantE l.toArray σ o' = some true) (hr : Region.ready .any l.toArray listed = [i, j])
    (h : HT c (OpW P o (fun a w => (tail.contains i = false → Hd R w) ∧ anyT P l.toArray Q (Hd R) tail m (listed.setIfInBounds i true) a w) Q) n D σ G)
    (h' : HT c (OpW P o' (fun a w => (tail.contains j = false → Hd R w) ∧ anyT P l.toArray Q (Hd R) tail m (listed.setIfInBounds j true) a w) Q) n D σ G) : HT c (anyT P l.toArray Q (Hd R) tail (m + 1) listed) n D σ G := by
  intro a w ht hs
  refine ⟨fun h0 => (by rw [hr] at h0; cases h0), fun k hk => ?_⟩
  rw [hr] at hk
  have : k = i ∨ k = j := by simpa using hk
  have e1 : l.toArray[i]? = some o := by simpa using ho
  have e2 : l.toArray[j]? = some o' := by simpa using ho'
  rcases this with rfl | rfl
  · unfold wpOp
    simp only [e1, wantE_ok hw ht, if_true]
    exact .inl (h a w ht hs)
  · unfold wpOp
    simp only [e2, wantE_ok hw' ht, if_true]
    exact .inl (h' a w ht hs)
theorem ht_listed {listed' : Array Bool} (hl : listed = listed') (h : HT c (anyT P l.toArray Q (Hd R) tail m listed') n D σ G) : HT c (anyT P l.toArray Q (Hd R) tail m listed) n D σ G := by subst hl; exact h
theorem ht_held {i : Nat} {K : Act → World → Prop} [SubR R G] (h : HT c K n D σ G) : HT c (fun a w => (tail.contains i = false → Hd R w) ∧ K a w) n D σ G := fun a w ht hs => ⟨fun _ => hs.hdR, h a w ht hs⟩
theorem ht_tail {i : Nat} {K : Act → World → Prop} (hi : tail.contains i = true) (h : HT c K n D σ G) : HT c (fun a w => (tail.contains i = false → Hd R w) ∧ K a w) n D σ G := fun a w ht hs => ⟨fun h0 => (by rw [hi] at h0; cases h0), h a w ht hs⟩
theorem ht_any_done (hr : Region.ready .any l.toArray listed = []) (h : HT c (EX Q .normal) n D σ G) : HT c (anyT P l.toArray Q (Hd R) tail m listed) n D σ G := by
  intro a w ht hs
  cases m with
  | zero => exact ⟨hr, h a w ht hs⟩
  | succ m => exact ⟨fun _ => h a w ht hs, by rw [hr]; simp⟩
end steps

theorem TyI.of {P : Program} {t : TypeId} {agg : Bool} {size bytes : Nat} {zero : List Value} (h1 : (P.underlying t).map descAgg = some agg)
    (h2 : (P.info? t).map (fun i => (i.size, i.bytes, i.zero.map (·.cells.toList))) = some (size, bytes, some zero)) : TyI P t agg size bytes zero := by
  constructor
  · cases hd : P.underlying t with
    | none => simp [hd] at h1
    | some d => rw [hd] at h1; exact ⟨d, rfl, Option.some.inj h1⟩
  · cases hi : P.info? t with
    | none => simp [hi] at h2
    | some i =>
      simp only [hi, Option.map_some, Option.some.injEq, Prod.mk.injEq] at h2
      obtain ⟨a, b, e⟩ := h2
      cases hz : i.zero with
      | none => simp [hz] at e
      | some z => exact ⟨i, z, rfl, a, b, hz, by simp only [hz, Option.map_some, Option.some.injEq] at e; rw [← e]⟩
theorem StructI.of {P : Program} {t : TypeId} {offs : List (Nat × Nat)} (h : (P.underlying t).bind (fun d => match d with | .struct fs => if fs.all (fun f => (P.info? f.type).isSome) then some (offsOf P fs) else none | _ => none) = some offs) : StructI P t offs := by
  constructor
  cases hd : P.underlying t with
  | none => simp [hd] at h
  | some d =>
    cases d <;> simp [hd] at h
    rename_i fs
    exact ⟨fs, rfl, h.2, by simpa using h.1⟩
theorem FnI.of {P : Program} {k : FuncId} (h : (P.funcs[k]?).map (fun fn => !fn.body.isNone && !(fn.name == "runtime.NumGoroutine")) = some true) : FnI P k := by
  constructor
  cases hf : P.funcs[k]? with
  | none => simp [hf] at h
  | some fn => simp only [hf, Option.map_some, Option.some.injEq, Bool.and_eq_true, Bool.not_eq_true'] at h; exact ⟨fn, rfl, h.1, h.2⟩

section more
variable {P : Program} {c : World} {n : Nat} {D : List Deferred} {σ : List (Nat × Value)} {G : List Fr} {K : Act → World → Prop} {Q : Exit → Act → World → Prop}
theorem ht_keep (ks : List Nat) {σ' : List (Nat × Value)} (hσ : keep ks σ = σ') (h : HT c K n D σ' G) : HT c K n D σ G := by
  subst hσ
  exact fun a w ht hs => h a w (ht.weak fun _ _ hg => get_keep hg) hs
theorem ht_G {G' : List Fr} (hG : G = G') (h : HT c K n D σ G') : HT c K n D σ G := by subst hG; exact h
/-- Some groups are brought to the front, in this order. -/
theorem ht_order (is : List Nat) {G' : List Fr} (hf : fitsL G is = true) (hG : takes G is ++ rests G is = G') (h : HT c K n D σ G') : HT c K n D σ G := fun a w ht hs => h a w ht (by
  subst hG; exact hs.perm (perm_takesL is G hf))
theorem get_bool_eq {t : Nat} {b b' : Bool} (h : b = b') : (t, Value.bool b) :: σ = (t, Value.bool b') :: σ := by rw [h]
/-- The newest slot is a test: both ways. -/
theorem ht_bsplit {t : Nat} {b : Bool} (h1 : b = true → HT c K n D ((t, .bool true) :: σ) G) (h2 : b = false → HT c K n D ((t, .bool false) :: σ) G) : HT c K n D ((t, .bool b) :: σ) G := by
  cases b
  · exact h2 rfl
  · exact h1 rfl
theorem ht_dsplit {t : Nat} {p : Prop} [Decidable p] (h1 : p → HT c K n D ((t, .bool true) :: σ) G) (h2 : ¬ p → HT c K n D ((t, .bool false) :: σ) G) : HT c K n D ((t, .bool (decide p)) :: σ) G :=
  ht_bsplit (fun h => h1 (of_decide_eq_true h)) (fun h => h2 (of_decide_eq_false h))
theorem ht_op_n {ops : Array Oper} {dd : Option Tmp} {op : Op} {ty : TypeId} {pos : String} {af : Array Edge} {rest : List Oper}
    (h : HT c (OpW P ⟨dd, op, ty, pos, af, none⟩ (OL P ops Q rest) Q) n D σ G) : HT c (OL P ops Q (⟨dd, op, ty, pos, af, none⟩ :: rest)) n D σ G := ht_op rfl h
theorem ht_op_g {ops : Array Oper} {dd : Option Tmp} {op : Op} {ty : TypeId} {pos : String} {af : Array Edge} {rest : List Oper} {j : Nat} {want : Bool} {t : Tmp} {v : Value} (hj : (ops[j]?).bind (·.dst) = some t) (hv : get σ t = some v) (hb : v = .bool want)
    (h : HT c (OpW P ⟨dd, op, ty, pos, af, some (j, want)⟩ (OL P ops Q rest) Q) n D σ G) : HT c (OL P ops Q (⟨dd, op, ty, pos, af, some (j, want)⟩ :: rest)) n D σ G := ht_op (by rw [wantE_some hj hv hb]; simp) h
theorem ht_op_st {ops : Array Oper} {dd : Tmp} {op : Op} {ty : TypeId} {pos : String} {af : Array Edge} {rest : List Oper} {j : Nat} {t : Tmp} {v : Value} (hj : (ops[j]?).bind (·.dst) = some t) (hv : get σ t = some v) (hb : v = .bool false) (hd : Nat.blt dd n = true)
    (h : HT c (OL P ops Q rest) n D ((dd, undef) :: σ) G) : HT c (OL P ops Q (⟨some dd, op, ty, pos, af, some (j, true)⟩ :: rest)) n D σ G := ht_op_skip (by rw [wantE_some hj hv hb]; rfl) hd h
theorem ht_op_st0 {ops : Array Oper} {op : Op} {ty : TypeId} {pos : String} {af : Array Edge} {rest : List Oper} {j : Nat} {t : Tmp} {v : Value} (hj : (ops[j]?).bind (·.dst) = some t) (hv : get σ t = some v) (hb : v = .bool false)
    (h : HT c (OL P ops Q rest) n D σ G) : HT c (OL P ops Q (⟨none, op, ty, pos, af, some (j, true)⟩ :: rest)) n D σ G := ht_op_skip0 (by rw [wantE_some hj hv hb]; rfl) h
theorem ht_op_sf {ops : Array Oper} {dd : Tmp} {op : Op} {ty : TypeId} {pos : String} {af : Array Edge} {rest : List Oper} {j : Nat} {t : Tmp} {v : Value} (hj : (ops[j]?).bind (·.dst) = some t) (hv : get σ t = some v) (hb : v = .bool true) (hd : Nat.blt dd n = true)
    (h : HT c (OL P ops Q rest) n D ((dd, undef) :: σ) G) : HT c (OL P ops Q (⟨some dd, op, ty, pos, af, some (j, false)⟩ :: rest)) n D σ G := ht_op_skip (by rw [wantE_some hj hv hb]; rfl) hd h
theorem ht_op_sf0 {ops : Array Oper} {op : Op} {ty : TypeId} {pos : String} {af : Array Edge} {rest : List Oper} {j : Nat} {t : Tmp} {v : Value} (hj : (ops[j]?).bind (·.dst) = some t) (hv : get σ t = some v) (hb : v = .bool true)
    (h : HT c (OL P ops Q rest) n D σ G) : HT c (OL P ops Q (⟨none, op, ty, pos, af, some (j, false)⟩ :: rest)) n D σ G := ht_op_skip0 (by rw [wantE_some hj hv hb]; rfl) h
theorem ht_gsplit {t : Nat} {p : Prop} [Decidable p] {ops : Array Oper} {dd : Option Tmp} {op : Op} {ty : TypeId} {pos : String} {af : Array Edge} {g : Nat × Bool} {rest : List Oper}
    (h1 : p → HT c (OL P ops Q (⟨dd, op, ty, pos, af, some g⟩ :: rest)) n D ((t, .bool true) :: σ) G) (h2 : ¬ p → HT c (OL P ops Q (⟨dd, op, ty, pos, af, some g⟩ :: rest)) n D ((t, .bool false) :: σ) G) :
    HT c (OL P ops Q (⟨dd, op, ty, pos, af, some g⟩ :: rest)) n D ((t, .bool (decide p)) :: σ) G := ht_dsplit h1 h2
theorem ht_gsplitb {t : Nat} {b : Bool} {ops : Array Oper} {dd : Option Tmp} {op : Op} {ty : TypeId} {pos : String} {af : Array Edge} {g : Nat × Bool} {rest : List Oper}
    (h1 : b = true → HT c (OL P ops Q (⟨dd, op, ty, pos, af, some g⟩ :: rest)) n D ((t, .bool true) :: σ) G) (h2 : b = false → HT c (OL P ops Q (⟨dd, op, ty, pos, af, some g⟩ :: rest)) n D ((t, .bool false) :: σ) G) :
    HT c (OL P ops Q (⟨dd, op, ty, pos, af, some g⟩ :: rest)) n D ((t, .bool b) :: σ) G := ht_bsplit h1 h2
theorem ht_drawG {l : List Oper} {id : Nat} (hm : P.follows .mixedOrders = true) (tail : List Nat) {listed : Array Bool} (hl : Array.replicate l.length false = listed) {m : Nat} (hsz : l.length = m) (h : HT c (anyT P l.toArray Q (Hd G) tail m listed) n D σ G) : HT c (CW P (Code.region id l.toArray true) Q) n D σ G := ht_draw hm G tail hl hsz h
variable {d : Option Tmp} {ty : TypeId} {pos : String} {af : Array Edge} {gd : Option (Nat × Bool)} {x y : Operand} {t u : TypeId} {a b : Int}
theorem qf_add_i64 (hx : ev σ x = some (.int .i64 a)) (hy : ev σ y = some (.int .i64 b)) (h : -9223372036854775808 ≤ a + b ∧ a + b ≤ 9223372036854775807) : QF P n D σ G ⟨d, .binOp .add t x y u, ty, pos, af, gd⟩ (.int .i64 (a + b)) := by
  have := qf_add (P := P) (n := n) (D := D) (G := G) (d := d) (ty := ty) (pos := pos) (af := af) (gd := gd) (t := t) (u := u) hx hy
  rwa [IntWalk.i64_in _ h] at this
theorem qf_sub_i64 (hx : ev σ x = some (.int .i64 a)) (hy : ev σ y = some (.int .i64 b)) (h : -9223372036854775808 ≤ a - b ∧ a - b ≤ 9223372036854775807) : QF P n D σ G ⟨d, .binOp .sub t x y u, ty, pos, af, gd⟩ (.int .i64 (a - b)) := by
  have := qf_sub (P := P) (n := n) (D := D) (G := G) (d := d) (ty := ty) (pos := pos) (af := af) (gd := gd) (t := t) (u := u) hx hy
  rwa [IntWalk.i64_in _ h] at this
theorem qf_convert_id {s : TypeId} {k' : IntKind} (hs : (P.underlying s).isSome = true) [h : IntI P t .i64] (hx : ev σ x = some (.int k' a)) (hb : -9223372036854775808 ≤ a ∧ a ≤ 9223372036854775807) : QF P n D σ G ⟨d, .convert s t x, ty, pos, af, gd⟩ (.int .i64 a) := by
  have := qf_convert_int (P := P) (n := n) (D := D) (G := G) (d := d) (ty := ty) (pos := pos) (af := af) (gd := gd) (t := t) (s := s) hs hx rfl
  rwa [IntWalk.i64_in _ hb] at this
end more
section kinds
variable {P : Program} {n : Nat} {D : List Deferred} {σ : List (Nat × Value)} {G : List Fr} {d : Option Tmp} {ty : TypeId} {pos : String} {af : Array Edge} {gd : Option (Nat × Bool)} {x y : Operand} {t u : TypeId} {a b : Int}
theorem qf_add_u8 (hx : ev σ x = some (.int .u8 a)) (hy : ev σ y = some (.int .u8 b)) (h : 0 ≤ a + b ∧ a + b ≤ 255) : QF P n D σ G ⟨d, .binOp .add t x y u, ty, pos, af, gd⟩ (.int .u8 (a + b)) := by
  have := qf_add (P := P) (n := n) (D := D) (G := G) (d := d) (ty := ty) (pos := pos) (af := af) (gd := gd) (t := t) (u := u) hx hy
  rwa [IntWalk.u8_in _ h] at this
theorem qf_sub_u8 (hx : ev σ x = some (.int .u8 a)) (hy : ev σ y = some (.int .u8 b)) (h : 0 ≤ a - b ∧ a - b ≤ 255) : QF P n D σ G ⟨d, .binOp .sub t x y u, ty, pos, af, gd⟩ (.int .u8 (a - b)) := by
  have := qf_sub (P := P) (n := n) (D := D) (G := G) (d := d) (ty := ty) (pos := pos) (af := af) (gd := gd) (t := t) (u := u) hx hy
  rwa [IntWalk.u8_in _ h] at this
theorem qf_mul_u8 (hx : ev σ x = some (.int .u8 a)) (hy : ev σ y = some (.int .u8 b)) (h : 0 ≤ a * b ∧ a * b ≤ 255) : QF P n D σ G ⟨d, .binOp .mul t x y u, ty, pos, af, gd⟩ (.int .u8 (a * b)) := by
  have := qf_mul (P := P) (n := n) (D := D) (G := G) (d := d) (ty := ty) (pos := pos) (af := af) (gd := gd) (t := t) (u := u) hx hy
  rwa [IntWalk.u8_in _ h] at this
theorem qf_conv_u8 {s : TypeId} {k' : IntKind} (hs : (P.underlying s).isSome = true) [h : IntI P t .u8] (hx : ev σ x = some (.int k' a)) (hb : 0 ≤ a ∧ a ≤ 255) : QF P n D σ G ⟨d, .convert s t x, ty, pos, af, gd⟩ (.int .u8 a) := by
  have := qf_convert_int (P := P) (n := n) (D := D) (G := G) (d := d) (ty := ty) (pos := pos) (af := af) (gd := gd) (t := t) (s := s) hs hx rfl
  rwa [IntWalk.u8_in _ hb] at this
theorem qf_add_u16 (hx : ev σ x = some (.int .u16 a)) (hy : ev σ y = some (.int .u16 b)) (h : 0 ≤ a + b ∧ a + b ≤ 65535) : QF P n D σ G ⟨d, .binOp .add t x y u, ty, pos, af, gd⟩ (.int .u16 (a + b)) := by
  have := qf_add (P := P) (n := n) (D := D) (G := G) (d := d) (ty := ty) (pos := pos) (af := af) (gd := gd) (t := t) (u := u) hx hy
  rwa [IntWalk.u16_in _ h] at this
theorem qf_sub_u16 (hx : ev σ x = some (.int .u16 a)) (hy : ev σ y = some (.int .u16 b)) (h : 0 ≤ a - b ∧ a - b ≤ 65535) : QF P n D σ G ⟨d, .binOp .sub t x y u, ty, pos, af, gd⟩ (.int .u16 (a - b)) := by
  have := qf_sub (P := P) (n := n) (D := D) (G := G) (d := d) (ty := ty) (pos := pos) (af := af) (gd := gd) (t := t) (u := u) hx hy
  rwa [IntWalk.u16_in _ h] at this
theorem qf_mul_u16 (hx : ev σ x = some (.int .u16 a)) (hy : ev σ y = some (.int .u16 b)) (h : 0 ≤ a * b ∧ a * b ≤ 65535) : QF P n D σ G ⟨d, .binOp .mul t x y u, ty, pos, af, gd⟩ (.int .u16 (a * b)) := by
  have := qf_mul (P := P) (n := n) (D := D) (G := G) (d := d) (ty := ty) (pos := pos) (af := af) (gd := gd) (t := t) (u := u) hx hy
  rwa [IntWalk.u16_in _ h] at this
theorem qf_conv_u16 {s : TypeId} {k' : IntKind} (hs : (P.underlying s).isSome = true) [h : IntI P t .u16] (hx : ev σ x = some (.int k' a)) (hb : 0 ≤ a ∧ a ≤ 65535) : QF P n D σ G ⟨d, .convert s t x, ty, pos, af, gd⟩ (.int .u16 a) := by
  have := qf_convert_int (P := P) (n := n) (D := D) (G := G) (d := d) (ty := ty) (pos := pos) (af := af) (gd := gd) (t := t) (s := s) hs hx rfl
  rwa [IntWalk.u16_in _ hb] at this
theorem qf_add_u32 (hx : ev σ x = some (.int .u32 a)) (hy : ev σ y = some (.int .u32 b)) (h : 0 ≤ a + b ∧ a + b ≤ 4294967295) : QF P n D σ G ⟨d, .binOp .add t x y u, ty, pos, af, gd⟩ (.int .u32 (a + b)) := by
  have := qf_add (P := P) (n := n) (D := D) (G := G) (d := d) (ty := ty) (pos := pos) (af := af) (gd := gd) (t := t) (u := u) hx hy
  rwa [IntWalk.u32_in _ h] at this
theorem qf_sub_u32 (hx : ev σ x = some (.int .u32 a)) (hy : ev σ y = some (.int .u32 b)) (h : 0 ≤ a - b ∧ a - b ≤ 4294967295) : QF P n D σ G ⟨d, .binOp .sub t x y u, ty, pos, af, gd⟩ (.int .u32 (a - b)) := by
  have := qf_sub (P := P) (n := n) (D := D) (G := G) (d := d) (ty := ty) (pos := pos) (af := af) (gd := gd) (t := t) (u := u) hx hy
  rwa [IntWalk.u32_in _ h] at this
theorem qf_mul_u32 (hx : ev σ x = some (.int .u32 a)) (hy : ev σ y = some (.int .u32 b)) (h : 0 ≤ a * b ∧ a * b ≤ 4294967295) : QF P n D σ G ⟨d, .binOp .mul t x y u, ty, pos, af, gd⟩ (.int .u32 (a * b)) := by
  have := qf_mul (P := P) (n := n) (D := D) (G := G) (d := d) (ty := ty) (pos := pos) (af := af) (gd := gd) (t := t) (u := u) hx hy
  rwa [IntWalk.u32_in _ h] at this
theorem qf_conv_u32 {s : TypeId} {k' : IntKind} (hs : (P.underlying s).isSome = true) [h : IntI P t .u32] (hx : ev σ x = some (.int k' a)) (hb : 0 ≤ a ∧ a ≤ 4294967295) : QF P n D σ G ⟨d, .convert s t x, ty, pos, af, gd⟩ (.int .u32 a) := by
  have := qf_convert_int (P := P) (n := n) (D := D) (G := G) (d := d) (ty := ty) (pos := pos) (af := af) (gd := gd) (t := t) (s := s) hs hx rfl
  rwa [IntWalk.u32_in _ hb] at this
theorem qf_add_u64 (hx : ev σ x = some (.int .u64 a)) (hy : ev σ y = some (.int .u64 b)) (h : 0 ≤ a + b ∧ a + b ≤ 18446744073709551615) : QF P n D σ G ⟨d, .binOp .add t x y u, ty, pos, af, gd⟩ (.int .u64 (a + b)) := by
  have := qf_add (P := P) (n := n) (D := D) (G := G) (d := d) (ty := ty) (pos := pos) (af := af) (gd := gd) (t := t) (u := u) hx hy
  rwa [IntWalk.u64_in _ h] at this
theorem qf_sub_u64 (hx : ev σ x = some (.int .u64 a)) (hy : ev σ y = some (.int .u64 b)) (h : 0 ≤ a - b ∧ a - b ≤ 18446744073709551615) : QF P n D σ G ⟨d, .binOp .sub t x y u, ty, pos, af, gd⟩ (.int .u64 (a - b)) := by
  have := qf_sub (P := P) (n := n) (D := D) (G := G) (d := d) (ty := ty) (pos := pos) (af := af) (gd := gd) (t := t) (u := u) hx hy
  rwa [IntWalk.u64_in _ h] at this
theorem qf_mul_u64 (hx : ev σ x = some (.int .u64 a)) (hy : ev σ y = some (.int .u64 b)) (h : 0 ≤ a * b ∧ a * b ≤ 18446744073709551615) : QF P n D σ G ⟨d, .binOp .mul t x y u, ty, pos, af, gd⟩ (.int .u64 (a * b)) := by
  have := qf_mul (P := P) (n := n) (D := D) (G := G) (d := d) (ty := ty) (pos := pos) (af := af) (gd := gd) (t := t) (u := u) hx hy
  rwa [IntWalk.u64_in _ h] at this
theorem qf_conv_u64 {s : TypeId} {k' : IntKind} (hs : (P.underlying s).isSome = true) [h : IntI P t .u64] (hx : ev σ x = some (.int k' a)) (hb : 0 ≤ a ∧ a ≤ 18446744073709551615) : QF P n D σ G ⟨d, .convert s t x, ty, pos, af, gd⟩ (.int .u64 a) := by
  have := qf_convert_int (P := P) (n := n) (D := D) (G := G) (d := d) (ty := ty) (pos := pos) (af := af) (gd := gd) (t := t) (s := s) hs hx rfl
  rwa [IntWalk.u64_in _ hb] at this
theorem qf_add_i32 (hx : ev σ x = some (.int .i32 a)) (hy : ev σ y = some (.int .i32 b)) (h : -2147483648 ≤ a + b ∧ a + b ≤ 2147483647) : QF P n D σ G ⟨d, .binOp .add t x y u, ty, pos, af, gd⟩ (.int .i32 (a + b)) := by
  have := qf_add (P := P) (n := n) (D := D) (G := G) (d := d) (ty := ty) (pos := pos) (af := af) (gd := gd) (t := t) (u := u) hx hy
  rwa [IntWalk.i32_in _ h] at this
theorem qf_sub_i32 (hx : ev σ x = some (.int .i32 a)) (hy : ev σ y = some (.int .i32 b)) (h : -2147483648 ≤ a - b ∧ a - b ≤ 2147483647) : QF P n D σ G ⟨d, .binOp .sub t x y u, ty, pos, af, gd⟩ (.int .i32 (a - b)) := by
  have := qf_sub (P := P) (n := n) (D := D) (G := G) (d := d) (ty := ty) (pos := pos) (af := af) (gd := gd) (t := t) (u := u) hx hy
  rwa [IntWalk.i32_in _ h] at this
theorem qf_mul_i32 (hx : ev σ x = some (.int .i32 a)) (hy : ev σ y = some (.int .i32 b)) (h : -2147483648 ≤ a * b ∧ a * b ≤ 2147483647) : QF P n D σ G ⟨d, .binOp .mul t x y u, ty, pos, af, gd⟩ (.int .i32 (a * b)) := by
  have := qf_mul (P := P) (n := n) (D := D) (G := G) (d := d) (ty := ty) (pos := pos) (af := af) (gd := gd) (t := t) (u := u) hx hy
  rwa [IntWalk.i32_in _ h] at this
theorem qf_conv_i32 {s : TypeId} {k' : IntKind} (hs : (P.underlying s).isSome = true) [h : IntI P t .i32] (hx : ev σ x = some (.int k' a)) (hb : -2147483648 ≤ a ∧ a ≤ 2147483647) : QF P n D σ G ⟨d, .convert s t x, ty, pos, af, gd⟩ (.int .i32 a) := by
  have := qf_convert_int (P := P) (n := n) (D := D) (G := G) (d := d) (ty := ty) (pos := pos) (af := af) (gd := gd) (t := t) (s := s) hs hx rfl
  rwa [IntWalk.i32_in _ hb] at this
theorem qf_mul_i64 (hx : ev σ x = some (.int .i64 a)) (hy : ev σ y = some (.int .i64 b)) (h : -9223372036854775808 ≤ a * b ∧ a * b ≤ 9223372036854775807) : QF P n D σ G ⟨d, .binOp .mul t x y u, ty, pos, af, gd⟩ (.int .i64 (a * b)) := by
  have := qf_mul (P := P) (n := n) (D := D) (G := G) (d := d) (ty := ty) (pos := pos) (af := af) (gd := gd) (t := t) (u := u) hx hy
  rwa [IntWalk.i64_in _ h] at this
end kinds
end Go.Eng
