/- The engine, eighth part: in a region that draws its order, what looks at no memory is taken first even where a store may come before it. No premise; lemmas only. -/
import Derived.Test.YtkkeeoaencfemaaEngg
namespace Go.Eng
section any
variable {P : Program} {ops : Array Oper} {Q : Exit → Act → World → Prop} {S : World → Prop} {tail : List Nat}
theorem anyT_pure {i : Nat} {oi : Oper} {v : Value} (hi : ops[i]? = some oi) (hsel : Region.noSelect ops = true)
    (hQ : ∀ ch a w, Q (.panic ch) (a.put oi.dst v) w → Q (.panic ch) a w) (hti : tail.contains i = true) :
    ∀ (m : Nat) (listed : Array Bool) (a : Act) (w : World),
      (∀ j oj, ops[j]? = some oj → j ≠ i → listed.getD j true = false → (∀ e ∈ oj.after, Region.binds .any e = true → e.on ≠ i) → oi.apart ops oj = true) →
      i ∈ Region.ready .any ops listed → YieldsIf P ops (fun _ => True) oi v a →
      anyT P ops Q S tail m (listed.setIfInBounds i true) (a.put oi.dst v) w → anyT P ops Q S tail (m + 1) listed a w := by
  intro m
  induction m with
  | zero =>
    intro listed a w _ hr hy H
    refine ⟨fun h => (by rw [h] at hr; cases hr), fun j hj => ?_⟩
    by_cases hji : j = i
    · subst hji; exact hy.wpOp hi trivial ⟨fun h0 => (by rw [hti] at h0; cases h0), H⟩
    · have h2 := ready_mono hj hji
      rw [H.1] at h2; cases h2
  | succ m ih =>
    intro listed a w hfree hr hy H
    refine ⟨fun h => (by rw [h] at hr; cases hr), fun j hj => ?_⟩
    by_cases hji : j = i
    · subst hji; exact hy.wpOp hi trivial ⟨fun h0 => (by rw [hti] at h0; cases h0), H⟩
    · obtain ⟨hjl, oj, hoj, _⟩ := mem_ready.1 hj
      have hil := (mem_ready.1 hr).1
      have hno : ∀ e ∈ oj.after, Region.binds .any e = true → e.on ≠ i := fun e he hb hon => not_ready_of_waits hil hj hoj he hb hon
      have h1 := H.2 j (ready_mono hj hji)
      have h2 := wpOp_putIf hoj (hfree j oj hoj hji hjl hno) (fun cs b => Region.noSelect_spec hsel i oi cs b hi) (fun cs b => Region.noSelect_spec hsel j oj cs b hoj) hQ hy h1
      refine wpOp_mono (fun a' w' h3 => ⟨h3.2.1, ih (listed.setIfInBounds j true) a' w' ?_ (ready_mono hr (Ne.symm hji)) h3.1 ?_⟩) h2
      · intro k ok hk hki hun hno'
        refine hfree k ok hk hki ?_ hno'
        by_cases hjk : j = k
        · subst hjk; exact hjl
        · rw [getD_set_ne true hjk] at hun; exact hun
      · rw [Array.setIfInBounds_comm _ _ hji]; exact h3.2.2
end any
section steps
variable {P : Program} {c : World} {n : Nat} {D : List Deferred} {σ : List (Nat × Value)} {G R : List Fr} {l : List Oper} {Q : Exit → Act → World → Prop} {tail : List Nat} {m : Nat} {listed : Array Bool} {o : Oper}
  {t : Tmp} {op : Op} {ty : TypeId} {pos : String} {af : Array Edge} {gd : Option (Nat × Bool)}
def chkp (ops : Array Oper) (listed : Array Bool) (tail : List Nat) (i : Nat) : Bool :=
  Region.noSelect ops && Region.free .any ops listed i && (Region.ready .any ops listed).contains i && tail.contains i
theorem ht_pure {i : Nat} {v : Value} [hpf : PanicFree Q] (ho : l[i]? = some ⟨some t, op, ty, pos, af, gd⟩) (hw : wantE l.toArray σ ⟨some t, op, ty, pos, af, gd⟩ = some true) (hchk : chkp l.toArray listed tail i = true)
    (hd : Nat.blt t n = true) (hq : QF P n D σ [] ⟨some t, op, ty, pos, af, gd⟩ v) (h : HT c (anyT P l.toArray Q (Hd R) tail m (listed.setIfInBounds i true)) n D ((t, v) :: σ) G) : HT c (anyT P l.toArray Q (Hd R) tail (m + 1) listed) n D σ G := by
  intro a w ht hs
  simp only [chkp, Bool.and_eq_true] at hchk
  obtain ⟨⟨⟨h1, h2⟩, h3⟩, h4⟩ := hchk
  have ho' : l.toArray[i]? = some ⟨some t, op, ty, pos, af, gd⟩ := by simpa using ho
  exact anyT_pure ho' h1 (fun ch a w => hpf.ok ch a (some t) v w) h4 m listed a w (Region.free_spec ho' h2) (by simpa using h3) (.inl ⟨wantE_ok hw ht, fun w _ => hq a ht w (fun f hf => by cases hf)⟩) (h _ w (ht.put t v hd) hs)
theorem ht_pure_skip {i : Nat} [hpf : PanicFree Q] (ho : l[i]? = some ⟨some t, op, ty, pos, af, gd⟩) (hw : wantE l.toArray σ ⟨some t, op, ty, pos, af, gd⟩ = some false) (hchk : chkp l.toArray listed tail i = true)
    (hd : Nat.blt t n = true) (h : HT c (anyT P l.toArray Q (Hd R) tail m (listed.setIfInBounds i true)) n D ((t, undef) :: σ) G) : HT c (anyT P l.toArray Q (Hd R) tail (m + 1) listed) n D σ G := by
  intro a w ht hs
  simp only [chkp, Bool.and_eq_true] at hchk
  obtain ⟨⟨⟨h1, h2⟩, h3⟩, h4⟩ := hchk
  have ho' : l.toArray[i]? = some ⟨some t, op, ty, pos, af, gd⟩ := by simpa using ho
  exact anyT_pure ho' h1 (fun ch a w => hpf.ok ch a (some t) undef w) h4 m listed a w (Region.free_spec ho' h2) (by simpa using h3) (.inr ⟨wantE_ok hw ht, rfl⟩) (h _ w (ht.put t undef hd) hs)
theorem ht_pure_g {i j : Nat} {want : Bool} {u : Tmp} {vb v : Value} [PanicFree Q] (ho : l[i]? = some ⟨some t, op, ty, pos, af, some (j, want)⟩) (hj : (l.toArray[j]?).bind (·.dst) = some u) (hv : Eng.get σ u = some vb) (hb : vb = .bool want) (hchk : chkp l.toArray listed tail i = true)
    (hd : Nat.blt t n = true) (hq : QF P n D σ [] ⟨some t, op, ty, pos, af, some (j, want)⟩ v) (h : HT c (anyT P l.toArray Q (Hd R) tail m (listed.setIfInBounds i true)) n D ((t, v) :: σ) G) : HT c (anyT P l.toArray Q (Hd R) tail (m + 1) listed) n D σ G :=
  ht_pure ho (by rw [wantE_some hj hv hb]; simp) hchk hd hq h
theorem ht_pure_st {i j : Nat} {u : Tmp} {vb : Value} [PanicFree Q] (ho : l[i]? = some ⟨some t, op, ty, pos, af, some (j, true)⟩) (hj : (l.toArray[j]?).bind (·.dst) = some u) (hv : Eng.get σ u = some vb) (hb : vb = .bool false) (hchk : chkp l.toArray listed tail i = true)
    (hd : Nat.blt t n = true) (h : HT c (anyT P l.toArray Q (Hd R) tail m (listed.setIfInBounds i true)) n D ((t, undef) :: σ) G) : HT c (anyT P l.toArray Q (Hd R) tail (m + 1) listed) n D σ G :=
  ht_pure_skip ho (by rw [wantE_some hj hv hb]; rfl) hchk hd h
theorem ht_pure_sf {i j : Nat} {u : Tmp} {vb : Value} [PanicFree Q] (ho : l[i]? = some ⟨some t, op, ty, pos, af, some (j, false)⟩) (hj : (l.toArray[j]?).bind (·.dst) = some u) (hv : Eng.get σ u = some vb) (hb : vb = .bool true) (hchk : chkp l.toArray listed tail i = true)
    (hd : Nat.blt t n = true) (h : HT c (anyT P l.toArray Q (Hd R) tail m (listed.setIfInBounds i true)) n D ((t, undef) :: σ) G) : HT c (anyT P l.toArray Q (Hd R) tail (m + 1) listed) n D σ G :=
  ht_pure_skip ho (by rw [wantE_some hj hv hb]; rfl) hchk hd h
end steps
/-! ### A row of cells, one for each element, with spare cells behind -/
section cells1
variable {α : Type} {f : α → Value} {l : List α} {sp : List Value} {i : Nat} {a b : α}
theorem map_get (f : α → Value) (h : l[i]? = some a) : (l.map f ++ sp)[i * 1]? = some (f a) := by
  have hlt := (List.getElem?_eq_some_iff.1 h).1
  rw [Nat.mul_one, List.getElem?_append_left (by simpa using hlt), List.getElem?_map, h]; rfl
theorem map_lt (f : α → Value) (h : l[i]? = some a) : i * 1 < (l.map f ++ sp).length := by
  have hlt := (List.getElem?_eq_some_iff.1 h).1
  simp; omega
theorem map_set (f : α → Value) (b : α) (h : l[i]? = some a) : (l.map f ++ sp).set (i * 1) (f b) = (l.set i b).map f ++ sp := by
  have hlt := (List.getElem?_eq_some_iff.1 h).1
  rw [Nat.mul_one, List.set_append, if_pos (by simpa using hlt), List.map_set]
end cells1
end Go.Eng
