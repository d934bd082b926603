/- The engine, sixth part: slices that are owned; append. No premise; lemmas only. -/
import Derived.Test.YtkkeeoaencfemaaEnge
import Derived.Laws.AppendOwn
namespace Go.Eng
variable {P : Program} {c : World} {n : Nat} {D : List Deferred} {σ : List (Nat × Value)} {G : List Fr}

/-- One group's place in a state. -/
class Plug (G : List Fr) (L : Fr) (C : outParam (Fr → List Fr)) : Prop where
  ok : ∃ R, G.Perm (L :: R) ∧ ∀ X, (C X).Perm (X :: R)
instance (priority := 200) plugHere {L : Fr} {G : List Fr} : Plug (L :: G) L (fun X => X :: G) := ⟨G, .refl _, fun _ => .refl _⟩
instance (priority := 100) plugThere {L g : Fr} {G : List Fr} {C : Fr → List Fr} [h : Plug G L C] : Plug (g :: G) L (fun X => g :: C X) :=
  let ⟨R, h1, h2⟩ := h.ok
  ⟨g :: R, (h1.cons g).trans (.swap _ _ _), fun X => ((h2 X).cons g).trans (.swap _ _ _)⟩

/-- A slice value '.slice p m cap' that owns its cells: nil, or from its block's head on. -/
def OwnS (e : TypeId) (size : Nat) (p : Option Addr) (m cap : Nat) (xs : List Value) (L : Fr) : Prop :=
  xs.length = m * size ∧ cap ≤ maxLen ∧ m ≤ cap ∧
  ((p = none ∧ m = 0 ∧ cap = 0 ∧ L = []) ∨ ∃ g cur, p = some ⟨g, 0, none⟩ ∧ L = blk g (.cells (List.toArray cur) e (0, 0)) ∧ cur.length = cap * size ∧ cur.take (m * size) = xs)
theorem OwnS.nil (e : TypeId) (size : Nat) : OwnS e size none 0 0 [] [] := ⟨by simp, by simp [maxLen], Nat.le_refl _, .inl ⟨rfl, rfl, rfl, rfl⟩⟩
theorem OwnS.full {e : TypeId} {size g m : Nat} {xs : List Value} (h : xs.length = m * size) (hm : m ≤ maxLen) : OwnS e size (some ⟨g, 0, none⟩) m m xs (blk g (.cells xs.toArray e (0, 0))) :=
  ⟨h, hm, Nat.le_refl _, .inr ⟨g, xs, rfl, rfl, h, by rw [← h]; exact List.take_length⟩⟩
/-- Cells that can be read: none, or a piece of a block that is there. -/
def RdS (G : List Fr) (q : Option Addr) (k : Nat) (news : List Value) : Prop :=
  news.length = k ∧ (k = 0 ∨ ∃ bl off cs T fz, q = some ⟨bl, off, none⟩ ∧ Look G bl (.cells (List.toArray cs) T fz) ∧ seg cs off k = news)
theorem RdS.here {bl off k : Nat} {cs news : List Value} {T : TypeId} {fz : Nat × Nat} [h : Look G bl (.cells cs.toArray T fz)] (hs : seg cs off k = news) (hl : news.length = k) : RdS G (some ⟨bl, off, none⟩) k news :=
  ⟨hl, .inr ⟨bl, off, cs, T, fz, rfl, h, hs⟩⟩
theorem RdS.none {q : Option Addr} : RdS G q 0 [] := ⟨rfl, .inl rfl⟩
theorem look_of_plug {L : Fr} {C : Fr → List Fr} (hp : Plug G L C) {b : Nat} {o : Obj} (h : L = blk b o) : Look G b o := by
  obtain ⟨R, h1, _⟩ := hp.ok
  subst h
  exact ⟨pt b o, h1.flatten.mem_iff.2 (by simp), by simp [pt]⟩
theorem OwnS.rd {e : TypeId} {size : Nat} {p : Option Addr} {m cap : Nat} {xs : List Value} {L : Fr} {C : Fr → List Fr} (h : OwnS e size p m cap xs L) (hp : Plug G L C) : RdS G p (m * size) xs := by
  obtain ⟨h1, _, _, h4⟩ := h
  refine ⟨h1, ?_⟩
  rcases h4 with ⟨_, rfl, _, _⟩ | ⟨g, cur, rfl, hL, _, ht⟩
  · left; simp
  · right
    exact ⟨g, 0, cur, e, (0, 0), rfl, look_of_plug hp hL, by simpa [seg] using ht⟩

section ops
variable {ty : TypeId} {pos : String} {af : Array Edge} {gd : Option (Nat × Bool)} {Q : Exit → Act → World → Prop} {K : Act → World → Prop}
variable {x y s : Operand} {t u e : TypeId} {d : Option Tmp} {q0 : Tmp}

theorem run_eql_slice_nil [h : SliceI P t e] (p : Option Addr) (m cap k k' : Nat) (w : World) : (Op.equal t (.slice p m cap) (.slice none k k')).run P w = .ok p.isNone w := by
  have key : ∀ d, (Op.equalIn (d + 1) t (.slice p m cap) (.slice none k k')).run P w = .ok p.isNone w := fun d => by cases p <;> simp [Op.equalIn, run_underlying h.ok]
  exact key 9999
theorem qf_eql_slice_nil [h : SliceI P t e] {p : Option Addr} {m cap k k' : Nat} (hx : ev σ x = some (.slice p m cap)) (hy : ev σ y = some (.slice none k k')) : QF P n D σ G ⟨d, .binOp .eql t x y u, ty, pos, af, gd⟩ (.bool p.isNone) := by
  intro _ ht w _; simp [execOp, ht.ev hx, ht.ev hy, eqGuard_at_slice, binOp, run_eql_slice_nil (e := e)]
theorem qf_neq_slice_nil [h : SliceI P t e] {p : Option Addr} {m cap k k' : Nat} (hx : ev σ x = some (.slice p m cap)) (hy : ev σ y = some (.slice none k k')) : QF P n D σ G ⟨d, .binOp .neq t x y u, ty, pos, af, gd⟩ (.bool !p.isNone) := by
  intro _ ht w _; simp [execOp, ht.ev hx, ht.ev hy, eqGuard_at_slice, binOp, run_eql_slice_nil (e := e)]
/-- The element at an index of a slice that can be read. -/
theorem qf_indexAddr_rd {agg : Bool} {size bytes : Nat} {zero : List Value} [h : SliceI P t e] [he : TyI P e agg size bytes zero] {q : Option Addr} {bl off len cap : Nat} {ik : IntKind} {iv : Int}
    (hx : ev σ x = some (.slice q len cap)) (hq : q = some ⟨bl, off, none⟩) (hy : ev σ y = some (.int ik iv)) (h0 : 0 ≤ iv) (h1 : iv < len) {v : Value} (hv : v = .pointer (some ⟨bl, off + iv.toNat * size, none⟩)) :
    QF P n D σ G ⟨d, .indexAddr t x y, ty, pos, af, gd⟩ v := by
  subst hq; exact qf_indexAddr_slice hx hy h0 h1 hv

theorem size_zeroCells' (z : Array Value) (k : Nat) : (Builtin.zeroCells z k).size = k * z.size := by simp [Builtin.zeroCells]
theorem ht_append {agg : Bool} {size bytes : Nat} {zero : List Value} [hsl : SliceI P t e] [hty : TyI P e agg size bytes zero] {p : Option Addr} {m cap : Nat} {xs : List Value} {L : Fr} {C : Fr → List Fr} {q : Option Addr} {m' cq : Nat} {news : List Value}
    (hs : ev σ s = some (.slice p m cap)) (hx : ev σ x = some (.slice q m' cq)) (ho : OwnS e size p m cap xs L) (hr : RdS G q (m' * size) news) [hp : Plug G L C] (h1 : ∀ u ∈ news, u.oneCell' = true)
    (hb : (m + m') * bytes ≤ 140737488355328) (hm : m + m' ≤ maxLen) (hsz : Nat.blt 0 size = true) (hz : zero.length = size) (hd : Nat.blt q0 n = true)
    (h : ∀ p' cap' L', OwnS e size p' (m + m') cap' (xs ++ news) L' → HT c K n D ((q0, .slice p' (m + m') cap') :: σ) (C L')) :
    HT c (OpW P ⟨some q0, .call { callee := .builtin .append, args := #[s, x], argTypes := #[t, t] }, ty, pos, af, gd⟩ K Q) n D σ G := by
  intro a w ht hsep
  have hszp : 0 < size := Nat.le_of_ble_eq_true hsz
  obtain ⟨i, z, hi, his, hib, hiz, hzc⟩ := hty.info
  have hzs : z.cells.size = size := by rw [hzc]; simpa using hz
  have hsmall : m + m' ≤ 9223372036854775807 := by simp only [maxLen] at hm; omega
  obtain ⟨hxl, hcm, hmc, hown⟩ := ho
  obtain ⟨hnl, hrd⟩ := hr
  obtain ⟨R, hperm, hC⟩ := hp.ok
  have hsepL := hsep.perm hperm
  suffices hmain : ∃ p' cap' L' w', (Builtin.append_ #[t, t] ty #[.slice p m cap, .slice q m' cq]).run P w = .ok (.slice p' (m + m') cap') w' ∧ OwnS e size p' (m + m') cap' (xs ++ news) L' ∧ Sep c w' (L' :: R) by
    obtain ⟨p', cap', L', w', hrun, hown', hsep'⟩ := hmain
    unfold OpW Oper.wp execOp
    simp only [resolve, invoke, builtin, Sem.run_bind, Sem.run_pure, Result.andThen_ok, List.map_toArray, List.map_cons, List.map_nil, ht.ev hs, ht.ev hx, hrun]
    exact h p' cap' L' hown' _ _ (ht.put q0 _ hd) (hsep'.perm (hC L').symm)
  have hxn : (xs ++ news).length = (m + m') * size := by rw [List.length_append, hxl, hnl, Nat.add_mul]
  -- nothing is appended
  by_cases hm0 : m' = 0
  · subst hm0
    have hn0 : news = [] := List.eq_nil_of_length_eq_zero (by simpa using hnl)
    subst hn0
    refine ⟨p, cap, L, w, ?_, ⟨by simpa using hxl, hcm, by simpa using hmc, ?_⟩, hsepL⟩
    · cases q <;> cases p <;> simp [Builtin.append_, run_underlying hsl.ok, sizeOf, typeInfo, hi, Builtin.lenOf, hmc, Builtin.firstCells, loadCells, loadCellsFrom, storeCells]
    · simpa using hown
  obtain ⟨bl, off, cs, T, fz, rfl, hlook, hseg⟩ := hrd.resolve_left (by intro e; rcases Nat.mul_eq_zero.1 e with e | e <;> omega)
  have hbl := hsep.look hlook
  have hnews : ∀ j v, news[j]? = some v → w.cell? ((⟨bl, off, none⟩ : Addr).add j) = some v := fun j v hv => by
    rw [Addr.add_lit, cell_of_row w bl (off + j) _ T fz hbl]
    rw [← hseg] at hv
    simp only [seg, List.getElem?_take, List.getElem?_drop] at hv
    split at hv
    · simpa using hv
    · cases hv
  have grown : ∀ (old : Nat), OwnS e size (some ⟨w.heap.size, 0, none⟩) (m + m') (grownCap w (m + m') old e) (xs ++ news) (blk w.heap.size (.cells (xs ++ news ++ (Builtin.zeroCells z.cells (grownCap w (m + m') old e - (m + m'))).toList).toArray e (0, 0))) := by
    intro old
    have hge := grownCap_ge w (m + m') old e
    have hcm := grownCap_le_maxLen w (m + m') old e hm
    refine ⟨hxn, hcm, hge, .inr ⟨_, _, rfl, rfl, ?_, ?_⟩⟩
    · rw [List.length_append, hxn, Array.length_toList, size_zeroCells', hzs, ← Nat.add_mul]
      congr 1; omega
    · rw [← hxn]; exact List.take_left
  have alloc' : ∀ ob, Sep c (w.drew.alloc ob) (blk w.heap.size ob :: R) := fun ob => by
    have h1 : Sep c w.drew (L :: R) := hsepL.same rfl rfl rfl
    have h2 := h1.alloc ob
    exact (h2.perm (List.Perm.swap _ _ _)).drop
  have toL : ∀ (k : Nat), xs.toArray ++ news.toArray ++ Builtin.zeroCells z.cells k = (xs ++ news ++ (Builtin.zeroCells z.cells k).toList).toArray := fun k => by
    apply Array.toList_inj.1; simp
  rcases hown with ⟨rfl, rfl, rfl, rfl⟩ | ⟨g, cur, rfl, rfl, hcl, hct⟩
  · have hx0 : xs = [] := List.eq_nil_of_length_eq_zero (by simpa using hxl)
    subst hx0
    have hrun := run_append_nil (P := P) w t ty e i z hsl.ok hi hiz ⟨bl, off, none⟩ m' cq news (by rw [his]; exact hnl) hnews (by omega) (by omega) (by rw [hib]; simp only [Nat.zero_add] at hb; omega)
    have hg := grown 0
    simp only [Nat.zero_add, List.nil_append] at hg ⊢
    refine ⟨_, _, _, _, hrun, hg, ?_⟩
    have := alloc' (.cells (news ++ (Builtin.zeroCells z.cells (grownCap w m' 0 e - m')).toList).toArray e)
    have e2 := toL (grownCap w m' 0 e - m')
    simp only [List.nil_append] at e2
    rw [show news.toArray ++ Builtin.zeroCells z.cells (grownCap w m' 0 e - m') = (news ++ (Builtin.zeroCells z.cells (grownCap w m' 0 e - m')).toList).toArray from by rw [← e2]; simp]
    exact this
  · have hlg : w.heap[g]? = some (.cells cur.toArray e (0, 0)) := hsepL.look lookHere
    by_cases hroom : m + m' ≤ cap
    · have hfit : m * i.size + news.length ≤ cur.toArray.size := by
        rw [his, hnl]; simp only [List.size_toArray, hcl, ← Nat.add_mul]; exact Nat.mul_le_mul_right _ hroom
      have hrun := run_append_room (P := P) w t ty e i hsl.ok hi g m cap cur.toArray hlg ⟨bl, off, none⟩ m' cq news (by rw [his]; exact hnl) hnews h1 hroom hfit
      rw [his] at hrun
      refine ⟨some ⟨g, 0, none⟩, cap, blk g (.cells (cur.take (m * size) ++ news ++ cur.drop (m * size + news.length)).toArray e (0, 0)), _, hrun, ⟨hxn, hcm, hroom, .inr ⟨g, _, rfl, rfl, ?_, ?_⟩⟩, ?_⟩
      · rw [his] at hfit
        simp only [List.size_toArray] at hfit
        simp only [List.length_append, List.length_take, List.length_drop]
        omega
      · rw [hct, ← hxn]; exact List.take_left
      · exact hsepL.write rfl rfl (setRow_heap w g cur.toArray _ e _ hlg) (fun k hk => setRow_other w g k _ hk)
    · have holds : ∀ j v, xs[j]? = some v → w.cell? ((⟨g, 0, none⟩ : Addr).add j) = some v := fun j v hv => by
        rw [Addr.add_lit, Nat.zero_add, cell_of_row w g j _ e (0, 0) hlg]
        rw [← hct, List.getElem?_take] at hv
        split at hv
        · simpa using hv
        · cases hv
      have hrun := run_append_grow (P := P) w t ty e i z hsl.ok hi hiz ⟨g, 0, none⟩ m cap xs (by rw [his]; exact hxl) holds ⟨bl, off, none⟩ m' cq news (by rw [his]; exact hnl) hnews (by omega) (by omega) (by rw [hib]; exact growslice_fits (by omega) hb)
      refine ⟨_, _, _, _, hrun, grown cap, ?_⟩
      rw [toL]
      exact alloc' _
end ops

/-! ### Rows of equal width -/
section rows
variable {α : Type} {f : α → List Value} {k : Nat} {l : List α} {sp : List Value} {i : Nat} {a : α}
def flat (f : α → List Value) (l : List α) : List Value := (l.map f).flatten
theorem flat_length (hf : ∀ a, (f a).length = k) : (flat f l).length = l.length * k := by
  induction l with
  | nil => simp [flat]
  | cons b l ih => simp only [flat, List.map_cons, List.flatten_cons, List.length_append, hf, List.length_cons] at ih ⊢; rw [ih, Nat.add_mul, Nat.add_comm]; simp
theorem flat_split (hi : l[i]? = some a) : flat f l = flat f (l.take i) ++ (f a ++ flat f (l.drop (i + 1))) := by
  have hlt := (List.getElem?_eq_some_iff.1 hi).1
  have he := (List.getElem?_eq_some_iff.1 hi).2
  have : l = l.take i ++ a :: l.drop (i + 1) := by rw [← he, List.getElem_cons_drop, List.take_append_drop]
  conv => lhs; rw [this]
  simp [flat]
theorem flat_take_length (hf : ∀ a, (f a).length = k) (hi : l[i]? = some a) : (flat f (l.take i)).length = i * k := by
  rw [flat_length hf, List.length_take, Nat.min_eq_left (Nat.le_of_lt (List.getElem?_eq_some_iff.1 hi).1)]
theorem flat_drop (hf : ∀ a, (f a).length = k) (hi : l[i]? = some a) : (flat f l ++ sp).drop (i * k) = f a ++ (flat f (l.drop (i + 1)) ++ sp) := by
  rw [flat_split hi, List.append_assoc, ← flat_take_length hf hi, List.drop_left]
  simp only [List.append_assoc]
theorem flat_get {j : Nat} {v : Value} (hf : ∀ a, (f a).length = k) (hi : l[i]? = some a) (hv : (f a)[j]? = some v) : (flat f l ++ sp)[i * k + j]? = some v := by
  have hj := (List.getElem?_eq_some_iff.1 hv).1
  rw [← List.getElem?_drop, flat_drop hf hi, List.getElem?_append_left hj]
  exact hv
theorem flat_get0 {v : Value} (hf : ∀ a, (f a).length = k) (hi : l[i]? = some a) (hv : (f a)[0]? = some v) : (flat f l ++ sp)[i * k]? = some v := flat_get (j := 0) hf hi hv
theorem flat_seg {j m : Nat} (hf : ∀ a, (f a).length = k) (hi : l[i]? = some a) (hm : j + m ≤ k) : seg (flat f l ++ sp) (i * k + j) m = seg (f a) j m := by
  unfold seg
  rw [← List.drop_drop, flat_drop hf hi, List.drop_append_of_le_length (by rw [hf]; omega), List.take_append_of_le_length (by rw [List.length_drop, hf]; omega)]
theorem flat_row (hf : ∀ a, (f a).length = k) (hi : l[i]? = some a) : seg (flat f l ++ sp) (i * k) k = f a := by
  have := flat_seg (j := 0) (m := k) (sp := sp) hf hi (by omega)
  rw [Nat.add_zero] at this
  rw [this]; simp [seg, ← hf a]
theorem flat_put {j : Nat} {vs : List Value} {a' : α} (hf : ∀ a, (f a).length = k) (hi : l[i]? = some a) (hm : j + vs.length ≤ k) (ha : f a' = putL (f a) j vs) :
    putL (flat f l ++ sp) (i * k + j) vs = flat f (l.set i a') ++ sp := by
  have hlt := (List.getElem?_eq_some_iff.1 hi).1
  have hset : (l.set i a')[i]? = some a' := by simp [hlt]
  have h1 : flat f (l.set i a') = flat f (l.take i) ++ (f a' ++ flat f (l.drop (i + 1))) := by
    rw [flat_split hset, List.take_set_of_le (Nat.le_refl i), List.drop_set_of_lt (Nat.lt_succ_self i)]
  rw [h1, ha, flat_split hi]
  have ht := flat_take_length hf hi
  have hfa := hf a
  simp only [putL]
  simp only [List.append_assoc]
  rw [List.take_append, List.drop_append, ← ht]
  have e1 : (flat f (l.take i)).take ((flat f (l.take i)).length + j) = flat f (l.take i) := List.take_of_length_le (by omega)
  have e2 : (flat f (l.take i)).drop ((flat f (l.take i)).length + j + vs.length) = [] := List.drop_of_length_le (by omega)
  rw [e1, e2, Nat.add_sub_cancel_left, show (flat f (l.take i)).length + j + vs.length - (flat f (l.take i)).length = j + vs.length from by omega]
  rw [List.take_append_of_le_length (by omega), List.drop_append_of_le_length (by omega)]
  simp [List.append_assoc]
theorem flat_set {j : Nat} {v : Value} {a' : α} (hf : ∀ a, (f a).length = k) (hi : l[i]? = some a) (hj : j < k) (ha : f a' = (f a).set j v) :
    (flat f l ++ sp).set (i * k + j) v = flat f (l.set i a') ++ sp := by
  have h := flat_put (j := j) (sp := sp) (vs := [v]) (a' := a') hf hi (by simp; omega) (by
    rw [ha, List.set_eq_take_append_cons_drop, if_pos (by rw [hf]; exact hj)]; simp [putL])
  have hlt := (List.getElem?_eq_some_iff.1 hi).1
  have hlen : i * k + j < (flat f l ++ sp).length := by
    rw [List.length_append, flat_length hf]
    have : (i + 1) * k ≤ l.length * k := Nat.mul_le_mul_right _ hlt
    rw [Nat.add_mul] at this; omega
  rw [← h, List.set_eq_take_append_cons_drop, if_pos hlen]; simp [putL]
theorem flat_row' (hf : ∀ a, (f a).length = k) (hi : l[i]? = some a) : seg (flat f l) (i * k) k = f a := by
  have := flat_row (sp := []) hf hi; rwa [List.append_nil] at this
theorem flat_get' {j : Nat} {v : Value} (hf : ∀ a, (f a).length = k) (hi : l[i]? = some a) (hv : (f a)[j]? = some v) : (flat f l)[i * k + j]? = some v := by
  have := flat_get (sp := []) hf hi hv; rwa [List.append_nil] at this
theorem flat_get0' {v : Value} (hf : ∀ a, (f a).length = k) (hi : l[i]? = some a) (hv : (f a)[0]? = some v) : (flat f l)[i * k]? = some v := flat_get' (j := 0) hf hi hv
theorem flat_lt {j : Nat} (hf : ∀ a, (f a).length = k) (hi : l[i]? = some a) (hj : j < k) : i * k + j < (flat f l ++ sp).length := by
  have hlt := (List.getElem?_eq_some_iff.1 hi).1
  rw [List.length_append, flat_length hf]
  have : (i + 1) * k ≤ l.length * k := Nat.mul_le_mul_right _ hlt
  rw [Nat.add_mul] at this; omega
theorem flat_append (l l' : List α) : flat f (l ++ l') = flat f l ++ flat f l' := by simp [flat]
theorem flat_one (a : α) : flat f [a] = f a := by simp [flat]
end rows
section ops2
variable {ty : TypeId} {pos : String} {af : Array Edge} {gd : Option (Nat × Bool)} {Q : Exit → Act → World → Prop} {K : Act → World → Prop}
variable {x y s : Operand} {t u e : TypeId} {d : Option Tmp} {q0 : Tmp}
/-- An index that is a natural number, into a slice from its block's head on. -/
theorem qf_indexAddr_nat {agg : Bool} {size bytes : Nat} {zero : List Value} [h : SliceI P t e] [he : TyI P e agg size bytes zero] {bl len cap : Nat} {ik : IntKind} {i : Nat}
    (hx : ev σ x = some (.slice (some ⟨bl, 0, none⟩) len cap)) (hy : ev σ y = some (.int ik (i : Int))) (h1 : i < len) {v : Value} (hv : v = .pointer (some ⟨bl, i * size, none⟩)) :
    QF P n D σ G ⟨d, .indexAddr t x y, ty, pos, af, gd⟩ v := by
  refine qf_indexAddr_slice hx hy (by omega) (by omega) ?_
  rw [hv]; simp
theorem qf_indexAddr_natoff {agg : Bool} {size bytes : Nat} {zero : List Value} [h : SliceI P t e] [he : TyI P e agg size bytes zero] {bl off len cap : Nat} {ik : IntKind} {i : Nat}
    (hx : ev σ x = some (.slice (some ⟨bl, off, none⟩) len cap)) (hy : ev σ y = some (.int ik (i : Int))) (h1 : i < len) {v : Value} (hv : v = .pointer (some ⟨bl, off + i * size, none⟩)) :
    QF P n D σ G ⟨d, .indexAddr t x y, ty, pos, af, gd⟩ v := by
  refine qf_indexAddr_slice hx hy (by omega) (by omega) ?_
  rw [hv]; simp
end ops2
theorem HT.perm {K : Act → World → Prop} (G' : List Fr) (hp : G.Perm G') (h : HT c K n D σ G') : HT c K n D σ G := fun a w ht hs => h a w ht (hs.perm hp)
theorem HT.flat {K : Act → World → Prop} (G' : List Fr) (hp : G.flatten = G'.flatten) (h : HT c K n D σ G') : HT c K n D σ G := fun a w ht hs => h a w ht (by unfold Sep at *; rw [← hp]; exact hs)

/-! ### Elements of an owned slice -/
def pb : Option Addr → Nat
  | some a => a.block
  | none => 0
class MemL (L : Fr) (G : List Fr) : Prop where
  ok : L ∈ G
instance (priority := 200) memLHere {L : Fr} {G : List Fr} : MemL L (L :: G) := ⟨by simp⟩
instance (priority := 100) memLThere {L g : Fr} {G : List Fr} [h : MemL L G] : MemL L (g :: G) := ⟨by simp [h.ok]⟩
section ops3
variable {ty : TypeId} {pos : String} {af : Array Edge} {gd : Option (Nat × Bool)} {x y : Operand} {t e : TypeId} {d : Option Tmp}
theorem qf_indexAddr_own {agg : Bool} {size bytes m cap i : Nat} {zero xs : List Value} {p : Option Addr} {L : Fr} {ik : IntKind} [h : SliceI P t e] [he : TyI P e agg size bytes zero]
    (hx : ev σ x = some (.slice p m cap)) (hO : OwnS e size p m cap xs L) (hy : ev σ y = some (.int ik (i : Int))) (h1 : i < m) {v : Value} (hv : v = .pointer (some ⟨pb p, i * size, none⟩)) :
    QF P n D σ G ⟨d, .indexAddr t x y, ty, pos, af, gd⟩ v := by
  obtain ⟨_, _, _, h4⟩ := hO
  rcases h4 with ⟨_, h0, _, _⟩ | ⟨g, cur, rfl, _, _, _⟩
  · omega
  · exact qf_indexAddr_nat hx hy h1 hv
theorem OwnS.look {size m cap : Nat} {xs : List Value} {p : Option Addr} {L : Fr} (hO : OwnS e size p m cap xs L) (hm : 0 < m) (hL : MemL L G) : ∃ cur, p = some ⟨pb p, 0, none⟩ ∧ Look G (pb p) (.cells (List.toArray cur) e (0, 0)) ∧ cur.take (m * size) = xs := by
  obtain ⟨_, _, _, h4⟩ := hO
  rcases h4 with ⟨_, h0, _, _⟩ | ⟨g, cur, rfl, rfl, _, ht⟩
  · omega
  · exact ⟨cur, rfl, ⟨pt g (.cells cur.toArray e (0, 0)), List.mem_flatten.2 ⟨_, hL.ok, by simp⟩, by simp [pt, pb]⟩, ht⟩
theorem qf_load1_own {size bytes : Nat} {zero : List Value} [h : TyI P t false size bytes zero] {es m cap off : Nat} {xs : List Value} {p : Option Addr} {L : Fr} {v : Value}
    (hx : ev σ x = some (.pointer (some ⟨pb p, off, none⟩))) (hO : OwnS e es p m cap xs L) [hL : MemL L G] (hv : xs[off]? = some v) : QF P n D σ G ⟨d, .load t x, ty, pos, af, gd⟩ v := by
  have hlt := (List.getElem?_eq_some_iff.1 hv).1
  have hm : 0 < m := by rcases Nat.eq_zero_or_pos m with h0 | h0; (have := hO.1; rw [h0] at this; simp at this; rw [this] at hlt; cases hlt); exact h0
  obtain ⟨cur, _, hl, ht⟩ := hO.look hm hL
  haveI := hl
  refine qf_load1 (cs := cur) hx ?_
  rw [← ht, List.getElem?_take] at hv
  split at hv
  · exact hv
  · cases hv
theorem qf_loadN_own {size bytes : Nat} {zero : List Value} [h : TyI P t true size bytes zero] {es m cap off : Nat} {xs vs : List Value} {p : Option Addr} {L : Fr}
    (hx : ev σ x = some (.pointer (some ⟨pb p, off, none⟩))) (hO : OwnS e es p m cap xs L) [hL : MemL L G] (hs : Nat.blt 0 size = true) (hv : seg xs off size = vs) (hlen : vs.length = size) : QF P n D σ G ⟨d, .load t x, ty, pos, af, gd⟩ (.agg vs.toArray) := by
  have hsz : 0 < size := Nat.le_of_ble_eq_true hs
  have hxl : off + size ≤ xs.length := by
    rw [← hv] at hlen
    simp only [seg, List.length_take, List.length_drop] at hlen
    omega
  have hm : 0 < m := by rcases Nat.eq_zero_or_pos m with h0 | h0; (have := hO.1; rw [h0] at this; simp at this; rw [this] at hxl; simp at hxl; omega); exact h0
  obtain ⟨cur, _, hl, ht⟩ := hO.look hm hL
  haveI := hl
  refine qf_loadN (cs := cur) hx ?_ hlen
  rw [← hv, ← ht]
  have hlt : xs.length ≤ m * es := by rw [hO.1]; exact Nat.le_refl _
  simp only [seg]
  rw [List.drop_take, List.take_take, Nat.min_eq_left (by omega)]
end ops3
theorem Ct.frame {k : FuncId} {args : Array Value} {pre : List Fr} {Φ : Value → List Fr → Prop} (h : Ct P k args pre Φ) (X : List Fr) : Ct P k args (pre ++ X) (fun v post => ∃ p0, Φ v p0 ∧ post = p0 ++ X) := by
  intro c w F hs
  refine (h c w (X ++ F) (by rw [← List.append_assoc]; exact hs)).mono ?_
  rintro e w' ⟨v, post, rfl, hΦ, hsep⟩
  exact ⟨v, post ++ X, rfl, ⟨post, hΦ, rfl⟩, by rw [List.append_assoc]; exact hsep⟩

theorem Ent.consNil : Ent G ([] :: G) := fun _ _ h => h
theorem Look.mono {G' : List Fr} {b : Nat} {o : Obj} (h : Look G b o) (hs : ∀ g ∈ G, g ∈ G') : Look G' b o := by
  obtain ⟨f, hf, hb⟩ := h.ok
  obtain ⟨r, hr1, hr2⟩ := List.mem_flatten.1 hf
  exact ⟨f, List.mem_flatten.2 ⟨r, hs r hr1, hr2⟩, hb⟩
theorem RdS.mono {G' : List Fr} {q : Option Addr} {k : Nat} {news : List Value} (h : RdS G q k news) (hs : ∀ g ∈ G, g ∈ G') : RdS G' q k news := by
  refine ⟨h.1, h.2.imp id ?_⟩
  rintro ⟨bl, off, cs, T, fz, hq, hl, hseg⟩
  exact ⟨bl, off, cs, T, fz, hq, hl.mono hs, hseg⟩
theorem RdS.mem {L : Fr} {q : Option Addr} {k : Nat} {news : List Value} (h : RdS [L] q k news) [hm : MemL L G] : RdS G q k news := h.mono (by simpa using hm.ok)
/-- A row's element that can be read. -/
theorem RdS.at {q : Option Addr} {k : Nat} {news : List Value} (h : RdS G q k news) {i : Nat} (hi : i < k) : ∃ bl off cs T fz, q = some ⟨bl, off, Option.none⟩ ∧ Look G bl (.cells (List.toArray cs) T fz) ∧ cs[off + i]? = news[i]? ∧ i < news.length := by
  obtain ⟨hl, h2⟩ := h
  rcases h2 with h0 | ⟨bl, off, cs, T, fz, hq, hlk, hseg⟩
  · omega
  · refine ⟨bl, off, cs, T, fz, hq, hlk, ?_, by omega⟩
    rw [← hseg]
    simp only [seg, List.getElem?_take, if_pos hi, List.getElem?_drop]

section ops4
variable {ty : TypeId} {pos : String} {af : Array Edge} {gd : Option (Nat × Bool)} {Q : Exit → Act → World → Prop} {K : Act → World → Prop} {x s : Operand} {t e : TypeId} {q0 : Tmp}
theorem ht_app {agg : Bool} {size bytes : Nat} {zero : List Value} [SliceI P t e] [TyI P e agg size bytes zero] {p : Option Addr} {m cap : Nat} {xs : List Value} {L : Fr} {C : Fr → List Fr} {q : Option Addr} {m' cq : Nat} {news : List Value}
    (hs : ev σ s = some (.slice p m cap)) (hx : ev σ x = some (.slice q m' cq)) (ho : OwnS e size p m cap xs L) (hr : RdS G q (m' * size) news) [Plug G L C] (h1 : news.all (·.oneCell') = true)
    (hsm : m + m' ≤ 1000000) (hby : Nat.ble bytes 100000000 = true) (hsz : Nat.blt 0 size = true) (hz : zero.length = size) (hd : Nat.blt q0 n = true)
    (h : ∀ p' cap' L', OwnS e size p' (m + m') cap' (xs ++ news) L' → HT c K n D ((q0, .slice p' (m + m') cap') :: σ) (C L')) :
    HT c (OpW P ⟨some q0, .call { callee := .builtin .append, args := #[s, x], argTypes := #[t, t] }, ty, pos, af, gd⟩ K Q) n D σ G := by
  have hb := Nat.le_of_ble_eq_true hby
  have := Nat.mul_le_mul hsm hb
  exact ht_append hs hx ho hr (fun u hu => List.all_eq_true.1 h1 u hu) (by omega) (by simp only [maxLen]; omega) hsz hz hd h
end ops4
theorem ht_drawE {Q : Exit → Act → World → Prop} {l : List Oper} {id : Nat} (hm : P.follows .mixedOrders = true) (tail : List Nat) (e : List Nat) {R : List Fr} (_hR : rests G e = R) {listed : Array Bool} (hl : Array.replicate l.length false = listed) {m : Nat} (hsz : l.length = m) (h : HT c (anyT P l.toArray Q (Hd R) tail m listed) n D σ G) : HT c (CW P (Code.region id l.toArray true) Q) n D σ G := ht_draw hm R tail hl hsz h
theorem Ent.flat {G' : List Fr} (h : G.flatten = G'.flatten) : Ent G G' := fun _ _ hs => by unfold Sep at *; rw [← h]; exact hs
theorem Ent.trans {A B C : List Fr} (h : Ent A B) (k : Ent B C) : Ent A C := fun c w hs => k c w (h c w hs)
theorem OwnS.row {e : TypeId} {size m cap : Nat} {xs : List Value} {p : Option Addr} {L : Fr} (h : OwnS e size p m cap xs L) (hm : 0 < m) : ∃ g sp, p = some ⟨g, 0, none⟩ ∧ L = blk g (.cells (List.toArray (xs ++ sp)) e (0, 0)) := by
  obtain ⟨_, _, _, h4⟩ := h
  rcases h4 with ⟨_, h0, _, _⟩ | ⟨g, cur, rfl, rfl, _, ht⟩
  · omega
  · exact ⟨g, cur.drop (m * size), rfl, by rw [← ht, List.take_append_drop]⟩
theorem OwnS.upd {e : TypeId} {size m cap : Nat} {xs xs' : List Value} {g : Nat} {sp : List Value} (h : OwnS e size (some ⟨g, 0, none⟩) m cap xs (blk g (.cells (List.toArray (xs ++ sp)) e (0, 0)))) (hm : 0 < m) (hl : xs'.length = xs.length) : OwnS e size (some ⟨g, 0, none⟩) m cap xs' (blk g (.cells (List.toArray (xs' ++ sp)) e (0, 0))) := by
  obtain ⟨h1, h2, h3, h4⟩ := h
  refine ⟨by rw [hl]; exact h1, h2, h3, ?_⟩
  rcases h4 with ⟨hp, _, _, _⟩ | ⟨g', cur, hg, hL, hc, ht⟩
  · cases hp
  · right
    cases hg
    have e1 : xs ++ sp = cur := by
      have := congrFun (List.cons.inj hL).1 g
      simp [pt] at this
      exact this
    refine ⟨g, xs' ++ sp, rfl, rfl, ?_, ?_⟩
    · rw [← hc, ← e1, List.length_append, List.length_append, hl]
    · rw [← h1, ← hl]; exact List.take_left
end Go.Eng
