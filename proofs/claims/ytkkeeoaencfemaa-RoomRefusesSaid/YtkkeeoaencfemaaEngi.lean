/- The engine, ninth part: slices of slices, elements of array values, clear. No premise; lemmas only. -/
import Derived.Test.YtkkeeoaencfemaaEngh
namespace Go.Eng
variable {P : Program} {c : World} {n : Nat} {D : List Deferred} {σ : List (Nat × Value)} {G : List Fr}
variable {ty : TypeId} {pos : String} {af : Array Edge} {gd : Option (Nat × Bool)} {x y z : Operand} {t u e : TypeId} {d : Option Tmp} {Q : Exit → Act → World → Prop} {K : Act → World → Prop}

section slices
theorem add_none (a : Addr) (k : Nat) (h : a.spot = none) : a.add k = ⟨a.block, a.off + k, none⟩ := by
  obtain ⟨b, o, s⟩ := a; simp at h; subst h; exact Addr.add_lit b o k
variable {agg : Bool} {size bytes : Nat} {zero : List Value} {p : Option Addr} {bl off len cap : Nat} {ik ih im : IntKind} {lo hi mx : Nat}
theorem run_sliceG [h : SliceI P t e] [he : TyI P e agg size bytes zero] (w : World) {a : Option Addr} {l r m : Nat} {lo hi mx : Option Value} (hb : (Instr.sliceBounds true len cap lo hi mx).run P w = .ok (l, r, m) w) :
    (Instr.sliceAt t (.slice a len cap) lo hi mx).run P w = .ok (.slice (if m = l then a else a.map (·.add (l * size))) (r - l) (m - l)) w := by
  simp [Instr.sliceAt, Instr.slice, run_underlying h.ok, hb, run_sizeOf he]
/-- From a number on. -/
theorem qf_slice_l [h : SliceI P t e] [he : TyI P e agg size bytes zero] (hx : ev σ x = some (.slice (some ⟨bl, off, none⟩) len cap)) (hy : ev σ y = some (.int ik (lo : Int))) (h1 : lo ≤ len) (h2 : lo < cap) {v : Value} (hv : v = .slice (some ⟨bl, off + lo * size, none⟩) (len - lo) (cap - lo)) :
    QF P n D σ G ⟨d, .slice t x (some y) none none, ty, pos, af, gd⟩ v := by
  subst hv
  intro _ ht w _
  have hb : (Instr.sliceBounds true len cap (some (.int ik (lo : Int))) none none).run P w = .ok (lo, len, cap) w := by
    simp [Instr.sliceBounds, run_sliceBound, h1]
  simp only [execOp, Option.map_some, Option.map_none, ht.ev hx, ht.ev hy, Sem.run_bind, run_sliceG (e := e) w hb]
  rw [if_neg (by omega)]
  simp [Addr.add_lit]
/-- From a number on, up to another. -/
theorem qf_slice_lh [h : SliceI P t e] [he : TyI P e agg size bytes zero] (hx : ev σ x = some (.slice (some ⟨bl, off, none⟩) len cap)) (hy : ev σ y = some (.int ik (lo : Int))) (hz : ev σ z = some (.int ih (hi : Int))) (h1 : lo ≤ hi) (h2 : hi ≤ cap) (h3 : lo < cap) {v : Value} (hv : v = .slice (some ⟨bl, off + lo * size, none⟩) (hi - lo) (cap - lo)) :
    QF P n D σ G ⟨d, .slice t x (some y) (some z) none, ty, pos, af, gd⟩ v := by
  subst hv
  intro _ ht w _
  have hb : (Instr.sliceBounds true len cap (some (.int ik (lo : Int))) (some (.int ih (hi : Int))) none).run P w = .ok (lo, hi, cap) w := by
    simp [Instr.sliceBounds, run_sliceBound, h1, h2]
  simp only [execOp, Option.map_some, Option.map_none, ht.ev hx, ht.ev hy, ht.ev hz, Sem.run_bind, run_sliceG (e := e) w hb]
  rw [if_neg (by omega)]
  simp [Addr.add_lit]
/-- Up to a number. -/
theorem qf_slice_h [h : SliceI P t e] [he : TyI P e agg size bytes zero] (hx : ev σ x = some (.slice p len cap)) (hz : ev σ z = some (.int ih (hi : Int))) (h2 : hi ≤ cap) (hp : ∀ a, p = some a → a.spot = none) :
    QF P n D σ G ⟨d, .slice t x none (some z) none, ty, pos, af, gd⟩ (.slice p hi cap) := by
  intro _ ht w _
  have hb : (Instr.sliceBounds true len cap none (some (.int ih (hi : Int))) none).run P w = .ok (0, hi, cap) w := by
    simp [Instr.sliceBounds, run_sliceBound, h2]
  simp only [execOp, Option.map_some, Option.map_none, ht.ev hx, ht.ev hz, Sem.run_bind, run_sliceG (e := e) w hb]
  have : (if cap = 0 then p else p.map (·.add (0 * size))) = p := by
    split
    · rfl
    · cases p with
      | none => rfl
      | some a => simp [add_none a 0 (hp a rfl)]; have := hp a rfl; cases a; simp_all
  simp only [this]
  simp
def slp (p : Option Addr) (cap size : Nat) : Option Addr := if cap = 0 then p else p.map (·.add (0 * size))
theorem slp_some : slp (some ⟨bl, off, none⟩) cap size = some ⟨bl, off, none⟩ := by
  unfold slp; split
  · rfl
  · simp [Addr.add_lit]
theorem qf_slice_hG [h : SliceI P t e] [he : TyI P e agg size bytes zero] (hx : ev σ x = some (.slice p len cap)) (hz : ev σ z = some (.int ih (hi : Int))) (h2 : hi ≤ cap) :
    QF P n D σ G ⟨d, .slice t x none (some z) none, ty, pos, af, gd⟩ (.slice (slp p cap size) hi cap) := by
  intro _ ht w _
  have hb : (Instr.sliceBounds true len cap none (some (.int ih (hi : Int))) none).run P w = .ok (0, hi, cap) w := by
    simp [Instr.sliceBounds, run_sliceBound, h2]
  simp only [execOp, Option.map_some, Option.map_none, ht.ev hx, ht.ev hz, Sem.run_bind, run_sliceG (e := e) w hb]
  simp [slp]
theorem qf_slice_h0 [h : SliceI P t e] [he : TyI P e agg size bytes zero] (hx : ev σ x = some (.slice (some ⟨bl, off, none⟩) len cap)) (hz : ev σ z = some (.int ih (hi : Int))) (h2 : hi ≤ cap) :
    QF P n D σ G ⟨d, .slice t x none (some z) none, ty, pos, af, gd⟩ (.slice (some ⟨bl, off, none⟩) hi cap) := qf_slice_h hx hz h2 (by rintro a ⟨⟩; rfl)
end slices
theorem qf_min_nat {t' : TypeId} {a b : Nat} (hx : ev σ x = some (.int .i64 (a : Int))) (hy : ev σ y = some (.int .i64 (b : Int))) :
    QF P n D σ G ⟨d, .call { callee := .builtin .min, args := #[x, y], argTypes := #[t, t'] }, ty, pos, af, gd⟩ (.int .i64 ((min a b : Nat) : Int)) := by
  have := qf_min (P := P) (n := n) (D := D) (G := G) (d := d) (ty := ty) (pos := pos) (af := af) (gd := gd) (t := t) (t' := t') hx hy
  rwa [show (if (b : Int) < a then (b : Int) else a) = ((min a b : Nat) : Int) from by split <;> omega] at this
section arr
variable {size bytes len i : Nat} {zero vs us : List Value} {ik : IntKind} {v : Value}
theorem qf_index_arr1 [h : ArrayI P t len e] [he : TyI P e false size bytes zero] (hx : ev σ x = some (.agg vs.toArray)) (hy : ev σ y = some (.int ik (i : Int))) (h1 : i < len) (hv : vs[i * size]? = some v) :
    QF P n D σ G ⟨d, .index t x y, ty, pos, af, gd⟩ v := by
  intro _ ht w _
  simp [execOp, ht.ev hx, ht.ev hy, Instr.index, asIntOf, run_underlying h.ok, h1, run_sizeOf he, part, run_isAgg he, hv]
theorem qf_index_arrN [h : ArrayI P t len e] [he : TyI P e true size bytes zero] (hx : ev σ x = some (.agg vs.toArray)) (hy : ev σ y = some (.int ik (i : Int))) (h1 : i < len) (hv : seg vs (i * size) size = us) :
    QF P n D σ G ⟨d, .index t x y, ty, pos, af, gd⟩ (.agg us.toArray) := by
  subst hv
  intro _ ht w _
  simp [execOp, ht.ev hx, ht.ev hy, Instr.index, asIntOf, run_underlying h.ok, h1, run_sizeOf he, part, run_isAgg he, seg]
end arr
section clear
variable {agg : Bool} {size bytes bl off len cap : Nat} {zero cs zs : List Value} {T : TypeId} {G' : List Fr}
theorem zeroCells_rep (hz : zero.length = size) : ∀ (k : Nat), (Builtin.zeroCells zero.toArray k).toList = repL zero k := by
  intro m
  have e : (Builtin.zeroCells zero.toArray m).toList = (List.range (m * size)).map (fun i => zero[i % size]!) := by
    simp only [Builtin.zeroCells, Array.toList_map, Array.toList_range, List.size_toArray, hz]
    simp
  rw [e]
  clear e
  induction m with
  | zero => simp [repL]
  | succ m ih =>
    rw [Nat.succ_mul, Nat.add_comm, List.range_add, List.map_append, List.map_map]
    simp only [repL]
    have h2 : (fun i => zero[i % size]!) ∘ (fun x => size + x) = fun i => zero[i % size]! := by
      funext i; simp
    rw [h2, ih]
    congr 1
    apply List.ext_getElem
    · simp [hz]
    · intro i h1 h2
      simp only [List.getElem_map, List.getElem_range]
      have : i < size := by simpa using h1
      rw [Nat.mod_eq_of_lt this]
      simp [h2]
theorem repL_all {l : List Value} (h : l.all (·.oneCell') = true) : ∀ k, (repL l k).all (·.oneCell') = true
  | 0 => rfl
  | k + 1 => by simp only [repL, List.all_append, h, repL_all h k, Bool.and_self]
theorem ht_clear [h : SliceI P t e] [he : TyI P e agg size bytes zero] (hx : ev σ x = some (.slice (some ⟨bl, off, none⟩) len cap)) (hz : zero.length = size) (hn : 0 < len) (h1 : zero.all (·.oneCell') = true) (hl : Look G bl (.cells cs.toArray T (0, 0)))
    (hzs : repL zero len = zs) (hfit : off + zs.length ≤ cs.length) (hu : Upd G bl (.cells cs.toArray T (0, 0)) (.cells (putL cs off zs).toArray T (0, 0)) G')
    (hk : HT c K n D σ G') : HT c (OpW P ⟨none, .call { callee := .builtin .clear, args := #[x], argTypes := #[t] }, ty, pos, af, gd⟩ K Q) n D σ G := by
  intro a w ht hs
  subst hzs
  have hb := hs.look hl
  obtain ⟨z, hzv, hzc⟩ := run_zeroValue he w
  have hst := run_storeCells_at P bl off T (repL zero len) 0 cs.toArray w hb (by simpa using hfit) (fun v hv => List.all_eq_true.1 (repL_all h1 len) v hv)
  simp only [Nat.add_zero] at hst
  have hrun : (Builtin.clear_ #[t] ty #[.slice (some ⟨bl, off, none⟩) len cap]).run P w = .ok (.tuple #[]) (w.setRow bl (putL cs off (repL zero len)).toArray) := by
    obtain ⟨k, rfl⟩ : ∃ k, len = k + 1 := ⟨len - 1, by omega⟩
    simp only [Builtin.clear_, List.getElem?_toArray, List.getElem?_cons_zero, Sem.run_bind, run_underlying h.ok, Result.andThen_ok, hzv, hzc, zeroCells_rep hz, hst]
    rfl
  unfold OpW Oper.wp execOp
  simp only [resolve, invoke, builtin, Sem.run_bind, Sem.run_pure, Result.andThen_ok, List.map_toArray, List.map_cons, List.map_nil, ht.ev hx, hrun]
  exact hk _ _ (ht.none _) (hs.upd hu rfl rfl (setRow_heap w bl cs.toArray _ T _ hb) (fun k hk => setRow_other w bl k _ hk))
end clear
end Go.Eng
