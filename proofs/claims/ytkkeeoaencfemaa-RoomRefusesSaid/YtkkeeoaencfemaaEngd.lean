/- The engine, fourth part: operations that make or write memory, calls, returns. No premise; lemmas only. -/
import Derived.Test.YtkkeeoaencfemaaEngc
namespace Go.Eng
variable {P : Program} {c : World} {n : Nat} {D : List Deferred} {σ : List (Nat × Value)} {G : List Fr}

def evs (σ : List (Nat × Value)) : List Operand → Option (List Value)
  | [] => some []
  | x :: r => match ev σ x with
    | some v => match evs σ r with
      | some vs => some (v :: vs)
      | none => none
    | none => none
def evps (σ : List (Nat × Value)) : List (Nat × Operand) → Option (List (Nat × Value))
  | [] => some []
  | x :: r => match ev σ x.2 with
    | some v => match evps σ r with
      | some vs => some ((x.1, v) :: vs)
      | none => none
    | none => none
theorem Tm.evs {a : Act} (h : Tm n D σ a) : ∀ {xs : List Operand} {vs : List Value}, Eng.evs σ xs = some vs → xs.map a.eval = vs
  | [], vs, hx => by cases hx; rfl
  | x :: r, vs, hx => by
    simp only [Eng.evs] at hx
    split at hx
    · rename_i v hv
      split at hx
      · rename_i us hus
        cases hx
        rw [List.map_cons, h.ev hv, h.evs hus]
      · cases hx
    · cases hx
theorem Tm.evps {a : Act} (h : Tm n D σ a) : ∀ {xs : List (Nat × Operand)} {vs : List (Nat × Value)}, Eng.evps σ xs = some vs → xs.map (fun p => (p.1, a.eval p.2)) = vs
  | [], vs, hx => by cases hx; rfl
  | x :: r, vs, hx => by
    simp only [Eng.evps] at hx
    split at hx
    · rename_i v hv
      split at hx
      · rename_i us hus
        cases hx
        rw [List.map_cons, h.ev hv, h.evps hus]
      · cases hx
    · cases hx
theorem map_of_evs {a : Act} (h : Tm n D σ a) {xs : Array Operand} {vs : List Value} (hx : evs σ xs.toList = some vs) : xs.map a.eval = vs.toArray := by
  apply Array.toList_inj.1
  rw [Array.toList_map, h.evs hx]
theorem map_of_evps {a : Act} (h : Tm n D σ a) {xs : Array (Nat × Operand)} {vs : List (Nat × Value)} (hx : evps σ xs.toList = some vs) : (xs.map fun (i, x) => (i, a.eval x)) = vs.toArray := by
  apply Array.toList_inj.1
  rw [Array.toList_map, ← h.evps hx]

def putL (cs : List Value) (off : Nat) (vs : List Value) : List Value := cs.take off ++ vs ++ cs.drop (off + vs.length)
def fillL (place : Nat → Option (Nat × Nat)) : List Value → List (Nat × Value) → Option (List Value)
  | cs, [] => some cs
  | cs, (i, v) :: r => match place i with
    | none => none
    | some (off, size) => bif v.cells.size == size && Nat.ble (off + size) cs.length then fillL place (putL cs off v.cells.toList) r else none
theorem foldl_put (vs : List Value) : ∀ (k off : Nat) (cs : Array Value), off + k + vs.length ≤ cs.size →
    (vs.zipIdx k).foldl (fun cs (p : Value × Nat) => cs.setIfInBounds (off + p.2) p.1) cs = (putL cs.toList (off + k) vs).toArray := by
  induction vs with
  | nil => intro k off cs _; simp [putL]
  | cons v vs ih =>
    intro k off cs h
    simp only [List.zipIdx_cons, List.foldl_cons]
    simp only [List.length_cons] at h
    rw [ih (k + 1) off (cs.setIfInBounds (off + k) v) (by simp; omega)]
    congr 1
    simp only [putL, Array.toList_setIfInBounds]
    have e := list_seg_step cs.toList (off + k) v vs (by simp; omega)
    simpa [Nat.add_assoc, Nat.add_comm, Nat.add_left_comm] using e
theorem fill_eq (place : Nat → Option (Nat × Nat)) : ∀ (ps : List (Nat × Value)) (cs cs' : List Value), fillL place cs ps = some cs' → Instr.fill place cs.toArray ps = some cs'.toArray
  | [], cs, cs', h => by simp only [fillL, Option.some.injEq] at h; subst h; rfl
  | (i, v) :: r, cs, cs', h => by
    simp only [fillL] at h
    unfold Instr.fill
    cases hp : place i with
    | none => simp [hp] at h
    | some os =>
      obtain ⟨off, size⟩ := os
      simp only [hp] at h ⊢
      cases hb : (v.cells.size == size && Nat.ble (off + size) cs.length) with
      | false => simp [hb] at h
      | true =>
        simp only [hb, cond_true] at h
        simp only [Bool.and_eq_true, beq_iff_eq] at hb
        have hle := Nat.le_of_ble_eq_true hb.2
        rw [if_neg (by simp [hb.1]; omega)]
        have hz : v.cells.zipIdx.foldl (fun cs (x : Value × Nat) => cs.setIfInBounds (off + x.2) x.1) cs.toArray = (putL cs off v.cells.toList).toArray := by
          have := foldl_put v.cells.toList 0 off cs.toArray (by simp [hb.1]; omega)
          simp only [Nat.add_zero] at this
          rw [← this, ← Array.foldl_toList, Array.toList_zipIdx]
        rw [hz]
        exact fill_eq place r _ _ h

section ops
variable {d : Option Tmp} {ty : TypeId} {pos : String} {af : Array Edge} {gd : Option (Nat × Bool)} {Q : Exit → Act → World → Prop} {K : Act → World → Prop}
variable {x y : Operand} {t u : TypeId}

theorem run_places {fs : Array Field} (hall : fs.all (fun f => (P.info? f.type).isSome) = true) (w : World) :
    (fs.mapM fun f => do pure (f.offset, ← sizeOf f.type) : Sem (Array (Nat × Nat))).run P w = .ok (offsOf P fs).toArray w := by
  have key : ∀ l : List Field, (∀ f ∈ l, (P.info? f.type).isSome = true) → (l.mapM fun f => do pure (f.offset, ← sizeOf f.type) : Sem (List (Nat × Nat))).run P w = .ok (l.map fun f => (f.offset, P.cellsOf f.type)) w := by
    intro l
    induction l with
    | nil => intro _; rfl
    | cons f l ih =>
      intro h
      have hf := h f (by simp)
      cases hi : P.info? f.type with
      | none => simp [hi] at hf
      | some i =>
        have := ih (fun g hg => h g (by simp [hg]))
        simp only [List.mapM_cons, Sem.run_bind, sizeOf, typeInfo, Sem.run_pure, run_program, hi, Result.andThen_ok]
        simp only [sizeOf, typeInfo] at this
        rw [this]
        simp [Program.cellsOf, hi]
  have h1 := key fs.toList (fun f hf => Array.all_eq_true_iff_forall_mem.1 hall f (by simpa using hf))
  rw [Array.mapM_eq_mapM_toList]
  simp only [Sem.run_map]
  rw [h1]
  rfl

theorem qf_build_struct {agg : Bool} {size bytes : Nat} {zero : List Value} {offs : List (Nat × Nat)} {parts : Array (Nat × Operand)} {pv : List (Nat × Value)} {cs : List Value} [h : StructI P t offs] [ht : TyI P t agg size bytes zero]
    (hp : evps σ parts.toList = some pv) (hf : fillL (fun i : Nat => offs[i]?) zero pv = some cs) : QF P n D σ G ⟨d, .build t parts, ty, pos, af, gd⟩ (.agg cs.toArray) := by
  intro _ htm w _
  obtain ⟨fs, hu, ho, hall⟩ := h.ok
  obtain ⟨z, hz, hzc⟩ := run_zeroValue ht w
  have hfill := fill_eq _ _ _ _ hf
  subst ho
  have hpl := run_places (P := P) hall w
  simp only [execOp, map_of_evps htm hp]
  simp only [Instr.build, Sem.run_bind, Sem.run_pure, hz, Result.andThen_ok, run_underlying hu, hpl, hzc]
  have hfn : (fun x : Nat => (offsOf P fs).toArray[x]?) = (fun i : Nat => (offsOf P fs)[i]?) := by funext i; simp
  rw [hfn, hfill]
  rfl
theorem qf_build_array {agg : Bool} {size bytes len : Nat} {zero : List Value} {e : TypeId} {agg' : Bool} {size' bytes' : Nat} {zero' : List Value} {parts : Array (Nat × Operand)} {pv : List (Nat × Value)} {cs : List Value}
    [h : ArrayI P t len e] [ht : TyI P t agg size bytes zero] [he : TyI P e agg' size' bytes' zero']
    (hp : evps σ parts.toList = some pv) (hf : fillL (fun i => some (i * size', size')) zero pv = some cs) : QF P n D σ G ⟨d, .build t parts, ty, pos, af, gd⟩ (.agg cs.toArray) := by
  intro _ htm w _
  obtain ⟨z, hz, hzc⟩ := run_zeroValue ht w
  have hfill := fill_eq _ _ _ _ hf
  simp only [execOp, map_of_evps htm hp]
  simp only [Instr.build, Sem.run_bind, Sem.run_pure, hz, Result.andThen_ok, run_underlying h.ok, run_sizeOf he, hzc]
  rw [hfill]
  rfl
theorem qf_makeFunc' {f : Fn} {fs cs : Array Operand} {vs us : List Value} (h1 : evs σ fs.toList = some vs) (h2 : evs σ cs.toList = some us) :
    QF P n D σ G ⟨d, .makeFunc f fs cs, ty, pos, af, gd⟩ (.func f vs.toArray us.toArray) := by
  intro a ht w _
  simp [execOp, map_of_evs ht h1, map_of_evs ht h2, Instr.makeFunc]

/-! new blocks -/
variable {q : Tmp}
theorem ht_new {ob : Obj} (hd : Nat.blt q n = true) {o : Oper} (hod : o.dst = some q) (hrun : ∀ a, Tm n D σ a → ∀ w, Hd G w → (execOp a.eval o).run P w = .ok (.value (.pointer (some ⟨w.heap.size, 0, none⟩))) (w.alloc ob))
    (h : ∀ b, HT c K n D ((q, .pointer (some ⟨b, 0, none⟩)) :: σ) (blk b ob :: G)) : HT c (OpW P o K Q) n D σ G := by
  intro a w ht hs
  unfold OpW Oper.wp
  rw [hrun a ht w hs.hd]
  show K (a.put o.dst _) _
  rw [hod]
  exact h w.heap.size _ _ (ht.put _ _ hd) (hs.alloc ob)
theorem ht_alloc {agg : Bool} {size bytes : Nat} {zero : List Value} [hi : TyI P t agg size bytes zero] (hd : Nat.blt q n = true)
    (h : ∀ b, HT c K n D ((q, .pointer (some ⟨b, 0, none⟩)) :: σ) (blk b (.cells zero.toArray t (0, 0)) :: G)) : HT c (OpW P ⟨some q, .alloc t, ty, pos, af, gd⟩ K Q) n D σ G := by
  refine ht_new hd rfl (fun a _ w _ => ?_) h
  obtain ⟨z, hz, hzc⟩ := run_zeroValue hi w
  simp only [execOp, Instr.alloc, Sem.run_bind, hz, Result.andThen_ok, newVar, newRow, run_newObj, Sem.run_pure, hzc]
  rfl
theorem ht_box {v : Value} (hd : Nat.blt q n = true) (he : ev σ x = some v)
    (h : ∀ b, HT c K n D ((q, .pointer (some ⟨b, 0, none⟩)) :: σ) (blk b (.cells v.cells t (0, 0)) :: G)) : HT c (OpW P ⟨some q, .box t x, ty, pos, af, gd⟩ K Q) n D σ G := by
  refine ht_new hd rfl (fun a ht w _ => ?_) h
  simp only [execOp, Instr.box, ht.ev he, Sem.run_bind, Result.andThen_ok, newVar, newRow, run_newObj, Sem.run_pure]
  rfl
theorem ht_box_agg {vs : List Value} (hd : Nat.blt q n = true) (he : ev σ x = some (.agg vs.toArray))
    (h : ∀ b, HT c K n D ((q, .pointer (some ⟨b, 0, none⟩)) :: σ) (blk b (.cells vs.toArray t (0, 0)) :: G)) : HT c (OpW P ⟨some q, .box t x, ty, pos, af, gd⟩ K Q) n D σ G := ht_box hd he h
def repL (zero : List Value) : Nat → List Value
  | 0 => []
  | k + 1 => zero ++ repL zero k
theorem ht_buildSlice {e : TypeId} {len : Nat} {agg : Bool} {size bytes : Nat} {zero : List Value} {parts : Array (Nat × Operand)} {pv : List (Nat × Value)} {cs : List Value} [hsl : SliceI P t e] [hi : TyI P e agg size bytes zero] (hd : Nat.blt q n = true)
    (hp : evps σ parts.toList = some pv) (hsmall : Nat.ble (len * size) 16777216 = true) (hz : zero.length = size)
    (hf : fillL (fun i => some (i * size, size)) (repL zero len) pv = some cs)
    (h : ∀ b, HT c K n D ((q, .slice (some ⟨b, 0, none⟩) len len) :: σ) (blk b (.cells cs.toArray e (0, 0)) :: G)) : HT c (OpW P ⟨some q, .buildSlice t len parts, ty, pos, af, gd⟩ K Q) n D σ G := by
  intro a w ht hs
  have hrun : (execOp a.eval ⟨some q, .buildSlice t len parts, ty, pos, af, gd⟩).run P w = .ok (.value (.slice (some ⟨w.heap.size, 0, none⟩) len len)) (w.alloc (.cells cs.toArray e (0, 0))) := by
    obtain ⟨z, hzv, hzc⟩ := run_zeroValue hi w
    have hle := Nat.le_of_ble_eq_true hsmall
    have hfill := fill_eq _ _ _ _ hf
    have hrep : ∀ (m : Nat), (List.range (m * size)).map (fun i => zero[i % size]!) = repL zero m := by
      intro m
      induction m with
      | zero => simp [repL]
      | succ m ih =>
        rw [Nat.succ_mul, Nat.add_comm, List.range_add, List.map_append, List.map_map]
        simp only [repL]
        have h2 : (fun i => zero[i % size]!) ∘ (fun x => size + x) = fun i => zero[i % size]! := by
          funext i; simp
        rw [h2, ih]
        congr 1
        apply List.ext_getElem
        · simp [hz]
        · intro i h1 h2
          simp only [List.getElem_map, List.getElem_range]
          have : i < size := by simpa using h1
          rw [Nat.mod_eq_of_lt this]
          simp [h2]
    have hcells : (Array.range (len * size)).map (fun i => (if len * size = 0 then (#[] : Array Value) else z.cells)[i % (if len * size = 0 then (#[] : Array Value) else z.cells).size]!) = (repL zero len).toArray := by
      apply Array.toList_inj.1
      by_cases h0 : len * size = 0
      · rw [← hrep len]; simp [h0]
      · rw [Array.toList_map, Array.toList_range, ← hrep len]
        simp only [if_neg h0, hzc, List.size_toArray, hz]
        simp
    simp only [execOp, map_of_evps ht hp]
    simp only [Instr.buildSlice, Sem.run_bind, run_underlying hsl.ok, Result.andThen_ok, run_sizeOf hi, Sem.run_pure]
    rw [if_neg (by omega)]
    by_cases h0 : len * size = 0
    · simp only [h0, if_true, Sem.run_pure, Result.andThen_ok, Sem.run_bind] at hcells ⊢
      rw [hcells, hfill]
      simp only [Sem.run_bind, newRow, run_newObj, Result.andThen_ok, Sem.run_pure]
      rfl
    · simp only [if_neg h0, Sem.run_bind, hzv, Result.andThen_ok, Sem.run_pure] at hcells ⊢
      rw [hcells, hfill]
      simp only [Sem.run_bind, newRow, run_newObj, Result.andThen_ok, Sem.run_pure]
      rfl
  unfold OpW Oper.wp
  rw [hrun]
  exact h w.heap.size _ _ (ht.put _ _ hd) (hs.alloc _)

/-! stores -/
theorem run_storeVar_row {t T : TypeId} {agg : Bool} {size bytes : Nat} {zero : List Value} (hi : TyI P t agg size bytes zero) {w : World} {bl off : Nat} {cs vs : List Value} {v : Value} (hv : v.cells = vs.toArray) (hsz : vs.length = size)
    (hb : w.heap[bl]? = some (.cells cs.toArray T (0, 0))) (hfit : off + vs.length ≤ cs.length) (h1 : ∀ u ∈ vs, u.oneCell' = true) :
    (storeVar t ⟨bl, off, none⟩ v).run P w = .ok () (w.setRow bl (putL cs off vs).toArray) := by
  have hst := run_storeCells_at P bl off T vs 0 cs.toArray w hb (by simpa using hfit) h1
  simp only [Nat.add_zero] at hst
  simp only [storeVar, Sem.run_bind, run_sizeOf hi, Result.andThen_ok, hv, List.size_toArray, hsz, ne_eq, not_true, if_false]
  simp only [hst]
  rfl
theorem ht_storeG {agg : Bool} {size bytes : Nat} {zero : List Value} [hi : TyI P t agg size bytes zero] {bl off : Nat} {cs vs cs' : List Value} {T : TypeId} {v : Value} {G' : List Fr} (hx : ev σ x = some (.pointer (some ⟨bl, off, none⟩))) (hy : ev σ y = some v)
    (hv : v.cells = vs.toArray) (hsz : vs.length = size) (hl : Look G bl (.cells cs.toArray T (0, 0))) (hput : putL cs off vs = cs') (hu : Upd G bl (.cells cs.toArray T (0, 0)) (.cells cs'.toArray T (0, 0)) G') (hfit : off + vs.length ≤ cs.length) (h1 : ∀ u ∈ vs, u.oneCell' = true)
    (h : HT c K n D (puts σ d undef) G') (hd : dstOk n d = true) : HT c (OpW P ⟨d, .store t x y, ty, pos, af, gd⟩ K Q) n D σ G := by
  intro a w ht hs
  have hb := hs.look hl
  have hst := run_storeVar_row hi hv hsz hb hfit h1
  unfold OpW Oper.wp
  simp only [execOp, ht.ev hx, ht.ev hy, Instr.storeAt, Instr.sureAddr, Sem.run_bind, Sem.run_pure, Result.andThen_ok, hst]
  refine h _ _ (ht.puts d undef hd) ?_
  subst hput
  exact hs.upd hu rfl rfl (setRow_heap w bl cs.toArray _ T _ hb) (fun k hk => setRow_other w bl k _ hk)
/-- A store of one cell. -/
theorem ht_store1 {size bytes : Nat} {zero : List Value} [hi : TyI P t false size bytes zero] {bl off : Nat} {cs : List Value} {T : TypeId} {v : Value} {G' : List Fr} (hx : ev σ x = some (.pointer (some ⟨bl, off, none⟩))) (hy : ev σ y = some v)
    [hl : Look G bl (.cells cs.toArray T (0, 0))] [hu : Upd G bl (.cells cs.toArray T (0, 0)) (.cells (cs.set off v).toArray T (0, 0)) G'] (hsz : size = 1) (hfit : Nat.blt off cs.length = true) (h1 : v.oneCell' = true)
    (h : HT c K n D σ G') : HT c (OpW P ⟨none, .store t x y, ty, pos, af, gd⟩ K Q) n D σ G := by
  have hlt : off < cs.length := Nat.le_of_ble_eq_true hfit
  refine ht_storeG (vs := [v]) (cs' := cs.set off v) hx hy (by cases v <;> first | rfl | cases h1) (by simp [hsz]) hl ?_ hu (by simp; omega) (by simpa using h1) h rfl
  simp only [putL, List.length_cons, List.length_nil]
  rw [List.set_eq_take_append_cons_drop, if_pos hlt]
  simp
theorem ht_store1p {size bytes : Nat} {zero : List Value} [TyI P t false size bytes zero] {bl off : Nat} {cs : List Value} {T : TypeId} {v : Value} {G' : List Fr} (hx : ev σ x = some (.pointer (some ⟨bl, off, none⟩))) (hy : ev σ y = some v)
    [Look G bl (.cells cs.toArray T (0, 0))] [Upd G bl (.cells cs.toArray T (0, 0)) (.cells (cs.set off v).toArray T (0, 0)) G'] (hsz : size = 1) (hfit : off < cs.length) (h1 : v.oneCell' = true)
    (h : HT c K n D σ G') : HT c (OpW P ⟨none, .store t x y, ty, pos, af, gd⟩ K Q) n D σ G := ht_store1 hx hy hsz (Nat.ble_eq_true_of_le hfit) h1 h
/-- A store of a whole block. -/
theorem ht_storeAll {agg : Bool} {size bytes : Nat} {zero : List Value} [hi : TyI P t agg size bytes zero] {bl : Nat} {cs vs : List Value} {T : TypeId} {G' : List Fr} (hx : ev σ x = some (.pointer (some ⟨bl, 0, none⟩))) (hy : ev σ y = some (.agg vs.toArray))
    [hl : Look G bl (.cells cs.toArray T (0, 0))] [hu : Upd G bl (.cells cs.toArray T (0, 0)) (.cells vs.toArray T (0, 0)) G'] (hsz : vs.length = size) (hlen : vs.length = cs.length) (h1 : vs.all (·.oneCell') = true)
    (h : HT c K n D σ G') : HT c (OpW P ⟨none, .store t x y, ty, pos, af, gd⟩ K Q) n D σ G :=
  ht_storeG (vs := vs) (cs' := vs) hx hy rfl hsz hl (by simp [putL, hlen]) hu (by omega) (fun u hu => List.all_eq_true.1 h1 u hu) h rfl
/-- A store of several cells into a part of a block. -/
theorem ht_storeN {agg : Bool} {size bytes : Nat} {zero : List Value} [hi : TyI P t agg size bytes zero] {bl off : Nat} {cs vs : List Value} {T : TypeId} {G' : List Fr} (hx : ev σ x = some (.pointer (some ⟨bl, off, none⟩))) (hy : ev σ y = some (.agg vs.toArray))
    [hl : Look G bl (.cells cs.toArray T (0, 0))] [hu : Upd G bl (.cells cs.toArray T (0, 0)) (.cells (putL cs off vs).toArray T (0, 0)) G'] (hsz : vs.length = size) (hlen : off + vs.length ≤ cs.length) (h1 : vs.all (·.oneCell') = true)
    (h : HT c K n D σ G') : HT c (OpW P ⟨none, .store t x y, ty, pos, af, gd⟩ K Q) n D σ G :=
  ht_storeG (vs := vs) (cs' := putL cs off vs) hx hy rfl hsz hl rfl hu hlen (fun u hu => List.all_eq_true.1 h1 u hu) h rfl

/-! calls -/
class FnI (P : Program) (k : FuncId) : Prop where
  ok : ∃ fn, P.funcs[k]? = some fn ∧ fn.body.isNone = false ∧ (fn.name == "runtime.NumGoroutine") = false
theorem call_run {f : Operand} {args : Array Operand} {argTypes : Array TypeId} {k : FuncId} {first captured : Array Value} {vs as : List Value} [hk : FnI P k] {a : Act} {w : World} (ht : Tm n D σ a)
    (hf : ev σ f = some (.func (.func k) first captured)) (hargs : evs σ args.toList = some vs) (has : first.toList ++ vs ++ captured.toList = as) :
    (execOp a.eval ⟨d, .call { callee := .value f, args, argTypes }, ty, pos, af, gd⟩).run P w = .ok (.enter k as.toArray) w := by
  obtain ⟨fn, hfn, hbody, hname⟩ := hk.ok
  simp only [execOp, resolve, ht.ev hf, Deferred.ofValue, Sem.run_bind, Sem.run_pure, Result.andThen_ok, invoke, callFunc, run_program, hfn, hname, Bool.false_eq_true, if_false, hbody, map_of_evs ht hargs]
  congr 2
  apply Array.toList_inj.1
  simp [← has]
theorem ht_call {f : Operand} {args : Array Operand} {argTypes : Array TypeId} {k : FuncId} {first captured : Array Value} {vs as : List Value} {pre : List Fr} {Φ : Value → List Fr → Prop} [hk : FnI P k] (is : List Nat)
    (hf : ev σ f = some (.func (.func k) first captured)) (hargs : evs σ args.toList = some vs) (has : first.toList ++ vs ++ captured.toList = as) (hct : Ct P k as.toArray pre Φ) (hfit : fitsL G is = true) (hpre : takes G is = pre) (hd : Nat.blt q n = true)
    (h : ∀ v post, Φ v post → HT c K n D ((q, v) :: σ) (post ++ rests G is)) : HT c (OpW P ⟨some q, .call { callee := .value f, args, argTypes }, ty, pos, af, gd⟩ K Q) n D σ G := by
  intro a w ht hs
  have hs' := hs.perm (perm_takesL is G hfit)
  rw [hpre] at hs'
  unfold OpW Oper.wp
  rw [call_run ht hf hargs has]
  refine (hct c w (rests G is) hs').mono ?_
  rintro e w' ⟨v, post, rfl, hΦ, hsep⟩
  exact h v post hΦ _ _ (ht.put q v hd) hsep
theorem ht_call0 {f : Operand} {args : Array Operand} {argTypes : Array TypeId} {k : FuncId} {first captured : Array Value} {vs as : List Value} {pre : List Fr} {Φ : Value → List Fr → Prop} [hk : FnI P k] (is : List Nat)
    (hf : ev σ f = some (.func (.func k) first captured)) (hargs : evs σ args.toList = some vs) (has : first.toList ++ vs ++ captured.toList = as) (hct : Ct P k as.toArray pre Φ) (hfit : fitsL G is = true) (hpre : takes G is = pre)
    (h : ∀ v post, Φ v post → HT c K n D σ (post ++ rests G is)) : HT c (OpW P ⟨none, .call { callee := .value f, args, argTypes }, ty, pos, af, gd⟩ K Q) n D σ G := by
  intro a w ht hs
  have hs' := hs.perm (perm_takesL is G hfit)
  rw [hpre] at hs'
  unfold OpW Oper.wp
  rw [call_run ht hf hargs has]
  refine (hct c w (rests G is) hs').mono ?_
  rintro e w' ⟨v, post, rfl, hΦ, hsep⟩
  exact h v post hΦ _ _ ht hsep
end ops

/-! returns -/
inductive Res (P : Program) (σ : List (Nat × Value)) (G : List Fr) : List ResultVar → List Value → Prop
  | nil : Res P σ G [] []
  | tmp {t : Nat} {v : Value} {rs : List ResultVar} {vs : List Value} : get σ t = some v → Res P σ G rs vs → Res P σ G (.tmp t :: rs) (v :: vs)
  | cell1 {a : Nat} {t : TypeId} {size bytes : Nat} {zero : List Value} {bl off : Nat} {cs : List Value} {T : TypeId} {fz : Nat × Nat} {v : Value} {rs : List ResultVar} {vs : List Value} : get σ a = some (.pointer (some ⟨bl, off, none⟩)) → TyI P t false size bytes zero → Look G bl (.cells cs.toArray T fz) → cs[off]? = some v →
      Res P σ G rs vs → Res P σ G (.cell a t :: rs) (v :: vs)
  | cellN {a : Nat} {t : TypeId} {size bytes : Nat} {zero : List Value} {bl : Nat} {cs : List Value} {T : TypeId} {fz : Nat × Nat} {rs : List ResultVar} {vs : List Value} : get σ a = some (.pointer (some ⟨bl, 0, none⟩)) → TyI P t true size bytes zero → Look G bl (.cells cs.toArray T fz) → cs.length = size →
      Res P σ G rs vs → Res P σ G (.cell a t :: rs) (.agg cs.toArray :: vs)
def single : List Value → Value
  | [v] => v
  | vs => .tuple vs.toArray
def resOf (tmps : Array Value) : ResultVar → Sem Value
  | .tmp t => pure (tmps.getD t undef)
  | .cell p t => do loadVar t (← asAddr (tmps.getD p undef))
theorem Res.run {rs : List ResultVar} {vs : List Value} (h : Res P σ G rs vs) {a : Act} {w : World} (ht : Tm n D σ a) (hd : Hd G w) :
    (rs.mapM (resOf a.tmps)).run P w = .ok vs w := by
  induction h with
  | nil => rfl
  | tmp hg _ ih =>
    have hv := ht.at_ _ _ hg
    simp only [List.mapM_cons, resOf, Sem.run_bind, Sem.run_pure, Result.andThen_ok, Array.getD_eq_getD_getElem?, hv, Option.getD_some, ih]
  | @cell1 p t size bytes zero bl off cs T fz v rs vs hg hi hl hc _ ih =>
    have hv := ht.at_ _ _ hg
    have hb := hd.look hl
    have hcell : w.cell? ⟨bl, off, none⟩ = some v := by rw [cell_of_row w bl off _ T fz hb]; simpa using hc
    have hload : (loadVar t ⟨bl, off, none⟩).run P w = .ok v w := by simp [loadVar, run_isAgg hi, hcell]
    simp only [List.mapM_cons, resOf, Sem.run_bind, Sem.run_pure, Result.andThen_ok, Array.getD_eq_getD_getElem?, hv, Option.getD_some, asAddr, hload, ih]
  | @cellN p t size bytes zero bl cs T fz rs vs hg hi hl hc _ ih =>
    have hv := ht.at_ _ _ hg
    have hb := hd.look hl
    have hr := run_loadCells_list (P := P) w ⟨bl, 0, none⟩ cs (fun j v hv => by
      rw [Addr.add_lit, Nat.zero_add, cell_of_row w bl j _ T fz hb]; simpa using hv)
    rw [hc] at hr
    have hload : (loadVar t ⟨bl, 0, none⟩).run P w = .ok (.agg cs.toArray) w := by
      simp [loadVar, run_isAgg hi, run_sizeOf hi, hr]
    simp only [List.mapM_cons, resOf, Sem.run_bind, Sem.run_pure, Result.andThen_ok, Array.getD_eq_getD_getElem?, hv, Option.getD_some, asAddr, hload, ih]
theorem run_results {fn : Func} {rs : List ResultVar} {vs : List Value} (hr : fn.results.toList = rs) (h : Res P σ G rs vs) {a : Act} {w : World} (ht : Tm n D σ a) (hd : Hd G w) : (results fn a.tmps).run P w = .ok (single vs) w := by
  have hrun := h.run ht hd
  unfold results
  rw [Array.mapM_eq_mapM_toList, hr]
  simp only [Sem.run_bind, Sem.run_map]
  have key : ∀ (f : ResultVar → Sem Value), (∀ x, f x = resOf a.tmps x) → (rs.mapM f).run P w = .ok vs w := fun f hf => by rw [funext hf]; exact hrun
  rw [key _ (fun x => by cases x <;> rfl)]
  simp only [Result.andThen_ok, Sem.run_pure]
  congr 1
  match vs with
  | [] => rfl
  | [v] => rfl
  | v :: u :: vs => simp [single]
theorem ht_return {fn : Func} {rs : List ResultVar} {vs : List Value} {Φ : Value → List Fr → Prop} {F : List Fr} (hr : fn.results = rs.toArray) (h : Res P σ G rs vs) (hp : ∃ post, Φ (single vs) post ∧ Ent G (post ++ F)) :
    HT c (EX (BP P fn c Φ F) .ret) n [] σ G := by
  intro a w ht hs
  obtain ⟨post, hΦ, hG⟩ := hp
  exact ⟨ht.defers, single vs, run_results (by rw [hr]) h ht hs.hd, single vs, post, rfl, hΦ, hG c w hs⟩
theorem ht_return_n {fn : Func} {rs : List ResultVar} {vs : List Value} {Φ : Value → List Fr → Prop} {F : List Fr} (hr : fn.results = rs.toArray) (h : Res P σ G rs vs) (hp : ∃ post, Φ (single vs) post ∧ Ent G (post ++ F)) :
    HT c (EX (BP P fn c Φ F) .normal) n [] σ G := by
  intro a w ht hs
  obtain ⟨post, hΦ, hG⟩ := hp
  exact ⟨ht.defers, single vs, run_results (by rw [hr]) h ht hs.hd, single vs, post, rfl, hΦ, hG c w hs⟩
end Go.Eng
