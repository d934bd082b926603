/- The engine, third part: what is known of types; the operations that only look. No premise; lemmas only. -/
import Derived.Test.YtkkeeoaencfemaaEngb
namespace Go.Eng
variable {P : Program} {c : World} {n : Nat} {D : List Deferred} {σ : List (Nat × Value)} {G : List Fr}

def descAgg : TypeDesc → Bool
  | .struct _ | .array _ _ => true
  | _ => false
class TyI (P : Program) (t : TypeId) (agg : outParam Bool) (size : outParam Nat) (bytes : outParam Nat) (zero : outParam (List Value)) : Prop where
  desc : ∃ d, P.underlying t = some d ∧ descAgg d = agg
  info : ∃ i z, P.info? t = some i ∧ i.size = size ∧ i.bytes = bytes ∧ i.zero = some z ∧ z.cells = zero.toArray
def offsOf (P : Program) (fs : Array Field) : List (Nat × Nat) := fs.toList.map fun f => (f.offset, P.cellsOf f.type)
class StructI (P : Program) (t : TypeId) (offs : outParam (List (Nat × Nat))) : Prop where
  ok : ∃ fs, P.underlying t = some (.struct fs) ∧ offsOf P fs = offs ∧ fs.all (fun f => (P.info? f.type).isSome) = true
class SliceI (P : Program) (t : TypeId) (e : outParam TypeId) : Prop where
  ok : P.underlying t = some (.slice e)
class ArrayI (P : Program) (t : TypeId) (len : outParam Nat) (e : outParam TypeId) : Prop where
  ok : P.underlying t = some (.array len e)
class IntI (P : Program) (t : TypeId) (k : outParam IntKind) : Prop where
  ok : P.underlying t = some (.int k)
class StrI (P : Program) (t : TypeId) : Prop where
  ok : P.underlying t = some .string
class BoolI (P : Program) (t : TypeId) : Prop where
  ok : P.underlying t = some .bool

theorem run_isAgg {t : TypeId} {agg : Bool} {size bytes : Nat} {zero : List Value} (h : TyI P t agg size bytes zero) (w : World) : (isAgg t).run P w = .ok agg w := by
  obtain ⟨d, hd, ha⟩ := h.desc
  subst ha
  unfold isAgg
  rw [Sem.run_bind, run_underlying hd w]
  cases d <;> rfl
theorem run_sizeOf {t : TypeId} {agg : Bool} {size bytes : Nat} {zero : List Value} (h : TyI P t agg size bytes zero) (w : World) : (sizeOf t).run P w = .ok size w := by
  obtain ⟨i, z, hi, hs, _⟩ := h.info
  simp [sizeOf, typeInfo, hi, hs]
theorem run_zeroValue {t : TypeId} {agg : Bool} {size bytes : Nat} {zero : List Value} (h : TyI P t agg size bytes zero) (w : World) : ∃ z, (zeroValue t).run P w = .ok z w ∧ z.cells = zero.toArray := by
  obtain ⟨i, z, hi, _, _, hz, hc⟩ := h.info
  exact ⟨z, by simp [zeroValue, typeInfo, hi, hz], hc⟩
theorem run_typeInfo {t : TypeId} {agg : Bool} {size bytes : Nat} {zero : List Value} (h : TyI P t agg size bytes zero) (w : World) : ∃ i z, (typeInfo t).run P w = .ok i w ∧ i.size = size ∧ i.bytes = bytes ∧ i.zero = some z ∧ z.cells = zero.toArray := by
  obtain ⟨i, z, hi, hs, hb, hz, hc⟩ := h.info
  exact ⟨i, z, by simp [typeInfo, hi], hs, hb, hz, hc⟩

section ops
variable {d : Option Tmp} {ty : TypeId} {pos : String} {af : Array Edge} {gd : Option (Nat × Bool)}

theorem qf_move {x : Operand} {v : Value} (he : ev σ x = some v) : QF P n D σ G ⟨d, .move x, ty, pos, af, gd⟩ v := by
  intro a ht w _; simp only [execOp, ht.ev he]; rfl
theorem qf_assign {x : Operand} {v : Value} (he : ev σ x = some v) : QF P n D σ G ⟨d, .assign x, ty, pos, af, gd⟩ v := by
  intro a ht w _; simp only [execOp, ht.ev he]; rfl
theorem qf_pick_t {x y z : Operand} {v u : Value} (hc : ev σ x = some u) (hb : u = .bool true) (he : ev σ y = some v) : QF P n D σ G ⟨d, .pick x y z, ty, pos, af, gd⟩ v := by
  intro a ht w _; subst hb; simp [execOp, ht.ev he, ht.ev hc, asBool]
theorem qf_pick_f {x y z : Operand} {v u : Value} (hc : ev σ x = some u) (hb : u = .bool false) (he : ev σ z = some v) : QF P n D σ G ⟨d, .pick x y z, ty, pos, af, gd⟩ v := by
  intro a ht w _; subst hb; simp [execOp, ht.ev he, ht.ev hc, asBool]
theorem qf_nilCheck {x : Operand} {a : Addr} (he : ev σ x = some (.pointer (some a))) : QF P n D σ G ⟨d, .nilCheck x, ty, pos, af, gd⟩ (.pointer (some a)) := by
  intro a ht w _; simp [execOp, ht.ev he]
theorem qf_nilCheck_func {x : Operand} {f : FuncId} {fs cs : Array Value} (he : ev σ x = some (.func (.func f) fs cs)) : QF P n D σ G ⟨d, .nilCheck x, ty, pos, af, gd⟩ (.func (.func f) fs cs) := by
  intro a ht w _; simp [execOp, ht.ev he]
theorem qf_not {x : Operand} {t : TypeId} {b : Bool} (he : ev σ x = some (.bool b)) : QF P n D σ G ⟨d, .unOp .not t x, ty, pos, af, gd⟩ (.bool !b) := by
  intro a ht w _; simp [execOp, ht.ev he, Op.unary]
theorem qf_neg {x : Operand} {t : TypeId} {k : IntKind} {m : Int} (he : ev σ x = some (.int k m)) : QF P n D σ G ⟨d, .unOp .neg t x, ty, pos, af, gd⟩ (.int k (k.wrap (0 - m))) := by
  intro a ht w _; simp [execOp, ht.ev he, Op.unary, Op.intArith]
theorem qf_extract {x : Operand} {k : Nat} {vs : Array Value} {v : Value} (he : ev σ x = some (.tuple vs)) (hk : vs[k]? = some v) : QF P n D σ G ⟨d, .extract x k, ty, pos, af, gd⟩ v := by
  intro a ht w _; simp [execOp, ht.ev he, Instr.extract, hk]
theorem qf_makeFunc {f : Fn} {fs cs : Array Operand} {vs us : List Value} (h1 : fs.toList.map (ev σ) = vs.map some) (h2 : cs.toList.map (ev σ) = us.map some) :
    QF P n D σ G ⟨d, .makeFunc f fs cs, ty, pos, af, gd⟩ (.func f vs.toArray us.toArray) := by
  intro a ht w _
  have key : ∀ (xs : Array Operand) (vs : List Value), xs.toList.map (ev σ) = vs.map some → xs.map a.eval = vs.toArray := by
    intro xs vs h
    apply Array.toList_inj.1
    rw [Array.toList_map]
    revert h
    generalize xs.toList = l
    intro h
    induction l generalizing vs with
    | nil => cases vs <;> simp_all
    | cons x l ih =>
      cases vs with
      | nil => simp at h
      | cons v vs =>
        simp only [List.map_cons, List.cons.injEq] at h
        have := ih vs h.2
        simp only [List.map_cons, ht.ev h.1, this]
  simp [execOp, key fs vs h1, key cs us h2, Instr.makeFunc]

/-! integers -/
variable {x y : Operand} {t u : TypeId} {k : IntKind} {a b : Int}
theorem qf_add (hx : ev σ x = some (.int k a)) (hy : ev σ y = some (.int k b)) : QF P n D σ G ⟨d, .binOp .add t x y u, ty, pos, af, gd⟩ (.int k (k.wrap (a + b))) := by
  intro _ ht w _; simp [execOp, ht.ev hx, ht.ev hy, eqGuard_add, binOp_add, Op.intArith]
theorem qf_sub (hx : ev σ x = some (.int k a)) (hy : ev σ y = some (.int k b)) : QF P n D σ G ⟨d, .binOp .sub t x y u, ty, pos, af, gd⟩ (.int k (k.wrap (a - b))) := by
  intro _ ht w _; simp [execOp, ht.ev hx, ht.ev hy, eqGuard_sub, binOp_sub, Op.intArith]
theorem qf_mul (hx : ev σ x = some (.int k a)) (hy : ev σ y = some (.int k b)) : QF P n D σ G ⟨d, .binOp .mul t x y u, ty, pos, af, gd⟩ (.int k (k.wrap (a * b))) := by
  intro _ ht w _; simp [execOp, ht.ev hx, ht.ev hy, eqGuard_mul, binOp_mul, Op.intArith]
theorem qf_quo (hx : ev σ x = some (.int k a)) (hy : ev σ y = some (.int k b)) (hb : b ≠ 0) : QF P n D σ G ⟨d, .binOp .quo t x y u, ty, pos, af, gd⟩ (.int k (k.wrap (a.tdiv b))) := by
  intro _ ht w _; simp [execOp, ht.ev hx, ht.ev hy, eqGuard_quo, binOp_quo, Op.intDiv, hb]
theorem qf_rem (hx : ev σ x = some (.int k a)) (hy : ev σ y = some (.int k b)) (hb : b ≠ 0) : QF P n D σ G ⟨d, .binOp .rem t x y u, ty, pos, af, gd⟩ (.int k (a.tmod b)) := by
  intro _ ht w _; simp [execOp, ht.ev hx, ht.ev hy, eqGuard_rem, binOp_rem, Op.intDiv, hb]
theorem qf_lss (hx : ev σ x = some (.int k a)) (hy : ev σ y = some (.int k b)) : QF P n D σ G ⟨d, .binOp .lss t x y u, ty, pos, af, gd⟩ (.bool (decide (a < b))) := by
  intro _ ht w _; simp [execOp, ht.ev hx, ht.ev hy, eqGuard_lss, binOp_lss]
theorem qf_leq (hx : ev σ x = some (.int k a)) (hy : ev σ y = some (.int k b)) : QF P n D σ G ⟨d, .binOp .leq t x y u, ty, pos, af, gd⟩ (.bool (decide (a ≤ b))) := by
  intro _ ht w _; simp [execOp, ht.ev hx, ht.ev hy, eqGuard_leq, binOp_leq]
theorem qf_gtr (hx : ev σ x = some (.int k a)) (hy : ev σ y = some (.int k b)) : QF P n D σ G ⟨d, .binOp .gtr t x y u, ty, pos, af, gd⟩ (.bool (decide (b < a))) := by
  intro _ ht w _; simp [execOp, ht.ev hx, ht.ev hy, eqGuard_gtr, binOp_gtr]
theorem qf_geq (hx : ev σ x = some (.int k a)) (hy : ev σ y = some (.int k b)) : QF P n D σ G ⟨d, .binOp .geq t x y u, ty, pos, af, gd⟩ (.bool (decide (b ≤ a))) := by
  intro _ ht w _; simp [execOp, ht.ev hx, ht.ev hy, eqGuard_geq, binOp_geq]
theorem qf_eql (hx : ev σ x = some (.int k a)) (hy : ev σ y = some (.int k b)) : QF P n D σ G ⟨d, .binOp .eql t x y u, ty, pos, af, gd⟩ (.bool (decide (a = b))) := by
  intro _ ht w _; simp [execOp, ht.ev hx, ht.ev hy, eqGuard_at_int, binOp_eql]; rfl
theorem qf_neq (hx : ev σ x = some (.int k a)) (hy : ev σ y = some (.int k b)) : QF P n D σ G ⟨d, .binOp .neq t x y u, ty, pos, af, gd⟩ (.bool (decide (a ≠ b))) := by
  intro _ ht w _; simp [execOp, ht.ev hx, ht.ev hy, eqGuard_at_int, binOp_neq, bne]; rfl
theorem qf_and (hx : ev σ x = some (.int k a)) (hy : ev σ y = some (.int k b)) : QF P n D σ G ⟨d, .binOp .and t x y u, ty, pos, af, gd⟩ (.int k (bits .and k a b)) := by
  intro _ ht w _; simp [execOp, ht.ev hx, ht.ev hy, eqGuard_and, binOp_and, intBits_and]
theorem qf_or (hx : ev σ x = some (.int k a)) (hy : ev σ y = some (.int k b)) : QF P n D σ G ⟨d, .binOp .or t x y u, ty, pos, af, gd⟩ (.int k (bits .or k a b)) := by
  intro _ ht w _; simp [execOp, ht.ev hx, ht.ev hy, eqGuard_or, binOp_or, intBits_or]
theorem qf_xor (hx : ev σ x = some (.int k a)) (hy : ev σ y = some (.int k b)) : QF P n D σ G ⟨d, .binOp .xor t x y u, ty, pos, af, gd⟩ (.int k (bits .xor k a b)) := by
  intro _ ht w _; simp [execOp, ht.ev hx, ht.ev hy, eqGuard_xor, binOp_xor, intBits_xor]
theorem qf_andNot (hx : ev σ x = some (.int k a)) (hy : ev σ y = some (.int k b)) : QF P n D σ G ⟨d, .binOp .andNot t x y u, ty, pos, af, gd⟩ (.int k (bits .andNot k a b)) := by
  intro _ ht w _; simp [execOp, ht.ev hx, ht.ev hy, eqGuard_andNot, binOp_andNot, intBits_andNot]
theorem qf_shl {k' : IntKind} (hx : ev σ x = some (.int k a)) (hy : ev σ y = some (.int k' b)) (h0 : 0 ≤ b) (h1 : b ≤ k.bits) : QF P n D σ G ⟨d, .binOp .shl t x y u, ty, pos, af, gd⟩ (.int k (k.wrap (a * 2 ^ b.toNat))) := by
  intro _ ht w _; simp [execOp, ht.ev hx, ht.ev hy, eqGuard_shl, binOp_shl, shift_shl k k' a b h0 h1]
theorem qf_shr {k' : IntKind} (hx : ev σ x = some (.int k a)) (hy : ev σ y = some (.int k' b)) (h0 : 0 ≤ b) (h1 : b ≤ k.bits) : QF P n D σ G ⟨d, .binOp .shr t x y u, ty, pos, af, gd⟩ (.int k (a / 2 ^ b.toNat)) := by
  intro _ ht w _; simp [execOp, ht.ev hx, ht.ev hy, eqGuard_shr, binOp_shr, shift_shr k k' a b h0 h1]
theorem qf_convert_int {s : TypeId} {k' : IntKind} (hs : (P.underlying s).isSome = true) [h : IntI P t k] (hx : ev σ x = some (.int k' a)) {v : Value} (hv : v = .int k (k.wrap a)) : QF P n D σ G ⟨d, .convert s t x, ty, pos, af, gd⟩ v := by
  subst hv
  intro _ ht w _
  cases hq : P.underlying s with
  | none => simp [hq] at hs
  | some q => cases q <;> simp [execOp, ht.ev hx, convert, run_underlying hq, run_underlying h.ok, Conv.intToInt]

/-! bools, strings, pointers against nil -/
theorem qf_eql_string {s r : ByteArray} (hx : ev σ x = some (.string s)) (hy : ev σ y = some (.string r)) : QF P n D σ G ⟨d, .binOp .eql t x y u, ty, pos, af, gd⟩ (.bool (s.toList == r.toList)) := by
  intro _ ht w _; simp [execOp, ht.ev hx, ht.ev hy, eqGuard_at_string, binOp_string_eql]
theorem qf_neq_string {s r : ByteArray} (hx : ev σ x = some (.string s)) (hy : ev σ y = some (.string r)) : QF P n D σ G ⟨d, .binOp .neq t x y u, ty, pos, af, gd⟩ (.bool !(s.toList == r.toList)) := by
  intro _ ht w _; simp [execOp, ht.ev hx, ht.ev hy, eqGuard_at_string, binOp_string_neq]
theorem run_eql_bool [h : BoolI P t] (p q : Bool) (w : World) : (Op.equal t (.bool p) (.bool q)).run P w = .ok (p == q) w := by
  have key : ∀ d, (Op.equalIn (d + 1) t (.bool p) (.bool q)).run P w = .ok (p == q) w := fun d => by simp [Op.equalIn, run_underlying h.ok]
  exact key 9999
theorem qf_eql_bool [h : BoolI P t] {p q : Bool} (hx : ev σ x = some (.bool p)) (hy : ev σ y = some (.bool q)) : QF P n D σ G ⟨d, .binOp .eql t x y u, ty, pos, af, gd⟩ (.bool (p == q)) := by
  intro _ ht w _; simp [execOp, ht.ev hx, ht.ev hy, eqGuard_at_bool, binOp, run_eql_bool]
theorem qf_neq_bool [h : BoolI P t] {p q : Bool} (hx : ev σ x = some (.bool p)) (hy : ev σ y = some (.bool q)) : QF P n D σ G ⟨d, .binOp .neq t x y u, ty, pos, af, gd⟩ (.bool !(p == q)) := by
  intro _ ht w _; simp [execOp, ht.ev hx, ht.ev hy, eqGuard_at_bool, binOp, run_eql_bool]
class PtrI (P : Program) (t : TypeId) : Prop where
  ok : ∃ e, P.underlying t = some (.pointer e)
theorem run_eql_ptr_nil [h : PtrI P t] (p : Option Addr) (w : World) : (Op.equal t (.pointer p) (.pointer none)).run P w = .ok p.isNone w := by
  obtain ⟨e, he⟩ := h.ok
  have key : ∀ d, (Op.equalIn (d + 1) t (.pointer p) (.pointer none)).run P w = .ok p.isNone w := fun d => by cases p <;> simp [Op.equalIn, run_underlying he]
  exact key 9999
theorem qf_eql_ptr_nil [h : PtrI P t] {p : Option Addr} (hx : ev σ x = some (.pointer p)) (hy : ev σ y = some (.pointer none)) : QF P n D σ G ⟨d, .binOp .eql t x y u, ty, pos, af, gd⟩ (.bool p.isNone) := by
  intro _ ht w _; simp [execOp, ht.ev hx, ht.ev hy, eqGuard_at_pointer, binOp, run_eql_ptr_nil]
theorem qf_neq_ptr_nil [h : PtrI P t] {p : Option Addr} (hx : ev σ x = some (.pointer p)) (hy : ev σ y = some (.pointer none)) : QF P n D σ G ⟨d, .binOp .neq t x y u, ty, pos, af, gd⟩ (.bool !p.isNone) := by
  intro _ ht w _; simp [execOp, ht.ev hx, ht.ev hy, eqGuard_at_pointer, binOp, run_eql_ptr_nil]

/-! addresses, loads -/
theorem qf_fieldAddr {s : TypeId} {offs : List (Nat × Nat)} [h : StructI P s offs] {f bl off kk sz : Nat} (hx : ev σ x = some (.pointer (some ⟨bl, off, none⟩))) (hf : offs[f]? = some (kk, sz)) (hsz : Nat.blt 0 sz = true) :
    QF P n D σ G ⟨d, .fieldAddr s x f, ty, pos, af, gd⟩ (.pointer (some ⟨bl, off + kk, none⟩)) := by
  intro _ ht w _
  obtain ⟨fs, hu, ho, hall⟩ := h.ok
  subst ho
  simp only [offsOf, List.getElem?_map, Array.getElem?_toList] at hf
  cases hfs : fs[f]? with
  | none => simp [hfs] at hf
  | some fl =>
    simp only [hfs, Option.map_some, Option.some.injEq, Prod.mk.injEq] at hf
    obtain ⟨h1, h2⟩ := hf
    have hsome := Array.all_eq_true_iff_forall_mem.1 hall fl (Array.mem_of_getElem? hfs)
    cases hi : P.info? fl.type with
    | none => simp [hi] at hsome
    | some i =>
      have hsi : i.size = sz := by simpa [Program.cellsOf, hi] using h2
      have hne : i.size ≠ 0 := by rw [hsi]; have := Nat.le_of_ble_eq_true hsz; omega
      simp [execOp, ht.ev hx, Instr.fieldAt, run_underlying hu, hfs, Instr.sureAddr, fieldPlace, sizeOf, typeInfo, hi, hne, Addr.add_lit, h1]
theorem qf_indexAddr_slice {e : TypeId} {agg : Bool} {size bytes : Nat} {zero : List Value} [h : SliceI P t e] [he : TyI P e agg size bytes zero] {bl off len cap : Nat} {ik : IntKind} {iv : Int}
    (hx : ev σ x = some (.slice (some ⟨bl, off, none⟩) len cap)) (hy : ev σ y = some (.int ik iv)) (h0 : 0 ≤ iv) (h1 : iv < len) {v : Value} (hv : v = .pointer (some ⟨bl, off + iv.toNat * size, none⟩)) :
    QF P n D σ G ⟨d, .indexAddr t x y, ty, pos, af, gd⟩ v := by
  subst hv
  intro _ ht w _
  simp [execOp, ht.ev hx, ht.ev hy, Instr.indexAt, asIntOf, run_underlying h.ok, run_sizeOf he, h0, h1, Addr.add_lit]
theorem qf_indexAddr_array {e : TypeId} {agg : Bool} {size bytes : Nat} {zero : List Value} {len : Nat} [h : ArrayI P t len e] [he : TyI P e agg size bytes zero] {bl off : Nat} {ik : IntKind} {iv : Int}
    (hx : ev σ x = some (.pointer (some ⟨bl, off, none⟩))) (hy : ev σ y = some (.int ik iv)) (h0 : 0 ≤ iv) (h1 : iv < len) {v : Value} (hv : v = .pointer (some ⟨bl, off + iv.toNat * size, none⟩)) :
    QF P n D σ G ⟨d, .indexAddr t x y, ty, pos, af, gd⟩ v := by
  subst hv
  intro _ ht w _
  simp [execOp, ht.ev hx, ht.ev hy, Instr.indexAt, asIntOf, run_underlying h.ok, run_sizeOf he, h0, h1, Addr.add_lit, Instr.sureAddr]
theorem qf_load1 {size bytes : Nat} {zero : List Value} [h : TyI P t false size bytes zero] {bl off : Nat} {cs : List Value} {T : TypeId} {fz : Nat × Nat} {v : Value}
    (hx : ev σ x = some (.pointer (some ⟨bl, off, none⟩))) [hl : Look G bl (.cells cs.toArray T fz)] (hc : cs[off]? = some v) : QF P n D σ G ⟨d, .load t x, ty, pos, af, gd⟩ v := by
  intro _ ht w hd
  have hb := hd.look hl
  have hcell : w.cell? ⟨bl, off, none⟩ = some v := by rw [cell_of_row w bl off _ T fz hb]; simpa using hc
  simp [execOp, ht.ev hx, Instr.loadAt, Instr.sureAddr, loadVar, run_isAgg h, hcell]
def seg (cs : List Value) (off k : Nat) : List Value := (cs.drop off).take k
theorem qf_loadN {size bytes : Nat} {zero : List Value} [h : TyI P t true size bytes zero] {bl off : Nat} {cs : List Value} {T : TypeId} {fz : Nat × Nat} {vs : List Value}
    (hx : ev σ x = some (.pointer (some ⟨bl, off, none⟩))) [hl : Look G bl (.cells cs.toArray T fz)] (hc : seg cs off size = vs) (hlen : vs.length = size) : QF P n D σ G ⟨d, .load t x, ty, pos, af, gd⟩ (.agg vs.toArray) := by
  intro _ ht w hd
  have hb := hd.look hl
  have hr := run_loadCells_list (P := P) w ⟨bl, off, none⟩ vs (fun j v hv => by
    rw [Addr.add_lit, cell_of_row w bl (off + j) _ T fz hb]
    rw [← hc] at hv
    simp only [seg, List.getElem?_take, List.getElem?_drop] at hv
    split at hv
    · simpa using hv
    · cases hv)
  rw [hlen] at hr
  simp [execOp, ht.ev hx, Instr.loadAt, Instr.sureAddr, loadVar, run_isAgg h, run_sizeOf h, hr]
/-! values -/
theorem qf_len_slice {e : TypeId} [h : SliceI P t e] {p : Option Addr} {len cap : Nat} (hx : ev σ x = some (.slice p len cap)) :
    QF P n D σ G ⟨d, .call { callee := .builtin .len, args := #[x], argTypes := #[t] }, ty, pos, af, gd⟩ (.int .i64 len) := by
  intro _ ht w _
  simp [execOp, resolve, invoke, builtin, ht.ev hx, Builtin.len_, run_underlying h.ok, goInt]
theorem qf_len_string [h : StrI P t] {s : ByteArray} (hx : ev σ x = some (.string s)) :
    QF P n D σ G ⟨d, .call { callee := .builtin .len, args := #[x], argTypes := #[t] }, ty, pos, af, gd⟩ (.int .i64 s.size) := by
  intro _ ht w _
  simp [execOp, resolve, invoke, builtin, ht.ev hx, Builtin.len_, run_underlying h.ok, goInt]
theorem qf_cap_slice {e : TypeId} [h : SliceI P t e] {p : Option Addr} {len cap : Nat} (hx : ev σ x = some (.slice p len cap)) :
    QF P n D σ G ⟨d, .call { callee := .builtin .cap, args := #[x], argTypes := #[t] }, ty, pos, af, gd⟩ (.int .i64 cap) := by
  intro _ ht w _
  simp [execOp, resolve, invoke, builtin, ht.ev hx, Builtin.cap_, run_underlying h.ok, goInt]
theorem qf_min {t' : TypeId} (hx : ev σ x = some (.int k a)) (hy : ev σ y = some (.int k b)) :
    QF P n D σ G ⟨d, .call { callee := .builtin .min, args := #[x, y], argTypes := #[t, t'] }, ty, pos, af, gd⟩ (.int k (if b < a then b else a)) := by
  intro _ ht w _
  simp [execOp, resolve, invoke, builtin, ht.ev hx, ht.ev hy, Builtin.min_, Builtin.min2]
theorem qf_max {t' : TypeId} (hx : ev σ x = some (.int k a)) (hy : ev σ y = some (.int k b)) :
    QF P n D σ G ⟨d, .call { callee := .builtin .max, args := #[x, y], argTypes := #[t, t'] }, ty, pos, af, gd⟩ (.int k (if a < b then b else a)) := by
  intro _ ht w _
  simp [execOp, resolve, invoke, builtin, ht.ev hx, ht.ev hy, Builtin.max_, Builtin.max2]
theorem qf_makeInterface (hc : P.concrete t = true) {v : Value} (hx : ev σ x = some v) : QF P n D σ G ⟨d, .makeInterface t x, ty, pos, af, gd⟩ (.iface t v) := by
  intro _ ht w _
  simp [execOp, ht.ev hx, run_makeInterface w t v hc]
theorem qf_field1 {offs : List (Nat × Nat)} [h : StructI P t offs] {f kk sz : Nat} {vs : List Value} {v : Value} (hx : ev σ x = some (.agg vs.toArray)) (hf : offs[f]? = some (kk, sz))
    (hag : ∀ w, (isAgg ((P.fieldsOf t)[f]?.elim 0 (·.type))).run P w = .ok false w) (hv : vs[kk]? = some v) :
    QF P n D σ G ⟨d, .field t x f, ty, pos, af, gd⟩ v := by
  intro _ ht w _
  obtain ⟨fs, hu, ho, _⟩ := h.ok
  subst ho
  simp only [offsOf, List.getElem?_map, Array.getElem?_toList] at hf
  cases hfs : fs[f]? with
  | none => simp [hfs] at hf
  | some fl =>
    simp only [hfs, Option.map_some, Option.some.injEq, Prod.mk.injEq] at hf
    have h2 := hag w
    simp only [Program.fieldsOf, hu, hfs, Option.elim] at h2
    simp [execOp, ht.ev hx, Instr.field, run_underlying hu, hfs, asAgg, part, h2, hf.1, hv]
end ops
end Go.Eng
