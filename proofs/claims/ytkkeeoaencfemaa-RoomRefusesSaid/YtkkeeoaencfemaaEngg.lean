/- The engine, seventh part: elements of strings and of array values; numbers that count. No premise; lemmas only. -/
import Derived.Test.YtkkeeoaencfemaaEngf
namespace Go.Eng
variable {P : Program} {c : World} {n : Nat} {D : List Deferred} {σ : List (Nat × Value)} {G : List Fr}
variable {ty : TypeId} {pos : String} {af : Array Edge} {gd : Option (Nat × Bool)} {x y : Operand} {t u e : TypeId} {d : Option Tmp}
theorem qf_index_string [h : StrI P t] {s : ByteArray} {k : IntKind} {i : Int} {b : UInt8} (hx : ev σ x = some (.string s)) (hy : ev σ y = some (.int k i)) (h0 : 0 ≤ i) (hb : s[i.toNat]? = some b) : QF P n D σ G ⟨d, .index t x y, ty, pos, af, gd⟩ (.int .u8 b.toNat) := by
  intro _ ht w _; simp [execOp, ht.ev hx, ht.ev hy, Instr.index, asIntOf, run_underlying h.ok, h0, hb]
/-- One less, of a natural number. -/
theorem qf_pred {i : Nat} (hx : ev σ x = some (.int .i64 (i : Int))) (hy : ev σ y = some (.int .i64 1)) (h1 : 1 ≤ i) (h2 : i ≤ 9223372036854775807) : QF P n D σ G ⟨d, .binOp .sub t x y u, ty, pos, af, gd⟩ (.int .i64 ((i - 1 : Nat) : Int)) := by
  have := qf_sub_i64 (P := P) (n := n) (D := D) (G := G) (d := d) (ty := ty) (pos := pos) (af := af) (gd := gd) (t := t) (u := u) hx hy (by omega)
  rwa [show ((i : Int) - 1) = ((i - 1 : Nat) : Int) from by omega] at this
/-- One more, of a natural number. -/
theorem qf_succ {i : Nat} (hx : ev σ x = some (.int .i64 (i : Int))) (hy : ev σ y = some (.int .i64 1)) (h2 : i ≤ 9223372036854775806) : QF P n D σ G ⟨d, .binOp .add t x y u, ty, pos, af, gd⟩ (.int .i64 ((i + 1 : Nat) : Int)) :=
  qf_add_i64 (P := P) (n := n) (D := D) (G := G) (d := d) (ty := ty) (pos := pos) (af := af) (gd := gd) (t := t) (u := u) hx hy (by omega)
end Go.Eng
