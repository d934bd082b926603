/- The rows of the statements on rooms: what comes in, as the contracts want it. No premise. -/
import Derived.Test.YtkkeeoaencfemaaV
import Derived.Test.YtkkeeoaencfemaaEngl
import Derived.Test.YtkkeeoaencfemaaRows
namespace Go.Proofs.Ytkkeeoaencfemaa
open Go.Eng Go.Rm Go.ChangeShapes Go.WideShapes Go.ChangeAt Go.RowKit
set_option maxRecDepth 100000
theorem c48 : Try.prog.cellsOf 48 = 1 := by kernel_rfl
theorem c30 : Try.prog.cellsOf 30 = 1 := by kernel_rfl
theorem c61 : Try.prog.cellsOf 61 = 34 := by kernel_rfl
theorem c32 : Try.prog.cellsOf 32 = 8 := by kernel_rfl
theorem c3 : Try.prog.cellsOf 3 = 1 := by kernel_rfl
theorem c29 : Try.prog.cellsOf 29 = 1 := by kernel_rfl
theorem t61 : tiles Try.prog 10 61 = true := by kernel_rfl
section
variable {H : Type} {enc : TypeId × Value → H} {W : World}
theorem flat_single {α : Type} (g : α → Value) (l : List α) : flat (fun y => [g y]) l = l.map g := by
  induction l with
  | nil => rfl
  | cons a l ih => simp only [flat, List.map_cons, List.flatten_cons] at ih ⊢; rw [ih]; rfl
/-- A list of sources that reads. -/
theorem rd_srcs {cs : List Value} (h : Rds enc Try.prog W 30 cs) : ∃ (s : Hdr) (ys : List Int), cs = [.slice s.p s.n s.c] ∧ RdS [allX W] s.p (s.n * 1) (ys.map (Value.int .u32 ·)) := by
  obtain ⟨p, len, cap, l, hcs, _, _, hl, hr, _⟩ := h.rows (f := fun y : Int => [Value.int .u32 y]) (Q := fun _ => True) Try.underlying30 c48 (by omega) (fun row _ hr => by
    obtain ⟨a, rfl, _⟩ := hr.int Try.underlying48
    exact ⟨a, rfl, trivial⟩)
  rw [flat_single] at hr
  exact ⟨⟨p, len, cap⟩, l, hcs, hr⟩
theorem seg_one {cs : List Value} {i : Nat} {v : Value} (h : seg cs i 1 = [v]) : cs[i]? = some v := by
  have : (seg cs i 1)[0]? = some v := by rw [h]; rfl
  simpa [seg, List.getElem?_take, List.getElem?_drop] using this
theorem rd_seats {v : Value} {d : DataW H} {ps : List MemPlace} (h : DataW.Trod enc Try.prog W 0 (fun _ => true) true 22 v d ps) (hv : ∃ a len cap, v = .slice a len cap) : ∃ (s : Hdr) (l : List SeatR), v = s.v ∧ SeatsIn (allX W) s l := by
  obtain ⟨p, len, cap, l, hcs, h1, h2, hl, hr, hq⟩ := (Rds.of_trod h).rows (f := SeatR.row) (Q := fun r : SeatR => r.row[31]? = some (.slice r.src.p r.src.n r.src.c) ∧ r.row.all (·.oneCell') = true ∧ RdS [allX W] r.src.p (r.src.n * 1) (r.ys.map (Value.int .u32 ·))) Try.underlying22 c61 (by omega) (fun row hlen hr => by
    obtain ⟨s, ys, hs, hrd⟩ := rd_srcs (hr.field (i := 2) Try.underlying61 rfl c30)
    exact ⟨⟨row, hlen, s, ys⟩, rfl, seg_one hs, (hr.plain 10 61 row t61).2, hrd⟩)
  obtain ⟨a, len', cap', rfl⟩ := hv
  simp [Value.cells] at hcs
  obtain ⟨rfl, rfl, rfl⟩ := hcs
  exact ⟨⟨a, len', cap'⟩, l, rfl, ⟨by simp only [maxLen] at h2; simp only; omega, h1, hr, hq⟩⟩
theorem rd_int {t : TypeId} {cs : List Value} {k : IntKind} {i : Nat} (h : Rds enc Try.prog W t (seg cs i 1)) (ht : Try.prog.underlying t = some (.int k)) : ∃ a, cs[i]? = some (.int k a) := by
  obtain ⟨a, ha, _⟩ := h.int ht
  exact ⟨a, seg_one ha⟩
theorem rd_frame {row : List Value} (hlen : row.length = 8) (hr : Rds enc Try.prog W 32 row) : ∃ r : FrR, r.enc = row ∧ RdS [allX W] r.f.src.p (r.f.src.n * 1) (r.ys.map (Value.int .u32 ·)) := by
  obtain ⟨a0, h0⟩ := rd_int (hr.field (i := 0) Try.underlying32 rfl c3) Try.underlying3
  obtain ⟨a1, h1⟩ := rd_int (hr.field (i := 1) Try.underlying32 rfl c3) Try.underlying3
  obtain ⟨a2, h2⟩ := rd_int (hr.field (i := 2) Try.underlying32 rfl c29) Try.underlying29
  obtain ⟨a3, h3⟩ := rd_int (hr.field (i := 3) Try.underlying32 rfl c3) Try.underlying3
  obtain ⟨a4, h4⟩ := rd_int (hr.field (i := 4) Try.underlying32 rfl c3) Try.underlying3
  obtain ⟨a5, h5⟩ := rd_int (hr.field (i := 5) Try.underlying32 rfl c3) Try.underlying3
  obtain ⟨a6, h6⟩ := rd_int (hr.field (i := 6) Try.underlying32 rfl c3) Try.underlying3
  obtain ⟨s, ys, hs, hrd⟩ := rd_srcs (hr.field (i := 7) Try.underlying32 rfl c30)
  have h7 := seg_one hs
  refine ⟨⟨⟨a0, a1, a2, a3, a4, a5, a6, s⟩, ys⟩, ?_, hrd⟩
  match row, hlen with
  | [x0, x1, x2, x3, x4, x5, x6, x7], _ =>
    simp at h0 h1 h2 h3 h4 h5 h6 h7
    subst h0 h1 h2 h3 h4 h5 h6 h7
    rfl
theorem rd_frames {v : Value} {d : DataW H} {ps : List MemPlace} (h : DataW.Trod enc Try.prog W 0 (fun _ => true) true 23 v d ps) (hv : ∃ a len cap, v = .slice a len cap) : ∃ (s : Hdr) (l : List FrR), v = s.v ∧ FramesIn (allX W) s l := by
  obtain ⟨p, len, cap, l, hcs, h1, h2, hl, hr, hq⟩ := (Rds.of_trod h).rows (f := FrR.enc) (Q := fun r : FrR => RdS [allX W] r.f.src.p (r.f.src.n * 1) (r.ys.map (Value.int .u32 ·))) Try.underlying23 c32 (by omega) (fun row hlen hr => rd_frame hlen hr)
  obtain ⟨a, len', cap', rfl⟩ := hv
  simp [Value.cells] at hcs
  obtain ⟨rfl, rfl, rfl⟩ := hcs
  exact ⟨⟨a, len', cap'⟩, l, rfl, ⟨by simp only [maxLen] at h2; simp only; omega, hr, hq⟩⟩
end
theorem Try.own : ownKnob Try.prog.godebug = none := by kernel_rfl
theorem Try.laidOut : laidOutB Try.prog = true := by kernel_rfl
end Go.Proofs.Ytkkeeoaencfemaa
