/- RoomWhole (chapter of rooms): behind any frames each subscription is to a track that there is, of another seat in the same room; no two have one source; there are at most as many as may be. Condition: none: every input that can be read. -/
import Derived.Test.YtkkeeoaencfemaaW
namespace Go.Proofs.Ytkkeeoaencfemaa
open Go.Eng Go.Rm Go.ChangeShapes Go.WideShapes Go.ChangeAt Go.RowKit
set_option maxRecDepth 100000
theorem roomWhole_lifted (os : Os) (started : os.Started) (H : Type) (enc : TypeId × Value → H) :
    ReturnsInHanded {} Try.checked os 3 .any (Rows.roomWholeSpec.pre6 enc Try.prog Try.f3 Rows.roomWholeRow.domain false) (Rows.roomWholeSpec.post enc Try.prog Try.f3 false true false false) := by
  refine law_lifted (C := Try.checked) (bt := 4) Try.laidOut Try.own started (by kernel_rfl) Try.func3
    (ChangeSpec.witness6 (enc := enc) (C := Try.checked) false ⟨#[], #[.slice none 0 0, .slice none 0 0], []⟩ 8 (by kernel_rfl) (by kernel_rfl) (by kernel_rfl) (by kernel_rfl))
    rfl (fun ds hds => ?_) rfl Try.underlying4 (fun t ht => ?_) ?_
  · rw [Try.params3] at hds
    match ds, hds with
    | [_, _], _ => rfl
  · rw [Try.params3] at ht
    simp only [List.mem_cons, List.mem_nil_iff, or_false] at ht
    rcases ht with rfl | rfl
    · exact ⟨by kernel_rfl, of_decide_eq_true (by kernel_rfl)⟩
    · exact ⟨by kernel_rfl, of_decide_eq_true (by kernel_rfl)⟩
  · intro W base args ds ps hval hA _
    have hval' : ∀ (j : Nat) t v, Try.f3.params[j]? = some t → args[j]? = some v → Value.okWide Try.prog W .any base t v := hval
    have hA' : DataW.TrodAll enc Try.prog W 0 (fun _ => true) true Try.f3.params.toList args.toList ds ps := hA
    rw [Try.params3] at hA' hval'
    obtain ⟨v0, v1, d0, d1, p0, p1, rfl, rfl, rfl, h0, h1⟩ := trodAll_two hA'
    obtain ⟨s1, l1, rfl, hI1⟩ := rd_seats h0 (okWide_slice Try.underlying22 (hval' 0 22 v0 rfl rfl))
    obtain ⟨s2, l2, rfl, hI2⟩ := rd_frames h1 (okWide_slice Try.underlying23 (hval' 1 23 v1 rfl rfl))
    exact roomWhole_ct (allX W) s1 s2 l1 l2 hI1 hI2
theorem roomWhole_holds : Rows.RoomWholeSaid :=
  OpenClaim.holds_of_wide 3 Try.f3 rfl rfl rfl rfl rfl rfl rfl ⟨rfl, rfl, rfl, rfl, rfl⟩ rfl rfl rfl rfl rfl (by kernel_rfl) Try.func3 (by kernel_rfl)
    (of_decide_eq_true (by kernel_rfl)) (by unfold Func.isWrapper; first | (rw [if_pos (by decide +kernel)]; kernel_rfl) | (rw [if_neg (by decide +kernel)]; exact ⟨rfl, rfl⟩))
    (fun os started H enc _ => roomWhole_lifted os started H enc)
end Go.Proofs.Ytkkeeoaencfemaa
