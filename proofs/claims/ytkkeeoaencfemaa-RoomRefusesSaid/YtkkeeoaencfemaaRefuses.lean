/- RoomRefuses (chapter of rooms): a frame that is refused turns nothing but its seat's nonce. Condition: none: every input that can be read. -/
import Derived.Test.YtkkeeoaencfemaaW
namespace Go.Proofs.Ytkkeeoaencfemaa
open Go.Eng Go.Rm Go.ChangeShapes Go.WideShapes Go.ChangeAt Go.RowKit
set_option maxRecDepth 100000
theorem roomRefuses_lifted (os : Os) (started : os.Started) (H : Type) (enc : TypeId × Value → H) :
    ReturnsInHanded {} Try.checked os 4 .any (Rows.roomRefusesSpec.pre6 enc Try.prog Try.f4 Rows.roomRefusesRow.domain false) (Rows.roomRefusesSpec.post enc Try.prog Try.f4 false true false false) := by
  refine law_lifted (C := Try.checked) (bt := 4) Try.laidOut Try.own started (by kernel_rfl) Try.func4
    (ChangeSpec.witness6 (enc := enc) (C := Try.checked) false ⟨#[], #[.slice none 0 0, .slice none 0 0, .agg #[.int .i64 0, .int .i64 0, .int .u64 0, .int .i64 0, .int .i64 0, .int .i64 0, .int .i64 0, .slice none 0 0]], []⟩ 8 (by kernel_rfl) (by kernel_rfl) (by kernel_rfl) (by kernel_rfl))
    rfl (fun ds hds => ?_) rfl Try.underlying4 (fun t ht => ?_) ?_
  · rw [Try.params4] at hds
    match ds, hds with
    | [_, _, _], _ => rfl
  · rw [Try.params4] at ht
    simp only [List.mem_cons, List.mem_nil_iff, or_false] at ht
    rcases ht with rfl | rfl | rfl
    · exact ⟨by kernel_rfl, of_decide_eq_true (by kernel_rfl)⟩
    · exact ⟨by kernel_rfl, of_decide_eq_true (by kernel_rfl)⟩
    · exact ⟨by kernel_rfl, of_decide_eq_true (by kernel_rfl)⟩
  · intro W base args ds ps hval hA _
    have hval' : ∀ (j : Nat) t v, Try.f4.params[j]? = some t → args[j]? = some v → Value.okWide Try.prog W .any base t v := hval
    have hA' : DataW.TrodAll enc Try.prog W 0 (fun _ => true) true Try.f4.params.toList args.toList ds ps := hA
    rw [Try.params4] at hA' hval'
    obtain ⟨v0, v1, v2, d0, d1, d2, p0, p1, p2, rfl, rfl, rfl, h0, h1, h2⟩ := trodAll_three hA'
    obtain ⟨s1, l1, rfl, hI1⟩ := rd_seats h0 (okWide_slice Try.underlying22 (hval' 0 22 v0 rfl rfl))
    obtain ⟨s2, l2, rfl, hI2⟩ := rd_frames h1 (okWide_slice Try.underlying23 (hval' 1 23 v1 rfl rfl))
    obtain ⟨cs, rfl, hcs⟩ := okWide_struct Try.underlying32 (hval' 2 32 v2 rfl rfl)
    obtain ⟨r, hr, hrd⟩ := rd_frame (row := cs.toList) (by rw [Array.length_toList, hcs, c32]) (Rds.of_trod h2)
    have e : cs = r.f.enc.toArray := Array.toList_inj.1 (by rw [← hr]; rfl)
    subst e
    rw [Nat.mul_one] at hrd
    exact roomRefuses_ct (allX W) s1 s2 l1 l2 r.f r.ys hI1 hI2 hrd
theorem roomRefuses_holds : Rows.RoomRefusesSaid :=
  OpenClaim.holds_of_wide 4 Try.f4 rfl rfl rfl rfl rfl rfl rfl ⟨rfl, rfl, rfl, rfl, rfl⟩ rfl rfl rfl rfl rfl (by kernel_rfl) Try.func4 (by kernel_rfl)
    (of_decide_eq_true (by kernel_rfl)) (by unfold Func.isWrapper; first | (rw [if_pos (by decide +kernel)]; kernel_rfl) | (rw [if_neg (by decide +kernel)]; exact ⟨rfl, rfl⟩))
    (fun os started H enc _ => roomRefuses_lifted os started H enc)
end Go.Proofs.Ytkkeeoaencfemaa
