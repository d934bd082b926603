/- Package room as plain data: subscriptions that go. No program in sight. -/
import Derived.Test.YtkkeeoaencfemaaRoomH
namespace Go.Rm
open Go Go.Eng

/-- What a member keeps while subscriptions go. -/
structure Same0 (a a' : MR) : Prop where
  room : a'.room = a.room
  is0 : a'.is0 = a.is0
  is1 : a'.is1 = a.is1
  x0 : a'.x0 = a.x0
  x1 : a'.x1 = a.x1
  ok : a'.ok
theorem Same0.refl {a : MR} (h : a.ok) : Same0 a a := ⟨rfl, rfl, rfl, rfl, rfl, h⟩

/-- All lose the subscriptions that the test names, up to number i. -/
def Part (tst : Sub → Bool) (i : Nat) (ms ms' : List MR) : Prop :=
  ms'.length = ms.length ∧ ∀ (j : Nat) a, ms[j]? = some a → ∃ a', ms'[j]? = some a' ∧ Same0 a a' ∧ a'.sl = bif decide (j < i) then a.sl.filter (!tst ·) else a.sl
theorem Part.zero {tst : Sub → Bool} {ms : List MR} (h : ∀ (j : Nat) a, ms[j]? = some a → a.ok) : Part tst 0 ms ms :=
  ⟨rfl, fun j a ha => ⟨a, ha, .refl (h j a ha), by rw [show decide (j < 0) = false from by simp]; rfl⟩⟩
theorem Part.step {tst : Sub → Bool} {i : Nat} {ms ms' : List MR} (h : Part tst i ms ms') {a b c : MR} (ha : ms[i]? = some a) (hb : ms'[i]? = some b) (hs : Same0 b c) (hl : c.sl = b.sl.filter (!tst ·)) : Part tst (i + 1) ms (ms'.set i c) := by
  refine ⟨by rw [List.length_set]; exact h.1, fun j x hx => ?_⟩
  obtain ⟨x', hx', hsx, hlx⟩ := h.2 j x hx
  by_cases e : j = i
  · subst e
    rw [hx] at ha; cases ha
    rw [hx'] at hb; cases hb
    refine ⟨c, set_get hx', ⟨by rw [hs.room, hsx.room], by rw [hs.is0, hsx.is0], by rw [hs.is1, hsx.is1], by rw [hs.x0, hsx.x0], by rw [hs.x1, hsx.x1], hs.ok⟩, ?_⟩
    have e1 : decide (j < j) = false := by simp
    have e2 : decide (j < j + 1) = true := by simp
    rw [hl, hlx, e1, e2]; rfl
  · refine ⟨x', by rw [List.getElem?_set_ne (Ne.symm e)]; exact hx', hsx, ?_⟩
    have e1 : decide (j < i + 1) = decide (j < i) := by simp only [decide_eq_decide]; omega
    rw [hlx, e1]
theorem Part.at {tst : Sub → Bool} {i : Nat} {ms ms' : List MR} (h : Part tst i ms ms') {a : MR} (ha : ms[i]? = some a) : ∃ a', ms'[i]? = some a' ∧ Same0 a a' ∧ a'.sl = a.sl := by
  obtain ⟨a', h1, h2, h3⟩ := h.2 i a ha
  refine ⟨a', h1, h2, ?_⟩
  rw [h3, show decide (i < i) = false from by simp]; rfl

/-- One member is changed, and of the others subscriptions go. -/
theorem House.shrink {ms ms' : List MR} (H : House ms) {i : Nat} {m m' : MR} (hm : ms[i]? = some m) (hlen : ms'.length = ms.length) (hm' : ms'[i]? = some m') (hok : m'.ok) (hr : -1 ≤ m'.room) (hx : m'.x0.length ≤ 4 ∧ m'.x1.length ≤ 4)
    (hsl : ∃ p : Sub → Bool, m'.sl = m.sl.filter p) (hrs : m'.sl = [] ∨ m'.room = m.room)
    (hoth : ∀ (j : Nat) a, j ≠ i → ms[j]? = some a → ∃ a', ms'[j]? = some a' ∧ Same0 a a' ∧ (∃ p : Sub → Bool, a'.sl = a.sl.filter p) ∧
      ∀ x ∈ a'.sl, x.owner = (i : Int) → m'.room = m.room ∧ ((x.track = 0 ∧ m'.is0 = true ∧ x.layer < m'.x0.length) ∨ (x.track = 1 ∧ m'.is1 = true ∧ x.layer < m'.x1.length))) : House ms' := by
  have back : ∀ (j : Nat) b, ms'[j]? = some b → j ≠ i → ∃ a, ms[j]? = some a ∧ Same0 a b ∧ (∃ p : Sub → Bool, b.sl = a.sl.filter p) ∧
      ∀ x ∈ b.sl, x.owner = (i : Int) → m'.room = m.room ∧ ((x.track = 0 ∧ m'.is0 = true ∧ x.layer < m'.x0.length) ∨ (x.track = 1 ∧ m'.is1 = true ∧ x.layer < m'.x1.length)) := by
    intro j b hb hji
    have hlt : j < ms.length := by have := (List.getElem?_eq_some_iff.1 hb).1; omega
    obtain ⟨a', h1, h2, h3, h4⟩ := hoth j ms[j] hji (List.getElem?_eq_getElem hlt)
    rw [hb] at h1; cases h1
    exact ⟨_, List.getElem?_eq_getElem hlt, h2, h3, h4⟩
  refine ⟨by rw [hlen]; exact H.len, fun j b hb => ?_, fun j b hb => ?_, fun j b hb => ?_, fun j b hb => ?_, fun j b hb x hxb => ?_, fun j b hb => ?_⟩
  · by_cases e : j = i
    · subst e; rw [hm'] at hb; cases hb; exact hok
    · obtain ⟨_, _, h, _⟩ := back j b hb e; exact h.ok
  · by_cases e : j = i
    · subst e; rw [hm'] at hb; cases hb; exact hr
    · obtain ⟨a, ha, h, _⟩ := back j b hb e; rw [h.room]; exact H.room j a ha
  · by_cases e : j = i
    · subst e; rw [hm'] at hb; cases hb; obtain ⟨p, hp⟩ := hsl; rw [hp]; exact Nat.le_trans (List.length_filter_le _ _) (H.four j m hm)
    · obtain ⟨a, ha, _, ⟨p, hp⟩, _⟩ := back j b hb e; rw [hp]; exact Nat.le_trans (List.length_filter_le _ _) (H.four j a ha)
  · by_cases e : j = i
    · subst e; rw [hm'] at hb; cases hb; exact hx
    · obtain ⟨a, ha, h, _⟩ := back j b hb e; rw [h.x0, h.x1]; exact H.small j a ha
  · by_cases e : j = i
    · subst e
      rw [hm'] at hb; cases hb
      obtain ⟨p, hp⟩ := hsl
      have hxm : x ∈ m.sl := by rw [hp] at hxb; exact (List.mem_filter.1 hxb).1
      have hroom : m'.room = m.room := by
        rcases hrs with h | h
        · rw [h] at hxb; cases hxb
        · exact h
      obtain ⟨o, q, ho, hq, hoj, hqr, h0, ht, hl, hs⟩ := H.sub j m hm x hxm
      obtain ⟨q', hq', hsq, _, _⟩ := hoth o q hoj hq
      exact ⟨o, q', ho, hq', hoj, by rw [hsq.room, hqr, hroom], by rw [hroom]; exact h0, by rw [hsq.is0, hsq.is1, hsq.x0, hsq.x1]; exact ht, hl, hs⟩
    · obtain ⟨a, ha, hsa, ⟨p, hp⟩, hown⟩ := back j b hb e
      have hxa : x ∈ a.sl := by rw [hp] at hxb; exact (List.mem_filter.1 hxb).1
      obtain ⟨o, q, ho, hq, hoj, hqr, h0, ht, hl, hs⟩ := H.sub j a ha x hxa
      by_cases eo : o = i
      · subst eo
        rw [hm] at hq; cases hq
        obtain ⟨h1, h2⟩ := hown x hxb ho
        exact ⟨o, m', ho, hm', hoj, by rw [h1, hqr, hsa.room], by rw [hsa.room]; exact h0, h2, hl, hs⟩
      · obtain ⟨q', hq', hsq, _, _⟩ := hoth o q eo hq
        exact ⟨o, q', ho, hq', hoj, by rw [hsq.room, hqr, hsa.room], by rw [hsa.room]; exact h0, by rw [hsq.is0, hsq.is1, hsq.x0, hsq.x1]; exact ht, hl, hs⟩
  · by_cases e : j = i
    · subst e; rw [hm'] at hb; cases hb; obtain ⟨p, hp⟩ := hsl; rw [hp]; exact (H.srcs j m hm).sublist ((List.filter_sublist).map _)
    · obtain ⟨a, ha, _, ⟨p, hp⟩, _⟩ := back j b hb e; rw [hp]; exact (H.srcs j a ha).sublist ((List.filter_sublist).map _)
end Go.Rm
