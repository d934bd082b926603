/- Package room as plain data: what always holds of a house, and what each kind of frame does to it. No program in sight. -/
import Derived.Test.YtkkeeoaencfemaaRoomM
namespace Go.Rm
open Go Go.Eng

def SubOk (ms : List MR) (i : Nat) (m : MR) (x : Sub) : Prop :=
  ∃ (o : Nat) (q : MR), x.owner = (o : Int) ∧ ms[o]? = some q ∧ o ≠ i ∧ q.room = m.room ∧ 0 ≤ m.room ∧
    ((x.track = 0 ∧ q.is0 = true ∧ x.layer < q.x0.length) ∨ (x.track = 1 ∧ q.is1 = true ∧ x.layer < q.x1.length)) ∧ -1 ≤ x.layer ∧
    1048576 + 16 * (i : Int) ≤ x.source ∧ x.source < 1048576 + 16 * (i : Int) + 16
structure House (ms : List MR) : Prop where
  len : ms.length ≤ 6
  ok : ∀ (i : Nat) m, ms[i]? = some m → m.ok
  room : ∀ (i : Nat) m, ms[i]? = some m → -1 ≤ m.room
  four : ∀ (i : Nat) m, ms[i]? = some m → m.sl.length ≤ 4
  small : ∀ (i : Nat) m, ms[i]? = some m → m.x0.length ≤ 4 ∧ m.x1.length ≤ 4
  sub : ∀ (i : Nat) m, ms[i]? = some m → ∀ x ∈ m.sl, SubOk ms i m x
  srcs : ∀ (i : Nat) m, ms[i]? = some m → (m.sl.map Sub.source).Nodup

theorem get_set {α : Type} {l : List α} {i j : Nat} {a b : α} (h : (l.set i a)[j]? = some b) : (j = i ∧ b = a ∧ i < l.length) ∨ (j ≠ i ∧ l[j]? = some b) := by
  by_cases e : i = j
  · subst e
    have hlt : i < l.length := by
      have := (List.getElem?_eq_some_iff.1 h).1; simpa using this
    rw [List.getElem?_set_self hlt] at h
    exact .inl ⟨rfl, (Option.some.inj h).symm, hlt⟩
  · rw [List.getElem?_set_ne e] at h
    exact .inr ⟨fun e' => e e'.symm, h⟩
theorem set_get {α : Type} {l : List α} {i : Nat} {a b : α} (h : l[i]? = some b) : (l.set i a)[i]? = some a := by
  rw [List.getElem?_set_self (List.getElem?_eq_some_iff.1 h).1]

/-- One member is changed; of it only this is asked. -/
theorem House.set {ms : List MR} (H : House ms) {i : Nat} {m m' : MR} (hm : ms[i]? = some m) (hok : m'.ok) (hr : -1 ≤ m'.room) (h4 : m'.sl.length ≤ 4) (hx : m'.x0.length ≤ 4 ∧ m'.x1.length ≤ 4)
    (hsub : ∀ x ∈ m'.sl, SubOk (ms.set i m') i m' x) (hsrc : (m'.sl.map Sub.source).Nodup)
    (hoth : ∀ (j : Nat) a x, j ≠ i → ms[j]? = some a → x ∈ a.sl → x.owner = (i : Int) → m'.room = m.room ∧ ((x.track = 0 ∧ m'.is0 = true ∧ x.layer < m'.x0.length) ∨ (x.track = 1 ∧ m'.is1 = true ∧ x.layer < m'.x1.length))) :
    House (ms.set i m') where
  len := by simpa using H.len
  ok := fun j a h => by rcases get_set h with ⟨_, rfl, _⟩ | ⟨_, h⟩; exact hok; exact H.ok j a h
  room := fun j a h => by rcases get_set h with ⟨_, rfl, _⟩ | ⟨_, h⟩; exact hr; exact H.room j a h
  four := fun j a h => by rcases get_set h with ⟨_, rfl, _⟩ | ⟨_, h⟩; exact h4; exact H.four j a h
  small := fun j a h => by rcases get_set h with ⟨_, rfl, _⟩ | ⟨_, h⟩; exact hx; exact H.small j a h
  srcs := fun j a h => by rcases get_set h with ⟨_, rfl, _⟩ | ⟨_, h⟩; exact hsrc; exact H.srcs j a h
  sub := fun j a h x hxa => by
    rcases get_set h with ⟨rfl, rfl, _⟩ | ⟨hji, h'⟩
    · exact hsub x hxa
    · obtain ⟨o, q, ho, hq, hoj, hqr, h0, ht, hl, hs⟩ := H.sub j a h' x hxa
      by_cases e : o = i
      · subst e
        rw [hm] at hq; cases hq
        obtain ⟨h1, h2⟩ := hoth j a x hji h' hxa ho
        exact ⟨o, m', ho, set_get hm, hoj, by rw [h1]; exact hqr, h0, h2, hl, hs⟩
      · exact ⟨o, q, ho, by rw [List.getElem?_set_ne (fun e' => e e'.symm)]; exact hq, hoj, hqr, h0, ht, hl, hs⟩

theorem SubOk.mono {ms ms' : List MR} {i : Nat} {m m' : MR} {x : Sub} (h : SubOk ms i m x) (hr : m'.room = m.room)
    (hms : ∀ (o : Nat) q, o ≠ i → ms[o]? = some q → ∃ q', ms'[o]? = some q' ∧ q'.room = q.room ∧ q'.is0 = q.is0 ∧ q'.is1 = q.is1 ∧ q'.x0.length = q.x0.length ∧ q'.x1.length = q.x1.length) : SubOk ms' i m' x := by
  obtain ⟨o, q, ho, hq, hoj, hqr, h0, ht, hl, hs⟩ := h
  obtain ⟨q', hq', e1, e2, e3, e4, e5⟩ := hms o q hoj hq
  exact ⟨o, q', ho, hq', hoj, by rw [e1, hqr, hr], by rw [hr]; exact h0, by rw [e2, e3, e4, e5]; exact ht, hl, hs⟩
theorem SubOk.set {ms : List MR} {i : Nat} {m m' : MR} {x : Sub} (h : SubOk ms i m x) (hr : m'.room = m.room) : SubOk (ms.set i m') i m' x :=
  h.mono hr fun o q hoi hq => ⟨q, by rw [List.getElem?_set_ne (Ne.symm hoi)]; exact hq, rfl, rfl, rfl, rfl, rfl⟩

/-- A member joins. -/
theorem House.join {ms : List MR} (H : House ms) {i : Nat} {m : MR} (hm : ms[i]? = some m) (hr : m.room = -1) {r : Int} (h0 : 0 ≤ r) : House (ms.set i { m with room := r }) := by
  have hnil : m.sl = [] := by
    cases hs : m.sl with
    | nil => rfl
    | cons x l => obtain ⟨_, _, _, _, _, _, h, _⟩ := H.sub i m hm x (by rw [hs]; simp); omega
  refine H.set (m' := { m with room := r }) hm ⟨(H.ok i m hm).a, (H.ok i m hm).b, (H.ok i m hm).s⟩ (by show -1 ≤ r; omega) (H.four i m hm) (H.small i m hm) (fun x hx => by rw [show ({ m with room := r } : MR).sl = [] from hnil] at hx; cases hx) (H.srcs i m hm) ?_
  intro j a x hji ha hx ho
  obtain ⟨o, q, ho', hq, _, hqr, h0', _⟩ := H.sub j a ha x hx
  have : o = i := by rw [ho] at ho'; omega
  subst this
  rw [hm] at hq; cases hq
  omega
/-- Some subscriptions of a member go. -/
theorem House.drop {ms : List MR} (H : House ms) {i : Nat} {m m' : MR} (hm : ms[i]? = some m) (hok : m'.ok) (hr : m'.room = m.room) (h0 : m'.is0 = m.is0) (h1 : m'.is1 = m.is1) (hx0 : m'.x0 = m.x0) (hx1 : m'.x1 = m.x1) (p : Sub → Bool) (hs : m'.sl = m.sl.filter p) : House (ms.set i m') := by
  refine H.set hm hok (by rw [hr]; exact H.room i m hm) (by rw [hs]; exact Nat.le_trans (List.length_filter_le _ _) (H.four i m hm)) (by rw [hx0, hx1]; exact H.small i m hm) ?_ ?_ ?_
  · intro x hx
    rw [hs] at hx
    exact (H.sub i m hm x (List.mem_filter.1 hx).1).set hr
  · rw [hs]; exact (H.srcs i m hm).sublist ((List.filter_sublist).map _)
  · intro j a x hji ha hx ho
    obtain ⟨o, q, ho', hq, _, hqr, h0', ht, _⟩ := H.sub j a ha x hx
    have : o = i := by rw [ho] at ho'; omega
    subst this
    rw [hm] at hq; cases hq
    exact ⟨hr, by rw [h0, h1, hx0, hx1]; exact ht⟩
/-- One subscription's layer is changed. -/
theorem House.layer {ms : List MR} (H : House ms) {i : Nat} {m m' : MR} (hm : ms[i]? = some m) (hok : m'.ok) (hr : m'.room = m.room) (h0 : m'.is0 = m.is0) (h1 : m'.is1 = m.is1) (hx0 : m'.x0 = m.x0) (hx1 : m'.x1 = m.x1)
    {j : Nat} {x x' : Sub} (hx : m.sl[j]? = some x) (hs : m'.sl = m.sl.set j x') (hsrc : x'.source = x.source) (hx' : SubOk ms i m x') : House (ms.set i m') := by
  refine H.set hm hok (by rw [hr]; exact H.room i m hm) (by rw [hs]; simpa using H.four i m hm) (by rw [hx0, hx1]; exact H.small i m hm) ?_ ?_ ?_
  · intro y hy
    rw [hs] at hy
    rcases List.mem_or_eq_of_mem_set hy with hy | rfl
    · exact (H.sub i m hm y hy).set hr
    · exact hx'.set hr
  · rw [hs, List.map_set, hsrc]
    have : (m.sl.map Sub.source).set j x.source = m.sl.map Sub.source := by
      apply List.ext_getElem?
      intro k
      rw [List.getElem?_set]
      split
      · rename_i e; subst e; simp [hx]
        exact (List.getElem?_eq_some_iff.1 hx).1
      · rfl
    rw [this]; exact H.srcs i m hm
  · intro k a y hji ha hy ho
    obtain ⟨o, q, ho', hq, _, hqr, h0', ht, _⟩ := H.sub k a ha y hy
    have : o = i := by rw [ho] at ho'; omega
    subst this
    rw [hm] at hq; cases hq
    exact ⟨hr, by rw [h0, h1, hx0, hx1]; exact ht⟩
/-- One subscription more. -/
theorem House.add {ms : List MR} (H : House ms) {i : Nat} {m m' : MR} (hm : ms[i]? = some m) (hok : m'.ok) (hr : m'.room = m.room) (h0 : m'.is0 = m.is0) (h1 : m'.is1 = m.is1) (hx0 : m'.x0 = m.x0) (hx1 : m'.x1 = m.x1)
    {x : Sub} (hs : m'.sl = m.sl ++ [x]) (h4 : m.sl.length < 4) (hsrc : ∀ y ∈ m.sl, y.source ≠ x.source) (hx : SubOk ms i m x) : House (ms.set i m') := by
  refine H.set hm hok (by rw [hr]; exact H.room i m hm) (by rw [hs, List.length_append]; simp; omega) (by rw [hx0, hx1]; exact H.small i m hm) ?_ ?_ ?_
  · intro y hy
    rw [hs] at hy
    rcases List.mem_append.1 hy with hy | hy
    · exact (H.sub i m hm y hy).set hr
    · rw [List.mem_singleton.1 hy]; exact hx.set hr
  · rw [hs, List.map_append]
    refine List.nodup_append.2 ⟨H.srcs i m hm, by simp, ?_⟩
    intro a ha b hb
    obtain ⟨y, hy, rfl⟩ := List.mem_map.1 ha
    rw [show b = x.source from by simpa using hb]
    exact hsrc y hy
  · intro k a y hji ha hy ho
    obtain ⟨o, q, ho', hq, _, hqr, h0', ht, _⟩ := H.sub k a ha y hy
    have : o = i := by rw [ho] at ho'; omega
    subst this
    rw [hm] at hq; cases hq
    exact ⟨hr, by rw [h0, h1, hx0, hx1]; exact ht⟩
end Go.Rm
