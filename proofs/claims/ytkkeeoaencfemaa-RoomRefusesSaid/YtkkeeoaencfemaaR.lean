/- Contracts of the small functions of the statements on rooms, and of 'New'. No premise beside what each theorem names. -/
import Derived.Test.YtkkeeoaencfemaaQ
namespace Go.Eng
theorem RdS.left {A B : Fr} {q : Option Addr} {k : Nat} {news : List Value} (h : RdS [A] q k news) : RdS [A ++ B] q k news := by
  refine ⟨h.1, h.2.imp id ?_⟩
  rintro ⟨bl, off, cs, T, fz, hq, hl, hseg⟩
  obtain ⟨f, hf, hb⟩ := hl.ok
  exact ⟨bl, off, cs, T, fz, hq, ⟨f, by simp at hf ⊢; exact .inl hf, hb⟩, hseg⟩
theorem RdS.right {A B : Fr} {q : Option Addr} {k : Nat} {news : List Value} (h : RdS [B] q k news) : RdS [A ++ B] q k news := by
  refine ⟨h.1, h.2.imp id ?_⟩
  rintro ⟨bl, off, cs, T, fz, hq, hl, hseg⟩
  obtain ⟨f, hf, hb⟩ := hl.ok
  exact ⟨bl, off, cs, T, fz, hq, ⟨f, by simp at hf ⊢; exact .inr hf, hb⟩, hseg⟩
/-- Rows of a piece that can be read. -/
theorem RdS.row {α : Type} {f : α → List Value} {k n : Nat} {l : List α} {G : List Fr} {q : Option Addr} (h : RdS G q (n * k) (flat f l)) (hf : ∀ a, (f a).length = k) (hk : 0 < k) (hn : 0 < n) :
    l.length = n ∧ ∃ bl off cs T fz, q = some ⟨bl, off, Option.none⟩ ∧ Look G bl (.cells (List.toArray cs) T fz) ∧ ∀ (i : Nat) a, l[i]? = some a → seg cs (off + i * k) k = f a ∧ ∀ (j : Nat) v, (f a)[j]? = some v → cs[off + i * k + j]? = some v := by
  obtain ⟨hl, h2⟩ := h
  rw [flat_length hf] at hl
  have hln : l.length = n := Nat.eq_of_mul_eq_mul_right hk hl
  refine ⟨hln, ?_⟩
  rcases h2 with h0 | ⟨bl, off, cs, T, fz, hq, hlk, hseg⟩
  · exfalso; rcases Nat.mul_eq_zero.1 h0 with h | h <;> omega
  · refine ⟨bl, off, cs, T, fz, hq, hlk, fun i a ha => ?_⟩
    have h1 := flat_row' (f := f) hf ha
    have hi := (List.getElem?_eq_some_iff.1 ha).1
    have hle : i * k + k ≤ n * k := by
      have : (i + 1) * k ≤ n * k := Nat.mul_le_mul_right _ (by omega)
      rwa [Nat.add_mul, Nat.one_mul] at this
    have hs : seg cs (off + i * k) k = f a := by
      rw [← h1, ← hseg]
      simp only [seg]
      rw [List.drop_take, List.take_take, List.drop_drop, Nat.min_eq_left (by omega)]
    refine ⟨hs, fun j v hv => ?_⟩
    rw [← hs] at hv
    simp only [seg, List.getElem?_take, List.getElem?_drop] at hv
    split at hv
    · exact hv
    · cases hv
end Go.Eng
namespace Go.Rm
open Go Go.Eng
/-- A seat as it comes in: its row, and the sources that it leads to. -/
structure SeatR where
  row : List Value
  len : row.length = 34
  src : Hdr
  ys : List Int
structure SeatsIn (X : Fr) (h : Hdr) (l : List SeatR) : Prop where
  big : h.n ≤ 9223372036854775807
  cap : h.n ≤ h.c
  rd : RdS [X] h.p (h.n * 34) (flat SeatR.row l)
  src : ∀ r ∈ l, r.row[31]? = some (.slice r.src.p r.src.n r.src.c) ∧ r.row.all (·.oneCell') = true ∧ RdS [X] r.src.p (r.src.n * 1) (r.ys.map (Value.int .u32 ·))
end Go.Rm
namespace Go.Proofs.Ytkkeeoaencfemaa
open Go.Eng Go.Rm
set_option linter.unusedSimpArgs false
set_option linter.unusedVariables false
set_option maxRecDepth 20000
set_option maxHeartbeats 4000000
attribute [local irreducible] Go.Eng.HT Go.Eng.QF Go.Eng.CW Go.Eng.EX Go.Eng.Thn Go.Eng.InB Go.Eng.BP Go.Eng.OL Go.Eng.OpW Go.Eng.anyT Go.Eng.CutQ Go.Eng.LoopK Go.Eng.Ct Go.Eng.Ent

theorem great_ct (f : Frm) : Ct Try.prog 8 #[.agg f.enc.toArray] [] (fun v post => v = .bool (decide ((40 : Int) < f.src.n)) ∧ post = []) := by
  refine Ct.enter Try.func8 rfl Try.ntmps8 rfl (by simp only [Go.Eng.slotsFrom, Nat.reduceAdd]; exact rfl) ?_
  intro c F
  try refine ht_G (by simp only [Go.Eng.rests, List.eraseIdx_cons_zero, List.eraseIdx_cons_succ, List.cons_append, List.nil_append]; exact rfl) ?_
  repeat' (first | refine ht_seq ?_ | refine ht_then ?_ | ((refine ht_region (id := 0) ?_); (refine ht_op_n ?_; (((refine ht_box_agg rfl rfl ?_; intro b)))); (refine ht_op_n ?_; (refine ht_q rfl (by (exact qf_assign rfl)) ?_)); (refine ht_nil ?_); (refine ht_keep (ks := [0, 1, 2]) (by simp only [Go.Eng.keep, Go.Eng.get, Nat.reduceBEq, cond_true, cond_false, BEq.rfl, Go.Eng.puts]; exact rfl) ?_)) | ((refine ht_region (id := 1) ?_); (refine ht_op_n ?_; (refine ht_q rfl (by (exact qf_fieldAddr rfl rfl rfl)) ?_)); (refine ht_op_n ?_; (refine ht_q rfl (by (exact qf_load1 rfl rfl)) ?_)); (refine ht_op_n ?_; (refine ht_q rfl (by (exact qf_len_slice rfl)) ?_)); (refine ht_op_n ?_; (refine ht_q rfl (by (exact qf_gtr rfl rfl)) ?_)); (refine ht_op_n ?_; (refine ht_q rfl (by (exact qf_assign rfl)) ?_)); (refine ht_nil ?_); (refine ht_keep (ks := [0, 1, 2]) (by simp only [Go.Eng.keep, Go.Eng.get, Nat.reduceBEq, cond_true, cond_false, BEq.rfl, Go.Eng.puts]; exact rfl) ?_)) | refine ht_ret ?_)
  exact ht_return Try.results8 (.tmp rfl .nil) ⟨_, ⟨rfl, rfl⟩, Ent.drop 1 rfl⟩

theorem sources_ct (X : Fr) (h : Hdr) (l : List SeatR) (hI : SeatsIn X h l) : Ct Try.prog 6 #[h.v] [X]
    (fun v post => ∃ b, v = .bool b ∧ (b = true → h.n ≤ 20 ∧ ∀ r ∈ l, r.src.n ≤ 20) ∧ post = [X]) := by
  have hbig := hI.big
  unfold Hdr.v
  refine Ct.enter Try.func6 rfl Try.ntmps6 rfl (by simp only [Go.Eng.slotsFrom, Nat.reduceAdd]; exact rfl) ?_
  intro c F
  try refine ht_G (by simp only [Go.Eng.rests, List.eraseIdx_cons_zero, List.eraseIdx_cons_succ, List.cons_append, List.nil_append]; exact rfl) ?_
  repeat' (first | refine ht_seq ?_ | refine ht_then ?_ | ((refine ht_region (id := 0) ?_); (refine ht_op_n ?_; (refine ht_q rfl (by (exact qf_assign rfl)) ?_)); (refine ht_nil ?_); (refine ht_keep (ks := [0, 2, 3, 7, 16]) (by simp only [Go.Eng.keep, Go.Eng.get, Nat.reduceBEq, cond_true, cond_false, BEq.rfl, Go.Eng.puts]; exact rfl) ?_)) | ((refine ht_region (id := 1) ?_); (refine ht_op_n ?_; (refine ht_q rfl (by (exact qf_assign rfl)) ?_)); (refine ht_nil ?_); (refine ht_keep (ks := [0, 2, 3, 7, 16]) (by simp only [Go.Eng.keep, Go.Eng.get, Nat.reduceBEq, cond_true, cond_false, BEq.rfl, Go.Eng.puts]; exact rfl) ?_)) | refine ht_block ?_)
  refine ht_loop (α := Nat) (ok := fun i => i ≤ h.n ∧ ∀ j, j < i → ∀ r, l[j]? = some r → r.src.n ≤ 20) (fun i => [(0, .slice h.p h.n h.c), (3, .int .i64 (i : Int))])
    (fun _ => X :: F) (fun i => h.n - i) 0 ⟨by omega, fun j hj => by omega⟩ ⟨rfl, rfl, trivial⟩ (Ent.refl _) ?_
  rintro i ⟨hi, hno⟩
  by_cases hin : i < h.n
  · obtain ⟨hll, bl, off, cs, T, fz, hq, hlk, hrow⟩ := (hI.rd.mem (G := X :: F)).row SeatR.len (by omega) (by omega)
    haveI := hlk
    obtain ⟨r, hr⟩ : ∃ r, l[i]? = some r := ⟨_, List.getElem?_eq_getElem (by omega)⟩
    have h31 := (hrow i r hr).2 31 _ (hI.src r (List.mem_of_getElem? hr)).1
    rw [hq]
    repeat' (first | refine ht_seq ?_ | refine ht_then ?_ | ((refine ht_region (id := 2) ?_); (refine ht_op_n ?_; (refine ht_q rfl (by (exact qf_move rfl)) ?_)); (refine ht_op_n ?_; (refine ht_q rfl (by (exact qf_move rfl)) ?_)); (refine ht_op_n ?_; (refine ht_q rfl (by (exact qf_len_slice rfl)) ?_)); (refine ht_op_n ?_; (refine ht_q rfl (by (exact qf_lss rfl rfl)) ?_)); (refine ht_nil ?_); (refine ht_keep (ks := [0, 2, 3, 7, 16]) (by simp only [Go.Eng.keep, Go.Eng.get, Nat.reduceBEq, cond_true, cond_false, BEq.rfl, Go.Eng.puts]; exact rfl) ?_)) | ((refine ht_region (id := 4) ?_); (refine ht_op_n ?_; (refine ht_q rfl (by (exact qf_move rfl)) ?_)); (refine ht_op_n ?_; (refine ht_q rfl (by (exact qf_move rfl)) ?_)); (refine ht_op_n ?_; (refine ht_q rfl (by (exact qf_indexAddr_natoff rfl rfl (by omega) rfl)) ?_)); (refine ht_op_n ?_; (refine ht_q rfl (by (exact qf_fieldAddr rfl rfl rfl)) ?_)); (refine ht_op_n ?_; (refine ht_q rfl (by (exact qf_load1 rfl h31)) ?_)); (refine ht_op_n ?_; (refine ht_q rfl (by (exact qf_len_slice rfl)) ?_)); (refine ht_op_n ?_; (refine ht_q rfl (by (exact qf_gtr rfl rfl)) ?_)); (refine ht_nil ?_); (refine ht_keep (ks := [0, 2, 3, 7, 16]) (by simp only [Go.Eng.keep, Go.Eng.get, Nat.reduceBEq, cond_true, cond_false, BEq.rfl, Go.Eng.puts]; exact rfl) ?_)) | ((refine ht_region (id := 5) ?_); (refine ht_op_n ?_; (refine ht_q rfl (by (exact qf_assign rfl)) ?_)); (refine ht_nil ?_); (refine ht_keep (ks := [0, 2, 3, 7, 16]) (by simp only [Go.Eng.keep, Go.Eng.get, Nat.reduceBEq, cond_true, cond_false, BEq.rfl, Go.Eng.puts]; exact rfl) ?_)) | ((refine ht_region (id := 3) ?_); (refine ht_op_n ?_; (refine ht_q rfl (by (exact qf_move rfl)) ?_)); (refine ht_op_n ?_; (refine ht_q rfl (by (exact qf_add_i64 rfl rfl (by first | omega | (dsimp only; omega)))) ?_)); (refine ht_op_n ?_; (refine ht_q rfl (by (exact qf_assign rfl)) ?_)); (refine ht_nil ?_); (refine ht_keep (ks := [0, 2, 3, 7, 16]) (by simp only [Go.Eng.keep, Go.Eng.get, Nat.reduceBEq, cond_true, cond_false, BEq.rfl, Go.Eng.puts]; exact rfl) ?_)) | refine ht_skip ?_ | refine ht_ret ?_ | refine ht_block ?_ | refine ht_then_ret ?_ | refine ht_in_normal ?_ | refine ht_in_ret ?_ | (refine ht_cond_d rfl (by with_reducible rfl) ?_ ?_ <;> intro hc <;> (first | (exfalso; omega) | skip)))
    · exact ht_return Try.results6 (.tmp rfl .nil) ⟨_, ⟨false, rfl, fun h => absurd h Bool.false_ne_true, rfl⟩, Ent.drop 0 rfl⟩
    · refine ht_round (i + 1) (by omega) ⟨by omega, fun j hj y hy => ?_⟩ ⟨rfl, rfl, trivial⟩ (Ent.refl _)
      by_cases e : j = i
      · subst e; rw [hr] at hy; cases hy; omega
      · exact hno j (by omega) y hy
  · repeat' (first | refine ht_seq ?_ | refine ht_then ?_ | ((refine ht_region (id := 2) ?_); (refine ht_op_n ?_; (refine ht_q rfl (by (exact qf_move rfl)) ?_)); (refine ht_op_n ?_; (refine ht_q rfl (by (exact qf_move rfl)) ?_)); (refine ht_op_n ?_; (refine ht_q rfl (by (exact qf_len_slice rfl)) ?_)); (refine ht_op_n ?_; (refine ht_q rfl (by (exact qf_lss rfl rfl)) ?_)); (refine ht_nil ?_); (refine ht_keep (ks := [0, 2, 3, 7, 16]) (by simp only [Go.Eng.keep, Go.Eng.get, Nat.reduceBEq, cond_true, cond_false, BEq.rfl, Go.Eng.puts]; exact rfl) ?_)) | ((refine ht_region (id := 6) ?_); (refine ht_op_n ?_; (refine ht_q rfl (by (exact qf_move rfl)) ?_)); (refine ht_op_n ?_; (refine ht_q rfl (by (exact qf_len_slice rfl)) ?_)); (refine ht_op_n ?_; (refine ht_q rfl (by (exact qf_leq rfl rfl)) ?_)); (refine ht_op_n ?_; (refine ht_q rfl (by (exact qf_assign rfl)) ?_)); (refine ht_nil ?_); (refine ht_keep (ks := [0, 2, 3, 7, 16]) (by simp only [Go.Eng.keep, Go.Eng.get, Nat.reduceBEq, cond_true, cond_false, BEq.rfl, Go.Eng.puts]; exact rfl) ?_)) | refine ht_ret ?_ | refine ht_exit ?_ | refine ht_then_exit ?_ | refine ht_in_same rfl ?_ | (refine ht_cond_d rfl (by with_reducible rfl) ?_ ?_ <;> intro hc <;> (first | (exfalso; omega) | skip)))
    have hll : l.length = h.n := by
      have hl := hI.rd.1
      rw [flat_length SeatR.len] at hl
      omega
    refine ht_return Try.results6 (.tmp rfl .nil) ?_
    exact ⟨_, ⟨_, rfl, fun hb => ⟨by have := of_decide_eq_true hb; omega, fun r hr => by
      obtain ⟨j, hj⟩ := List.getElem?_of_mem hr
      exact hno j (by have hjl := (List.getElem?_eq_some_iff.1 hj).1; omega) r hj⟩, rfl⟩, Ent.drop 0 rfl⟩

/-- A member at the start. -/
def new1 : MR := ⟨-1, false, 0, ⟨none, 0, 0⟩, false, 0, ⟨none, 0, 0⟩, ⟨none, 0, 0⟩, 0, [], [], [], [], [], []⟩
theorem deep_new (n : Nat) : deep (List.replicate n new1) = [] := by
  induction n with
  | zero => rfl
  | succ n ih => rw [List.replicate_succ]; simp [deep, MR.grp, new1]
theorem House.new (n : Nat) (hn : n ≤ 6) : House (List.replicate n new1) := by
  have key : ∀ (i : Nat) m, (List.replicate n new1)[i]? = some m → m = new1 := fun i m h => by
    rw [List.getElem?_replicate] at h
    split at h
    · exact (Option.some.inj h).symm
    · cases h
  exact ⟨by simpa using hn, fun i m h => by rw [key i m h]; exact ⟨OwnS.nil 3 1, OwnS.nil 3 1, OwnS.nil 50 4⟩, fun i m h => by rw [key i m h]; decide, fun i m h => by rw [key i m h]; decide, fun i m h => by rw [key i m h]; decide,
    fun i m h x hx => (by rw [key i m h] at hx; cases hx), fun i m h => by rw [key i m h]; exact List.nodup_nil⟩

/-- The house that a pointer leads to, in one group. -/
def Hs (hb : Nat) (ms : List MR) (yss : List (List Int)) (L : Fr) : Prop :=
  (ms = [] ∧ L = blk hb (.cells (hrow ⟨none, 0, 0⟩ ⟨none, 0, 0⟩).toArray 64 (0, 0))) ∨
  (0 < ms.length ∧ ∃ g lc s sp Lsrc LX, s.n = ms.length ∧ Src s Lsrc LX yss ∧ L = blk hb (.cells (hrow s ⟨some ⟨g, 0, none⟩, ms.length, lc⟩).toArray 64 (0, 0)) ++ (blk g (.cells (flat MR.row ms ++ sp).toArray 45 (0, 0)) ++ (deep ms ++ (Lsrc ++ LX))))

theorem new_ct (X : Fr) (h : Hdr) (l : List SeatR) (hI : SeatsIn X h l) (h20 : ∀ r ∈ l.take (min h.n 6), r.src.n ≤ 20) : Ct Try.prog 7 #[h.v] [X]
    (fun v post => ∃ hb L, v = .pointer (some ⟨hb, 0, none⟩) ∧ Hs hb (List.replicate (min h.n 6) new1) ((l.take (min h.n 6)).map SeatR.ys) L ∧ post = [L, X]) := by
  have hbig := hI.big
  have hcap := hI.cap
  unfold Hdr.v
  refine Ct.enter Try.func7 rfl Try.ntmps7 rfl (by simp only [Go.Eng.slotsFrom, Nat.reduceAdd]; exact rfl) ?_
  intro c F
  try refine ht_G (by simp only [Go.Eng.rests, List.eraseIdx_cons_zero, List.eraseIdx_cons_succ, List.cons_append, List.nil_append]; exact rfl) ?_
  repeat' (first | refine ht_seq ?_ | refine ht_then ?_ | ((refine ht_region (id := 0) ?_); (refine ht_op_n ?_; (refine ht_q rfl (by (exact qf_assign rfl)) ?_)); (refine ht_nil ?_); (refine ht_keep (ks := [0, 2, 3, 5, 12, 13, 14, 15]) (by simp only [Go.Eng.keep, Go.Eng.get, Nat.reduceBEq, cond_true, cond_false, BEq.rfl, Go.Eng.puts]; exact rfl) ?_)) | ((refine ht_region (id := 1) ?_); (refine ht_op_n ?_; (refine ht_q rfl (by (exact qf_build_struct rfl rfl)) ?_)); (refine ht_op_n ?_; (((refine ht_box_agg rfl rfl ?_; intro b)))); (refine ht_op_n ?_; (refine ht_q rfl (by (exact qf_assign rfl)) ?_)); (refine ht_nil ?_); (refine ht_keep (ks := [0, 2, 3, 5, 12, 13, 14, 15]) (by simp only [Go.Eng.keep, Go.Eng.get, Nat.reduceBEq, cond_true, cond_false, BEq.rfl, Go.Eng.puts]; exact rfl) ?_)) | ((refine ht_region (id := 2) ?_); (refine ht_op_n ?_; (refine ht_q rfl (by (exact qf_move rfl)) ?_)); (refine ht_op_n ?_; (refine ht_q rfl (by (exact qf_move rfl)) ?_)); (refine ht_op_n ?_; (refine ht_q rfl (by (exact qf_len_slice rfl)) ?_)); (refine ht_op_n ?_; (refine ht_q rfl (by (exact qf_min_nat (a := h.n) (b := 6) rfl rfl)) ?_)); (refine ht_op_n ?_; (refine ht_q rfl (by (exact qf_slice_hG rfl rfl (by omega))) ?_)); (refine ht_op_n ?_; (refine ht_q rfl (by (exact qf_len_slice rfl)) ?_)); (refine ht_op_n ?_; (refine ht_q rfl (by (exact qf_move rfl)) ?_)); (refine ht_nil ?_); (refine ht_keep (ks := [0, 2, 3, 5, 12, 13, 14, 15]) (by simp only [Go.Eng.keep, Go.Eng.get, Nat.reduceBEq, cond_true, cond_false, BEq.rfl, Go.Eng.puts]; exact rfl) ?_)) | refine ht_block ?_)
  generalize hN : min h.n 6 = N at *
  have hN6 : N ≤ 6 := by omega
  have hNn : N ≤ h.n := by omega
  have hll : l.length = h.n := by
    have hl := hI.rd.1
    rw [flat_length SeatR.len] at hl
    omega
  refine ht_loop (α := Nat × Hdr × Fr × List Hdr × Fr × Hdr × Fr) (ok := fun y => y.1 ≤ N ∧ y.2.1.n = y.1 ∧ OwnS 30 1 y.2.1.p y.2.1.n y.2.1.c (y.2.2.2.1.map Hdr.v) y.2.2.1 ∧ y.2.2.2.1.length = y.1 ∧
      (∀ (j : Nat) k ys, y.2.2.2.1[j]? = some k → (l.map SeatR.ys)[j]? = some ys → k.n ≤ 20 ∧ RdS [y.2.2.2.2.1] k.p k.n (ys.map (Value.int .u32 ·))) ∧ y.2.2.2.2.2.1.n = y.1 ∧ OwnS 45 9 y.2.2.2.2.2.1.p y.2.2.2.2.2.1.n y.2.2.2.2.2.1.c (flat MR.row (List.replicate y.1 new1)) y.2.2.2.2.2.2 ∧ (y.1 = 0 → y.2.1 = ⟨none, 0, 0⟩ ∧ y.2.2.1 = [] ∧ y.2.2.2.2.1 = [] ∧ y.2.2.2.2.2.1 = ⟨none, 0, 0⟩ ∧ y.2.2.2.2.2.2 = []))
    (fun y => [(3, .pointer (some ⟨b, 0, none⟩)), (12, .slice (slp h.p h.c 34) N h.c), (13, .int .i64 (N : Int)), (14, .int .i64 (y.1 : Int))])
    (fun y => blk b (.cells (hrow y.2.1 y.2.2.2.2.2.1).toArray 64 (0, 0)) :: y.2.2.1 :: y.2.2.2.2.1 :: y.2.2.2.2.2.2 :: X :: F) (fun y => N - y.1) (0, ⟨none, 0, 0⟩, [], [], [], ⟨none, 0, 0⟩, [])
    ⟨by omega, rfl, OwnS.nil 30 1, rfl, fun j k ys hk => by simp at hk, rfl, OwnS.nil 45 9, fun _ => ⟨rfl, rfl, rfl, rfl, rfl⟩⟩ ⟨rfl, rfl, rfl, rfl, trivial⟩ (Ent.flat (by simp; rfl)) ?_
  rintro ⟨i, ⟨sp, sn, sc⟩, Ls, srcs, LX, ⟨mp, mn, mc⟩, Lm⟩ ⟨hi, hsn, hOs, hsl, hsr, hmn, hOm, hz⟩
  simp only at hi hsn hOs hsl hsr hmn hOm hz
  subst sn mn
  by_cases hin : i < N
  · obtain ⟨hll, bl, off, cs, T, fz, hq, hlk, hro⟩ := (hI.rd.mem (G := X :: [])).row SeatR.len (by omega) (by omega)
    obtain ⟨r, hr⟩ : ∃ r, l[i]? = some r := ⟨_, List.getElem?_eq_getElem (by omega)⟩
    have hrm : r ∈ l := List.mem_of_getElem? hr
    have h31 := (hI.src r hrm).1
    rw [hq, slp_some]
    dsimp only
    haveI := hlk
    haveI : Look (X :: F) bl (.cells cs.toArray T fz) := hlk.mono (by simp)
    have hy20 : r.src.n ≤ 20 := h20 r (List.mem_of_getElem? (by rw [List.getElem?_take, if_pos hin]; exact hr) : r ∈ l.take N)
    repeat' (first | refine ht_seq ?_ | refine ht_then ?_ | ((refine ht_region (id := 3) ?_); (refine ht_op_n ?_; (refine ht_q rfl (by (exact qf_lss rfl rfl)) ?_)); (refine ht_nil ?_); (refine ht_keep (ks := [0, 2, 3, 5, 12, 13, 14, 15]) (by simp only [Go.Eng.keep, Go.Eng.get, Nat.reduceBEq, cond_true, cond_false, BEq.rfl, Go.Eng.puts]; exact rfl) ?_)) | ((refine ht_region (id := 4) ?_); (refine ht_op_n ?_; (refine ht_q rfl (by (exact qf_indexAddr_natoff rfl rfl (by omega) rfl)) ?_)); (refine ht_op_n ?_; (refine ht_q rfl (by (exact qf_loadN rfl (hro i r hr).1 r.len)) ?_)); (refine ht_op_n ?_; (((refine ht_alloc rfl ?_; intro b)))); (refine ht_op_n ?_; (((refine ht_storeAll (vs := r.row) rfl rfl r.len (by exact r.len) (hI.src r hrm).2.1 ?_)))); (refine ht_nil ?_); (refine ht_keep (ks := [0, 2, 3, 5, 12, 13, 14, 15]) (by simp only [Go.Eng.keep, Go.Eng.get, Nat.reduceBEq, cond_true, cond_false, BEq.rfl, Go.Eng.puts]; exact rfl) ?_)) | ((refine ht_drawE (id := 5) (by kernel_rfl) [12] [2] (by simp only [Go.Eng.takes, Go.Eng.rests, List.getD_cons_zero, List.getD_cons_succ, List.eraseIdx_cons_zero, List.eraseIdx_cons_succ, List.cons_append, List.nil_append]; exact rfl) rfl rfl ?_); (refine ht_G (by (try simp only [Go.Eng.takes, Go.Eng.rests, List.getD_cons_zero, List.getD_cons_succ, List.eraseIdx_cons_zero, List.eraseIdx_cons_succ, List.cons_append, List.nil_append]); exact rfl) ?_); (refine ht_take (i := 0) rfl rfl (by kernel_rfl) rfl (by (exact qf_move rfl)) ?_); (refine ht_take (i := 1) rfl rfl (by kernel_rfl) rfl (by (exact qf_move rfl)) ?_); (refine ht_take (i := 2) rfl rfl (by kernel_rfl) rfl (by (exact qf_nilCheck rfl)) ?_); (refine ht_take (i := 3) rfl rfl (by kernel_rfl) rfl (by (exact qf_fieldAddr rfl rfl rfl)) ?_); (refine ht_take (i := 4) rfl rfl (by kernel_rfl) rfl (by (exact qf_load1 rfl rfl)) ?_); (refine ht_take (i := 5) rfl rfl (by kernel_rfl) rfl (by (exact qf_fieldAddr rfl rfl rfl)) ?_); (refine ht_take (i := 6) rfl rfl (by kernel_rfl) rfl (by (exact qf_load1 rfl h31)) ?_); (refine ht_next (i := 7) rfl rfl (by kernel_rfl) ?_); (((refine ht_call [5] rfl rfl rfl (cloneU_ct X r.src _ (hI.src r hrm).2.2 (by simp [Value.oneCell']) (by omega)) rfl rfl rfl ?_; rintro _ _ ⟨h2, L2, rfl, hn2, hO2, rfl⟩; refine ht_G (by simp only [Go.Eng.rests, List.eraseIdx_cons_zero, List.eraseIdx_cons_succ, List.cons_append, List.nil_append]; exact rfl) ?_; refine ht_order [1, 1, 1, 1, 1, 1] rfl (by simp only [Go.Eng.takes, Go.Eng.rests, List.getD_cons_zero, List.getD_cons_succ, List.eraseIdx_cons_zero, List.eraseIdx_cons_succ, List.cons_append, List.nil_append]; exact rfl) ?_))); (refine ht_held ?_); (refine ht_next (i := 8) rfl rfl (by kernel_rfl) ?_); (refine ht_buildSlice rfl rfl (by rfl) (by rfl) (by rfl) ?_; intro b); (refine ht_held ?_); (refine ht_next (i := 9) rfl rfl (by kernel_rfl) ?_); (((refine ht_app rfl rfl hOs (RdS.here (by rfl) (by rfl)) (by rfl) (by first | omega | (simp; done) | (simp; omega)) (by rfl) (by rfl) (by rfl) (by rfl) ?_; rintro p3 c3 L3 hO3))); (refine ht_held ?_); (refine ht_take (i := 10) rfl rfl (by kernel_rfl) rfl (by (exact qf_nilCheck rfl)) ?_); (refine ht_take (i := 11) rfl rfl (by kernel_rfl) rfl (by (exact qf_fieldAddr rfl rfl rfl)) ?_); (refine ht_next (i := 12) rfl rfl (by kernel_rfl) ?_); (((refine ht_store1 rfl rfl rfl (by rfl) (by rfl) ?_))); (refine ht_tail rfl ?_); (refine ht_any_done (by kernel_rfl) ?_); (refine ht_keep (ks := [0, 2, 3, 5, 12, 13, 14, 15]) (by simp only [Go.Eng.keep, Go.Eng.get, Nat.reduceBEq, cond_true, cond_false, BEq.rfl, Go.Eng.puts]; exact rfl) ?_)) | ((refine ht_region (id := 6) ?_); (refine ht_op_n ?_; (refine ht_q rfl (by (exact qf_move rfl)) ?_)); (refine ht_op_n ?_; (refine ht_q rfl (by (exact qf_move rfl)) ?_)); (refine ht_op_n ?_; (refine ht_q rfl (by (exact qf_nilCheck rfl)) ?_)); (refine ht_op_n ?_; (refine ht_q rfl (by (exact qf_fieldAddr rfl rfl rfl)) ?_)); (refine ht_op_n ?_; (refine ht_q rfl (by (exact qf_load1 rfl rfl)) ?_)); (refine ht_op_n ?_; (refine ht_q rfl (by (exact qf_build_struct rfl rfl)) ?_)); (refine ht_op_n ?_; (((refine ht_buildSlice rfl rfl (by rfl) (by rfl) (by rfl) ?_; intro b)))); (refine ht_op_n ?_; (((refine ht_app rfl rfl hOm (RdS.here (by rfl) (by rfl)) (by rfl) (by first | omega | (simp; done) | (simp; omega)) (by rfl) (by rfl) (by rfl) (by rfl) ?_; rintro p4 c4 L4 hO4)))); (refine ht_op_n ?_; (refine ht_q rfl (by (exact qf_nilCheck rfl)) ?_)); (refine ht_op_n ?_; (refine ht_q rfl (by (exact qf_fieldAddr rfl rfl rfl)) ?_)); (refine ht_op_n ?_; (((refine ht_store1 rfl rfl rfl (by rfl) (by rfl) ?_)))); (refine ht_nil ?_); (refine ht_keep (ks := [0, 2, 3, 5, 12, 13, 14, 15]) (by simp only [Go.Eng.keep, Go.Eng.get, Nat.reduceBEq, cond_true, cond_false, BEq.rfl, Go.Eng.puts]; exact rfl) ?_)) | ((refine ht_region (id := 7) ?_); (refine ht_op_n ?_; (refine ht_q rfl (by (exact qf_add_i64 rfl rfl (by first | omega | (dsimp only; omega)))) ?_)); (refine ht_op_n ?_; (refine ht_q rfl (by (exact qf_move rfl)) ?_)); (refine ht_nil ?_); (refine ht_keep (ks := [0, 2, 3, 5, 12, 13, 14, 15]) (by simp only [Go.Eng.keep, Go.Eng.get, Nat.reduceBEq, cond_true, cond_false, BEq.rfl, Go.Eng.puts]; exact rfl) ?_)) | refine ht_skip ?_ | refine ht_block ?_ | refine ht_in_normal ?_ | (refine ht_cond_d rfl (by with_reducible rfl) ?_ ?_ <;> intro hc <;> (first | (exfalso; omega) | skip)))
    refine ht_round (i + 1, ⟨p3, i + 1, c3⟩, L3, srcs ++ [h2], L2 ++ LX, ⟨p4, i + 1, c4⟩, L4) (by simp only; omega) ⟨by simp only; omega, rfl, by rw [List.map_append]; exact hO3, by simp; omega, fun j k ys hk hys => ?_, rfl, by rw [List.replicate_succ', flat_append, flat_one]; exact hO4, fun h => by simp at h⟩ ⟨rfl, rfl, rfl, rfl, trivial⟩ (Ent.trans (Ent.picks [4, 4, 2] 3 rfl rfl rfl rfl) (Ent.flat (by simp [takes, rests]; rfl)))
    by_cases e : j < i
    · simp only at hk
      rw [List.getElem?_append_left (by omega)] at hk
      obtain ⟨h1, h2⟩ := hsr j k ys hk hys
      exact ⟨h1, h2.right⟩
    · have hj : j = i := by
        have := (List.getElem?_eq_some_iff.1 hk).1
        simp at this; omega
      subst hj
      simp only at hk
      rw [List.getElem?_append_right (by omega), hsl, Nat.sub_self] at hk
      cases hk
      rw [List.getElem?_map, hr] at hys
      cases hys
      refine ⟨by omega, ?_⟩
      have := hO2.rd (G := [L2]) plugHere
      rw [Nat.mul_one] at this
      exact this.left
  · obtain rfl : i = N := by omega
    dsimp only
    repeat' (first | refine ht_seq ?_ | refine ht_then ?_ | ((refine ht_region (id := 3) ?_); (refine ht_op_n ?_; (refine ht_q rfl (by (exact qf_lss rfl rfl)) ?_)); (refine ht_nil ?_); (refine ht_keep (ks := [0, 2, 3, 5, 12, 13, 14, 15]) (by simp only [Go.Eng.keep, Go.Eng.get, Nat.reduceBEq, cond_true, cond_false, BEq.rfl, Go.Eng.puts]; exact rfl) ?_)) | ((refine ht_region (id := 8) ?_); (refine ht_op_n ?_; (refine ht_q rfl (by (exact qf_move rfl)) ?_)); (refine ht_op_n ?_; (refine ht_q rfl (by (exact qf_assign rfl)) ?_)); (refine ht_nil ?_); (refine ht_keep (ks := [0, 2, 3, 5, 12, 13, 14, 15]) (by simp only [Go.Eng.keep, Go.Eng.get, Nat.reduceBEq, cond_true, cond_false, BEq.rfl, Go.Eng.puts]; exact rfl) ?_)) | refine ht_ret ?_ | refine ht_exit ?_ | refine ht_then_exit ?_ | refine ht_in_same rfl ?_ | (refine ht_cond_d rfl (by with_reducible rfl) ?_ ?_ <;> intro hc <;> (first | (exfalso; omega) | skip)))
    refine ht_return Try.results7 (.tmp rfl .nil) ?_
    refine ⟨_, ⟨b, _, rfl, ?_, rfl⟩, Ent.trans (Ent.picks [0, 2] 0 rfl rfl rfl rfl) (Ent.flat (G' := ((blk b (.cells (hrow ⟨sp, i, sc⟩ ⟨mp, i, mc⟩).toArray 64 (0, 0))) ++ (Lm ++ (Ls ++ LX))) :: X :: F) (by simp [takes, rests]))⟩
    rcases Nat.eq_zero_or_pos i with h0 | h0
    · obtain ⟨e1, e2, e3, e4, e5⟩ := hz h0
      cases e1; cases e4
      subst e2 e3 e5
      exact .inl ⟨rfl, by simp⟩
    · obtain ⟨gg, spp, hp2, hL2⟩ := hOm.row (by omega)
      subst hp2 hL2
      refine .inr ⟨by simpa using h0, gg, mc, ⟨sp, i, sc⟩, spp, Ls, LX, by simp, ⟨srcs, hOs, hsl, by simp; omega, fun j k ys hk hys => hsr j k ys hk ?_⟩, by rw [deep_new]; simp⟩
      rw [List.getElem?_map] at hys ⊢
      rw [List.getElem?_take] at hys
      split at hys
      · exact hys
      · cases hys
end Go.Proofs.Ytkkeeoaencfemaa
