/- Contracts of the copies and searches of package slices, as package room calls them. No premise beside what each theorem names. -/
import Derived.Test.YtkkeeoaencfemaaJ
namespace Go.Proofs.Ytkkeeoaencfemaa
open Go.Eng Go.Rm
set_option linter.unusedSimpArgs false
set_option linter.unusedVariables false
set_option maxRecDepth 20000
set_option maxHeartbeats 4000000
attribute [local irreducible] Go.Eng.HT Go.Eng.QF Go.Eng.CW Go.Eng.EX Go.Eng.Thn Go.Eng.InB Go.Eng.BP Go.Eng.OL Go.Eng.OpW Go.Eng.anyT Go.Eng.CutQ Go.Eng.LoopK Go.Eng.Ct Go.Eng.Ent

theorem cloneU_ct (X : Fr) (h : Hdr) (xs : List Value) (hR : RdS [X] h.p (h.n * 1) xs) (h1 : xs.all (·.oneCell') = true) (hlt : h.n ≤ 1000) :
    Ct Try.prog 12 #[h.v] [X] (fun v post => ∃ (h' : Hdr) (L' : Fr), v = h'.v ∧ h'.n = h.n ∧ OwnS 48 1 h'.p h'.n h'.c xs L' ∧ post = [X, L']) := by
  unfold Hdr.v
  cases hp : h.p with
  | none =>
    have hn0 : h.n = 0 := by
      rcases hR.2 with h0 | ⟨_, _, _, _, _, hq, _⟩
      · omega
      · rw [hp] at hq; cases hq
    have hx0 : xs = [] := List.eq_nil_of_length_eq_zero (by rw [hR.1, hn0])
    subst hx0
    refine Ct.enter Try.func12 rfl Try.ntmps12 rfl (by simp only [Go.Eng.slotsFrom, Nat.reduceAdd]; exact rfl) ?_
    intro c F
    try refine ht_G (by simp only [Go.Eng.rests, List.eraseIdx_cons_zero, List.eraseIdx_cons_succ, List.cons_append, List.nil_append]; exact rfl) ?_
    repeat' (first | refine ht_seq ?_ | refine ht_then ?_ | ((refine ht_region (id := 0) ?_); (refine ht_op_n ?_; (refine ht_q rfl (by (exact qf_assign rfl)) ?_)); (refine ht_nil ?_); (refine ht_keep (ks := [0, 2, 4]) (by simp only [Go.Eng.keep, Go.Eng.get, Nat.reduceBEq, cond_true, cond_false, BEq.rfl, Go.Eng.puts]; exact rfl) ?_)) | ((refine ht_region (id := 1) ?_); (refine ht_op_n ?_; (refine ht_q rfl (by (exact qf_move rfl)) ?_)); (refine ht_op_n ?_; (refine ht_q rfl (by (exact qf_eql_slice_nil rfl rfl)) ?_)); (refine ht_nil ?_); (refine ht_keep (ks := [0, 2, 4]) (by simp only [Go.Eng.keep, Go.Eng.get, Nat.reduceBEq, cond_true, cond_false, BEq.rfl, Go.Eng.puts]; exact rfl) ?_)) | ((refine ht_region (id := 2) ?_); (refine ht_op_n ?_; (refine ht_q rfl (by (exact qf_assign rfl)) ?_)); (refine ht_nil ?_); (refine ht_keep (ks := [0, 2, 4]) (by simp only [Go.Eng.keep, Go.Eng.get, Nat.reduceBEq, cond_true, cond_false, BEq.rfl, Go.Eng.puts]; exact rfl) ?_)) | refine ht_ret ?_ | refine ht_then_ret ?_ | (refine ht_cond rfl ?_ ?_ <;> intro hc <;> (first | (exact absurd hc Bool.false_ne_true.symm) | skip)))
    refine ht_return Try.results12 (.tmp rfl .nil) ?_
    exact ⟨_, ⟨⟨none, 0, 0⟩, [], rfl, by rw [hn0], OwnS.nil 48 1, rfl⟩, Ent.flat (by simp)⟩
  | some a =>
    rw [hp] at hR
    refine Ct.enter Try.func12 rfl Try.ntmps12 rfl (by simp only [Go.Eng.slotsFrom, Nat.reduceAdd]; exact rfl) ?_
    intro c F
    try refine ht_G (by simp only [Go.Eng.rests, List.eraseIdx_cons_zero, List.eraseIdx_cons_succ, List.cons_append, List.nil_append]; exact rfl) ?_
    repeat' (first | refine ht_seq ?_ | refine ht_then ?_ | ((refine ht_region (id := 0) ?_); (refine ht_op_n ?_; (refine ht_q rfl (by (exact qf_assign rfl)) ?_)); (refine ht_nil ?_); (refine ht_keep (ks := [0, 2, 4]) (by simp only [Go.Eng.keep, Go.Eng.get, Nat.reduceBEq, cond_true, cond_false, BEq.rfl, Go.Eng.puts]; exact rfl) ?_)) | ((refine ht_region (id := 1) ?_); (refine ht_op_n ?_; (refine ht_q rfl (by (exact qf_move rfl)) ?_)); (refine ht_op_n ?_; (refine ht_q rfl (by (exact qf_eql_slice_nil rfl rfl)) ?_)); (refine ht_nil ?_); (refine ht_keep (ks := [0, 2, 4]) (by simp only [Go.Eng.keep, Go.Eng.get, Nat.reduceBEq, cond_true, cond_false, BEq.rfl, Go.Eng.puts]; exact rfl) ?_)) | ((refine ht_region (id := 3) ?_); (refine ht_op_n ?_; (((refine ht_buildSlice rfl rfl (by rfl) (by rfl) (by rfl) ?_; intro b)))); (refine ht_op_n ?_; (refine ht_q rfl (by (exact qf_move rfl)) ?_)); (refine ht_op_n ?_; (((refine ht_app rfl rfl (OwnS.full (xs := Go.Eng.repL [Value.int .u32 0] 0) (m := 0) rfl (by decide)) (hR.mem) h1 (by omega) (by rfl) (by rfl) (by rfl) (by rfl) ?_; rintro p2 c2 L2 hO2)))); (refine ht_op_n ?_; (refine ht_q rfl (by (exact qf_assign rfl)) ?_)); (refine ht_nil ?_); (refine ht_keep (ks := [0, 2, 4]) (by simp only [Go.Eng.keep, Go.Eng.get, Nat.reduceBEq, cond_true, cond_false, BEq.rfl, Go.Eng.puts]; exact rfl) ?_)) | refine ht_skip ?_ | refine ht_ret ?_ | (refine ht_cond rfl ?_ ?_ <;> intro hc <;> (first | (exact absurd hc Bool.false_ne_true) | skip)))
    refine ht_return Try.results12 (.tmp rfl .nil) ?_
    exact ⟨_, ⟨⟨p2, 0 + h.n, c2⟩, L2, rfl, by simp, hO2, rfl⟩, Ent.picks [1] 0 rfl rfl rfl rfl⟩
theorem cloneS_ct (X : Fr) (h : Hdr) (xs : List Value) (hR : RdS [X] h.p (h.n * 4) xs) (h1 : xs.all (·.oneCell') = true) (hlt : h.n ≤ 1000) :
    Ct Try.prog 15 #[h.v] [X] (fun v post => ∃ (h' : Hdr) (L' : Fr), v = h'.v ∧ h'.n = h.n ∧ OwnS 50 4 h'.p h'.n h'.c xs L' ∧ post = [X, L']) := by
  unfold Hdr.v
  cases hp : h.p with
  | none =>
    have hn0 : h.n = 0 := by
      rcases hR.2 with h0 | ⟨_, _, _, _, _, hq, _⟩
      · omega
      · rw [hp] at hq; cases hq
    have hx0 : xs = [] := List.eq_nil_of_length_eq_zero (by rw [hR.1, hn0])
    subst hx0
    refine Ct.enter Try.func15 rfl Try.ntmps15 rfl (by simp only [Go.Eng.slotsFrom, Nat.reduceAdd]; exact rfl) ?_
    intro c F
    try refine ht_G (by simp only [Go.Eng.rests, List.eraseIdx_cons_zero, List.eraseIdx_cons_succ, List.cons_append, List.nil_append]; exact rfl) ?_
    repeat' (first | refine ht_seq ?_ | refine ht_then ?_ | ((refine ht_region (id := 0) ?_); (refine ht_op_n ?_; (refine ht_q rfl (by (exact qf_assign rfl)) ?_)); (refine ht_nil ?_); (refine ht_keep (ks := [0, 2, 4]) (by simp only [Go.Eng.keep, Go.Eng.get, Nat.reduceBEq, cond_true, cond_false, BEq.rfl, Go.Eng.puts]; exact rfl) ?_)) | ((refine ht_region (id := 1) ?_); (refine ht_op_n ?_; (refine ht_q rfl (by (exact qf_move rfl)) ?_)); (refine ht_op_n ?_; (refine ht_q rfl (by (exact qf_eql_slice_nil rfl rfl)) ?_)); (refine ht_nil ?_); (refine ht_keep (ks := [0, 2, 4]) (by simp only [Go.Eng.keep, Go.Eng.get, Nat.reduceBEq, cond_true, cond_false, BEq.rfl, Go.Eng.puts]; exact rfl) ?_)) | ((refine ht_region (id := 2) ?_); (refine ht_op_n ?_; (refine ht_q rfl (by (exact qf_assign rfl)) ?_)); (refine ht_nil ?_); (refine ht_keep (ks := [0, 2, 4]) (by simp only [Go.Eng.keep, Go.Eng.get, Nat.reduceBEq, cond_true, cond_false, BEq.rfl, Go.Eng.puts]; exact rfl) ?_)) | refine ht_ret ?_ | refine ht_then_ret ?_ | (refine ht_cond rfl ?_ ?_ <;> intro hc <;> (first | (exact absurd hc Bool.false_ne_true.symm) | skip)))
    refine ht_return Try.results15 (.tmp rfl .nil) ?_
    exact ⟨_, ⟨⟨none, 0, 0⟩, [], rfl, by rw [hn0], OwnS.nil 50 4, rfl⟩, Ent.flat (by simp)⟩
  | some a =>
    rw [hp] at hR
    refine Ct.enter Try.func15 rfl Try.ntmps15 rfl (by simp only [Go.Eng.slotsFrom, Nat.reduceAdd]; exact rfl) ?_
    intro c F
    try refine ht_G (by simp only [Go.Eng.rests, List.eraseIdx_cons_zero, List.eraseIdx_cons_succ, List.cons_append, List.nil_append]; exact rfl) ?_
    repeat' (first | refine ht_seq ?_ | refine ht_then ?_ | ((refine ht_region (id := 0) ?_); (refine ht_op_n ?_; (refine ht_q rfl (by (exact qf_assign rfl)) ?_)); (refine ht_nil ?_); (refine ht_keep (ks := [0, 2, 4]) (by simp only [Go.Eng.keep, Go.Eng.get, Nat.reduceBEq, cond_true, cond_false, BEq.rfl, Go.Eng.puts]; exact rfl) ?_)) | ((refine ht_region (id := 1) ?_); (refine ht_op_n ?_; (refine ht_q rfl (by (exact qf_move rfl)) ?_)); (refine ht_op_n ?_; (refine ht_q rfl (by (exact qf_eql_slice_nil rfl rfl)) ?_)); (refine ht_nil ?_); (refine ht_keep (ks := [0, 2, 4]) (by simp only [Go.Eng.keep, Go.Eng.get, Nat.reduceBEq, cond_true, cond_false, BEq.rfl, Go.Eng.puts]; exact rfl) ?_)) | ((refine ht_region (id := 3) ?_); (refine ht_op_n ?_; (((refine ht_buildSlice rfl rfl (by rfl) (by rfl) (by rfl) ?_; intro b)))); (refine ht_op_n ?_; (refine ht_q rfl (by (exact qf_move rfl)) ?_)); (refine ht_op_n ?_; (((refine ht_app rfl rfl (OwnS.full (xs := Go.Eng.repL [Value.int .i64 0, .int .i64 0, .int .i64 0, .int .u32 0] 0) (m := 0) rfl (by decide)) (hR.mem) h1 (by omega) (by rfl) (by rfl) (by rfl) (by rfl) ?_; rintro p2 c2 L2 hO2)))); (refine ht_op_n ?_; (refine ht_q rfl (by (exact qf_assign rfl)) ?_)); (refine ht_nil ?_); (refine ht_keep (ks := [0, 2, 4]) (by simp only [Go.Eng.keep, Go.Eng.get, Nat.reduceBEq, cond_true, cond_false, BEq.rfl, Go.Eng.puts]; exact rfl) ?_)) | refine ht_skip ?_ | refine ht_ret ?_ | (refine ht_cond rfl ?_ ?_ <;> intro hc <;> (first | (exact absurd hc Bool.false_ne_true) | skip)))
    refine ht_return Try.results15 (.tmp rfl .nil) ?_
    exact ⟨_, ⟨⟨p2, 0 + h.n, c2⟩, L2, rfl, by simp, hO2, rfl⟩, Ent.picks [1] 0 rfl rfl rfl rfl⟩
theorem cloneI_ct (X : Fr) (h : Hdr) (xs : List Value) (hR : RdS [X] h.p (h.n * 1) xs) (h1 : xs.all (·.oneCell') = true) (hlt : h.n ≤ 1000) :
    Ct Try.prog 16 #[h.v] [X] (fun v post => ∃ (h' : Hdr) (L' : Fr), v = h'.v ∧ h'.n = h.n ∧ OwnS 3 1 h'.p h'.n h'.c xs L' ∧ post = [X, L']) := by
  unfold Hdr.v
  cases hp : h.p with
  | none =>
    have hn0 : h.n = 0 := by
      rcases hR.2 with h0 | ⟨_, _, _, _, _, hq, _⟩
      · omega
      · rw [hp] at hq; cases hq
    have hx0 : xs = [] := List.eq_nil_of_length_eq_zero (by rw [hR.1, hn0])
    subst hx0
    refine Ct.enter Try.func16 rfl Try.ntmps16 rfl (by simp only [Go.Eng.slotsFrom, Nat.reduceAdd]; exact rfl) ?_
    intro c F
    try refine ht_G (by simp only [Go.Eng.rests, List.eraseIdx_cons_zero, List.eraseIdx_cons_succ, List.cons_append, List.nil_append]; exact rfl) ?_
    repeat' (first | refine ht_seq ?_ | refine ht_then ?_ | ((refine ht_region (id := 0) ?_); (refine ht_op_n ?_; (refine ht_q rfl (by (exact qf_assign rfl)) ?_)); (refine ht_nil ?_); (refine ht_keep (ks := [0, 2, 4]) (by simp only [Go.Eng.keep, Go.Eng.get, Nat.reduceBEq, cond_true, cond_false, BEq.rfl, Go.Eng.puts]; exact rfl) ?_)) | ((refine ht_region (id := 1) ?_); (refine ht_op_n ?_; (refine ht_q rfl (by (exact qf_move rfl)) ?_)); (refine ht_op_n ?_; (refine ht_q rfl (by (exact qf_eql_slice_nil rfl rfl)) ?_)); (refine ht_nil ?_); (refine ht_keep (ks := [0, 2, 4]) (by simp only [Go.Eng.keep, Go.Eng.get, Nat.reduceBEq, cond_true, cond_false, BEq.rfl, Go.Eng.puts]; exact rfl) ?_)) | ((refine ht_region (id := 2) ?_); (refine ht_op_n ?_; (refine ht_q rfl (by (exact qf_assign rfl)) ?_)); (refine ht_nil ?_); (refine ht_keep (ks := [0, 2, 4]) (by simp only [Go.Eng.keep, Go.Eng.get, Nat.reduceBEq, cond_true, cond_false, BEq.rfl, Go.Eng.puts]; exact rfl) ?_)) | refine ht_ret ?_ | refine ht_then_ret ?_ | (refine ht_cond rfl ?_ ?_ <;> intro hc <;> (first | (exact absurd hc Bool.false_ne_true.symm) | skip)))
    refine ht_return Try.results16 (.tmp rfl .nil) ?_
    exact ⟨_, ⟨⟨none, 0, 0⟩, [], rfl, by rw [hn0], OwnS.nil 3 1, rfl⟩, Ent.flat (by simp)⟩
  | some a =>
    rw [hp] at hR
    refine Ct.enter Try.func16 rfl Try.ntmps16 rfl (by simp only [Go.Eng.slotsFrom, Nat.reduceAdd]; exact rfl) ?_
    intro c F
    try refine ht_G (by simp only [Go.Eng.rests, List.eraseIdx_cons_zero, List.eraseIdx_cons_succ, List.cons_append, List.nil_append]; exact rfl) ?_
    repeat' (first | refine ht_seq ?_ | refine ht_then ?_ | ((refine ht_region (id := 0) ?_); (refine ht_op_n ?_; (refine ht_q rfl (by (exact qf_assign rfl)) ?_)); (refine ht_nil ?_); (refine ht_keep (ks := [0, 2, 4]) (by simp only [Go.Eng.keep, Go.Eng.get, Nat.reduceBEq, cond_true, cond_false, BEq.rfl, Go.Eng.puts]; exact rfl) ?_)) | ((refine ht_region (id := 1) ?_); (refine ht_op_n ?_; (refine ht_q rfl (by (exact qf_move rfl)) ?_)); (refine ht_op_n ?_; (refine ht_q rfl (by (exact qf_eql_slice_nil rfl rfl)) ?_)); (refine ht_nil ?_); (refine ht_keep (ks := [0, 2, 4]) (by simp only [Go.Eng.keep, Go.Eng.get, Nat.reduceBEq, cond_true, cond_false, BEq.rfl, Go.Eng.puts]; exact rfl) ?_)) | ((refine ht_region (id := 3) ?_); (refine ht_op_n ?_; (((refine ht_buildSlice rfl rfl (by rfl) (by rfl) (by rfl) ?_; intro b)))); (refine ht_op_n ?_; (refine ht_q rfl (by (exact qf_move rfl)) ?_)); (refine ht_op_n ?_; (((refine ht_app rfl rfl (OwnS.full (xs := Go.Eng.repL [Value.int .i64 0] 0) (m := 0) rfl (by decide)) (hR.mem) h1 (by omega) (by rfl) (by rfl) (by rfl) (by rfl) ?_; rintro p2 c2 L2 hO2)))); (refine ht_op_n ?_; (refine ht_q rfl (by (exact qf_assign rfl)) ?_)); (refine ht_nil ?_); (refine ht_keep (ks := [0, 2, 4]) (by simp only [Go.Eng.keep, Go.Eng.get, Nat.reduceBEq, cond_true, cond_false, BEq.rfl, Go.Eng.puts]; exact rfl) ?_)) | refine ht_skip ?_ | refine ht_ret ?_ | (refine ht_cond rfl ?_ ?_ <;> intro hc <;> (first | (exact absurd hc Bool.false_ne_true) | skip)))
    refine ht_return Try.results16 (.tmp rfl .nil) ?_
    exact ⟨_, ⟨⟨p2, 0 + h.n, c2⟩, L2, rfl, by simp, hO2, rfl⟩, Ent.picks [1] 0 rfl rfl rfl rfl⟩
theorem contains_ct (X : Fr) (h : Hdr) (ys : List Int) (a : Int) (hR : RdS [X] h.p h.n (ys.map (Value.int .i64 ·))) (hlt : h.n < 1000000) :
    Ct Try.prog 30 #[h.v, .int .i64 a] [X] (fun v post => v = .bool (decide (0 ≤ idxF (fun y => decide (a = y)) ys 0)) ∧ post = [X]) := by
  unfold Hdr.v
  refine Ct.enter Try.func30 rfl Try.ntmps30 rfl (by simp only [Go.Eng.slotsFrom, Nat.reduceAdd]; exact rfl) ?_
  intro c F
  try refine ht_G (by simp only [Go.Eng.rests, List.eraseIdx_cons_zero, List.eraseIdx_cons_succ, List.cons_append, List.nil_append]; exact rfl) ?_
  repeat' (first | refine ht_seq ?_ | refine ht_then ?_ | ((refine ht_region (id := 0) ?_); (refine ht_op_n ?_; (refine ht_q rfl (by (exact qf_assign rfl)) ?_)); (refine ht_nil ?_); (refine ht_keep (ks := [0, 1, 4]) (by simp only [Go.Eng.keep, Go.Eng.get, Nat.reduceBEq, cond_true, cond_false, BEq.rfl, Go.Eng.puts]; exact rfl) ?_)) | ((refine ht_region (id := 1) ?_); (refine ht_op_n ?_; (refine ht_q rfl (by (exact qf_move rfl)) ?_)); (refine ht_op_n ?_; (refine ht_q rfl (by (exact qf_move rfl)) ?_)); (refine ht_op_n ?_; (((refine ht_call [0] rfl rfl rfl (indexI_ct X h ys a hR hlt) rfl rfl rfl ?_; rintro _ _ ⟨rfl, rfl⟩; refine ht_G (by simp only [Go.Eng.rests, List.eraseIdx_cons_zero, List.eraseIdx_cons_succ, List.cons_append, List.nil_append]; exact rfl) ?_)))); (refine ht_op_n ?_; (refine ht_q rfl (by (exact qf_geq rfl rfl)) ?_)); (refine ht_op_n ?_; (refine ht_q rfl (by (exact qf_assign rfl)) ?_)); (refine ht_nil ?_); (refine ht_keep (ks := [0, 1, 4]) (by simp only [Go.Eng.keep, Go.Eng.get, Nat.reduceBEq, cond_true, cond_false, BEq.rfl, Go.Eng.puts]; exact rfl) ?_)) | refine ht_ret ?_)
  exact ht_return Try.results30 (.tmp rfl .nil) ⟨_, ⟨rfl, rfl⟩, Ent.drop 0 rfl⟩
end Go.Proofs.Ytkkeeoaencfemaa
