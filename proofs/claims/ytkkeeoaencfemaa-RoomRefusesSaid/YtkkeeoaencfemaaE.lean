/- Contracts of 'free', 'join', 'reset', 'unsubscribe' of package room. No premise beside what each theorem names. -/
import Derived.Test.YtkkeeoaencfemaaD
namespace Go.Proofs.Ytkkeeoaencfemaa
open Go.Eng Go.Rm
set_option linter.unusedSimpArgs false
set_option linter.unusedVariables false
set_option maxRecDepth 20000
set_option maxHeartbeats 4000000
attribute [local irreducible] Go.Eng.HT Go.Eng.QF Go.Eng.CW Go.Eng.EX Go.Eng.Thn Go.Eng.InB Go.Eng.BP Go.Eng.OL Go.Eng.OpW Go.Eng.anyT Go.Eng.CutQ Go.Eng.LoopK Go.Eng.Ct Go.Eng.Ent

/-- Counting: below 4 numbers in a list of fewer than 4, one is free. -/
theorem free_lt (l : List Int) (base : Int) (j : Nat) (h : ∀ k, k < j → (base + (k : Int)) ∈ l) : j ≤ l.length := by
  induction j generalizing l base with
  | zero => omega
  | succ j ih =>
    have h0 := h j (by omega)
    have h1 := ih (l.erase (base + (j : Int))) base (fun k hk => by
      have := h k (by omega)
      exact (List.mem_erase_of_ne (by omega)).2 this)
    rw [List.length_erase_of_mem h0] at h1
    have : 0 < l.length := List.length_pos_of_mem h0
    omega

theorem idxF_nonneg {α : Type} {b : α → Bool} {l : List α} {i : Nat} (h : 0 ≤ idxF b l i) : ∃ x, x ∈ l ∧ b x = true := by
  induction l generalizing i with
  | nil => simp [idxF] at h
  | cons x r ih =>
    cases hb : b x with
    | true => exact ⟨x, by simp, hb⟩
    | false =>
      simp only [idxF, hb, cond_false] at h
      obtain ⟨y, hy, hb⟩ := ih h
      exact ⟨y, by simp [hy], hb⟩
theorem idxF_nonneg_of {α : Type} {b : α → Bool} {l : List α} {i : Nat} {x : α} (hx : x ∈ l) (hb : b x = true) : 0 ≤ idxF b l i := by
  induction l generalizing i with
  | nil => cases hx
  | cons y r ih =>
    cases hy : b y with
    | true => simp only [idxF, hy, cond_true]; omega
    | false =>
      simp only [idxF, hy, cond_false]
      rcases List.mem_cons.1 hx with rfl | hx
      · rw [hb] at hy; cases hy
      · exact ih hx

theorem free_ct (sb hb g seat ln lc : Nat) (f : Frm) (ch s : Hdr) (ms : List MR) (sp : List Value) (m : MR) (hf : f.seat = (seat : Int)) (hm : ms[seat]? = some m) (hml : ms.length = ln) (hln : ln ≤ 6) (hok : m.ok) (h4 : m.sl.length ≤ 4) :
    Ct Try.prog 36 #[.pointer (some ⟨sb, 0, none⟩)] [blk sb (.cells (strow hb f g (seat * 9) ch).toArray 73 (0, 0)), blk g (.cells (flat MR.row ms ++ sp).toArray 45 (0, 0)), m.Ls]
    (fun v post => ∃ j : Nat, j ≤ m.sl.length ∧ v = .int .u32 (1048576 + 16 * (seat : Int) + j) ∧ (∀ x ∈ m.sl, x.source ≠ 1048576 + 16 * (seat : Int) + j) ∧
      post = [blk sb (.cells (strow hb f g (seat * 9) ch).toArray 73 (0, 0)), blk g (.cells (flat MR.row ms ++ sp).toArray 45 (0, 0)), m.Ls]) := by
  have hlt : seat < ln := by have := (List.getElem?_eq_some_iff.1 hm).1; omega
  obtain ⟨kind, fseat, nonce, room, track, owner, layer, src⟩ := f
  obtain rfl : fseat = (seat : Int) := hf
  refine Ct.enter Try.func36 rfl Try.ntmps36 rfl (by simp only [Go.Eng.slotsFrom, Nat.reduceAdd]; exact rfl) ?_
  intro c F
  try refine ht_G (by simp only [Go.Eng.rests, List.eraseIdx_cons_zero, List.eraseIdx_cons_succ, List.cons_append, List.nil_append]; exact rfl) ?_
  repeat' (first | refine ht_seq ?_ | refine ht_then ?_ | ((refine ht_region (id := 0) ?_); (refine ht_op_n ?_; (refine ht_q rfl (by (exact qf_assign rfl)) ?_)); (refine ht_nil ?_); (refine ht_keep (ks := [0, 2, 3, 20]) (by simp only [Go.Eng.keep, Go.Eng.get, Nat.reduceBEq, cond_true, cond_false, BEq.rfl, Go.Eng.puts]; exact rfl) ?_)) | ((refine ht_region (id := 1) ?_); (refine ht_op_n ?_; (refine ht_q rfl (by (exact qf_move rfl)) ?_)); (refine ht_op_n ?_; (refine ht_q rfl (by (exact qf_nilCheck rfl)) ?_)); (refine ht_op_n ?_; (refine ht_q rfl (by (exact qf_fieldAddr rfl rfl rfl)) ?_)); (refine ht_op_n ?_; (refine ht_q rfl (by (exact qf_fieldAddr rfl rfl rfl)) ?_)); (refine ht_op_n ?_; (refine ht_q rfl (by (exact qf_load1 rfl rfl)) ?_)); (refine ht_op_n ?_; (refine ht_q rfl (by (exact qf_mul_i64 rfl rfl (by first | omega | (dsimp only; omega)))) ?_)); (refine ht_op_n ?_; (refine ht_q rfl (by (exact qf_add_i64 rfl rfl (by first | omega | (dsimp only; omega)))) ?_)); (refine ht_op_n ?_; (refine ht_q rfl (by (exact qf_conv_u32 rfl rfl (by first | omega | (dsimp only; omega)))) ?_)); (refine ht_op_n ?_; (((refine ht_alloc rfl ?_; intro b)))); (refine ht_op_n ?_; (((refine ht_store1 rfl rfl rfl (by rfl) (by rfl) ?_)))); (refine ht_nil ?_); (refine ht_keep (ks := [0, 2, 3, 20]) (by simp only [Go.Eng.keep, Go.Eng.get, Nat.reduceBEq, cond_true, cond_false, BEq.rfl, Go.Eng.puts]; exact rfl) ?_)) | refine ht_block ?_)
  refine ht_loop (α := Nat) (ok := fun j => ∀ k, k < j → (1048576 + 16 * (seat : Int) + (k : Int)) ∈ m.sl.map Sub.source) (fun _ => [(0, .pointer (some ⟨sb, 0, none⟩)), (3, .pointer (some ⟨b, 0, none⟩))])
    (fun j => blk b (.cells [.int .u32 (1048576 + 16 * (seat : Int) + (j : Int))].toArray 48 (0, 0)) :: blk sb (.cells (strow hb ⟨kind, (seat : Int), nonce, room, track, owner, layer, src⟩ g (seat * 9) ch).toArray 73 (0, 0)) :: blk g (.cells (flat MR.row ms ++ sp).toArray 45 (0, 0)) :: m.Ls :: F) (fun j => 5 - j) 0 (fun k hk => by omega) ⟨rfl, rfl, trivial⟩ (Ent.drop 0 (by simp)) ?_
  intro j hj
  have hjl := free_lt (m.sl.map Sub.source) (1048576 + 16 * (seat : Int)) j hj
  rw [List.length_map] at hjl
  have hT : Test [blk b (.cells [Value.int .u32 (1048576 + 16 * (seat : Int) + (j : Int))].toArray 48 (0, 0))] 43 #[] #[.pointer (some ⟨b, 0, none⟩)] (fun x => decide (x.source = 1048576 + 16 * (seat : Int) + (j : Int))) :=
    fun x => free1_ct x b _
  repeat' (first | refine ht_seq ?_ | refine ht_then ?_ | ((refine ht_region (id := 2) ?_); (refine ht_op_n ?_; (refine ht_q rfl (by (exact qf_move rfl)) ?_)); (refine ht_op_n ?_; (refine ht_q rfl (by (exact qf_nilCheck rfl)) ?_)); (refine ht_op_n ?_; (refine ht_q rfl (by (exact qf_fieldAddr rfl rfl rfl)) ?_)); (refine ht_op_n ?_; (refine ht_q rfl (by (exact qf_load1 rfl rfl)) ?_)); (refine ht_op_n ?_; (refine ht_q rfl (by (exact qf_nilCheck rfl)) ?_)); (refine ht_op_n ?_; (refine ht_q rfl (by (exact qf_fieldAddr rfl rfl rfl)) ?_)); (refine ht_op_n ?_; (refine ht_q rfl (by (exact qf_load1 rfl (flat_get MR.row_len hm rfl))) ?_)); (refine ht_op_n ?_; (refine ht_q rfl (by (exact qf_makeFunc' rfl rfl)) ?_)); (refine ht_op_n ?_; (((refine ht_call [3, 0] rfl rfl rfl (containsFunc_ct _ _ m.subs m.sl _ _ _ _ hok.s hok.sn (by have := hok.sn; omega) hT) rfl rfl rfl ?_; rintro _ _ ⟨rfl, rfl⟩; refine ht_G (by simp only [Go.Eng.rests, List.eraseIdx_cons_zero, List.eraseIdx_cons_succ, List.cons_append, List.nil_append]; exact rfl) ?_; refine ht_order [1, 1, 1] rfl (by simp only [Go.Eng.takes, Go.Eng.rests, List.getD_cons_zero, List.getD_cons_succ, List.eraseIdx_cons_zero, List.eraseIdx_cons_succ, List.cons_append, List.nil_append]; exact rfl) ?_)))); (refine ht_nil ?_); (refine ht_keep (ks := [0, 2, 3, 20]) (by simp only [Go.Eng.keep, Go.Eng.get, Nat.reduceBEq, cond_true, cond_false, BEq.rfl, Go.Eng.puts]; exact rfl) ?_)) | ((refine ht_region (id := 3) ?_); (refine ht_op_n ?_; (refine ht_q rfl (by (exact qf_load1 rfl rfl)) ?_)); (refine ht_op_n ?_; (refine ht_q rfl (by (exact qf_add_u32 rfl rfl (by first | omega | (dsimp only; omega)))) ?_)); (refine ht_op_n ?_; (((refine ht_store1 rfl rfl rfl (by rfl) (by rfl) ?_)))); (refine ht_nil ?_); (refine ht_keep (ks := [0, 2, 3, 20]) (by simp only [Go.Eng.keep, Go.Eng.get, Nat.reduceBEq, cond_true, cond_false, BEq.rfl, Go.Eng.puts]; exact rfl) ?_)) | ((refine ht_region (id := 4) ?_); (refine ht_op_n ?_; (refine ht_q rfl (by (exact qf_load1 rfl rfl)) ?_)); (refine ht_op_n ?_; (refine ht_q rfl (by (exact qf_assign rfl)) ?_)); (refine ht_nil ?_); (refine ht_keep (ks := [0, 2, 3, 20]) (by simp only [Go.Eng.keep, Go.Eng.get, Nat.reduceBEq, cond_true, cond_false, BEq.rfl, Go.Eng.puts]; exact rfl) ?_)) | refine ht_skip ?_ | refine ht_ret ?_ | refine ht_exit ?_ | refine ht_block ?_ | refine ht_then_exit ?_ | refine ht_in_normal ?_ | refine ht_in_same rfl ?_ | (refine ht_cond_d rfl (by with_reducible rfl) ?_ ?_ <;> intro hc <;> (skip)))
  · obtain ⟨x, hx, he⟩ := idxF_nonneg hc
    have hxe : x.source = 1048576 + 16 * (seat : Int) + (j : Int) := of_decide_eq_true he
    have hj' : ∀ k, k < j + 1 → (1048576 + 16 * (seat : Int) + (k : Int)) ∈ m.sl.map Sub.source := fun k hk => by
      by_cases e : k = j
      · subst e; rw [← hxe]; exact List.mem_map_of_mem hx
      · exact hj k (by omega)
    have hjl' := free_lt (m.sl.map Sub.source) (1048576 + 16 * (seat : Int)) (j + 1) hj'
    rw [List.length_map] at hjl'
    exact ht_round (j + 1) (by omega) hj' ⟨rfl, rfl, trivial⟩ (Ent.drop 0 (by rw [show ((j + 1 : Nat) : Int) = (j : Int) + 1 from rfl, ← Int.add_assoc]; rfl))
  · refine ht_return Try.results36 (.tmp rfl .nil) ?_
    exact ⟨_, ⟨j, hjl, rfl, fun x hx he => hc (idxF_nonneg_of hx (by simp [he])), rfl⟩, Ent.drop 1 rfl⟩
end Go.Proofs.Ytkkeeoaencfemaa
