/- The walks of the reference's sizes, depths and Few. -/
import Derived.Test.YthnnnnaifnddbaaT
import Derived.Test.YthnnnnaifnddbaaEC
import Derived.Test.YthnnnnaifnddbaaM1
namespace Go.Proofs.Ythnnnnaifnddbaa
set_option maxRecDepth 20000
set_option maxHeartbeats 4000000
set_option linter.unusedVariables false
set_option linter.unusedSimpArgs false
theorem depthTy_pure (t : Ty) : t.size ≤ 1000000 → PureC Kx 61 [tG t.enc] (tI t.depth) := by
  intro hs
  refine .fit fun hfit => ?_
  have hf := Ty.fit_kids (fit_tG (hfit (tG t.enc) (.head _)))
  clear hfit
  refine pure_of_can Try.func61 rfl (nt := 22) rfl rfl (by decide) (by simp) (by simp (maxSteps := 2000000) only [go_sem, Nat.reduceAdd, Nat.reduceEqDiff, Nat.reduceLeDiff, Nat.reduceSub, ↓reduceIte, reduceIte, Nat.reduceMul, reduceCtorEq, Nat.reduceLT, Int.reduceLT, Int.reduceLE, Int.reduceEq, Int.reduceAdd, Int.reduceSub, Int.reduceNeg, Bool.not_true, Bool.not_false, beq_self_eq_true, Int.reduceBEq, Int.reduceBNe, ge_iff_le, gt_iff_lt, Int.reduceToNat, Bool.and_true, Bool.and_false, Bool.true_and, Bool.false_and]) fun Φ hΦ => ?_
  repeat' first
    | refine k_seq ?_
    | refine k_block ?_
    | refine n_sq ?_
    | refine n_bl ?_
    | refine k_skip ?_
    | refine k_exit ?_
    | refine x_sq ?_
    | refine x_hit ?_
    | refine x_miss (by decide) ?_
    | refine x_nil (Ex.of hE ?_)
    | refine k_ret ?_
    | refine t_sq ?_
    | refine t_bl ?_
    | refine t_nil (Rt.of hE ?_)
    | refine t_nil ?_
    | (refine k_region (by rfl) fun Q all hd hQ => ?_; simp (maxSteps := 2000000) only [go_sem, hd, Nat.reduceAdd, Nat.reduceEqDiff, Nat.reduceLeDiff, Nat.reduceSub, ↓reduceIte, reduceIte, Nat.reduceMul, reduceCtorEq, Nat.reduceLT, Int.reduceLT, Int.reduceLE, Int.reduceEq, Int.reduceAdd, Int.reduceSub, Int.reduceNeg, Bool.not_true, Bool.not_false, beq_self_eq_true, Int.reduceBEq, Int.reduceBNe, ge_iff_le, gt_iff_lt, Int.reduceToNat, Bool.and_true, Bool.and_false, Bool.true_and, Bool.false_and])
    | (refine k_draw mixed (by kernel_rfl) fun Q all hd hbf hQ => ?_; simp (maxSteps := 2000000) only [go_sem, hd, Nat.reduceAdd, Nat.reduceEqDiff, Nat.reduceLeDiff, Nat.reduceSub, ↓reduceIte, reduceIte, Nat.reduceMul, reduceCtorEq, Nat.reduceLT, Int.reduceLT, Int.reduceLE, Int.reduceEq, Int.reduceAdd, Int.reduceSub, Int.reduceNeg, Bool.not_true, Bool.not_false, beq_self_eq_true, Int.reduceBEq, Int.reduceBNe, ge_iff_le, gt_iff_lt, Int.reduceToNat, Bool.and_true, Bool.and_false, Bool.true_and, Bool.false_and])
    | (refine hQ _ ?_; clear hQ hd; (try clear hbf); clear Q all)
    | (refine k_true ?_ ?_; (· (simp (maxSteps := 2000000) only [go_sem, Nat.reduceAdd, Nat.reduceEqDiff, Nat.reduceLeDiff, Nat.reduceSub, ↓reduceIte, reduceIte, Nat.reduceMul, reduceCtorEq, Nat.reduceLT, Int.reduceLT, Int.reduceLE, Int.reduceEq, Int.reduceAdd, Int.reduceSub, Int.reduceNeg, Bool.not_true, Bool.not_false, beq_self_eq_true, Int.reduceBEq, Int.reduceBNe, ge_iff_le, gt_iff_lt, Int.reduceToNat, Bool.and_true, Bool.and_false, Bool.true_and, Bool.false_and]; done)))
    | (refine k_false ?_ ?_; (· (simp (maxSteps := 2000000) only [go_sem, Nat.reduceAdd, Nat.reduceEqDiff, Nat.reduceLeDiff, Nat.reduceSub, ↓reduceIte, reduceIte, Nat.reduceMul, reduceCtorEq, Nat.reduceLT, Int.reduceLT, Int.reduceLE, Int.reduceEq, Int.reduceAdd, Int.reduceSub, Int.reduceNeg, Bool.not_true, Bool.not_false, beq_self_eq_true, Int.reduceBEq, Int.reduceBNe, ge_iff_le, gt_iff_lt, Int.reduceToNat, Bool.and_true, Bool.and_false, Bool.true_and, Bool.false_and]; done)))
    | (rw [wrap64]; rotate_left 1; (· omega); (· omega); (try simp (maxSteps := 2000000) only [go_sem, hd, Nat.reduceAdd, Nat.reduceEqDiff, Nat.reduceLeDiff, Nat.reduceSub, ↓reduceIte, reduceIte, Nat.reduceMul, reduceCtorEq, Nat.reduceLT, Int.reduceLT, Int.reduceLE, Int.reduceEq, Int.reduceAdd, Int.reduceSub, Int.reduceNeg, Bool.not_true, Bool.not_false, beq_self_eq_true, Int.reduceBEq, Int.reduceBNe, ge_iff_le, gt_iff_lt, Int.reduceToNat, Bool.and_true, Bool.and_false, Bool.true_and, Bool.false_and]))
    | fail
  have hs' := Ty.kids_len t
  refine k_loop (fun j s => ∃ (i : Nat), j = t.kids.length - i ∧ i ≤ t.kids.length ∧ s = ⟨ofL [(1, .c (.ref 0 0)), (3, tI (mx ((t.kids.take i).map Ty.depth) : Nat)), (4, tI i)], [.box 27 (t.enc.map .d)], 22⟩) (t.kids.length - (0))
    (weak_keep (l := [(1, .c (.ref 0 0)), (3, tI (mx ((t.kids.take (0)).map Ty.depth) : Nat)), (4, tI (0))]) (by simp (maxSteps := 2000000) only [go_sem, List.take_zero, List.map_nil, mx, Nat.reduceAdd, Nat.reduceEqDiff, Nat.reduceLeDiff, Nat.reduceSub, ↓reduceIte, reduceIte, Nat.reduceMul, reduceCtorEq, Nat.reduceLT, Int.reduceLT, Int.reduceLE, Int.reduceEq, Int.reduceAdd, Int.reduceSub, Int.reduceNeg, Bool.not_true, Bool.not_false, beq_self_eq_true, Int.reduceBEq, Int.reduceBNe, ge_iff_le, gt_iff_lt, Int.reduceToNat, Bool.and_true, Bool.and_false, Bool.true_and, Bool.false_and]; rfl)) ⟨(0), rfl, by omega, rfl⟩ ?_
  rintro j _ ⟨i, rfl, hi, rfl⟩ Ψ hN hE
  repeat' first
    | refine k_seq ?_
    | refine k_block ?_
    | refine n_sq ?_
    | refine n_bl ?_
    | refine k_skip ?_
    | refine k_exit ?_
    | refine x_sq ?_
    | refine x_hit ?_
    | refine x_miss (by decide) ?_
    | refine x_nil (Ex.of hE ?_)
    | refine k_ret ?_
    | refine t_sq ?_
    | refine t_bl ?_
    | refine t_nil (Rt.of hE ?_)
    | refine t_nil ?_
    | (refine k_region (by rfl) fun Q all hd hQ => ?_; simp (maxSteps := 2000000) only [go_sem, hd, Nat.reduceAdd, Nat.reduceEqDiff, Nat.reduceLeDiff, Nat.reduceSub, ↓reduceIte, reduceIte, Nat.reduceMul, reduceCtorEq, Nat.reduceLT, Int.reduceLT, Int.reduceLE, Int.reduceEq, Int.reduceAdd, Int.reduceSub, Int.reduceNeg, Bool.not_true, Bool.not_false, beq_self_eq_true, Int.reduceBEq, Int.reduceBNe, ge_iff_le, gt_iff_lt, Int.reduceToNat, Bool.and_true, Bool.and_false, Bool.true_and, Bool.false_and])
    | (refine k_draw mixed (by kernel_rfl) fun Q all hd hbf hQ => ?_; simp (maxSteps := 2000000) only [go_sem, hd, Nat.reduceAdd, Nat.reduceEqDiff, Nat.reduceLeDiff, Nat.reduceSub, ↓reduceIte, reduceIte, Nat.reduceMul, reduceCtorEq, Nat.reduceLT, Int.reduceLT, Int.reduceLE, Int.reduceEq, Int.reduceAdd, Int.reduceSub, Int.reduceNeg, Bool.not_true, Bool.not_false, beq_self_eq_true, Int.reduceBEq, Int.reduceBNe, ge_iff_le, gt_iff_lt, Int.reduceToNat, Bool.and_true, Bool.and_false, Bool.true_and, Bool.false_and])
    | (refine hQ _ ?_; clear hQ hd; (try clear hbf); clear Q all)
    | (refine k_true ?_ ?_; (· (simp (maxSteps := 2000000) only [go_sem, Nat.reduceAdd, Nat.reduceEqDiff, Nat.reduceLeDiff, Nat.reduceSub, ↓reduceIte, reduceIte, Nat.reduceMul, reduceCtorEq, Nat.reduceLT, Int.reduceLT, Int.reduceLE, Int.reduceEq, Int.reduceAdd, Int.reduceSub, Int.reduceNeg, Bool.not_true, Bool.not_false, beq_self_eq_true, Int.reduceBEq, Int.reduceBNe, ge_iff_le, gt_iff_lt, Int.reduceToNat, Bool.and_true, Bool.and_false, Bool.true_and, Bool.false_and]; done)))
    | (refine k_false ?_ ?_; (· (simp (maxSteps := 2000000) only [go_sem, Nat.reduceAdd, Nat.reduceEqDiff, Nat.reduceLeDiff, Nat.reduceSub, ↓reduceIte, reduceIte, Nat.reduceMul, reduceCtorEq, Nat.reduceLT, Int.reduceLT, Int.reduceLE, Int.reduceEq, Int.reduceAdd, Int.reduceSub, Int.reduceNeg, Bool.not_true, Bool.not_false, beq_self_eq_true, Int.reduceBEq, Int.reduceBNe, ge_iff_le, gt_iff_lt, Int.reduceToNat, Bool.and_true, Bool.and_false, Bool.true_and, Bool.false_and]; done)))
    | (rw [wrap64]; rotate_left 1; (· omega); (· omega); (try simp (maxSteps := 2000000) only [go_sem, hd, Nat.reduceAdd, Nat.reduceEqDiff, Nat.reduceLeDiff, Nat.reduceSub, ↓reduceIte, reduceIte, Nat.reduceMul, reduceCtorEq, Nat.reduceLT, Int.reduceLT, Int.reduceLE, Int.reduceEq, Int.reduceAdd, Int.reduceSub, Int.reduceNeg, Bool.not_true, Bool.not_false, beq_self_eq_true, Int.reduceBEq, Int.reduceBNe, ge_iff_le, gt_iff_lt, Int.reduceToNat, Bool.and_true, Bool.and_false, Bool.true_and, Bool.false_and]))
    | fail
  by_cases hlt : (i : Int) < (t.kids.length : Int)
  case neg =>
    repeat' first
      | refine k_seq ?_
      | refine k_block ?_
      | refine n_sq ?_
      | refine n_bl ?_
      | refine k_skip ?_
      | refine k_exit ?_
      | refine x_sq ?_
      | refine x_hit ?_
      | refine x_miss (by decide) ?_
      | refine x_nil (Ex.of hE ?_)
      | refine k_ret ?_
      | refine t_sq ?_
      | refine t_bl ?_
      | refine t_nil (Rt.of hE ?_)
      | refine t_nil ?_
      | (refine k_region (by rfl) fun Q all hd hQ => ?_; simp (maxSteps := 2000000) only [go_sem, hd, hlt, Nat.reduceAdd, Nat.reduceEqDiff, Nat.reduceLeDiff, Nat.reduceSub, ↓reduceIte, reduceIte, Nat.reduceMul, reduceCtorEq, Nat.reduceLT, Int.reduceLT, Int.reduceLE, Int.reduceEq, Int.reduceAdd, Int.reduceSub, Int.reduceNeg, Bool.not_true, Bool.not_false, beq_self_eq_true, Int.reduceBEq, Int.reduceBNe, ge_iff_le, gt_iff_lt, Int.reduceToNat, Bool.and_true, Bool.and_false, Bool.true_and, Bool.false_and])
      | (refine k_draw mixed (by kernel_rfl) fun Q all hd hbf hQ => ?_; simp (maxSteps := 2000000) only [go_sem, hd, hlt, Nat.reduceAdd, Nat.reduceEqDiff, Nat.reduceLeDiff, Nat.reduceSub, ↓reduceIte, reduceIte, Nat.reduceMul, reduceCtorEq, Nat.reduceLT, Int.reduceLT, Int.reduceLE, Int.reduceEq, Int.reduceAdd, Int.reduceSub, Int.reduceNeg, Bool.not_true, Bool.not_false, beq_self_eq_true, Int.reduceBEq, Int.reduceBNe, ge_iff_le, gt_iff_lt, Int.reduceToNat, Bool.and_true, Bool.and_false, Bool.true_and, Bool.false_and])
      | (refine hQ _ ?_; clear hQ hd; (try clear hbf); clear Q all)
      | (refine k_true ?_ ?_; (· (simp (maxSteps := 2000000) only [go_sem, hlt, Nat.reduceAdd, Nat.reduceEqDiff, Nat.reduceLeDiff, Nat.reduceSub, ↓reduceIte, reduceIte, Nat.reduceMul, reduceCtorEq, Nat.reduceLT, Int.reduceLT, Int.reduceLE, Int.reduceEq, Int.reduceAdd, Int.reduceSub, Int.reduceNeg, Bool.not_true, Bool.not_false, beq_self_eq_true, Int.reduceBEq, Int.reduceBNe, ge_iff_le, gt_iff_lt, Int.reduceToNat, Bool.and_true, Bool.and_false, Bool.true_and, Bool.false_and]; done)))
      | (refine k_false ?_ ?_; (· (simp (maxSteps := 2000000) only [go_sem, hlt, Nat.reduceAdd, Nat.reduceEqDiff, Nat.reduceLeDiff, Nat.reduceSub, ↓reduceIte, reduceIte, Nat.reduceMul, reduceCtorEq, Nat.reduceLT, Int.reduceLT, Int.reduceLE, Int.reduceEq, Int.reduceAdd, Int.reduceSub, Int.reduceNeg, Bool.not_true, Bool.not_false, beq_self_eq_true, Int.reduceBEq, Int.reduceBNe, ge_iff_le, gt_iff_lt, Int.reduceToNat, Bool.and_true, Bool.and_false, Bool.true_and, Bool.false_and]; done)))
      | (rw [wrap64]; rotate_left 1; (· omega); (· omega); (try simp (maxSteps := 2000000) only [go_sem, hd, hlt, Nat.reduceAdd, Nat.reduceEqDiff, Nat.reduceLeDiff, Nat.reduceSub, ↓reduceIte, reduceIte, Nat.reduceMul, reduceCtorEq, Nat.reduceLT, Int.reduceLT, Int.reduceLE, Int.reduceEq, Int.reduceAdd, Int.reduceSub, Int.reduceNeg, Bool.not_true, Bool.not_false, beq_self_eq_true, Int.reduceBEq, Int.reduceBNe, ge_iff_le, gt_iff_lt, Int.reduceToNat, Bool.and_true, Bool.and_false, Bool.true_and, Bool.false_and]))
      | fail
    have e : i = t.kids.length := by omega
    subst e
    rw [List.take_length, wrap64 (by have := t.depth_le; rw [t.depth_eq] at this; omega) (by have := t.depth_le; rw [t.depth_eq] at this; omega)]
    repeat' first
      | refine k_seq ?_
      | refine k_block ?_
      | refine n_sq ?_
      | refine n_bl ?_
      | refine k_skip ?_
      | refine k_exit ?_
      | refine x_sq ?_
      | refine x_hit ?_
      | refine x_miss (by decide) ?_
      | refine x_nil (Ex.of hE ?_)
      | refine k_ret ?_
      | refine t_sq ?_
      | refine t_bl ?_
      | refine t_nil (Rt.of hE ?_)
      | refine t_nil ?_
      | (refine k_region (by rfl) fun Q all hd hQ => ?_; simp (maxSteps := 2000000) only [go_sem, hd, Nat.reduceAdd, Nat.reduceEqDiff, Nat.reduceLeDiff, Nat.reduceSub, ↓reduceIte, reduceIte, Nat.reduceMul, reduceCtorEq, Nat.reduceLT, Int.reduceLT, Int.reduceLE, Int.reduceEq, Int.reduceAdd, Int.reduceSub, Int.reduceNeg, Bool.not_true, Bool.not_false, beq_self_eq_true, Int.reduceBEq, Int.reduceBNe, ge_iff_le, gt_iff_lt, Int.reduceToNat, Bool.and_true, Bool.and_false, Bool.true_and, Bool.false_and])
      | (refine k_draw mixed (by kernel_rfl) fun Q all hd hbf hQ => ?_; simp (maxSteps := 2000000) only [go_sem, hd, Nat.reduceAdd, Nat.reduceEqDiff, Nat.reduceLeDiff, Nat.reduceSub, ↓reduceIte, reduceIte, Nat.reduceMul, reduceCtorEq, Nat.reduceLT, Int.reduceLT, Int.reduceLE, Int.reduceEq, Int.reduceAdd, Int.reduceSub, Int.reduceNeg, Bool.not_true, Bool.not_false, beq_self_eq_true, Int.reduceBEq, Int.reduceBNe, ge_iff_le, gt_iff_lt, Int.reduceToNat, Bool.and_true, Bool.and_false, Bool.true_and, Bool.false_and])
      | (refine hQ _ ?_; clear hQ hd; (try clear hbf); clear Q all)
      | (refine k_true ?_ ?_; (· (simp (maxSteps := 2000000) only [go_sem, Nat.reduceAdd, Nat.reduceEqDiff, Nat.reduceLeDiff, Nat.reduceSub, ↓reduceIte, reduceIte, Nat.reduceMul, reduceCtorEq, Nat.reduceLT, Int.reduceLT, Int.reduceLE, Int.reduceEq, Int.reduceAdd, Int.reduceSub, Int.reduceNeg, Bool.not_true, Bool.not_false, beq_self_eq_true, Int.reduceBEq, Int.reduceBNe, ge_iff_le, gt_iff_lt, Int.reduceToNat, Bool.and_true, Bool.and_false, Bool.true_and, Bool.false_and]; done)))
      | (refine k_false ?_ ?_; (· (simp (maxSteps := 2000000) only [go_sem, Nat.reduceAdd, Nat.reduceEqDiff, Nat.reduceLeDiff, Nat.reduceSub, ↓reduceIte, reduceIte, Nat.reduceMul, reduceCtorEq, Nat.reduceLT, Int.reduceLT, Int.reduceLE, Int.reduceEq, Int.reduceAdd, Int.reduceSub, Int.reduceNeg, Bool.not_true, Bool.not_false, beq_self_eq_true, Int.reduceBEq, Int.reduceBNe, ge_iff_le, gt_iff_lt, Int.reduceToNat, Bool.and_true, Bool.and_false, Bool.true_and, Bool.false_and]; done)))
      | (rw [wrap64]; rotate_left 1; (· omega); (· omega); (try simp (maxSteps := 2000000) only [go_sem, hd, Nat.reduceAdd, Nat.reduceEqDiff, Nat.reduceLeDiff, Nat.reduceSub, ↓reduceIte, reduceIte, Nat.reduceMul, reduceCtorEq, Nat.reduceLT, Int.reduceLT, Int.reduceLE, Int.reduceEq, Int.reduceAdd, Int.reduceSub, Int.reduceNeg, Bool.not_true, Bool.not_false, beq_self_eq_true, Int.reduceBEq, Int.reduceBNe, ge_iff_le, gt_iff_lt, Int.reduceToNat, Bool.and_true, Bool.and_false, Bool.true_and, Bool.false_and]))
      | fail
    apply And.left
    apply hΦ
    · simp (maxSteps := 2000000) only [go_sem, resT, resOne, Nat.reduceAdd, Nat.reduceEqDiff, Nat.reduceLeDiff, Nat.reduceSub, ↓reduceIte, reduceIte, Nat.reduceMul, reduceCtorEq, Nat.reduceLT, Int.reduceLT, Int.reduceLE, Int.reduceEq, Int.reduceAdd, Int.reduceSub, Int.reduceNeg, Bool.not_true, Bool.not_false, beq_self_eq_true, Int.reduceBEq, Int.reduceBNe, ge_iff_le, gt_iff_lt, Int.reduceToNat, Bool.and_true, Bool.and_false, Bool.true_and, Bool.false_and]; rfl
    · rw [t.depth_eq]; rfl
    · simp (maxSteps := 2000000) only [go_sem, Nat.reduceAdd, Nat.reduceEqDiff, Nat.reduceLeDiff, Nat.reduceSub, ↓reduceIte, reduceIte, Nat.reduceMul, reduceCtorEq, Nat.reduceLT, Int.reduceLT, Int.reduceLE, Int.reduceEq, Int.reduceAdd, Int.reduceSub, Int.reduceNeg, Bool.not_true, Bool.not_false, beq_self_eq_true, Int.reduceBEq, Int.reduceBNe, ge_iff_le, gt_iff_lt, Int.reduceToNat, Bool.and_true, Bool.and_false, Bool.true_and, Bool.false_and]
  have hlt' : i < t.kids.length := by omega
  have hk := List.getElem?_eq_getElem hlt'
  have h0 : (0 : Int) ≤ (i : Int) := by omega
  have hsz := Ty.kid_size (List.getElem_mem hlt')
  repeat' first
    | refine k_seq ?_
    | refine k_block ?_
    | refine n_sq ?_
    | refine n_bl ?_
    | refine k_skip ?_
    | refine k_exit ?_
    | refine x_sq ?_
    | refine x_hit ?_
    | refine x_miss (by decide) ?_
    | refine x_nil (Ex.of hE ?_)
    | refine k_ret ?_
    | refine t_sq ?_
    | refine t_bl ?_
    | refine t_nil (Rt.of hE ?_)
    | refine t_nil ?_
    | (refine k_region (by rfl) fun Q all hd hQ => ?_; simp (maxSteps := 2000000) only [go_sem, hd, hlt, hk, h0, Nat.reduceAdd, Nat.reduceEqDiff, Nat.reduceLeDiff, Nat.reduceSub, ↓reduceIte, reduceIte, Nat.reduceMul, reduceCtorEq, Nat.reduceLT, Int.reduceLT, Int.reduceLE, Int.reduceEq, Int.reduceAdd, Int.reduceSub, Int.reduceNeg, Bool.not_true, Bool.not_false, beq_self_eq_true, Int.reduceBEq, Int.reduceBNe, ge_iff_le, gt_iff_lt, Int.reduceToNat, Bool.and_true, Bool.and_false, Bool.true_and, Bool.false_and])
    | (refine k_draw mixed (by kernel_rfl) fun Q all hd hbf hQ => ?_; simp (maxSteps := 2000000) only [go_sem, hd, hlt, hk, h0, Nat.reduceAdd, Nat.reduceEqDiff, Nat.reduceLeDiff, Nat.reduceSub, ↓reduceIte, reduceIte, Nat.reduceMul, reduceCtorEq, Nat.reduceLT, Int.reduceLT, Int.reduceLE, Int.reduceEq, Int.reduceAdd, Int.reduceSub, Int.reduceNeg, Bool.not_true, Bool.not_false, beq_self_eq_true, Int.reduceBEq, Int.reduceBNe, ge_iff_le, gt_iff_lt, Int.reduceToNat, Bool.and_true, Bool.and_false, Bool.true_and, Bool.false_and])
    | (refine hQ _ ?_; clear hQ hd; (try clear hbf); clear Q all)
    | (apply callW_fz (depthTy_pure t.kids[i] (by omega)); (· (simp (maxSteps := 2000000) only [go_sem, hlt, hk, h0, Nat.reduceAdd, Nat.reduceEqDiff, Nat.reduceLeDiff, Nat.reduceSub, ↓reduceIte, reduceIte, Nat.reduceMul, reduceCtorEq, Nat.reduceLT, Int.reduceLT, Int.reduceLE, Int.reduceEq, Int.reduceAdd, Int.reduceSub, Int.reduceNeg, Bool.not_true, Bool.not_false, beq_self_eq_true, Int.reduceBEq, Int.reduceBNe, ge_iff_le, gt_iff_lt, Int.reduceToNat, Bool.and_true, Bool.and_false, Bool.true_and, Bool.false_and]; rfl)); (try simp (maxSteps := 2000000) only [go_sem, hd, hlt, hk, h0, Nat.reduceAdd, Nat.reduceEqDiff, Nat.reduceLeDiff, Nat.reduceSub, ↓reduceIte, reduceIte, Nat.reduceMul, reduceCtorEq, Nat.reduceLT, Int.reduceLT, Int.reduceLE, Int.reduceEq, Int.reduceAdd, Int.reduceSub, Int.reduceNeg, Bool.not_true, Bool.not_false, beq_self_eq_true, Int.reduceBEq, Int.reduceBNe, ge_iff_le, gt_iff_lt, Int.reduceToNat, Bool.and_true, Bool.and_false, Bool.true_and, Bool.false_and]))
    | (apply callD_pure (depthTy_pure t.kids[i] (by omega)); (· (simp (maxSteps := 2000000) only [go_sem, hlt, hk, h0, Nat.reduceAdd, Nat.reduceEqDiff, Nat.reduceLeDiff, Nat.reduceSub, ↓reduceIte, reduceIte, Nat.reduceMul, reduceCtorEq, Nat.reduceLT, Int.reduceLT, Int.reduceLE, Int.reduceEq, Int.reduceAdd, Int.reduceSub, Int.reduceNeg, Bool.not_true, Bool.not_false, beq_self_eq_true, Int.reduceBEq, Int.reduceBNe, ge_iff_le, gt_iff_lt, Int.reduceToNat, Bool.and_true, Bool.and_false, Bool.true_and, Bool.false_and]; rfl)); (try simp (maxSteps := 2000000) only [go_sem, hd, hlt, hk, h0, Nat.reduceAdd, Nat.reduceEqDiff, Nat.reduceLeDiff, Nat.reduceSub, ↓reduceIte, reduceIte, Nat.reduceMul, reduceCtorEq, Nat.reduceLT, Int.reduceLT, Int.reduceLE, Int.reduceEq, Int.reduceAdd, Int.reduceSub, Int.reduceNeg, Bool.not_true, Bool.not_false, beq_self_eq_true, Int.reduceBEq, Int.reduceBNe, ge_iff_le, gt_iff_lt, Int.reduceToNat, Bool.and_true, Bool.and_false, Bool.true_and, Bool.false_and]))
    | (refine k_true ?_ ?_; (· (simp (maxSteps := 2000000) only [go_sem, hlt, hk, h0, Nat.reduceAdd, Nat.reduceEqDiff, Nat.reduceLeDiff, Nat.reduceSub, ↓reduceIte, reduceIte, Nat.reduceMul, reduceCtorEq, Nat.reduceLT, Int.reduceLT, Int.reduceLE, Int.reduceEq, Int.reduceAdd, Int.reduceSub, Int.reduceNeg, Bool.not_true, Bool.not_false, beq_self_eq_true, Int.reduceBEq, Int.reduceBNe, ge_iff_le, gt_iff_lt, Int.reduceToNat, Bool.and_true, Bool.and_false, Bool.true_and, Bool.false_and]; done)))
    | (refine k_false ?_ ?_; (· (simp (maxSteps := 2000000) only [go_sem, hlt, hk, h0, Nat.reduceAdd, Nat.reduceEqDiff, Nat.reduceLeDiff, Nat.reduceSub, ↓reduceIte, reduceIte, Nat.reduceMul, reduceCtorEq, Nat.reduceLT, Int.reduceLT, Int.reduceLE, Int.reduceEq, Int.reduceAdd, Int.reduceSub, Int.reduceNeg, Bool.not_true, Bool.not_false, beq_self_eq_true, Int.reduceBEq, Int.reduceBNe, ge_iff_le, gt_iff_lt, Int.reduceToNat, Bool.and_true, Bool.and_false, Bool.true_and, Bool.false_and]; done)))
    | (rw [wrap64]; rotate_left 1; (· omega); (· omega); (try simp (maxSteps := 2000000) only [go_sem, hd, hlt, hk, h0, Nat.reduceAdd, Nat.reduceEqDiff, Nat.reduceLeDiff, Nat.reduceSub, ↓reduceIte, reduceIte, Nat.reduceMul, reduceCtorEq, Nat.reduceLT, Int.reduceLT, Int.reduceLE, Int.reduceEq, Int.reduceAdd, Int.reduceSub, Int.reduceNeg, Bool.not_true, Bool.not_false, beq_self_eq_true, Int.reduceBEq, Int.reduceBNe, ge_iff_le, gt_iff_lt, Int.reduceToNat, Bool.and_true, Bool.and_false, Bool.true_and, Bool.false_and]))
    | fail
  refine n_nil (hN (t.kids.length - (i + 1)) _ _ (by omega) (weak_keep (l := [(1, .c (.ref 0 0)), (3, tI (mx ((t.kids.take (i + 1)).map Ty.depth) : Nat)), (4, tI (i + 1))]) (by rw [mx_take_succ _ _ _ hlt', ← imax']; simp (maxSteps := 2000000) only [go_sem, Nat.reduceAdd, Nat.reduceEqDiff, Nat.reduceLeDiff, Nat.reduceSub, ↓reduceIte, reduceIte, Nat.reduceMul, reduceCtorEq, Nat.reduceLT, Int.reduceLT, Int.reduceLE, Int.reduceEq, Int.reduceAdd, Int.reduceSub, Int.reduceNeg, Bool.not_true, Bool.not_false, beq_self_eq_true, Int.reduceBEq, Int.reduceBNe, ge_iff_le, gt_iff_lt, Int.reduceToNat, Bool.and_true, Bool.and_false, Bool.true_and, Bool.false_and]; try rfl)) ⟨(i + 1), rfl, by omega, rfl⟩)
termination_by SizeOf.sizeOf t
decreasing_by all_goals exact Ty.kid_lt (List.getElem_mem _)

theorem depthPr_pure (t : Pr) : t.size ≤ 1000000 → PureC Kx 30 [tG t.enc] (tI t.depth) := by
  intro hs
  refine .fit fun hfit => ?_
  have hf := Pr.fit_kids (fit_tG (hfit (tG t.enc) (.head _)))
  clear hfit
  refine pure_of_can Try.func30 rfl (nt := 22) rfl rfl (by decide) (by simp) (by simp (maxSteps := 2000000) only [go_sem, Nat.reduceAdd, Nat.reduceEqDiff, Nat.reduceLeDiff, Nat.reduceSub, ↓reduceIte, reduceIte, Nat.reduceMul, reduceCtorEq, Nat.reduceLT, Int.reduceLT, Int.reduceLE, Int.reduceEq, Int.reduceAdd, Int.reduceSub, Int.reduceNeg, Bool.not_true, Bool.not_false, beq_self_eq_true, Int.reduceBEq, Int.reduceBNe, ge_iff_le, gt_iff_lt, Int.reduceToNat, Bool.and_true, Bool.and_false, Bool.true_and, Bool.false_and]) fun Φ hΦ => ?_
  repeat' first
    | refine k_seq ?_
    | refine k_block ?_
    | refine n_sq ?_
    | refine n_bl ?_
    | refine k_skip ?_
    | refine k_exit ?_
    | refine x_sq ?_
    | refine x_hit ?_
    | refine x_miss (by decide) ?_
    | refine x_nil (Ex.of hE ?_)
    | refine k_ret ?_
    | refine t_sq ?_
    | refine t_bl ?_
    | refine t_nil (Rt.of hE ?_)
    | refine t_nil ?_
    | (refine k_region (by rfl) fun Q all hd hQ => ?_; simp (maxSteps := 2000000) only [go_sem, hd, Nat.reduceAdd, Nat.reduceEqDiff, Nat.reduceLeDiff, Nat.reduceSub, ↓reduceIte, reduceIte, Nat.reduceMul, reduceCtorEq, Nat.reduceLT, Int.reduceLT, Int.reduceLE, Int.reduceEq, Int.reduceAdd, Int.reduceSub, Int.reduceNeg, Bool.not_true, Bool.not_false, beq_self_eq_true, Int.reduceBEq, Int.reduceBNe, ge_iff_le, gt_iff_lt, Int.reduceToNat, Bool.and_true, Bool.and_false, Bool.true_and, Bool.false_and])
    | (refine k_draw mixed (by kernel_rfl) fun Q all hd hbf hQ => ?_; simp (maxSteps := 2000000) only [go_sem, hd, Nat.reduceAdd, Nat.reduceEqDiff, Nat.reduceLeDiff, Nat.reduceSub, ↓reduceIte, reduceIte, Nat.reduceMul, reduceCtorEq, Nat.reduceLT, Int.reduceLT, Int.reduceLE, Int.reduceEq, Int.reduceAdd, Int.reduceSub, Int.reduceNeg, Bool.not_true, Bool.not_false, beq_self_eq_true, Int.reduceBEq, Int.reduceBNe, ge_iff_le, gt_iff_lt, Int.reduceToNat, Bool.and_true, Bool.and_false, Bool.true_and, Bool.false_and])
    | (refine hQ _ ?_; clear hQ hd; (try clear hbf); clear Q all)
    | (refine k_true ?_ ?_; (· (simp (maxSteps := 2000000) only [go_sem, Nat.reduceAdd, Nat.reduceEqDiff, Nat.reduceLeDiff, Nat.reduceSub, ↓reduceIte, reduceIte, Nat.reduceMul, reduceCtorEq, Nat.reduceLT, Int.reduceLT, Int.reduceLE, Int.reduceEq, Int.reduceAdd, Int.reduceSub, Int.reduceNeg, Bool.not_true, Bool.not_false, beq_self_eq_true, Int.reduceBEq, Int.reduceBNe, ge_iff_le, gt_iff_lt, Int.reduceToNat, Bool.and_true, Bool.and_false, Bool.true_and, Bool.false_and]; done)))
    | (refine k_false ?_ ?_; (· (simp (maxSteps := 2000000) only [go_sem, Nat.reduceAdd, Nat.reduceEqDiff, Nat.reduceLeDiff, Nat.reduceSub, ↓reduceIte, reduceIte, Nat.reduceMul, reduceCtorEq, Nat.reduceLT, Int.reduceLT, Int.reduceLE, Int.reduceEq, Int.reduceAdd, Int.reduceSub, Int.reduceNeg, Bool.not_true, Bool.not_false, beq_self_eq_true, Int.reduceBEq, Int.reduceBNe, ge_iff_le, gt_iff_lt, Int.reduceToNat, Bool.and_true, Bool.and_false, Bool.true_and, Bool.false_and]; done)))
    | (rw [wrap64]; rotate_left 1; (· omega); (· omega); (try simp (maxSteps := 2000000) only [go_sem, hd, Nat.reduceAdd, Nat.reduceEqDiff, Nat.reduceLeDiff, Nat.reduceSub, ↓reduceIte, reduceIte, Nat.reduceMul, reduceCtorEq, Nat.reduceLT, Int.reduceLT, Int.reduceLE, Int.reduceEq, Int.reduceAdd, Int.reduceSub, Int.reduceNeg, Bool.not_true, Bool.not_false, beq_self_eq_true, Int.reduceBEq, Int.reduceBNe, ge_iff_le, gt_iff_lt, Int.reduceToNat, Bool.and_true, Bool.and_false, Bool.true_and, Bool.false_and]))
    | fail
  have hs' := Pr.kids_len t
  refine k_loop (fun j s => ∃ (i : Nat), j = t.kids.length - i ∧ i ≤ t.kids.length ∧ s = ⟨ofL [(1, .c (.ref 0 0)), (3, tI (mx ((t.kids.take i).map Pr.depth) : Nat)), (4, tI i)], [.box 30 (t.enc.map .d)], 22⟩) (t.kids.length - (0))
    (weak_keep (l := [(1, .c (.ref 0 0)), (3, tI (mx ((t.kids.take (0)).map Pr.depth) : Nat)), (4, tI (0))]) (by simp (maxSteps := 2000000) only [go_sem, List.take_zero, List.map_nil, mx, Nat.reduceAdd, Nat.reduceEqDiff, Nat.reduceLeDiff, Nat.reduceSub, ↓reduceIte, reduceIte, Nat.reduceMul, reduceCtorEq, Nat.reduceLT, Int.reduceLT, Int.reduceLE, Int.reduceEq, Int.reduceAdd, Int.reduceSub, Int.reduceNeg, Bool.not_true, Bool.not_false, beq_self_eq_true, Int.reduceBEq, Int.reduceBNe, ge_iff_le, gt_iff_lt, Int.reduceToNat, Bool.and_true, Bool.and_false, Bool.true_and, Bool.false_and]; rfl)) ⟨(0), rfl, by omega, rfl⟩ ?_
  rintro j _ ⟨i, rfl, hi, rfl⟩ Ψ hN hE
  repeat' first
    | refine k_seq ?_
    | refine k_block ?_
    | refine n_sq ?_
    | refine n_bl ?_
    | refine k_skip ?_
    | refine k_exit ?_
    | refine x_sq ?_
    | refine x_hit ?_
    | refine x_miss (by decide) ?_
    | refine x_nil (Ex.of hE ?_)
    | refine k_ret ?_
    | refine t_sq ?_
    | refine t_bl ?_
    | refine t_nil (Rt.of hE ?_)
    | refine t_nil ?_
    | (refine k_region (by rfl) fun Q all hd hQ => ?_; simp (maxSteps := 2000000) only [go_sem, hd, Nat.reduceAdd, Nat.reduceEqDiff, Nat.reduceLeDiff, Nat.reduceSub, ↓reduceIte, reduceIte, Nat.reduceMul, reduceCtorEq, Nat.reduceLT, Int.reduceLT, Int.reduceLE, Int.reduceEq, Int.reduceAdd, Int.reduceSub, Int.reduceNeg, Bool.not_true, Bool.not_false, beq_self_eq_true, Int.reduceBEq, Int.reduceBNe, ge_iff_le, gt_iff_lt, Int.reduceToNat, Bool.and_true, Bool.and_false, Bool.true_and, Bool.false_and])
    | (refine k_draw mixed (by kernel_rfl) fun Q all hd hbf hQ => ?_; simp (maxSteps := 2000000) only [go_sem, hd, Nat.reduceAdd, Nat.reduceEqDiff, Nat.reduceLeDiff, Nat.reduceSub, ↓reduceIte, reduceIte, Nat.reduceMul, reduceCtorEq, Nat.reduceLT, Int.reduceLT, Int.reduceLE, Int.reduceEq, Int.reduceAdd, Int.reduceSub, Int.reduceNeg, Bool.not_true, Bool.not_false, beq_self_eq_true, Int.reduceBEq, Int.reduceBNe, ge_iff_le, gt_iff_lt, Int.reduceToNat, Bool.and_true, Bool.and_false, Bool.true_and, Bool.false_and])
    | (refine hQ _ ?_; clear hQ hd; (try clear hbf); clear Q all)
    | (refine k_true ?_ ?_; (· (simp (maxSteps := 2000000) only [go_sem, Nat.reduceAdd, Nat.reduceEqDiff, Nat.reduceLeDiff, Nat.reduceSub, ↓reduceIte, reduceIte, Nat.reduceMul, reduceCtorEq, Nat.reduceLT, Int.reduceLT, Int.reduceLE, Int.reduceEq, Int.reduceAdd, Int.reduceSub, Int.reduceNeg, Bool.not_true, Bool.not_false, beq_self_eq_true, Int.reduceBEq, Int.reduceBNe, ge_iff_le, gt_iff_lt, Int.reduceToNat, Bool.and_true, Bool.and_false, Bool.true_and, Bool.false_and]; done)))
    | (refine k_false ?_ ?_; (· (simp (maxSteps := 2000000) only [go_sem, Nat.reduceAdd, Nat.reduceEqDiff, Nat.reduceLeDiff, Nat.reduceSub, ↓reduceIte, reduceIte, Nat.reduceMul, reduceCtorEq, Nat.reduceLT, Int.reduceLT, Int.reduceLE, Int.reduceEq, Int.reduceAdd, Int.reduceSub, Int.reduceNeg, Bool.not_true, Bool.not_false, beq_self_eq_true, Int.reduceBEq, Int.reduceBNe, ge_iff_le, gt_iff_lt, Int.reduceToNat, Bool.and_true, Bool.and_false, Bool.true_and, Bool.false_and]; done)))
    | (rw [wrap64]; rotate_left 1; (· omega); (· omega); (try simp (maxSteps := 2000000) only [go_sem, hd, Nat.reduceAdd, Nat.reduceEqDiff, Nat.reduceLeDiff, Nat.reduceSub, ↓reduceIte, reduceIte, Nat.reduceMul, reduceCtorEq, Nat.reduceLT, Int.reduceLT, Int.reduceLE, Int.reduceEq, Int.reduceAdd, Int.reduceSub, Int.reduceNeg, Bool.not_true, Bool.not_false, beq_self_eq_true, Int.reduceBEq, Int.reduceBNe, ge_iff_le, gt_iff_lt, Int.reduceToNat, Bool.and_true, Bool.and_false, Bool.true_and, Bool.false_and]))
    | fail
  by_cases hlt : (i : Int) < (t.kids.length : Int)
  case neg =>
    repeat' first
      | refine k_seq ?_
      | refine k_block ?_
      | refine n_sq ?_
      | refine n_bl ?_
      | refine k_skip ?_
      | refine k_exit ?_
      | refine x_sq ?_
      | refine x_hit ?_
      | refine x_miss (by decide) ?_
      | refine x_nil (Ex.of hE ?_)
      | refine k_ret ?_
      | refine t_sq ?_
      | refine t_bl ?_
      | refine t_nil (Rt.of hE ?_)
      | refine t_nil ?_
      | (refine k_region (by rfl) fun Q all hd hQ => ?_; simp (maxSteps := 2000000) only [go_sem, hd, hlt, Nat.reduceAdd, Nat.reduceEqDiff, Nat.reduceLeDiff, Nat.reduceSub, ↓reduceIte, reduceIte, Nat.reduceMul, reduceCtorEq, Nat.reduceLT, Int.reduceLT, Int.reduceLE, Int.reduceEq, Int.reduceAdd, Int.reduceSub, Int.reduceNeg, Bool.not_true, Bool.not_false, beq_self_eq_true, Int.reduceBEq, Int.reduceBNe, ge_iff_le, gt_iff_lt, Int.reduceToNat, Bool.and_true, Bool.and_false, Bool.true_and, Bool.false_and])
      | (refine k_draw mixed (by kernel_rfl) fun Q all hd hbf hQ => ?_; simp (maxSteps := 2000000) only [go_sem, hd, hlt, Nat.reduceAdd, Nat.reduceEqDiff, Nat.reduceLeDiff, Nat.reduceSub, ↓reduceIte, reduceIte, Nat.reduceMul, reduceCtorEq, Nat.reduceLT, Int.reduceLT, Int.reduceLE, Int.reduceEq, Int.reduceAdd, Int.reduceSub, Int.reduceNeg, Bool.not_true, Bool.not_false, beq_self_eq_true, Int.reduceBEq, Int.reduceBNe, ge_iff_le, gt_iff_lt, Int.reduceToNat, Bool.and_true, Bool.and_false, Bool.true_and, Bool.false_and])
      | (refine hQ _ ?_; clear hQ hd; (try clear hbf); clear Q all)
      | (refine k_true ?_ ?_; (· (simp (maxSteps := 2000000) only [go_sem, hlt, Nat.reduceAdd, Nat.reduceEqDiff, Nat.reduceLeDiff, Nat.reduceSub, ↓reduceIte, reduceIte, Nat.reduceMul, reduceCtorEq, Nat.reduceLT, Int.reduceLT, Int.reduceLE, Int.reduceEq, Int.reduceAdd, Int.reduceSub, Int.reduceNeg, Bool.not_true, Bool.not_false, beq_self_eq_true, Int.reduceBEq, Int.reduceBNe, ge_iff_le, gt_iff_lt, Int.reduceToNat, Bool.and_true, Bool.and_false, Bool.true_and, Bool.false_and]; done)))
      | (refine k_false ?_ ?_; (· (simp (maxSteps := 2000000) only [go_sem, hlt, Nat.reduceAdd, Nat.reduceEqDiff, Nat.reduceLeDiff, Nat.reduceSub, ↓reduceIte, reduceIte, Nat.reduceMul, reduceCtorEq, Nat.reduceLT, Int.reduceLT, Int.reduceLE, Int.reduceEq, Int.reduceAdd, Int.reduceSub, Int.reduceNeg, Bool.not_true, Bool.not_false, beq_self_eq_true, Int.reduceBEq, Int.reduceBNe, ge_iff_le, gt_iff_lt, Int.reduceToNat, Bool.and_true, Bool.and_false, Bool.true_and, Bool.false_and]; done)))
      | (rw [wrap64]; rotate_left 1; (· omega); (· omega); (try simp (maxSteps := 2000000) only [go_sem, hd, hlt, Nat.reduceAdd, Nat.reduceEqDiff, Nat.reduceLeDiff, Nat.reduceSub, ↓reduceIte, reduceIte, Nat.reduceMul, reduceCtorEq, Nat.reduceLT, Int.reduceLT, Int.reduceLE, Int.reduceEq, Int.reduceAdd, Int.reduceSub, Int.reduceNeg, Bool.not_true, Bool.not_false, beq_self_eq_true, Int.reduceBEq, Int.reduceBNe, ge_iff_le, gt_iff_lt, Int.reduceToNat, Bool.and_true, Bool.and_false, Bool.true_and, Bool.false_and]))
      | fail
    have e : i = t.kids.length := by omega
    subst e
    rw [List.take_length, wrap64 (by have := t.depth_le; rw [t.depth_eq] at this; omega) (by have := t.depth_le; rw [t.depth_eq] at this; omega)]
    repeat' first
      | refine k_seq ?_
      | refine k_block ?_
      | refine n_sq ?_
      | refine n_bl ?_
      | refine k_skip ?_
      | refine k_exit ?_
      | refine x_sq ?_
      | refine x_hit ?_
      | refine x_miss (by decide) ?_
      | refine x_nil (Ex.of hE ?_)
      | refine k_ret ?_
      | refine t_sq ?_
      | refine t_bl ?_
      | refine t_nil (Rt.of hE ?_)
      | refine t_nil ?_
      | (refine k_region (by rfl) fun Q all hd hQ => ?_; simp (maxSteps := 2000000) only [go_sem, hd, Nat.reduceAdd, Nat.reduceEqDiff, Nat.reduceLeDiff, Nat.reduceSub, ↓reduceIte, reduceIte, Nat.reduceMul, reduceCtorEq, Nat.reduceLT, Int.reduceLT, Int.reduceLE, Int.reduceEq, Int.reduceAdd, Int.reduceSub, Int.reduceNeg, Bool.not_true, Bool.not_false, beq_self_eq_true, Int.reduceBEq, Int.reduceBNe, ge_iff_le, gt_iff_lt, Int.reduceToNat, Bool.and_true, Bool.and_false, Bool.true_and, Bool.false_and])
      | (refine k_draw mixed (by kernel_rfl) fun Q all hd hbf hQ => ?_; simp (maxSteps := 2000000) only [go_sem, hd, Nat.reduceAdd, Nat.reduceEqDiff, Nat.reduceLeDiff, Nat.reduceSub, ↓reduceIte, reduceIte, Nat.reduceMul, reduceCtorEq, Nat.reduceLT, Int.reduceLT, Int.reduceLE, Int.reduceEq, Int.reduceAdd, Int.reduceSub, Int.reduceNeg, Bool.not_true, Bool.not_false, beq_self_eq_true, Int.reduceBEq, Int.reduceBNe, ge_iff_le, gt_iff_lt, Int.reduceToNat, Bool.and_true, Bool.and_false, Bool.true_and, Bool.false_and])
      | (refine hQ _ ?_; clear hQ hd; (try clear hbf); clear Q all)
      | (refine k_true ?_ ?_; (· (simp (maxSteps := 2000000) only [go_sem, Nat.reduceAdd, Nat.reduceEqDiff, Nat.reduceLeDiff, Nat.reduceSub, ↓reduceIte, reduceIte, Nat.reduceMul, reduceCtorEq, Nat.reduceLT, Int.reduceLT, Int.reduceLE, Int.reduceEq, Int.reduceAdd, Int.reduceSub, Int.reduceNeg, Bool.not_true, Bool.not_false, beq_self_eq_true, Int.reduceBEq, Int.reduceBNe, ge_iff_le, gt_iff_lt, Int.reduceToNat, Bool.and_true, Bool.and_false, Bool.true_and, Bool.false_and]; done)))
      | (refine k_false ?_ ?_; (· (simp (maxSteps := 2000000) only [go_sem, Nat.reduceAdd, Nat.reduceEqDiff, Nat.reduceLeDiff, Nat.reduceSub, ↓reduceIte, reduceIte, Nat.reduceMul, reduceCtorEq, Nat.reduceLT, Int.reduceLT, Int.reduceLE, Int.reduceEq, Int.reduceAdd, Int.reduceSub, Int.reduceNeg, Bool.not_true, Bool.not_false, beq_self_eq_true, Int.reduceBEq, Int.reduceBNe, ge_iff_le, gt_iff_lt, Int.reduceToNat, Bool.and_true, Bool.and_false, Bool.true_and, Bool.false_and]; done)))
      | (rw [wrap64]; rotate_left 1; (· omega); (· omega); (try simp (maxSteps := 2000000) only [go_sem, hd, Nat.reduceAdd, Nat.reduceEqDiff, Nat.reduceLeDiff, Nat.reduceSub, ↓reduceIte, reduceIte, Nat.reduceMul, reduceCtorEq, Nat.reduceLT, Int.reduceLT, Int.reduceLE, Int.reduceEq, Int.reduceAdd, Int.reduceSub, Int.reduceNeg, Bool.not_true, Bool.not_false, beq_self_eq_true, Int.reduceBEq, Int.reduceBNe, ge_iff_le, gt_iff_lt, Int.reduceToNat, Bool.and_true, Bool.and_false, Bool.true_and, Bool.false_and]))
      | fail
    apply And.left
    apply hΦ
    · simp (maxSteps := 2000000) only [go_sem, resT, resOne, Nat.reduceAdd, Nat.reduceEqDiff, Nat.reduceLeDiff, Nat.reduceSub, ↓reduceIte, reduceIte, Nat.reduceMul, reduceCtorEq, Nat.reduceLT, Int.reduceLT, Int.reduceLE, Int.reduceEq, Int.reduceAdd, Int.reduceSub, Int.reduceNeg, Bool.not_true, Bool.not_false, beq_self_eq_true, Int.reduceBEq, Int.reduceBNe, ge_iff_le, gt_iff_lt, Int.reduceToNat, Bool.and_true, Bool.and_false, Bool.true_and, Bool.false_and]; rfl
    · rw [t.depth_eq]; rfl
    · simp (maxSteps := 2000000) only [go_sem, Nat.reduceAdd, Nat.reduceEqDiff, Nat.reduceLeDiff, Nat.reduceSub, ↓reduceIte, reduceIte, Nat.reduceMul, reduceCtorEq, Nat.reduceLT, Int.reduceLT, Int.reduceLE, Int.reduceEq, Int.reduceAdd, Int.reduceSub, Int.reduceNeg, Bool.not_true, Bool.not_false, beq_self_eq_true, Int.reduceBEq, Int.reduceBNe, ge_iff_le, gt_iff_lt, Int.reduceToNat, Bool.and_true, Bool.and_false, Bool.true_and, Bool.false_and]
  have hlt' : i < t.kids.length := by omega
  have hk := List.getElem?_eq_getElem hlt'
  have h0 : (0 : Int) ≤ (i : Int) := by omega
  have hsz := Pr.kid_size (List.getElem_mem hlt')
  repeat' first
    | refine k_seq ?_
    | refine k_block ?_
    | refine n_sq ?_
    | refine n_bl ?_
    | refine k_skip ?_
    | refine k_exit ?_
    | refine x_sq ?_
    | refine x_hit ?_
    | refine x_miss (by decide) ?_
    | refine x_nil (Ex.of hE ?_)
    | refine k_ret ?_
    | refine t_sq ?_
    | refine t_bl ?_
    | refine t_nil (Rt.of hE ?_)
    | refine t_nil ?_
    | (refine k_region (by rfl) fun Q all hd hQ => ?_; simp (maxSteps := 2000000) only [go_sem, hd, hlt, hk, h0, Nat.reduceAdd, Nat.reduceEqDiff, Nat.reduceLeDiff, Nat.reduceSub, ↓reduceIte, reduceIte, Nat.reduceMul, reduceCtorEq, Nat.reduceLT, Int.reduceLT, Int.reduceLE, Int.reduceEq, Int.reduceAdd, Int.reduceSub, Int.reduceNeg, Bool.not_true, Bool.not_false, beq_self_eq_true, Int.reduceBEq, Int.reduceBNe, ge_iff_le, gt_iff_lt, Int.reduceToNat, Bool.and_true, Bool.and_false, Bool.true_and, Bool.false_and])
    | (refine k_draw mixed (by kernel_rfl) fun Q all hd hbf hQ => ?_; simp (maxSteps := 2000000) only [go_sem, hd, hlt, hk, h0, Nat.reduceAdd, Nat.reduceEqDiff, Nat.reduceLeDiff, Nat.reduceSub, ↓reduceIte, reduceIte, Nat.reduceMul, reduceCtorEq, Nat.reduceLT, Int.reduceLT, Int.reduceLE, Int.reduceEq, Int.reduceAdd, Int.reduceSub, Int.reduceNeg, Bool.not_true, Bool.not_false, beq_self_eq_true, Int.reduceBEq, Int.reduceBNe, ge_iff_le, gt_iff_lt, Int.reduceToNat, Bool.and_true, Bool.and_false, Bool.true_and, Bool.false_and])
    | (refine hQ _ ?_; clear hQ hd; (try clear hbf); clear Q all)
    | (apply callW_fz (depthPr_pure t.kids[i] (by omega)); (· (simp (maxSteps := 2000000) only [go_sem, hlt, hk, h0, Nat.reduceAdd, Nat.reduceEqDiff, Nat.reduceLeDiff, Nat.reduceSub, ↓reduceIte, reduceIte, Nat.reduceMul, reduceCtorEq, Nat.reduceLT, Int.reduceLT, Int.reduceLE, Int.reduceEq, Int.reduceAdd, Int.reduceSub, Int.reduceNeg, Bool.not_true, Bool.not_false, beq_self_eq_true, Int.reduceBEq, Int.reduceBNe, ge_iff_le, gt_iff_lt, Int.reduceToNat, Bool.and_true, Bool.and_false, Bool.true_and, Bool.false_and]; rfl)); (try simp (maxSteps := 2000000) only [go_sem, hd, hlt, hk, h0, Nat.reduceAdd, Nat.reduceEqDiff, Nat.reduceLeDiff, Nat.reduceSub, ↓reduceIte, reduceIte, Nat.reduceMul, reduceCtorEq, Nat.reduceLT, Int.reduceLT, Int.reduceLE, Int.reduceEq, Int.reduceAdd, Int.reduceSub, Int.reduceNeg, Bool.not_true, Bool.not_false, beq_self_eq_true, Int.reduceBEq, Int.reduceBNe, ge_iff_le, gt_iff_lt, Int.reduceToNat, Bool.and_true, Bool.and_false, Bool.true_and, Bool.false_and]))
    | (apply callD_pure (depthPr_pure t.kids[i] (by omega)); (· (simp (maxSteps := 2000000) only [go_sem, hlt, hk, h0, Nat.reduceAdd, Nat.reduceEqDiff, Nat.reduceLeDiff, Nat.reduceSub, ↓reduceIte, reduceIte, Nat.reduceMul, reduceCtorEq, Nat.reduceLT, Int.reduceLT, Int.reduceLE, Int.reduceEq, Int.reduceAdd, Int.reduceSub, Int.reduceNeg, Bool.not_true, Bool.not_false, beq_self_eq_true, Int.reduceBEq, Int.reduceBNe, ge_iff_le, gt_iff_lt, Int.reduceToNat, Bool.and_true, Bool.and_false, Bool.true_and, Bool.false_and]; rfl)); (try simp (maxSteps := 2000000) only [go_sem, hd, hlt, hk, h0, Nat.reduceAdd, Nat.reduceEqDiff, Nat.reduceLeDiff, Nat.reduceSub, ↓reduceIte, reduceIte, Nat.reduceMul, reduceCtorEq, Nat.reduceLT, Int.reduceLT, Int.reduceLE, Int.reduceEq, Int.reduceAdd, Int.reduceSub, Int.reduceNeg, Bool.not_true, Bool.not_false, beq_self_eq_true, Int.reduceBEq, Int.reduceBNe, ge_iff_le, gt_iff_lt, Int.reduceToNat, Bool.and_true, Bool.and_false, Bool.true_and, Bool.false_and]))
    | (refine k_true ?_ ?_; (· (simp (maxSteps := 2000000) only [go_sem, hlt, hk, h0, Nat.reduceAdd, Nat.reduceEqDiff, Nat.reduceLeDiff, Nat.reduceSub, ↓reduceIte, reduceIte, Nat.reduceMul, reduceCtorEq, Nat.reduceLT, Int.reduceLT, Int.reduceLE, Int.reduceEq, Int.reduceAdd, Int.reduceSub, Int.reduceNeg, Bool.not_true, Bool.not_false, beq_self_eq_true, Int.reduceBEq, Int.reduceBNe, ge_iff_le, gt_iff_lt, Int.reduceToNat, Bool.and_true, Bool.and_false, Bool.true_and, Bool.false_and]; done)))
    | (refine k_false ?_ ?_; (· (simp (maxSteps := 2000000) only [go_sem, hlt, hk, h0, Nat.reduceAdd, Nat.reduceEqDiff, Nat.reduceLeDiff, Nat.reduceSub, ↓reduceIte, reduceIte, Nat.reduceMul, reduceCtorEq, Nat.reduceLT, Int.reduceLT, Int.reduceLE, Int.reduceEq, Int.reduceAdd, Int.reduceSub, Int.reduceNeg, Bool.not_true, Bool.not_false, beq_self_eq_true, Int.reduceBEq, Int.reduceBNe, ge_iff_le, gt_iff_lt, Int.reduceToNat, Bool.and_true, Bool.and_false, Bool.true_and, Bool.false_and]; done)))
    | (rw [wrap64]; rotate_left 1; (· omega); (· omega); (try simp (maxSteps := 2000000) only [go_sem, hd, hlt, hk, h0, Nat.reduceAdd, Nat.reduceEqDiff, Nat.reduceLeDiff, Nat.reduceSub, ↓reduceIte, reduceIte, Nat.reduceMul, reduceCtorEq, Nat.reduceLT, Int.reduceLT, Int.reduceLE, Int.reduceEq, Int.reduceAdd, Int.reduceSub, Int.reduceNeg, Bool.not_true, Bool.not_false, beq_self_eq_true, Int.reduceBEq, Int.reduceBNe, ge_iff_le, gt_iff_lt, Int.reduceToNat, Bool.and_true, Bool.and_false, Bool.true_and, Bool.false_and]))
    | fail
  refine n_nil (hN (t.kids.length - (i + 1)) _ _ (by omega) (weak_keep (l := [(1, .c (.ref 0 0)), (3, tI (mx ((t.kids.take (i + 1)).map Pr.depth) : Nat)), (4, tI (i + 1))]) (by rw [mx_take_succ _ _ _ hlt', ← imax']; simp (maxSteps := 2000000) only [go_sem, Nat.reduceAdd, Nat.reduceEqDiff, Nat.reduceLeDiff, Nat.reduceSub, ↓reduceIte, reduceIte, Nat.reduceMul, reduceCtorEq, Nat.reduceLT, Int.reduceLT, Int.reduceLE, Int.reduceEq, Int.reduceAdd, Int.reduceSub, Int.reduceNeg, Bool.not_true, Bool.not_false, beq_self_eq_true, Int.reduceBEq, Int.reduceBNe, ge_iff_le, gt_iff_lt, Int.reduceToNat, Bool.and_true, Bool.and_false, Bool.true_and, Bool.false_and]; try rfl)) ⟨(i + 1), rfl, by omega, rfl⟩)
termination_by SizeOf.sizeOf t
decreasing_by all_goals exact Pr.kid_lt (List.getElem_mem _)

theorem sizePr_pure (t : Pr) : t.size ≤ 1000000 → PureC Kx 13 [tG t.enc] (tI t.size) := by
  intro hs
  refine .fit fun hfit => ?_
  have hf := Pr.fit_kids (fit_tG (hfit (tG t.enc) (.head _)))
  clear hfit
  refine pure_of_can Try.func13 rfl (nt := 21) rfl rfl (by decide) (by simp) (by simp (maxSteps := 2000000) only [go_sem, Nat.reduceAdd, Nat.reduceEqDiff, Nat.reduceLeDiff, Nat.reduceSub, ↓reduceIte, reduceIte, Nat.reduceMul, reduceCtorEq, Nat.reduceLT, Int.reduceLT, Int.reduceLE, Int.reduceEq, Int.reduceAdd, Int.reduceSub, Int.reduceNeg, Bool.not_true, Bool.not_false, beq_self_eq_true, Int.reduceBEq, Int.reduceBNe, ge_iff_le, gt_iff_lt, Int.reduceToNat, Bool.and_true, Bool.and_false, Bool.true_and, Bool.false_and]) fun Φ hΦ => ?_
  repeat' first
    | refine k_seq ?_
    | refine k_block ?_
    | refine n_sq ?_
    | refine n_bl ?_
    | refine k_skip ?_
    | refine k_exit ?_
    | refine x_sq ?_
    | refine x_hit ?_
    | refine x_miss (by decide) ?_
    | refine x_nil (Ex.of hE ?_)
    | refine k_ret ?_
    | refine t_sq ?_
    | refine t_bl ?_
    | refine t_nil (Rt.of hE ?_)
    | refine t_nil ?_
    | (refine k_region (by rfl) fun Q all hd hQ => ?_; simp (maxSteps := 2000000) only [go_sem, hd, Nat.reduceAdd, Nat.reduceEqDiff, Nat.reduceLeDiff, Nat.reduceSub, ↓reduceIte, reduceIte, Nat.reduceMul, reduceCtorEq, Nat.reduceLT, Int.reduceLT, Int.reduceLE, Int.reduceEq, Int.reduceAdd, Int.reduceSub, Int.reduceNeg, Bool.not_true, Bool.not_false, beq_self_eq_true, Int.reduceBEq, Int.reduceBNe, ge_iff_le, gt_iff_lt, Int.reduceToNat, Bool.and_true, Bool.and_false, Bool.true_and, Bool.false_and])
    | (refine k_draw mixed (by kernel_rfl) fun Q all hd hbf hQ => ?_; simp (maxSteps := 2000000) only [go_sem, hd, Nat.reduceAdd, Nat.reduceEqDiff, Nat.reduceLeDiff, Nat.reduceSub, ↓reduceIte, reduceIte, Nat.reduceMul, reduceCtorEq, Nat.reduceLT, Int.reduceLT, Int.reduceLE, Int.reduceEq, Int.reduceAdd, Int.reduceSub, Int.reduceNeg, Bool.not_true, Bool.not_false, beq_self_eq_true, Int.reduceBEq, Int.reduceBNe, ge_iff_le, gt_iff_lt, Int.reduceToNat, Bool.and_true, Bool.and_false, Bool.true_and, Bool.false_and])
    | (refine hQ _ ?_; clear hQ hd; (try clear hbf); clear Q all)
    | (refine k_true ?_ ?_; (· (simp (maxSteps := 2000000) only [go_sem, Nat.reduceAdd, Nat.reduceEqDiff, Nat.reduceLeDiff, Nat.reduceSub, ↓reduceIte, reduceIte, Nat.reduceMul, reduceCtorEq, Nat.reduceLT, Int.reduceLT, Int.reduceLE, Int.reduceEq, Int.reduceAdd, Int.reduceSub, Int.reduceNeg, Bool.not_true, Bool.not_false, beq_self_eq_true, Int.reduceBEq, Int.reduceBNe, ge_iff_le, gt_iff_lt, Int.reduceToNat, Bool.and_true, Bool.and_false, Bool.true_and, Bool.false_and]; done)))
    | (refine k_false ?_ ?_; (· (simp (maxSteps := 2000000) only [go_sem, Nat.reduceAdd, Nat.reduceEqDiff, Nat.reduceLeDiff, Nat.reduceSub, ↓reduceIte, reduceIte, Nat.reduceMul, reduceCtorEq, Nat.reduceLT, Int.reduceLT, Int.reduceLE, Int.reduceEq, Int.reduceAdd, Int.reduceSub, Int.reduceNeg, Bool.not_true, Bool.not_false, beq_self_eq_true, Int.reduceBEq, Int.reduceBNe, ge_iff_le, gt_iff_lt, Int.reduceToNat, Bool.and_true, Bool.and_false, Bool.true_and, Bool.false_and]; done)))
    | (rw [wrap64]; rotate_left 1; (· omega); (· omega); (try simp (maxSteps := 2000000) only [go_sem, hd, Nat.reduceAdd, Nat.reduceEqDiff, Nat.reduceLeDiff, Nat.reduceSub, ↓reduceIte, reduceIte, Nat.reduceMul, reduceCtorEq, Nat.reduceLT, Int.reduceLT, Int.reduceLE, Int.reduceEq, Int.reduceAdd, Int.reduceSub, Int.reduceNeg, Bool.not_true, Bool.not_false, beq_self_eq_true, Int.reduceBEq, Int.reduceBNe, ge_iff_le, gt_iff_lt, Int.reduceToNat, Bool.and_true, Bool.and_false, Bool.true_and, Bool.false_and]))
    | fail
  have hs' := Pr.kids_len t
  refine k_loop (fun j s => ∃ (i : Nat), j = t.kids.length - i ∧ i ≤ t.kids.length ∧ s = ⟨ofL [(1, .c (.ref 0 0)), (3, tI (1 + ((t.kids.take i).map Pr.size).sum : Nat)), (4, tI i)], [.box 30 (t.enc.map .d)], 21⟩) (t.kids.length - (0))
    (weak_keep (l := [(1, .c (.ref 0 0)), (3, tI (1 + ((t.kids.take (0)).map Pr.size).sum : Nat)), (4, tI (0))]) (by simp (maxSteps := 2000000) only [go_sem, List.take_zero, List.map_nil, List.sum_nil, Nat.reduceAdd, Nat.reduceEqDiff, Nat.reduceLeDiff, Nat.reduceSub, ↓reduceIte, reduceIte, Nat.reduceMul, reduceCtorEq, Nat.reduceLT, Int.reduceLT, Int.reduceLE, Int.reduceEq, Int.reduceAdd, Int.reduceSub, Int.reduceNeg, Bool.not_true, Bool.not_false, beq_self_eq_true, Int.reduceBEq, Int.reduceBNe, ge_iff_le, gt_iff_lt, Int.reduceToNat, Bool.and_true, Bool.and_false, Bool.true_and, Bool.false_and]; try rfl)) ⟨(0), rfl, by omega, rfl⟩ ?_
  rintro j _ ⟨i, rfl, hi, rfl⟩ Ψ hN hE
  repeat' first
    | refine k_seq ?_
    | refine k_block ?_
    | refine n_sq ?_
    | refine n_bl ?_
    | refine k_skip ?_
    | refine k_exit ?_
    | refine x_sq ?_
    | refine x_hit ?_
    | refine x_miss (by decide) ?_
    | refine x_nil (Ex.of hE ?_)
    | refine k_ret ?_
    | refine t_sq ?_
    | refine t_bl ?_
    | refine t_nil (Rt.of hE ?_)
    | refine t_nil ?_
    | (refine k_region (by rfl) fun Q all hd hQ => ?_; simp (maxSteps := 2000000) only [go_sem, hd, Nat.reduceAdd, Nat.reduceEqDiff, Nat.reduceLeDiff, Nat.reduceSub, ↓reduceIte, reduceIte, Nat.reduceMul, reduceCtorEq, Nat.reduceLT, Int.reduceLT, Int.reduceLE, Int.reduceEq, Int.reduceAdd, Int.reduceSub, Int.reduceNeg, Bool.not_true, Bool.not_false, beq_self_eq_true, Int.reduceBEq, Int.reduceBNe, ge_iff_le, gt_iff_lt, Int.reduceToNat, Bool.and_true, Bool.and_false, Bool.true_and, Bool.false_and])
    | (refine k_draw mixed (by kernel_rfl) fun Q all hd hbf hQ => ?_; simp (maxSteps := 2000000) only [go_sem, hd, Nat.reduceAdd, Nat.reduceEqDiff, Nat.reduceLeDiff, Nat.reduceSub, ↓reduceIte, reduceIte, Nat.reduceMul, reduceCtorEq, Nat.reduceLT, Int.reduceLT, Int.reduceLE, Int.reduceEq, Int.reduceAdd, Int.reduceSub, Int.reduceNeg, Bool.not_true, Bool.not_false, beq_self_eq_true, Int.reduceBEq, Int.reduceBNe, ge_iff_le, gt_iff_lt, Int.reduceToNat, Bool.and_true, Bool.and_false, Bool.true_and, Bool.false_and])
    | (refine hQ _ ?_; clear hQ hd; (try clear hbf); clear Q all)
    | (refine k_true ?_ ?_; (· (simp (maxSteps := 2000000) only [go_sem, Nat.reduceAdd, Nat.reduceEqDiff, Nat.reduceLeDiff, Nat.reduceSub, ↓reduceIte, reduceIte, Nat.reduceMul, reduceCtorEq, Nat.reduceLT, Int.reduceLT, Int.reduceLE, Int.reduceEq, Int.reduceAdd, Int.reduceSub, Int.reduceNeg, Bool.not_true, Bool.not_false, beq_self_eq_true, Int.reduceBEq, Int.reduceBNe, ge_iff_le, gt_iff_lt, Int.reduceToNat, Bool.and_true, Bool.and_false, Bool.true_and, Bool.false_and]; done)))
    | (refine k_false ?_ ?_; (· (simp (maxSteps := 2000000) only [go_sem, Nat.reduceAdd, Nat.reduceEqDiff, Nat.reduceLeDiff, Nat.reduceSub, ↓reduceIte, reduceIte, Nat.reduceMul, reduceCtorEq, Nat.reduceLT, Int.reduceLT, Int.reduceLE, Int.reduceEq, Int.reduceAdd, Int.reduceSub, Int.reduceNeg, Bool.not_true, Bool.not_false, beq_self_eq_true, Int.reduceBEq, Int.reduceBNe, ge_iff_le, gt_iff_lt, Int.reduceToNat, Bool.and_true, Bool.and_false, Bool.true_and, Bool.false_and]; done)))
    | (rw [wrap64]; rotate_left 1; (· omega); (· omega); (try simp (maxSteps := 2000000) only [go_sem, hd, Nat.reduceAdd, Nat.reduceEqDiff, Nat.reduceLeDiff, Nat.reduceSub, ↓reduceIte, reduceIte, Nat.reduceMul, reduceCtorEq, Nat.reduceLT, Int.reduceLT, Int.reduceLE, Int.reduceEq, Int.reduceAdd, Int.reduceSub, Int.reduceNeg, Bool.not_true, Bool.not_false, beq_self_eq_true, Int.reduceBEq, Int.reduceBNe, ge_iff_le, gt_iff_lt, Int.reduceToNat, Bool.and_true, Bool.and_false, Bool.true_and, Bool.false_and]))
    | fail
  by_cases hlt : (i : Int) < (t.kids.length : Int)
  case neg =>
    repeat' first
      | refine k_seq ?_
      | refine k_block ?_
      | refine n_sq ?_
      | refine n_bl ?_
      | refine k_skip ?_
      | refine k_exit ?_
      | refine x_sq ?_
      | refine x_hit ?_
      | refine x_miss (by decide) ?_
      | refine x_nil (Ex.of hE ?_)
      | refine k_ret ?_
      | refine t_sq ?_
      | refine t_bl ?_
      | refine t_nil (Rt.of hE ?_)
      | refine t_nil ?_
      | (refine k_region (by rfl) fun Q all hd hQ => ?_; simp (maxSteps := 2000000) only [go_sem, hd, hlt, Nat.reduceAdd, Nat.reduceEqDiff, Nat.reduceLeDiff, Nat.reduceSub, ↓reduceIte, reduceIte, Nat.reduceMul, reduceCtorEq, Nat.reduceLT, Int.reduceLT, Int.reduceLE, Int.reduceEq, Int.reduceAdd, Int.reduceSub, Int.reduceNeg, Bool.not_true, Bool.not_false, beq_self_eq_true, Int.reduceBEq, Int.reduceBNe, ge_iff_le, gt_iff_lt, Int.reduceToNat, Bool.and_true, Bool.and_false, Bool.true_and, Bool.false_and])
      | (refine k_draw mixed (by kernel_rfl) fun Q all hd hbf hQ => ?_; simp (maxSteps := 2000000) only [go_sem, hd, hlt, Nat.reduceAdd, Nat.reduceEqDiff, Nat.reduceLeDiff, Nat.reduceSub, ↓reduceIte, reduceIte, Nat.reduceMul, reduceCtorEq, Nat.reduceLT, Int.reduceLT, Int.reduceLE, Int.reduceEq, Int.reduceAdd, Int.reduceSub, Int.reduceNeg, Bool.not_true, Bool.not_false, beq_self_eq_true, Int.reduceBEq, Int.reduceBNe, ge_iff_le, gt_iff_lt, Int.reduceToNat, Bool.and_true, Bool.and_false, Bool.true_and, Bool.false_and])
      | (refine hQ _ ?_; clear hQ hd; (try clear hbf); clear Q all)
      | (refine k_true ?_ ?_; (· (simp (maxSteps := 2000000) only [go_sem, hlt, Nat.reduceAdd, Nat.reduceEqDiff, Nat.reduceLeDiff, Nat.reduceSub, ↓reduceIte, reduceIte, Nat.reduceMul, reduceCtorEq, Nat.reduceLT, Int.reduceLT, Int.reduceLE, Int.reduceEq, Int.reduceAdd, Int.reduceSub, Int.reduceNeg, Bool.not_true, Bool.not_false, beq_self_eq_true, Int.reduceBEq, Int.reduceBNe, ge_iff_le, gt_iff_lt, Int.reduceToNat, Bool.and_true, Bool.and_false, Bool.true_and, Bool.false_and]; done)))
      | (refine k_false ?_ ?_; (· (simp (maxSteps := 2000000) only [go_sem, hlt, Nat.reduceAdd, Nat.reduceEqDiff, Nat.reduceLeDiff, Nat.reduceSub, ↓reduceIte, reduceIte, Nat.reduceMul, reduceCtorEq, Nat.reduceLT, Int.reduceLT, Int.reduceLE, Int.reduceEq, Int.reduceAdd, Int.reduceSub, Int.reduceNeg, Bool.not_true, Bool.not_false, beq_self_eq_true, Int.reduceBEq, Int.reduceBNe, ge_iff_le, gt_iff_lt, Int.reduceToNat, Bool.and_true, Bool.and_false, Bool.true_and, Bool.false_and]; done)))
      | (rw [wrap64]; rotate_left 1; (· omega); (· omega); (try simp (maxSteps := 2000000) only [go_sem, hd, hlt, Nat.reduceAdd, Nat.reduceEqDiff, Nat.reduceLeDiff, Nat.reduceSub, ↓reduceIte, reduceIte, Nat.reduceMul, reduceCtorEq, Nat.reduceLT, Int.reduceLT, Int.reduceLE, Int.reduceEq, Int.reduceAdd, Int.reduceSub, Int.reduceNeg, Bool.not_true, Bool.not_false, beq_self_eq_true, Int.reduceBEq, Int.reduceBNe, ge_iff_le, gt_iff_lt, Int.reduceToNat, Bool.and_true, Bool.and_false, Bool.true_and, Bool.false_and]))
      | fail
    have e : i = t.kids.length := by omega
    subst e
    apply And.left
    apply hΦ
    · simp (maxSteps := 2000000) only [go_sem, resT, resOne, Nat.reduceAdd, Nat.reduceEqDiff, Nat.reduceLeDiff, Nat.reduceSub, ↓reduceIte, reduceIte, Nat.reduceMul, reduceCtorEq, Nat.reduceLT, Int.reduceLT, Int.reduceLE, Int.reduceEq, Int.reduceAdd, Int.reduceSub, Int.reduceNeg, Bool.not_true, Bool.not_false, beq_self_eq_true, Int.reduceBEq, Int.reduceBNe, ge_iff_le, gt_iff_lt, Int.reduceToNat, Bool.and_true, Bool.and_false, Bool.true_and, Bool.false_and]; rfl
    · rw [t.size_eq, List.take_length]; rfl
    · simp (maxSteps := 2000000) only [go_sem, Nat.reduceAdd, Nat.reduceEqDiff, Nat.reduceLeDiff, Nat.reduceSub, ↓reduceIte, reduceIte, Nat.reduceMul, reduceCtorEq, Nat.reduceLT, Int.reduceLT, Int.reduceLE, Int.reduceEq, Int.reduceAdd, Int.reduceSub, Int.reduceNeg, Bool.not_true, Bool.not_false, beq_self_eq_true, Int.reduceBEq, Int.reduceBNe, ge_iff_le, gt_iff_lt, Int.reduceToNat, Bool.and_true, Bool.and_false, Bool.true_and, Bool.false_and]
  have hlt' : i < t.kids.length := by omega
  have hk := List.getElem?_eq_getElem hlt'
  have h0 : (0 : Int) ≤ (i : Int) := by omega
  have hsz := Pr.kid_size (List.getElem_mem hlt')
  have hst := sum_take_le t.kids Pr.size i
  have hse := t.size_eq
  repeat' first
    | refine k_seq ?_
    | refine k_block ?_
    | refine n_sq ?_
    | refine n_bl ?_
    | refine k_skip ?_
    | refine k_exit ?_
    | refine x_sq ?_
    | refine x_hit ?_
    | refine x_miss (by decide) ?_
    | refine x_nil (Ex.of hE ?_)
    | refine k_ret ?_
    | refine t_sq ?_
    | refine t_bl ?_
    | refine t_nil (Rt.of hE ?_)
    | refine t_nil ?_
    | (refine k_region (by rfl) fun Q all hd hQ => ?_; simp (maxSteps := 2000000) only [go_sem, hd, hlt, hk, h0, Nat.reduceAdd, Nat.reduceEqDiff, Nat.reduceLeDiff, Nat.reduceSub, ↓reduceIte, reduceIte, Nat.reduceMul, reduceCtorEq, Nat.reduceLT, Int.reduceLT, Int.reduceLE, Int.reduceEq, Int.reduceAdd, Int.reduceSub, Int.reduceNeg, Bool.not_true, Bool.not_false, beq_self_eq_true, Int.reduceBEq, Int.reduceBNe, ge_iff_le, gt_iff_lt, Int.reduceToNat, Bool.and_true, Bool.and_false, Bool.true_and, Bool.false_and])
    | (refine k_draw mixed (by kernel_rfl) fun Q all hd hbf hQ => ?_; simp (maxSteps := 2000000) only [go_sem, hd, hlt, hk, h0, Nat.reduceAdd, Nat.reduceEqDiff, Nat.reduceLeDiff, Nat.reduceSub, ↓reduceIte, reduceIte, Nat.reduceMul, reduceCtorEq, Nat.reduceLT, Int.reduceLT, Int.reduceLE, Int.reduceEq, Int.reduceAdd, Int.reduceSub, Int.reduceNeg, Bool.not_true, Bool.not_false, beq_self_eq_true, Int.reduceBEq, Int.reduceBNe, ge_iff_le, gt_iff_lt, Int.reduceToNat, Bool.and_true, Bool.and_false, Bool.true_and, Bool.false_and])
    | (refine hQ _ ?_; clear hQ hd; (try clear hbf); clear Q all)
    | (apply callW_fz (sizePr_pure t.kids[i] (by omega)); (· (simp (maxSteps := 2000000) only [go_sem, hlt, hk, h0, Nat.reduceAdd, Nat.reduceEqDiff, Nat.reduceLeDiff, Nat.reduceSub, ↓reduceIte, reduceIte, Nat.reduceMul, reduceCtorEq, Nat.reduceLT, Int.reduceLT, Int.reduceLE, Int.reduceEq, Int.reduceAdd, Int.reduceSub, Int.reduceNeg, Bool.not_true, Bool.not_false, beq_self_eq_true, Int.reduceBEq, Int.reduceBNe, ge_iff_le, gt_iff_lt, Int.reduceToNat, Bool.and_true, Bool.and_false, Bool.true_and, Bool.false_and]; rfl)); (try simp (maxSteps := 2000000) only [go_sem, hd, hlt, hk, h0, Nat.reduceAdd, Nat.reduceEqDiff, Nat.reduceLeDiff, Nat.reduceSub, ↓reduceIte, reduceIte, Nat.reduceMul, reduceCtorEq, Nat.reduceLT, Int.reduceLT, Int.reduceLE, Int.reduceEq, Int.reduceAdd, Int.reduceSub, Int.reduceNeg, Bool.not_true, Bool.not_false, beq_self_eq_true, Int.reduceBEq, Int.reduceBNe, ge_iff_le, gt_iff_lt, Int.reduceToNat, Bool.and_true, Bool.and_false, Bool.true_and, Bool.false_and]))
    | (apply callD_pure (sizePr_pure t.kids[i] (by omega)); (· (simp (maxSteps := 2000000) only [go_sem, hlt, hk, h0, Nat.reduceAdd, Nat.reduceEqDiff, Nat.reduceLeDiff, Nat.reduceSub, ↓reduceIte, reduceIte, Nat.reduceMul, reduceCtorEq, Nat.reduceLT, Int.reduceLT, Int.reduceLE, Int.reduceEq, Int.reduceAdd, Int.reduceSub, Int.reduceNeg, Bool.not_true, Bool.not_false, beq_self_eq_true, Int.reduceBEq, Int.reduceBNe, ge_iff_le, gt_iff_lt, Int.reduceToNat, Bool.and_true, Bool.and_false, Bool.true_and, Bool.false_and]; rfl)); (try simp (maxSteps := 2000000) only [go_sem, hd, hlt, hk, h0, Nat.reduceAdd, Nat.reduceEqDiff, Nat.reduceLeDiff, Nat.reduceSub, ↓reduceIte, reduceIte, Nat.reduceMul, reduceCtorEq, Nat.reduceLT, Int.reduceLT, Int.reduceLE, Int.reduceEq, Int.reduceAdd, Int.reduceSub, Int.reduceNeg, Bool.not_true, Bool.not_false, beq_self_eq_true, Int.reduceBEq, Int.reduceBNe, ge_iff_le, gt_iff_lt, Int.reduceToNat, Bool.and_true, Bool.and_false, Bool.true_and, Bool.false_and]))
    | (refine k_true ?_ ?_; (· (simp (maxSteps := 2000000) only [go_sem, hlt, hk, h0, Nat.reduceAdd, Nat.reduceEqDiff, Nat.reduceLeDiff, Nat.reduceSub, ↓reduceIte, reduceIte, Nat.reduceMul, reduceCtorEq, Nat.reduceLT, Int.reduceLT, Int.reduceLE, Int.reduceEq, Int.reduceAdd, Int.reduceSub, Int.reduceNeg, Bool.not_true, Bool.not_false, beq_self_eq_true, Int.reduceBEq, Int.reduceBNe, ge_iff_le, gt_iff_lt, Int.reduceToNat, Bool.and_true, Bool.and_false, Bool.true_and, Bool.false_and]; done)))
    | (refine k_false ?_ ?_; (· (simp (maxSteps := 2000000) only [go_sem, hlt, hk, h0, Nat.reduceAdd, Nat.reduceEqDiff, Nat.reduceLeDiff, Nat.reduceSub, ↓reduceIte, reduceIte, Nat.reduceMul, reduceCtorEq, Nat.reduceLT, Int.reduceLT, Int.reduceLE, Int.reduceEq, Int.reduceAdd, Int.reduceSub, Int.reduceNeg, Bool.not_true, Bool.not_false, beq_self_eq_true, Int.reduceBEq, Int.reduceBNe, ge_iff_le, gt_iff_lt, Int.reduceToNat, Bool.and_true, Bool.and_false, Bool.true_and, Bool.false_and]; done)))
    | (rw [wrap64]; rotate_left 1; (· omega); (· omega); (try simp (maxSteps := 2000000) only [go_sem, hd, hlt, hk, h0, Nat.reduceAdd, Nat.reduceEqDiff, Nat.reduceLeDiff, Nat.reduceSub, ↓reduceIte, reduceIte, Nat.reduceMul, reduceCtorEq, Nat.reduceLT, Int.reduceLT, Int.reduceLE, Int.reduceEq, Int.reduceAdd, Int.reduceSub, Int.reduceNeg, Bool.not_true, Bool.not_false, beq_self_eq_true, Int.reduceBEq, Int.reduceBNe, ge_iff_le, gt_iff_lt, Int.reduceToNat, Bool.and_true, Bool.and_false, Bool.true_and, Bool.false_and]))
    | fail
  refine n_nil (hN (t.kids.length - (i + 1)) _ _ (by omega) (weak_keep (l := [(1, .c (.ref 0 0)), (3, tI (1 + ((t.kids.take (i + 1)).map Pr.size).sum : Nat)), (4, tI (i + 1))]) (by rw [sum_take_succ _ _ _ hlt', ← Nat.add_assoc]; simp (maxSteps := 2000000) only [go_sem, Nat.reduceAdd, Nat.reduceEqDiff, Nat.reduceLeDiff, Nat.reduceSub, ↓reduceIte, reduceIte, Nat.reduceMul, reduceCtorEq, Nat.reduceLT, Int.reduceLT, Int.reduceLE, Int.reduceEq, Int.reduceAdd, Int.reduceSub, Int.reduceNeg, Bool.not_true, Bool.not_false, beq_self_eq_true, Int.reduceBEq, Int.reduceBNe, ge_iff_le, gt_iff_lt, Int.reduceToNat, Bool.and_true, Bool.and_false, Bool.true_and, Bool.false_and]; try rfl)) ⟨(i + 1), rfl, by omega, rfl⟩)
termination_by SizeOf.sizeOf t
decreasing_by all_goals exact Pr.kid_lt (List.getElem_mem _)

theorem count_pure (t : Ty) : ∀ m : Nat, m ≤ 100000 → PureC Kx 62 [tG t.enc, tI m] (tI (bud true m t.size)) := by
  intro m hm
  refine .fit fun hfit => ?_
  have hf := Ty.fit_kids (fit_tG (hfit (tG t.enc) (.head _)))
  clear hfit
  refine pure_of_can Try.func62 rfl (nt := 27) rfl rfl (by decide) (by simp) (by simp (maxSteps := 2000000) only [go_sem, Nat.reduceAdd, Nat.reduceEqDiff, Nat.reduceLeDiff, Nat.reduceSub, ↓reduceIte, reduceIte, Nat.reduceMul, reduceCtorEq, Nat.reduceLT, Int.reduceLT, Int.reduceLE, Int.reduceEq, Int.reduceAdd, Int.reduceSub, Int.reduceNeg, Bool.not_true, Bool.not_false, beq_self_eq_true, Int.reduceBEq, Int.reduceBNe, ge_iff_le, gt_iff_lt, Int.reduceToNat, Bool.and_true, Bool.and_false, Bool.true_and, Bool.false_and]) fun Φ hΦ => ?_
  repeat' first
    | refine k_seq ?_
    | refine k_block ?_
    | refine n_sq ?_
    | refine n_bl ?_
    | refine k_skip ?_
    | refine k_exit ?_
    | refine x_sq ?_
    | refine x_hit ?_
    | refine x_miss (by decide) ?_
    | refine x_nil (Ex.of hE ?_)
    | refine k_ret ?_
    | refine t_sq ?_
    | refine t_bl ?_
    | refine t_nil (Rt.of hE ?_)
    | refine t_nil ?_
    | (refine k_region (by rfl) fun Q all hd hQ => ?_; simp (maxSteps := 2000000) only [go_sem, hd, Nat.reduceAdd, Nat.reduceEqDiff, Nat.reduceLeDiff, Nat.reduceSub, ↓reduceIte, reduceIte, Nat.reduceMul, reduceCtorEq, Nat.reduceLT, Int.reduceLT, Int.reduceLE, Int.reduceEq, Int.reduceAdd, Int.reduceSub, Int.reduceNeg, Bool.not_true, Bool.not_false, beq_self_eq_true, Int.reduceBEq, Int.reduceBNe, ge_iff_le, gt_iff_lt, Int.reduceToNat, Bool.and_true, Bool.and_false, Bool.true_and, Bool.false_and])
    | (refine k_draw mixed (by kernel_rfl) fun Q all hd hbf hQ => ?_; simp (maxSteps := 2000000) only [go_sem, hd, Nat.reduceAdd, Nat.reduceEqDiff, Nat.reduceLeDiff, Nat.reduceSub, ↓reduceIte, reduceIte, Nat.reduceMul, reduceCtorEq, Nat.reduceLT, Int.reduceLT, Int.reduceLE, Int.reduceEq, Int.reduceAdd, Int.reduceSub, Int.reduceNeg, Bool.not_true, Bool.not_false, beq_self_eq_true, Int.reduceBEq, Int.reduceBNe, ge_iff_le, gt_iff_lt, Int.reduceToNat, Bool.and_true, Bool.and_false, Bool.true_and, Bool.false_and])
    | (refine hQ _ ?_; clear hQ hd; (try clear hbf); clear Q all)
    | (refine k_true ?_ ?_; (· (simp (maxSteps := 2000000) only [go_sem, Nat.reduceAdd, Nat.reduceEqDiff, Nat.reduceLeDiff, Nat.reduceSub, ↓reduceIte, reduceIte, Nat.reduceMul, reduceCtorEq, Nat.reduceLT, Int.reduceLT, Int.reduceLE, Int.reduceEq, Int.reduceAdd, Int.reduceSub, Int.reduceNeg, Bool.not_true, Bool.not_false, beq_self_eq_true, Int.reduceBEq, Int.reduceBNe, ge_iff_le, gt_iff_lt, Int.reduceToNat, Bool.and_true, Bool.and_false, Bool.true_and, Bool.false_and]; done)))
    | (refine k_false ?_ ?_; (· (simp (maxSteps := 2000000) only [go_sem, Nat.reduceAdd, Nat.reduceEqDiff, Nat.reduceLeDiff, Nat.reduceSub, ↓reduceIte, reduceIte, Nat.reduceMul, reduceCtorEq, Nat.reduceLT, Int.reduceLT, Int.reduceLE, Int.reduceEq, Int.reduceAdd, Int.reduceSub, Int.reduceNeg, Bool.not_true, Bool.not_false, beq_self_eq_true, Int.reduceBEq, Int.reduceBNe, ge_iff_le, gt_iff_lt, Int.reduceToNat, Bool.and_true, Bool.and_false, Bool.true_and, Bool.false_and]; done)))
    | (rw [wrap64]; rotate_left 1; (· omega); (· omega); (try simp (maxSteps := 2000000) only [go_sem, hd, Nat.reduceAdd, Nat.reduceEqDiff, Nat.reduceLeDiff, Nat.reduceSub, ↓reduceIte, reduceIte, Nat.reduceMul, reduceCtorEq, Nat.reduceLT, Int.reduceLT, Int.reduceLE, Int.reduceEq, Int.reduceAdd, Int.reduceSub, Int.reduceNeg, Bool.not_true, Bool.not_false, beq_self_eq_true, Int.reduceBEq, Int.reduceBNe, ge_iff_le, gt_iff_lt, Int.reduceToNat, Bool.and_true, Bool.and_false, Bool.true_and, Bool.false_and]))
    | fail
  refine k_loop (fun j s => ∃ (i : Nat), j = t.kids.length - i ∧ i ≤ t.kids.length ∧ s = ⟨ofL [(1, tI (bud true m (1 + ((t.kids.take i).map Ty.size).sum))), (2, .c (.ref 0 0)), (5, tI i)], [.box 27 (t.enc.map .d)], 27⟩) (t.kids.length - (0))
    (weak_keep (l := [(1, tI (bud true m (1 + ((t.kids.take (0)).map Ty.size).sum))), (2, .c (.ref 0 0)), (5, tI (0))]) (by simp (maxSteps := 2000000) only [go_sem, List.take_zero, List.map_nil, List.sum_nil, Nat.reduceAdd, Nat.reduceEqDiff, Nat.reduceLeDiff, Nat.reduceSub, ↓reduceIte, reduceIte, Nat.reduceMul, reduceCtorEq, Nat.reduceLT, Int.reduceLT, Int.reduceLE, Int.reduceEq, Int.reduceAdd, Int.reduceSub, Int.reduceNeg, Bool.not_true, Bool.not_false, beq_self_eq_true, Int.reduceBEq, Int.reduceBNe, ge_iff_le, gt_iff_lt, Int.reduceToNat, Bool.and_true, Bool.and_false, Bool.true_and, Bool.false_and]; congr 3; unfold bud; split <;> simp_all <;> omega)) ⟨(0), rfl, by omega, rfl⟩ ?_
  rintro j _ ⟨i, rfl, hi, rfl⟩ Ψ hN hE
  have hb := bud_lt true m (1 + ((t.kids.take i).map Ty.size).sum)
  have hst := sum_take_le t.kids Ty.size i
  have hse := t.size_eq
  by_cases hlt : (i : Int) < (t.kids.length : Int)
  case neg =>
    repeat' first
      | refine k_seq ?_
      | refine k_block ?_
      | refine n_sq ?_
      | refine n_bl ?_
      | refine k_skip ?_
      | refine k_exit ?_
      | refine x_sq ?_
      | refine x_hit ?_
      | refine x_miss (by decide) ?_
      | refine x_nil (Ex.of hE ?_)
      | refine k_ret ?_
      | refine t_sq ?_
      | refine t_bl ?_
      | refine t_nil (Rt.of hE ?_)
      | refine t_nil ?_
      | (refine k_region (by rfl) fun Q all hd hQ => ?_; simp (maxSteps := 2000000) only [go_sem, hd, hlt, Nat.reduceAdd, Nat.reduceEqDiff, Nat.reduceLeDiff, Nat.reduceSub, ↓reduceIte, reduceIte, Nat.reduceMul, reduceCtorEq, Nat.reduceLT, Int.reduceLT, Int.reduceLE, Int.reduceEq, Int.reduceAdd, Int.reduceSub, Int.reduceNeg, Bool.not_true, Bool.not_false, beq_self_eq_true, Int.reduceBEq, Int.reduceBNe, ge_iff_le, gt_iff_lt, Int.reduceToNat, Bool.and_true, Bool.and_false, Bool.true_and, Bool.false_and])
      | (refine k_draw mixed (by kernel_rfl) fun Q all hd hbf hQ => ?_; simp (maxSteps := 2000000) only [go_sem, hd, hlt, Nat.reduceAdd, Nat.reduceEqDiff, Nat.reduceLeDiff, Nat.reduceSub, ↓reduceIte, reduceIte, Nat.reduceMul, reduceCtorEq, Nat.reduceLT, Int.reduceLT, Int.reduceLE, Int.reduceEq, Int.reduceAdd, Int.reduceSub, Int.reduceNeg, Bool.not_true, Bool.not_false, beq_self_eq_true, Int.reduceBEq, Int.reduceBNe, ge_iff_le, gt_iff_lt, Int.reduceToNat, Bool.and_true, Bool.and_false, Bool.true_and, Bool.false_and])
      | (refine hQ _ ?_; clear hQ hd; (try clear hbf); clear Q all)
      | (refine k_true ?_ ?_; (· (simp (maxSteps := 2000000) only [go_sem, hlt, Nat.reduceAdd, Nat.reduceEqDiff, Nat.reduceLeDiff, Nat.reduceSub, ↓reduceIte, reduceIte, Nat.reduceMul, reduceCtorEq, Nat.reduceLT, Int.reduceLT, Int.reduceLE, Int.reduceEq, Int.reduceAdd, Int.reduceSub, Int.reduceNeg, Bool.not_true, Bool.not_false, beq_self_eq_true, Int.reduceBEq, Int.reduceBNe, ge_iff_le, gt_iff_lt, Int.reduceToNat, Bool.and_true, Bool.and_false, Bool.true_and, Bool.false_and]; done)))
      | (refine k_false ?_ ?_; (· (simp (maxSteps := 2000000) only [go_sem, hlt, Nat.reduceAdd, Nat.reduceEqDiff, Nat.reduceLeDiff, Nat.reduceSub, ↓reduceIte, reduceIte, Nat.reduceMul, reduceCtorEq, Nat.reduceLT, Int.reduceLT, Int.reduceLE, Int.reduceEq, Int.reduceAdd, Int.reduceSub, Int.reduceNeg, Bool.not_true, Bool.not_false, beq_self_eq_true, Int.reduceBEq, Int.reduceBNe, ge_iff_le, gt_iff_lt, Int.reduceToNat, Bool.and_true, Bool.and_false, Bool.true_and, Bool.false_and]; done)))
      | (rw [wrap64]; rotate_left 1; (· omega); (· omega); (try simp (maxSteps := 2000000) only [go_sem, hd, hlt, Nat.reduceAdd, Nat.reduceEqDiff, Nat.reduceLeDiff, Nat.reduceSub, ↓reduceIte, reduceIte, Nat.reduceMul, reduceCtorEq, Nat.reduceLT, Int.reduceLT, Int.reduceLE, Int.reduceEq, Int.reduceAdd, Int.reduceSub, Int.reduceNeg, Bool.not_true, Bool.not_false, beq_self_eq_true, Int.reduceBEq, Int.reduceBNe, ge_iff_le, gt_iff_lt, Int.reduceToNat, Bool.and_true, Bool.and_false, Bool.true_and, Bool.false_and]))
      | fail
    have e : i = t.kids.length := by omega
    subst e
    apply And.left
    apply hΦ
    · simp (maxSteps := 2000000) only [go_sem, resT, resOne, Nat.reduceAdd, Nat.reduceEqDiff, Nat.reduceLeDiff, Nat.reduceSub, ↓reduceIte, reduceIte, Nat.reduceMul, reduceCtorEq, Nat.reduceLT, Int.reduceLT, Int.reduceLE, Int.reduceEq, Int.reduceAdd, Int.reduceSub, Int.reduceNeg, Bool.not_true, Bool.not_false, beq_self_eq_true, Int.reduceBEq, Int.reduceBNe, ge_iff_le, gt_iff_lt, Int.reduceToNat, Bool.and_true, Bool.and_false, Bool.true_and, Bool.false_and]; rfl
    · rw [t.size_eq, List.take_length]; rfl
    · simp (maxSteps := 2000000) only [go_sem, Nat.reduceAdd, Nat.reduceEqDiff, Nat.reduceLeDiff, Nat.reduceSub, ↓reduceIte, reduceIte, Nat.reduceMul, reduceCtorEq, Nat.reduceLT, Int.reduceLT, Int.reduceLE, Int.reduceEq, Int.reduceAdd, Int.reduceSub, Int.reduceNeg, Bool.not_true, Bool.not_false, beq_self_eq_true, Int.reduceBEq, Int.reduceBNe, ge_iff_le, gt_iff_lt, Int.reduceToNat, Bool.and_true, Bool.and_false, Bool.true_and, Bool.false_and]
  by_cases hn : (0 : Int) ≤ bud true m (1 + ((t.kids.take i).map Ty.size).sum)
  case neg =>
    repeat' first
      | refine k_seq ?_
      | refine k_block ?_
      | refine n_sq ?_
      | refine n_bl ?_
      | refine k_skip ?_
      | refine k_exit ?_
      | refine x_sq ?_
      | refine x_hit ?_
      | refine x_miss (by decide) ?_
      | refine x_nil (Ex.of hE ?_)
      | refine k_ret ?_
      | refine t_sq ?_
      | refine t_bl ?_
      | refine t_nil (Rt.of hE ?_)
      | refine t_nil ?_
      | (refine k_region (by rfl) fun Q all hd hQ => ?_; simp (maxSteps := 2000000) only [go_sem, hd, hlt, hn, Nat.reduceAdd, Nat.reduceEqDiff, Nat.reduceLeDiff, Nat.reduceSub, ↓reduceIte, reduceIte, Nat.reduceMul, reduceCtorEq, Nat.reduceLT, Int.reduceLT, Int.reduceLE, Int.reduceEq, Int.reduceAdd, Int.reduceSub, Int.reduceNeg, Bool.not_true, Bool.not_false, beq_self_eq_true, Int.reduceBEq, Int.reduceBNe, ge_iff_le, gt_iff_lt, Int.reduceToNat, Bool.and_true, Bool.and_false, Bool.true_and, Bool.false_and])
      | (refine k_draw mixed (by kernel_rfl) fun Q all hd hbf hQ => ?_; simp (maxSteps := 2000000) only [go_sem, hd, hlt, hn, Nat.reduceAdd, Nat.reduceEqDiff, Nat.reduceLeDiff, Nat.reduceSub, ↓reduceIte, reduceIte, Nat.reduceMul, reduceCtorEq, Nat.reduceLT, Int.reduceLT, Int.reduceLE, Int.reduceEq, Int.reduceAdd, Int.reduceSub, Int.reduceNeg, Bool.not_true, Bool.not_false, beq_self_eq_true, Int.reduceBEq, Int.reduceBNe, ge_iff_le, gt_iff_lt, Int.reduceToNat, Bool.and_true, Bool.and_false, Bool.true_and, Bool.false_and])
      | (refine hQ _ ?_; clear hQ hd; (try clear hbf); clear Q all)
      | (refine k_true ?_ ?_; (· (simp (maxSteps := 2000000) only [go_sem, hlt, hn, Nat.reduceAdd, Nat.reduceEqDiff, Nat.reduceLeDiff, Nat.reduceSub, ↓reduceIte, reduceIte, Nat.reduceMul, reduceCtorEq, Nat.reduceLT, Int.reduceLT, Int.reduceLE, Int.reduceEq, Int.reduceAdd, Int.reduceSub, Int.reduceNeg, Bool.not_true, Bool.not_false, beq_self_eq_true, Int.reduceBEq, Int.reduceBNe, ge_iff_le, gt_iff_lt, Int.reduceToNat, Bool.and_true, Bool.and_false, Bool.true_and, Bool.false_and]; done)))
      | (refine k_false ?_ ?_; (· (simp (maxSteps := 2000000) only [go_sem, hlt, hn, Nat.reduceAdd, Nat.reduceEqDiff, Nat.reduceLeDiff, Nat.reduceSub, ↓reduceIte, reduceIte, Nat.reduceMul, reduceCtorEq, Nat.reduceLT, Int.reduceLT, Int.reduceLE, Int.reduceEq, Int.reduceAdd, Int.reduceSub, Int.reduceNeg, Bool.not_true, Bool.not_false, beq_self_eq_true, Int.reduceBEq, Int.reduceBNe, ge_iff_le, gt_iff_lt, Int.reduceToNat, Bool.and_true, Bool.and_false, Bool.true_and, Bool.false_and]; done)))
      | (rw [wrap64]; rotate_left 1; (· omega); (· omega); (try simp (maxSteps := 2000000) only [go_sem, hd, hlt, hn, Nat.reduceAdd, Nat.reduceEqDiff, Nat.reduceLeDiff, Nat.reduceSub, ↓reduceIte, reduceIte, Nat.reduceMul, reduceCtorEq, Nat.reduceLT, Int.reduceLT, Int.reduceLE, Int.reduceEq, Int.reduceAdd, Int.reduceSub, Int.reduceNeg, Bool.not_true, Bool.not_false, beq_self_eq_true, Int.reduceBEq, Int.reduceBNe, ge_iff_le, gt_iff_lt, Int.reduceToNat, Bool.and_true, Bool.and_false, Bool.true_and, Bool.false_and]))
      | fail
    apply And.left
    apply hΦ
    · simp (maxSteps := 2000000) only [go_sem, resT, resOne, Nat.reduceAdd, Nat.reduceEqDiff, Nat.reduceLeDiff, Nat.reduceSub, ↓reduceIte, reduceIte, Nat.reduceMul, reduceCtorEq, Nat.reduceLT, Int.reduceLT, Int.reduceLE, Int.reduceEq, Int.reduceAdd, Int.reduceSub, Int.reduceNeg, Bool.not_true, Bool.not_false, beq_self_eq_true, Int.reduceBEq, Int.reduceBNe, ge_iff_le, gt_iff_lt, Int.reduceToNat, Bool.and_true, Bool.and_false, Bool.true_and, Bool.false_and]; rfl
    · rw [bud_neg hn, bud_neg (fun h => hn (bud_nonneg.2 ⟨rfl, by have := (bud_nonneg.1 h).2; omega⟩))]; rfl
    · simp (maxSteps := 2000000) only [go_sem, Nat.reduceAdd, Nat.reduceEqDiff, Nat.reduceLeDiff, Nat.reduceSub, ↓reduceIte, reduceIte, Nat.reduceMul, reduceCtorEq, Nat.reduceLT, Int.reduceLT, Int.reduceLE, Int.reduceEq, Int.reduceAdd, Int.reduceSub, Int.reduceNeg, Bool.not_true, Bool.not_false, beq_self_eq_true, Int.reduceBEq, Int.reduceBNe, ge_iff_le, gt_iff_lt, Int.reduceToNat, Bool.and_true, Bool.and_false, Bool.true_and, Bool.false_and]
  have hlt' : i < t.kids.length := by omega
  have hk := List.getElem?_eq_getElem hlt'
  have h0 : (0 : Int) ≤ (i : Int) := by omega
  repeat' first
    | refine k_seq ?_
    | refine k_block ?_
    | refine n_sq ?_
    | refine n_bl ?_
    | refine k_skip ?_
    | refine k_exit ?_
    | refine x_sq ?_
    | refine x_hit ?_
    | refine x_miss (by decide) ?_
    | refine x_nil (Ex.of hE ?_)
    | refine k_ret ?_
    | refine t_sq ?_
    | refine t_bl ?_
    | refine t_nil (Rt.of hE ?_)
    | refine t_nil ?_
    | (refine k_region (by rfl) fun Q all hd hQ => ?_; simp (maxSteps := 2000000) only [go_sem, hd, hlt, hn, hk, h0, Nat.reduceAdd, Nat.reduceEqDiff, Nat.reduceLeDiff, Nat.reduceSub, ↓reduceIte, reduceIte, Nat.reduceMul, reduceCtorEq, Nat.reduceLT, Int.reduceLT, Int.reduceLE, Int.reduceEq, Int.reduceAdd, Int.reduceSub, Int.reduceNeg, Bool.not_true, Bool.not_false, beq_self_eq_true, Int.reduceBEq, Int.reduceBNe, ge_iff_le, gt_iff_lt, Int.reduceToNat, Bool.and_true, Bool.and_false, Bool.true_and, Bool.false_and])
    | (refine k_draw mixed (by kernel_rfl) fun Q all hd hbf hQ => ?_; simp (maxSteps := 2000000) only [go_sem, hd, hlt, hn, hk, h0, Nat.reduceAdd, Nat.reduceEqDiff, Nat.reduceLeDiff, Nat.reduceSub, ↓reduceIte, reduceIte, Nat.reduceMul, reduceCtorEq, Nat.reduceLT, Int.reduceLT, Int.reduceLE, Int.reduceEq, Int.reduceAdd, Int.reduceSub, Int.reduceNeg, Bool.not_true, Bool.not_false, beq_self_eq_true, Int.reduceBEq, Int.reduceBNe, ge_iff_le, gt_iff_lt, Int.reduceToNat, Bool.and_true, Bool.and_false, Bool.true_and, Bool.false_and])
    | (refine hQ _ ?_; clear hQ hd; (try clear hbf); clear Q all)
    | (refine k_true ?_ ?_; (· (simp (maxSteps := 2000000) only [go_sem, hlt, hn, hk, h0, Nat.reduceAdd, Nat.reduceEqDiff, Nat.reduceLeDiff, Nat.reduceSub, ↓reduceIte, reduceIte, Nat.reduceMul, reduceCtorEq, Nat.reduceLT, Int.reduceLT, Int.reduceLE, Int.reduceEq, Int.reduceAdd, Int.reduceSub, Int.reduceNeg, Bool.not_true, Bool.not_false, beq_self_eq_true, Int.reduceBEq, Int.reduceBNe, ge_iff_le, gt_iff_lt, Int.reduceToNat, Bool.and_true, Bool.and_false, Bool.true_and, Bool.false_and]; done)))
    | (refine k_false ?_ ?_; (· (simp (maxSteps := 2000000) only [go_sem, hlt, hn, hk, h0, Nat.reduceAdd, Nat.reduceEqDiff, Nat.reduceLeDiff, Nat.reduceSub, ↓reduceIte, reduceIte, Nat.reduceMul, reduceCtorEq, Nat.reduceLT, Int.reduceLT, Int.reduceLE, Int.reduceEq, Int.reduceAdd, Int.reduceSub, Int.reduceNeg, Bool.not_true, Bool.not_false, beq_self_eq_true, Int.reduceBEq, Int.reduceBNe, ge_iff_le, gt_iff_lt, Int.reduceToNat, Bool.and_true, Bool.and_false, Bool.true_and, Bool.false_and]; done)))
    | (rw [wrap64]; rotate_left 1; (· omega); (· omega); (try simp (maxSteps := 2000000) only [go_sem, hd, hlt, hn, hk, h0, Nat.reduceAdd, Nat.reduceEqDiff, Nat.reduceLeDiff, Nat.reduceSub, ↓reduceIte, reduceIte, Nat.reduceMul, reduceCtorEq, Nat.reduceLT, Int.reduceLT, Int.reduceLE, Int.reduceEq, Int.reduceAdd, Int.reduceSub, Int.reduceNeg, Bool.not_true, Bool.not_false, beq_self_eq_true, Int.reduceBEq, Int.reduceBNe, ge_iff_le, gt_iff_lt, Int.reduceToNat, Bool.and_true, Bool.and_false, Bool.true_and, Bool.false_and]))
    | fail
  rw [bud_eq hn]
  repeat' first
    | refine k_seq ?_
    | refine k_block ?_
    | refine n_sq ?_
    | refine n_bl ?_
    | refine k_skip ?_
    | refine k_exit ?_
    | refine x_sq ?_
    | refine x_hit ?_
    | refine x_miss (by decide) ?_
    | refine x_nil (Ex.of hE ?_)
    | refine k_ret ?_
    | refine t_sq ?_
    | refine t_bl ?_
    | refine t_nil (Rt.of hE ?_)
    | refine t_nil ?_
    | (refine k_region (by rfl) fun Q all hd hQ => ?_; simp (maxSteps := 2000000) only [go_sem, hd, hlt, hk, h0, Nat.reduceAdd, Nat.reduceEqDiff, Nat.reduceLeDiff, Nat.reduceSub, ↓reduceIte, reduceIte, Nat.reduceMul, reduceCtorEq, Nat.reduceLT, Int.reduceLT, Int.reduceLE, Int.reduceEq, Int.reduceAdd, Int.reduceSub, Int.reduceNeg, Bool.not_true, Bool.not_false, beq_self_eq_true, Int.reduceBEq, Int.reduceBNe, ge_iff_le, gt_iff_lt, Int.reduceToNat, Bool.and_true, Bool.and_false, Bool.true_and, Bool.false_and])
    | (refine k_draw mixed (by kernel_rfl) fun Q all hd hbf hQ => ?_; simp (maxSteps := 2000000) only [go_sem, hd, hlt, hk, h0, Nat.reduceAdd, Nat.reduceEqDiff, Nat.reduceLeDiff, Nat.reduceSub, ↓reduceIte, reduceIte, Nat.reduceMul, reduceCtorEq, Nat.reduceLT, Int.reduceLT, Int.reduceLE, Int.reduceEq, Int.reduceAdd, Int.reduceSub, Int.reduceNeg, Bool.not_true, Bool.not_false, beq_self_eq_true, Int.reduceBEq, Int.reduceBNe, ge_iff_le, gt_iff_lt, Int.reduceToNat, Bool.and_true, Bool.and_false, Bool.true_and, Bool.false_and])
    | (refine hQ _ ?_; clear hQ hd; (try clear hbf); clear Q all)
    | (apply callW_fz (count_pure t.kids[i] (m - (1 + ((t.kids.take i).map Ty.size).sum)) (by omega)); (· (simp (maxSteps := 2000000) only [go_sem, hlt, hk, h0, Nat.reduceAdd, Nat.reduceEqDiff, Nat.reduceLeDiff, Nat.reduceSub, ↓reduceIte, reduceIte, Nat.reduceMul, reduceCtorEq, Nat.reduceLT, Int.reduceLT, Int.reduceLE, Int.reduceEq, Int.reduceAdd, Int.reduceSub, Int.reduceNeg, Bool.not_true, Bool.not_false, beq_self_eq_true, Int.reduceBEq, Int.reduceBNe, ge_iff_le, gt_iff_lt, Int.reduceToNat, Bool.and_true, Bool.and_false, Bool.true_and, Bool.false_and]; rfl)); (try simp (maxSteps := 2000000) only [go_sem, hd, hlt, hk, h0, Nat.reduceAdd, Nat.reduceEqDiff, Nat.reduceLeDiff, Nat.reduceSub, ↓reduceIte, reduceIte, Nat.reduceMul, reduceCtorEq, Nat.reduceLT, Int.reduceLT, Int.reduceLE, Int.reduceEq, Int.reduceAdd, Int.reduceSub, Int.reduceNeg, Bool.not_true, Bool.not_false, beq_self_eq_true, Int.reduceBEq, Int.reduceBNe, ge_iff_le, gt_iff_lt, Int.reduceToNat, Bool.and_true, Bool.and_false, Bool.true_and, Bool.false_and]))
    | (apply callD_pure (count_pure t.kids[i] (m - (1 + ((t.kids.take i).map Ty.size).sum)) (by omega)); (· (simp (maxSteps := 2000000) only [go_sem, hlt, hk, h0, Nat.reduceAdd, Nat.reduceEqDiff, Nat.reduceLeDiff, Nat.reduceSub, ↓reduceIte, reduceIte, Nat.reduceMul, reduceCtorEq, Nat.reduceLT, Int.reduceLT, Int.reduceLE, Int.reduceEq, Int.reduceAdd, Int.reduceSub, Int.reduceNeg, Bool.not_true, Bool.not_false, beq_self_eq_true, Int.reduceBEq, Int.reduceBNe, ge_iff_le, gt_iff_lt, Int.reduceToNat, Bool.and_true, Bool.and_false, Bool.true_and, Bool.false_and]; rfl)); (try simp (maxSteps := 2000000) only [go_sem, hd, hlt, hk, h0, Nat.reduceAdd, Nat.reduceEqDiff, Nat.reduceLeDiff, Nat.reduceSub, ↓reduceIte, reduceIte, Nat.reduceMul, reduceCtorEq, Nat.reduceLT, Int.reduceLT, Int.reduceLE, Int.reduceEq, Int.reduceAdd, Int.reduceSub, Int.reduceNeg, Bool.not_true, Bool.not_false, beq_self_eq_true, Int.reduceBEq, Int.reduceBNe, ge_iff_le, gt_iff_lt, Int.reduceToNat, Bool.and_true, Bool.and_false, Bool.true_and, Bool.false_and]))
    | (refine k_true ?_ ?_; (· (simp (maxSteps := 2000000) only [go_sem, hlt, hk, h0, Nat.reduceAdd, Nat.reduceEqDiff, Nat.reduceLeDiff, Nat.reduceSub, ↓reduceIte, reduceIte, Nat.reduceMul, reduceCtorEq, Nat.reduceLT, Int.reduceLT, Int.reduceLE, Int.reduceEq, Int.reduceAdd, Int.reduceSub, Int.reduceNeg, Bool.not_true, Bool.not_false, beq_self_eq_true, Int.reduceBEq, Int.reduceBNe, ge_iff_le, gt_iff_lt, Int.reduceToNat, Bool.and_true, Bool.and_false, Bool.true_and, Bool.false_and]; done)))
    | (refine k_false ?_ ?_; (· (simp (maxSteps := 2000000) only [go_sem, hlt, hk, h0, Nat.reduceAdd, Nat.reduceEqDiff, Nat.reduceLeDiff, Nat.reduceSub, ↓reduceIte, reduceIte, Nat.reduceMul, reduceCtorEq, Nat.reduceLT, Int.reduceLT, Int.reduceLE, Int.reduceEq, Int.reduceAdd, Int.reduceSub, Int.reduceNeg, Bool.not_true, Bool.not_false, beq_self_eq_true, Int.reduceBEq, Int.reduceBNe, ge_iff_le, gt_iff_lt, Int.reduceToNat, Bool.and_true, Bool.and_false, Bool.true_and, Bool.false_and]; done)))
    | (rw [wrap64]; rotate_left 1; (· omega); (· omega); (try simp (maxSteps := 2000000) only [go_sem, hd, hlt, hk, h0, Nat.reduceAdd, Nat.reduceEqDiff, Nat.reduceLeDiff, Nat.reduceSub, ↓reduceIte, reduceIte, Nat.reduceMul, reduceCtorEq, Nat.reduceLT, Int.reduceLT, Int.reduceLE, Int.reduceEq, Int.reduceAdd, Int.reduceSub, Int.reduceNeg, Bool.not_true, Bool.not_false, beq_self_eq_true, Int.reduceBEq, Int.reduceBNe, ge_iff_le, gt_iff_lt, Int.reduceToNat, Bool.and_true, Bool.and_false, Bool.true_and, Bool.false_and]))
    | fail
  rw [bud_step hn]
  repeat' first
    | refine k_seq ?_
    | refine k_block ?_
    | refine n_sq ?_
    | refine n_bl ?_
    | refine k_skip ?_
    | refine k_exit ?_
    | refine x_sq ?_
    | refine x_hit ?_
    | refine x_miss (by decide) ?_
    | refine x_nil (Ex.of hE ?_)
    | refine k_ret ?_
    | refine t_sq ?_
    | refine t_bl ?_
    | refine t_nil (Rt.of hE ?_)
    | refine t_nil ?_
    | (refine k_region (by rfl) fun Q all hd hQ => ?_; simp (maxSteps := 2000000) only [go_sem, hd, Nat.reduceAdd, Nat.reduceEqDiff, Nat.reduceLeDiff, Nat.reduceSub, ↓reduceIte, reduceIte, Nat.reduceMul, reduceCtorEq, Nat.reduceLT, Int.reduceLT, Int.reduceLE, Int.reduceEq, Int.reduceAdd, Int.reduceSub, Int.reduceNeg, Bool.not_true, Bool.not_false, beq_self_eq_true, Int.reduceBEq, Int.reduceBNe, ge_iff_le, gt_iff_lt, Int.reduceToNat, Bool.and_true, Bool.and_false, Bool.true_and, Bool.false_and])
    | (refine k_draw mixed (by kernel_rfl) fun Q all hd hbf hQ => ?_; simp (maxSteps := 2000000) only [go_sem, hd, Nat.reduceAdd, Nat.reduceEqDiff, Nat.reduceLeDiff, Nat.reduceSub, ↓reduceIte, reduceIte, Nat.reduceMul, reduceCtorEq, Nat.reduceLT, Int.reduceLT, Int.reduceLE, Int.reduceEq, Int.reduceAdd, Int.reduceSub, Int.reduceNeg, Bool.not_true, Bool.not_false, beq_self_eq_true, Int.reduceBEq, Int.reduceBNe, ge_iff_le, gt_iff_lt, Int.reduceToNat, Bool.and_true, Bool.and_false, Bool.true_and, Bool.false_and])
    | (refine hQ _ ?_; clear hQ hd; (try clear hbf); clear Q all)
    | (refine k_true ?_ ?_; (· (simp (maxSteps := 2000000) only [go_sem, Nat.reduceAdd, Nat.reduceEqDiff, Nat.reduceLeDiff, Nat.reduceSub, ↓reduceIte, reduceIte, Nat.reduceMul, reduceCtorEq, Nat.reduceLT, Int.reduceLT, Int.reduceLE, Int.reduceEq, Int.reduceAdd, Int.reduceSub, Int.reduceNeg, Bool.not_true, Bool.not_false, beq_self_eq_true, Int.reduceBEq, Int.reduceBNe, ge_iff_le, gt_iff_lt, Int.reduceToNat, Bool.and_true, Bool.and_false, Bool.true_and, Bool.false_and]; done)))
    | (refine k_false ?_ ?_; (· (simp (maxSteps := 2000000) only [go_sem, Nat.reduceAdd, Nat.reduceEqDiff, Nat.reduceLeDiff, Nat.reduceSub, ↓reduceIte, reduceIte, Nat.reduceMul, reduceCtorEq, Nat.reduceLT, Int.reduceLT, Int.reduceLE, Int.reduceEq, Int.reduceAdd, Int.reduceSub, Int.reduceNeg, Bool.not_true, Bool.not_false, beq_self_eq_true, Int.reduceBEq, Int.reduceBNe, ge_iff_le, gt_iff_lt, Int.reduceToNat, Bool.and_true, Bool.and_false, Bool.true_and, Bool.false_and]; done)))
    | (rw [wrap64]; rotate_left 1; (· omega); (· omega); (try simp (maxSteps := 2000000) only [go_sem, hd, Nat.reduceAdd, Nat.reduceEqDiff, Nat.reduceLeDiff, Nat.reduceSub, ↓reduceIte, reduceIte, Nat.reduceMul, reduceCtorEq, Nat.reduceLT, Int.reduceLT, Int.reduceLE, Int.reduceEq, Int.reduceAdd, Int.reduceSub, Int.reduceNeg, Bool.not_true, Bool.not_false, beq_self_eq_true, Int.reduceBEq, Int.reduceBNe, ge_iff_le, gt_iff_lt, Int.reduceToNat, Bool.and_true, Bool.and_false, Bool.true_and, Bool.false_and]))
    | fail
  refine n_nil (hN (t.kids.length - (i + 1)) _ _ (by omega) (weak_keep (l := [(1, tI (bud true m (1 + ((t.kids.take (i + 1)).map Ty.size).sum))), (2, .c (.ref 0 0)), (5, tI (i + 1))]) (by rw [sum_take_succ _ _ _ hlt', ← Nat.add_assoc]; simp (maxSteps := 2000000) only [go_sem, Nat.reduceAdd, Nat.reduceEqDiff, Nat.reduceLeDiff, Nat.reduceSub, ↓reduceIte, reduceIte, Nat.reduceMul, reduceCtorEq, Nat.reduceLT, Int.reduceLT, Int.reduceLE, Int.reduceEq, Int.reduceAdd, Int.reduceSub, Int.reduceNeg, Bool.not_true, Bool.not_false, beq_self_eq_true, Int.reduceBEq, Int.reduceBNe, ge_iff_le, gt_iff_lt, Int.reduceToNat, Bool.and_true, Bool.and_false, Bool.true_and, Bool.false_and]; try rfl)) ⟨(i + 1), rfl, by omega, rfl⟩)
termination_by SizeOf.sizeOf t
decreasing_by all_goals exact Ty.kid_lt (List.getElem_mem _)

theorem few02_pure (t : Ty) (m : Nat) (hm : m ≤ 100000) : PureC Kx 39 [tG t.enc, tI m] (tB (t.few m)) := by
  refine pure_of_can Try.func39 rfl (nt := 14) rfl rfl (by decide) (by simp) (by simp (maxSteps := 2000000) only [go_sem, Nat.reduceAdd, Nat.reduceEqDiff, Nat.reduceLeDiff, Nat.reduceSub, ↓reduceIte, reduceIte, Nat.reduceMul, reduceCtorEq, Nat.reduceLT, Int.reduceLT, Int.reduceLE, Int.reduceEq, Int.reduceAdd, Int.reduceSub, Int.reduceNeg, Bool.not_true, Bool.not_false, beq_self_eq_true, Int.reduceBEq, Int.reduceBNe, ge_iff_le, gt_iff_lt, Int.reduceToNat, Bool.and_true, Bool.and_false, Bool.true_and, Bool.false_and]) fun Φ hΦ => ?_
  by_cases h1 : (0 : Int) ≤ bud true m t.size
  case neg =>
    repeat' first
      | refine k_seq ?_
      | refine k_block ?_
      | refine n_sq ?_
      | refine n_bl ?_
      | refine k_skip ?_
      | refine k_exit ?_
      | refine x_sq ?_
      | refine x_hit ?_
      | refine x_miss (by decide) ?_
      | refine x_nil (Ex.of hE ?_)
      | refine k_ret ?_
      | refine t_sq ?_
      | refine t_bl ?_
      | refine t_nil (Rt.of hE ?_)
      | refine t_nil ?_
      | (refine k_region (by rfl) fun Q all hd hQ => ?_; simp (maxSteps := 2000000) only [go_sem, hd, h1, Nat.reduceAdd, Nat.reduceEqDiff, Nat.reduceLeDiff, Nat.reduceSub, ↓reduceIte, reduceIte, Nat.reduceMul, reduceCtorEq, Nat.reduceLT, Int.reduceLT, Int.reduceLE, Int.reduceEq, Int.reduceAdd, Int.reduceSub, Int.reduceNeg, Bool.not_true, Bool.not_false, beq_self_eq_true, Int.reduceBEq, Int.reduceBNe, ge_iff_le, gt_iff_lt, Int.reduceToNat, Bool.and_true, Bool.and_false, Bool.true_and, Bool.false_and])
      | (refine k_draw mixed (by kernel_rfl) fun Q all hd hbf hQ => ?_; simp (maxSteps := 2000000) only [go_sem, hd, h1, Nat.reduceAdd, Nat.reduceEqDiff, Nat.reduceLeDiff, Nat.reduceSub, ↓reduceIte, reduceIte, Nat.reduceMul, reduceCtorEq, Nat.reduceLT, Int.reduceLT, Int.reduceLE, Int.reduceEq, Int.reduceAdd, Int.reduceSub, Int.reduceNeg, Bool.not_true, Bool.not_false, beq_self_eq_true, Int.reduceBEq, Int.reduceBNe, ge_iff_le, gt_iff_lt, Int.reduceToNat, Bool.and_true, Bool.and_false, Bool.true_and, Bool.false_and])
      | (refine hQ _ ?_; clear hQ hd; (try clear hbf); clear Q all)
      | (apply callW_fz (count_pure t m hm); (· (simp (maxSteps := 2000000) only [go_sem, h1, Nat.reduceAdd, Nat.reduceEqDiff, Nat.reduceLeDiff, Nat.reduceSub, ↓reduceIte, reduceIte, Nat.reduceMul, reduceCtorEq, Nat.reduceLT, Int.reduceLT, Int.reduceLE, Int.reduceEq, Int.reduceAdd, Int.reduceSub, Int.reduceNeg, Bool.not_true, Bool.not_false, beq_self_eq_true, Int.reduceBEq, Int.reduceBNe, ge_iff_le, gt_iff_lt, Int.reduceToNat, Bool.and_true, Bool.and_false, Bool.true_and, Bool.false_and]; rfl)); (try simp (maxSteps := 2000000) only [go_sem, hd, h1, Nat.reduceAdd, Nat.reduceEqDiff, Nat.reduceLeDiff, Nat.reduceSub, ↓reduceIte, reduceIte, Nat.reduceMul, reduceCtorEq, Nat.reduceLT, Int.reduceLT, Int.reduceLE, Int.reduceEq, Int.reduceAdd, Int.reduceSub, Int.reduceNeg, Bool.not_true, Bool.not_false, beq_self_eq_true, Int.reduceBEq, Int.reduceBNe, ge_iff_le, gt_iff_lt, Int.reduceToNat, Bool.and_true, Bool.and_false, Bool.true_and, Bool.false_and]))
      | (apply callD_pure (count_pure t m hm); (· (simp (maxSteps := 2000000) only [go_sem, h1, Nat.reduceAdd, Nat.reduceEqDiff, Nat.reduceLeDiff, Nat.reduceSub, ↓reduceIte, reduceIte, Nat.reduceMul, reduceCtorEq, Nat.reduceLT, Int.reduceLT, Int.reduceLE, Int.reduceEq, Int.reduceAdd, Int.reduceSub, Int.reduceNeg, Bool.not_true, Bool.not_false, beq_self_eq_true, Int.reduceBEq, Int.reduceBNe, ge_iff_le, gt_iff_lt, Int.reduceToNat, Bool.and_true, Bool.and_false, Bool.true_and, Bool.false_and]; rfl)); (try simp (maxSteps := 2000000) only [go_sem, hd, h1, Nat.reduceAdd, Nat.reduceEqDiff, Nat.reduceLeDiff, Nat.reduceSub, ↓reduceIte, reduceIte, Nat.reduceMul, reduceCtorEq, Nat.reduceLT, Int.reduceLT, Int.reduceLE, Int.reduceEq, Int.reduceAdd, Int.reduceSub, Int.reduceNeg, Bool.not_true, Bool.not_false, beq_self_eq_true, Int.reduceBEq, Int.reduceBNe, ge_iff_le, gt_iff_lt, Int.reduceToNat, Bool.and_true, Bool.and_false, Bool.true_and, Bool.false_and]))
      | (refine k_true ?_ ?_; (· (simp (maxSteps := 2000000) only [go_sem, h1, Nat.reduceAdd, Nat.reduceEqDiff, Nat.reduceLeDiff, Nat.reduceSub, ↓reduceIte, reduceIte, Nat.reduceMul, reduceCtorEq, Nat.reduceLT, Int.reduceLT, Int.reduceLE, Int.reduceEq, Int.reduceAdd, Int.reduceSub, Int.reduceNeg, Bool.not_true, Bool.not_false, beq_self_eq_true, Int.reduceBEq, Int.reduceBNe, ge_iff_le, gt_iff_lt, Int.reduceToNat, Bool.and_true, Bool.and_false, Bool.true_and, Bool.false_and]; done)))
      | (refine k_false ?_ ?_; (· (simp (maxSteps := 2000000) only [go_sem, h1, Nat.reduceAdd, Nat.reduceEqDiff, Nat.reduceLeDiff, Nat.reduceSub, ↓reduceIte, reduceIte, Nat.reduceMul, reduceCtorEq, Nat.reduceLT, Int.reduceLT, Int.reduceLE, Int.reduceEq, Int.reduceAdd, Int.reduceSub, Int.reduceNeg, Bool.not_true, Bool.not_false, beq_self_eq_true, Int.reduceBEq, Int.reduceBNe, ge_iff_le, gt_iff_lt, Int.reduceToNat, Bool.and_true, Bool.and_false, Bool.true_and, Bool.false_and]; done)))
      | (rw [wrap64]; rotate_left 1; (· omega); (· omega); (try simp (maxSteps := 2000000) only [go_sem, hd, h1, Nat.reduceAdd, Nat.reduceEqDiff, Nat.reduceLeDiff, Nat.reduceSub, ↓reduceIte, reduceIte, Nat.reduceMul, reduceCtorEq, Nat.reduceLT, Int.reduceLT, Int.reduceLE, Int.reduceEq, Int.reduceAdd, Int.reduceSub, Int.reduceNeg, Bool.not_true, Bool.not_false, beq_self_eq_true, Int.reduceBEq, Int.reduceBNe, ge_iff_le, gt_iff_lt, Int.reduceToNat, Bool.and_true, Bool.and_false, Bool.true_and, Bool.false_and]))
      | fail
    apply And.left
    apply hΦ
    · simp (maxSteps := 2000000) only [go_sem, resT, resOne, Nat.reduceAdd, Nat.reduceEqDiff, Nat.reduceLeDiff, Nat.reduceSub, ↓reduceIte, reduceIte, Nat.reduceMul, reduceCtorEq, Nat.reduceLT, Int.reduceLT, Int.reduceLE, Int.reduceEq, Int.reduceAdd, Int.reduceSub, Int.reduceNeg, Bool.not_true, Bool.not_false, beq_self_eq_true, Int.reduceBEq, Int.reduceBNe, ge_iff_le, gt_iff_lt, Int.reduceToNat, Bool.and_true, Bool.and_false, Bool.true_and, Bool.false_and]; rfl
    · have : ¬ t.size ≤ m := fun h => h1 (bud_nonneg.2 ⟨rfl, h⟩)
      simp only [Ty.few, decide_eq_false this]; rfl
    · simp (maxSteps := 2000000) only [go_sem, Nat.reduceAdd, Nat.reduceEqDiff, Nat.reduceLeDiff, Nat.reduceSub, ↓reduceIte, reduceIte, Nat.reduceMul, reduceCtorEq, Nat.reduceLT, Int.reduceLT, Int.reduceLE, Int.reduceEq, Int.reduceAdd, Int.reduceSub, Int.reduceNeg, Bool.not_true, Bool.not_false, beq_self_eq_true, Int.reduceBEq, Int.reduceBNe, ge_iff_le, gt_iff_lt, Int.reduceToNat, Bool.and_true, Bool.and_false, Bool.true_and, Bool.false_and]
  have h2 := (bud_nonneg.1 h1).2
  repeat' first
    | refine k_seq ?_
    | refine k_block ?_
    | refine n_sq ?_
    | refine n_bl ?_
    | refine k_skip ?_
    | refine k_exit ?_
    | refine x_sq ?_
    | refine x_hit ?_
    | refine x_miss (by decide) ?_
    | refine x_nil (Ex.of hE ?_)
    | refine k_ret ?_
    | refine t_sq ?_
    | refine t_bl ?_
    | refine t_nil (Rt.of hE ?_)
    | refine t_nil ?_
    | (refine k_region (by rfl) fun Q all hd hQ => ?_; simp (maxSteps := 2000000) only [go_sem, hd, h1, Nat.reduceAdd, Nat.reduceEqDiff, Nat.reduceLeDiff, Nat.reduceSub, ↓reduceIte, reduceIte, Nat.reduceMul, reduceCtorEq, Nat.reduceLT, Int.reduceLT, Int.reduceLE, Int.reduceEq, Int.reduceAdd, Int.reduceSub, Int.reduceNeg, Bool.not_true, Bool.not_false, beq_self_eq_true, Int.reduceBEq, Int.reduceBNe, ge_iff_le, gt_iff_lt, Int.reduceToNat, Bool.and_true, Bool.and_false, Bool.true_and, Bool.false_and])
    | (refine k_draw mixed (by kernel_rfl) fun Q all hd hbf hQ => ?_; simp (maxSteps := 2000000) only [go_sem, hd, h1, Nat.reduceAdd, Nat.reduceEqDiff, Nat.reduceLeDiff, Nat.reduceSub, ↓reduceIte, reduceIte, Nat.reduceMul, reduceCtorEq, Nat.reduceLT, Int.reduceLT, Int.reduceLE, Int.reduceEq, Int.reduceAdd, Int.reduceSub, Int.reduceNeg, Bool.not_true, Bool.not_false, beq_self_eq_true, Int.reduceBEq, Int.reduceBNe, ge_iff_le, gt_iff_lt, Int.reduceToNat, Bool.and_true, Bool.and_false, Bool.true_and, Bool.false_and])
    | (refine hQ _ ?_; clear hQ hd; (try clear hbf); clear Q all)
    | (apply callW_fz (count_pure t m hm); (· (simp (maxSteps := 2000000) only [go_sem, h1, Nat.reduceAdd, Nat.reduceEqDiff, Nat.reduceLeDiff, Nat.reduceSub, ↓reduceIte, reduceIte, Nat.reduceMul, reduceCtorEq, Nat.reduceLT, Int.reduceLT, Int.reduceLE, Int.reduceEq, Int.reduceAdd, Int.reduceSub, Int.reduceNeg, Bool.not_true, Bool.not_false, beq_self_eq_true, Int.reduceBEq, Int.reduceBNe, ge_iff_le, gt_iff_lt, Int.reduceToNat, Bool.and_true, Bool.and_false, Bool.true_and, Bool.false_and]; rfl)); (try simp (maxSteps := 2000000) only [go_sem, hd, h1, Nat.reduceAdd, Nat.reduceEqDiff, Nat.reduceLeDiff, Nat.reduceSub, ↓reduceIte, reduceIte, Nat.reduceMul, reduceCtorEq, Nat.reduceLT, Int.reduceLT, Int.reduceLE, Int.reduceEq, Int.reduceAdd, Int.reduceSub, Int.reduceNeg, Bool.not_true, Bool.not_false, beq_self_eq_true, Int.reduceBEq, Int.reduceBNe, ge_iff_le, gt_iff_lt, Int.reduceToNat, Bool.and_true, Bool.and_false, Bool.true_and, Bool.false_and]))
    | (apply callD_pure (count_pure t m hm); (· (simp (maxSteps := 2000000) only [go_sem, h1, Nat.reduceAdd, Nat.reduceEqDiff, Nat.reduceLeDiff, Nat.reduceSub, ↓reduceIte, reduceIte, Nat.reduceMul, reduceCtorEq, Nat.reduceLT, Int.reduceLT, Int.reduceLE, Int.reduceEq, Int.reduceAdd, Int.reduceSub, Int.reduceNeg, Bool.not_true, Bool.not_false, beq_self_eq_true, Int.reduceBEq, Int.reduceBNe, ge_iff_le, gt_iff_lt, Int.reduceToNat, Bool.and_true, Bool.and_false, Bool.true_and, Bool.false_and]; rfl)); (try simp (maxSteps := 2000000) only [go_sem, hd, h1, Nat.reduceAdd, Nat.reduceEqDiff, Nat.reduceLeDiff, Nat.reduceSub, ↓reduceIte, reduceIte, Nat.reduceMul, reduceCtorEq, Nat.reduceLT, Int.reduceLT, Int.reduceLE, Int.reduceEq, Int.reduceAdd, Int.reduceSub, Int.reduceNeg, Bool.not_true, Bool.not_false, beq_self_eq_true, Int.reduceBEq, Int.reduceBNe, ge_iff_le, gt_iff_lt, Int.reduceToNat, Bool.and_true, Bool.and_false, Bool.true_and, Bool.false_and]))
    | (apply callW_fz (depthTy_pure t (by omega)); (· (simp (maxSteps := 2000000) only [go_sem, h1, Nat.reduceAdd, Nat.reduceEqDiff, Nat.reduceLeDiff, Nat.reduceSub, ↓reduceIte, reduceIte, Nat.reduceMul, reduceCtorEq, Nat.reduceLT, Int.reduceLT, Int.reduceLE, Int.reduceEq, Int.reduceAdd, Int.reduceSub, Int.reduceNeg, Bool.not_true, Bool.not_false, beq_self_eq_true, Int.reduceBEq, Int.reduceBNe, ge_iff_le, gt_iff_lt, Int.reduceToNat, Bool.and_true, Bool.and_false, Bool.true_and, Bool.false_and]; rfl)); (try simp (maxSteps := 2000000) only [go_sem, hd, h1, Nat.reduceAdd, Nat.reduceEqDiff, Nat.reduceLeDiff, Nat.reduceSub, ↓reduceIte, reduceIte, Nat.reduceMul, reduceCtorEq, Nat.reduceLT, Int.reduceLT, Int.reduceLE, Int.reduceEq, Int.reduceAdd, Int.reduceSub, Int.reduceNeg, Bool.not_true, Bool.not_false, beq_self_eq_true, Int.reduceBEq, Int.reduceBNe, ge_iff_le, gt_iff_lt, Int.reduceToNat, Bool.and_true, Bool.and_false, Bool.true_and, Bool.false_and]))
    | (apply callD_pure (depthTy_pure t (by omega)); (· (simp (maxSteps := 2000000) only [go_sem, h1, Nat.reduceAdd, Nat.reduceEqDiff, Nat.reduceLeDiff, Nat.reduceSub, ↓reduceIte, reduceIte, Nat.reduceMul, reduceCtorEq, Nat.reduceLT, Int.reduceLT, Int.reduceLE, Int.reduceEq, Int.reduceAdd, Int.reduceSub, Int.reduceNeg, Bool.not_true, Bool.not_false, beq_self_eq_true, Int.reduceBEq, Int.reduceBNe, ge_iff_le, gt_iff_lt, Int.reduceToNat, Bool.and_true, Bool.and_false, Bool.true_and, Bool.false_and]; rfl)); (try simp (maxSteps := 2000000) only [go_sem, hd, h1, Nat.reduceAdd, Nat.reduceEqDiff, Nat.reduceLeDiff, Nat.reduceSub, ↓reduceIte, reduceIte, Nat.reduceMul, reduceCtorEq, Nat.reduceLT, Int.reduceLT, Int.reduceLE, Int.reduceEq, Int.reduceAdd, Int.reduceSub, Int.reduceNeg, Bool.not_true, Bool.not_false, beq_self_eq_true, Int.reduceBEq, Int.reduceBNe, ge_iff_le, gt_iff_lt, Int.reduceToNat, Bool.and_true, Bool.and_false, Bool.true_and, Bool.false_and]))
    | (refine k_true ?_ ?_; (· (simp (maxSteps := 2000000) only [go_sem, h1, Nat.reduceAdd, Nat.reduceEqDiff, Nat.reduceLeDiff, Nat.reduceSub, ↓reduceIte, reduceIte, Nat.reduceMul, reduceCtorEq, Nat.reduceLT, Int.reduceLT, Int.reduceLE, Int.reduceEq, Int.reduceAdd, Int.reduceSub, Int.reduceNeg, Bool.not_true, Bool.not_false, beq_self_eq_true, Int.reduceBEq, Int.reduceBNe, ge_iff_le, gt_iff_lt, Int.reduceToNat, Bool.and_true, Bool.and_false, Bool.true_and, Bool.false_and]; done)))
    | (refine k_false ?_ ?_; (· (simp (maxSteps := 2000000) only [go_sem, h1, Nat.reduceAdd, Nat.reduceEqDiff, Nat.reduceLeDiff, Nat.reduceSub, ↓reduceIte, reduceIte, Nat.reduceMul, reduceCtorEq, Nat.reduceLT, Int.reduceLT, Int.reduceLE, Int.reduceEq, Int.reduceAdd, Int.reduceSub, Int.reduceNeg, Bool.not_true, Bool.not_false, beq_self_eq_true, Int.reduceBEq, Int.reduceBNe, ge_iff_le, gt_iff_lt, Int.reduceToNat, Bool.and_true, Bool.and_false, Bool.true_and, Bool.false_and]; done)))
    | (rw [wrap64]; rotate_left 1; (· omega); (· omega); (try simp (maxSteps := 2000000) only [go_sem, hd, h1, Nat.reduceAdd, Nat.reduceEqDiff, Nat.reduceLeDiff, Nat.reduceSub, ↓reduceIte, reduceIte, Nat.reduceMul, reduceCtorEq, Nat.reduceLT, Int.reduceLT, Int.reduceLE, Int.reduceEq, Int.reduceAdd, Int.reduceSub, Int.reduceNeg, Bool.not_true, Bool.not_false, beq_self_eq_true, Int.reduceBEq, Int.reduceBNe, ge_iff_le, gt_iff_lt, Int.reduceToNat, Bool.and_true, Bool.and_false, Bool.true_and, Bool.false_and]))
    | fail
  apply And.left
  apply hΦ
  · simp (maxSteps := 2000000) only [go_sem, resT, resOne, Nat.reduceAdd, Nat.reduceEqDiff, Nat.reduceLeDiff, Nat.reduceSub, ↓reduceIte, reduceIte, Nat.reduceMul, reduceCtorEq, Nat.reduceLT, Int.reduceLT, Int.reduceLE, Int.reduceEq, Int.reduceAdd, Int.reduceSub, Int.reduceNeg, Bool.not_true, Bool.not_false, beq_self_eq_true, Int.reduceBEq, Int.reduceBNe, ge_iff_le, gt_iff_lt, Int.reduceToNat, Bool.and_true, Bool.and_false, Bool.true_and, Bool.false_and]; rfl
  · rw [show t.few m = decide ((t.depth : Int) ≤ 150) by simp only [Ty.few, decide_eq_true h2, Bool.true_and]; rw [decide_eq_decide]; omega]; rfl
  · simp (maxSteps := 2000000) only [go_sem, Nat.reduceAdd, Nat.reduceEqDiff, Nat.reduceLeDiff, Nat.reduceSub, ↓reduceIte, reduceIte, Nat.reduceMul, reduceCtorEq, Nat.reduceLT, Int.reduceLT, Int.reduceLE, Int.reduceEq, Int.reduceAdd, Int.reduceSub, Int.reduceNeg, Bool.not_true, Bool.not_false, beq_self_eq_true, Int.reduceBEq, Int.reduceBNe, ge_iff_le, gt_iff_lt, Int.reduceToNat, Bool.and_true, Bool.and_false, Bool.true_and, Bool.false_and]

theorem left_pure (t : Pr) : ∀ m : Nat, m ≤ 100000 → PureC Kx 29 [tG t.enc, tI m] (tI (bud t.fewT m t.size)) := by
  intro m hm
  refine .fit fun hfit => ?_
  have hf := Pr.fit_kids (fit_tG (hfit (tG t.enc) (.head _)))
  clear hfit
  have hse := t.size_eq
  have hfe := t.fewT_eq
  refine pure_of_can Try.func29 rfl (nt := 31) rfl rfl (by decide) (by simp) (by simp (maxSteps := 2000000) only [go_sem, Nat.reduceAdd, Nat.reduceEqDiff, Nat.reduceLeDiff, Nat.reduceSub, ↓reduceIte, reduceIte, Nat.reduceMul, reduceCtorEq, Nat.reduceLT, Int.reduceLT, Int.reduceLE, Int.reduceEq, Int.reduceAdd, Int.reduceSub, Int.reduceNeg, Bool.not_true, Bool.not_false, beq_self_eq_true, Int.reduceBEq, Int.reduceBNe, ge_iff_le, gt_iff_lt, Int.reduceToNat, Bool.and_true, Bool.and_false, Bool.true_and, Bool.false_and]) fun Φ hΦ => ?_
  repeat' first
    | refine k_seq ?_
    | refine k_block ?_
    | refine n_sq ?_
    | refine n_bl ?_
    | refine k_skip ?_
    | refine k_exit ?_
    | refine x_sq ?_
    | refine x_hit ?_
    | refine x_miss (by decide) ?_
    | refine x_nil (Ex.of hE ?_)
    | refine k_ret ?_
    | refine t_sq ?_
    | refine t_bl ?_
    | refine t_nil (Rt.of hE ?_)
    | refine t_nil ?_
    | (refine k_region (by rfl) fun Q all hd hQ => ?_; simp (maxSteps := 2000000) only [go_sem, hd, Nat.reduceAdd, Nat.reduceEqDiff, Nat.reduceLeDiff, Nat.reduceSub, ↓reduceIte, reduceIte, Nat.reduceMul, reduceCtorEq, Nat.reduceLT, Int.reduceLT, Int.reduceLE, Int.reduceEq, Int.reduceAdd, Int.reduceSub, Int.reduceNeg, Bool.not_true, Bool.not_false, beq_self_eq_true, Int.reduceBEq, Int.reduceBNe, ge_iff_le, gt_iff_lt, Int.reduceToNat, Bool.and_true, Bool.and_false, Bool.true_and, Bool.false_and])
    | (refine k_draw mixed (by kernel_rfl) fun Q all hd hbf hQ => ?_; simp (maxSteps := 2000000) only [go_sem, hd, Nat.reduceAdd, Nat.reduceEqDiff, Nat.reduceLeDiff, Nat.reduceSub, ↓reduceIte, reduceIte, Nat.reduceMul, reduceCtorEq, Nat.reduceLT, Int.reduceLT, Int.reduceLE, Int.reduceEq, Int.reduceAdd, Int.reduceSub, Int.reduceNeg, Bool.not_true, Bool.not_false, beq_self_eq_true, Int.reduceBEq, Int.reduceBNe, ge_iff_le, gt_iff_lt, Int.reduceToNat, Bool.and_true, Bool.and_false, Bool.true_and, Bool.false_and])
    | (refine hQ _ ?_; clear hQ hd; (try clear hbf); clear Q all)
    | (apply callW_fz (few02_pure t.t 300 (by omega)); (· (simp (maxSteps := 2000000) only [go_sem, Nat.reduceAdd, Nat.reduceEqDiff, Nat.reduceLeDiff, Nat.reduceSub, ↓reduceIte, reduceIte, Nat.reduceMul, reduceCtorEq, Nat.reduceLT, Int.reduceLT, Int.reduceLE, Int.reduceEq, Int.reduceAdd, Int.reduceSub, Int.reduceNeg, Bool.not_true, Bool.not_false, beq_self_eq_true, Int.reduceBEq, Int.reduceBNe, ge_iff_le, gt_iff_lt, Int.reduceToNat, Bool.and_true, Bool.and_false, Bool.true_and, Bool.false_and]; rfl)); (try simp (maxSteps := 2000000) only [go_sem, hd, Nat.reduceAdd, Nat.reduceEqDiff, Nat.reduceLeDiff, Nat.reduceSub, ↓reduceIte, reduceIte, Nat.reduceMul, reduceCtorEq, Nat.reduceLT, Int.reduceLT, Int.reduceLE, Int.reduceEq, Int.reduceAdd, Int.reduceSub, Int.reduceNeg, Bool.not_true, Bool.not_false, beq_self_eq_true, Int.reduceBEq, Int.reduceBNe, ge_iff_le, gt_iff_lt, Int.reduceToNat, Bool.and_true, Bool.and_false, Bool.true_and, Bool.false_and]))
    | (apply callD_pure (few02_pure t.t 300 (by omega)); (· (simp (maxSteps := 2000000) only [go_sem, Nat.reduceAdd, Nat.reduceEqDiff, Nat.reduceLeDiff, Nat.reduceSub, ↓reduceIte, reduceIte, Nat.reduceMul, reduceCtorEq, Nat.reduceLT, Int.reduceLT, Int.reduceLE, Int.reduceEq, Int.reduceAdd, Int.reduceSub, Int.reduceNeg, Bool.not_true, Bool.not_false, beq_self_eq_true, Int.reduceBEq, Int.reduceBNe, ge_iff_le, gt_iff_lt, Int.reduceToNat, Bool.and_true, Bool.and_false, Bool.true_and, Bool.false_and]; rfl)); (try simp (maxSteps := 2000000) only [go_sem, hd, Nat.reduceAdd, Nat.reduceEqDiff, Nat.reduceLeDiff, Nat.reduceSub, ↓reduceIte, reduceIte, Nat.reduceMul, reduceCtorEq, Nat.reduceLT, Int.reduceLT, Int.reduceLE, Int.reduceEq, Int.reduceAdd, Int.reduceSub, Int.reduceNeg, Bool.not_true, Bool.not_false, beq_self_eq_true, Int.reduceBEq, Int.reduceBNe, ge_iff_le, gt_iff_lt, Int.reduceToNat, Bool.and_true, Bool.and_false, Bool.true_and, Bool.false_and]))
    | (refine k_true ?_ ?_; (· (simp (maxSteps := 2000000) only [go_sem, Nat.reduceAdd, Nat.reduceEqDiff, Nat.reduceLeDiff, Nat.reduceSub, ↓reduceIte, reduceIte, Nat.reduceMul, reduceCtorEq, Nat.reduceLT, Int.reduceLT, Int.reduceLE, Int.reduceEq, Int.reduceAdd, Int.reduceSub, Int.reduceNeg, Bool.not_true, Bool.not_false, beq_self_eq_true, Int.reduceBEq, Int.reduceBNe, ge_iff_le, gt_iff_lt, Int.reduceToNat, Bool.and_true, Bool.and_false, Bool.true_and, Bool.false_and]; done)))
    | (refine k_false ?_ ?_; (· (simp (maxSteps := 2000000) only [go_sem, Nat.reduceAdd, Nat.reduceEqDiff, Nat.reduceLeDiff, Nat.reduceSub, ↓reduceIte, reduceIte, Nat.reduceMul, reduceCtorEq, Nat.reduceLT, Int.reduceLT, Int.reduceLE, Int.reduceEq, Int.reduceAdd, Int.reduceSub, Int.reduceNeg, Bool.not_true, Bool.not_false, beq_self_eq_true, Int.reduceBEq, Int.reduceBNe, ge_iff_le, gt_iff_lt, Int.reduceToNat, Bool.and_true, Bool.and_false, Bool.true_and, Bool.false_and]; done)))
    | (rw [wrap64]; rotate_left 1; (· omega); (· omega); (try simp (maxSteps := 2000000) only [go_sem, hd, Nat.reduceAdd, Nat.reduceEqDiff, Nat.reduceLeDiff, Nat.reduceSub, ↓reduceIte, reduceIte, Nat.reduceMul, reduceCtorEq, Nat.reduceLT, Int.reduceLT, Int.reduceLE, Int.reduceEq, Int.reduceAdd, Int.reduceSub, Int.reduceNeg, Bool.not_true, Bool.not_false, beq_self_eq_true, Int.reduceBEq, Int.reduceBNe, ge_iff_le, gt_iff_lt, Int.reduceToNat, Bool.and_true, Bool.and_false, Bool.true_and, Bool.false_and]))
    | fail
  by_cases hT : t.t.few 300 = true
  case neg =>
    have hT' := eq_false_of_ne_true hT
    repeat' first
      | refine k_seq ?_
      | refine k_block ?_
      | refine n_sq ?_
      | refine n_bl ?_
      | refine k_skip ?_
      | refine k_exit ?_
      | refine x_sq ?_
      | refine x_hit ?_
      | refine x_miss (by decide) ?_
      | refine x_nil (Ex.of hE ?_)
      | refine k_ret ?_
      | refine t_sq ?_
      | refine t_bl ?_
      | refine t_nil (Rt.of hE ?_)
      | refine t_nil ?_
      | (refine k_region (by rfl) fun Q all hd hQ => ?_; simp (maxSteps := 2000000) only [go_sem, hd, hT', Nat.reduceAdd, Nat.reduceEqDiff, Nat.reduceLeDiff, Nat.reduceSub, ↓reduceIte, reduceIte, Nat.reduceMul, reduceCtorEq, Nat.reduceLT, Int.reduceLT, Int.reduceLE, Int.reduceEq, Int.reduceAdd, Int.reduceSub, Int.reduceNeg, Bool.not_true, Bool.not_false, beq_self_eq_true, Int.reduceBEq, Int.reduceBNe, ge_iff_le, gt_iff_lt, Int.reduceToNat, Bool.and_true, Bool.and_false, Bool.true_and, Bool.false_and])
      | (refine k_draw mixed (by kernel_rfl) fun Q all hd hbf hQ => ?_; simp (maxSteps := 2000000) only [go_sem, hd, hT', Nat.reduceAdd, Nat.reduceEqDiff, Nat.reduceLeDiff, Nat.reduceSub, ↓reduceIte, reduceIte, Nat.reduceMul, reduceCtorEq, Nat.reduceLT, Int.reduceLT, Int.reduceLE, Int.reduceEq, Int.reduceAdd, Int.reduceSub, Int.reduceNeg, Bool.not_true, Bool.not_false, beq_self_eq_true, Int.reduceBEq, Int.reduceBNe, ge_iff_le, gt_iff_lt, Int.reduceToNat, Bool.and_true, Bool.and_false, Bool.true_and, Bool.false_and])
      | (refine hQ _ ?_; clear hQ hd; (try clear hbf); clear Q all)
      | (refine k_true ?_ ?_; (· (simp (maxSteps := 2000000) only [go_sem, hT', Nat.reduceAdd, Nat.reduceEqDiff, Nat.reduceLeDiff, Nat.reduceSub, ↓reduceIte, reduceIte, Nat.reduceMul, reduceCtorEq, Nat.reduceLT, Int.reduceLT, Int.reduceLE, Int.reduceEq, Int.reduceAdd, Int.reduceSub, Int.reduceNeg, Bool.not_true, Bool.not_false, beq_self_eq_true, Int.reduceBEq, Int.reduceBNe, ge_iff_le, gt_iff_lt, Int.reduceToNat, Bool.and_true, Bool.and_false, Bool.true_and, Bool.false_and]; done)))
      | (refine k_false ?_ ?_; (· (simp (maxSteps := 2000000) only [go_sem, hT', Nat.reduceAdd, Nat.reduceEqDiff, Nat.reduceLeDiff, Nat.reduceSub, ↓reduceIte, reduceIte, Nat.reduceMul, reduceCtorEq, Nat.reduceLT, Int.reduceLT, Int.reduceLE, Int.reduceEq, Int.reduceAdd, Int.reduceSub, Int.reduceNeg, Bool.not_true, Bool.not_false, beq_self_eq_true, Int.reduceBEq, Int.reduceBNe, ge_iff_le, gt_iff_lt, Int.reduceToNat, Bool.and_true, Bool.and_false, Bool.true_and, Bool.false_and]; done)))
      | (rw [wrap64]; rotate_left 1; (· omega); (· omega); (try simp (maxSteps := 2000000) only [go_sem, hd, hT', Nat.reduceAdd, Nat.reduceEqDiff, Nat.reduceLeDiff, Nat.reduceSub, ↓reduceIte, reduceIte, Nat.reduceMul, reduceCtorEq, Nat.reduceLT, Int.reduceLT, Int.reduceLE, Int.reduceEq, Int.reduceAdd, Int.reduceSub, Int.reduceNeg, Bool.not_true, Bool.not_false, beq_self_eq_true, Int.reduceBEq, Int.reduceBNe, ge_iff_le, gt_iff_lt, Int.reduceToNat, Bool.and_true, Bool.and_false, Bool.true_and, Bool.false_and]))
      | fail
    apply And.left
    apply hΦ
    · simp (maxSteps := 2000000) only [go_sem, resT, resOne, Nat.reduceAdd, Nat.reduceEqDiff, Nat.reduceLeDiff, Nat.reduceSub, ↓reduceIte, reduceIte, Nat.reduceMul, reduceCtorEq, Nat.reduceLT, Int.reduceLT, Int.reduceLE, Int.reduceEq, Int.reduceAdd, Int.reduceSub, Int.reduceNeg, Bool.not_true, Bool.not_false, beq_self_eq_true, Int.reduceBEq, Int.reduceBNe, ge_iff_le, gt_iff_lt, Int.reduceToNat, Bool.and_true, Bool.and_false, Bool.true_and, Bool.false_and]; rfl
    · rw [hfe, hT']; rfl
    · simp (maxSteps := 2000000) only [go_sem, Nat.reduceAdd, Nat.reduceEqDiff, Nat.reduceLeDiff, Nat.reduceSub, ↓reduceIte, reduceIte, Nat.reduceMul, reduceCtorEq, Nat.reduceLT, Int.reduceLT, Int.reduceLE, Int.reduceEq, Int.reduceAdd, Int.reduceSub, Int.reduceNeg, Bool.not_true, Bool.not_false, beq_self_eq_true, Int.reduceBEq, Int.reduceBNe, ge_iff_le, gt_iff_lt, Int.reduceToNat, Bool.and_true, Bool.and_false, Bool.true_and, Bool.false_and]
  repeat' first
    | refine k_seq ?_
    | refine k_block ?_
    | refine n_sq ?_
    | refine n_bl ?_
    | refine k_skip ?_
    | refine k_exit ?_
    | refine x_sq ?_
    | refine x_hit ?_
    | refine x_miss (by decide) ?_
    | refine x_nil (Ex.of hE ?_)
    | refine k_ret ?_
    | refine t_sq ?_
    | refine t_bl ?_
    | refine t_nil (Rt.of hE ?_)
    | refine t_nil ?_
    | (refine k_region (by rfl) fun Q all hd hQ => ?_; simp (maxSteps := 2000000) only [go_sem, hd, hT, Nat.reduceAdd, Nat.reduceEqDiff, Nat.reduceLeDiff, Nat.reduceSub, ↓reduceIte, reduceIte, Nat.reduceMul, reduceCtorEq, Nat.reduceLT, Int.reduceLT, Int.reduceLE, Int.reduceEq, Int.reduceAdd, Int.reduceSub, Int.reduceNeg, Bool.not_true, Bool.not_false, beq_self_eq_true, Int.reduceBEq, Int.reduceBNe, ge_iff_le, gt_iff_lt, Int.reduceToNat, Bool.and_true, Bool.and_false, Bool.true_and, Bool.false_and])
    | (refine k_draw mixed (by kernel_rfl) fun Q all hd hbf hQ => ?_; simp (maxSteps := 2000000) only [go_sem, hd, hT, Nat.reduceAdd, Nat.reduceEqDiff, Nat.reduceLeDiff, Nat.reduceSub, ↓reduceIte, reduceIte, Nat.reduceMul, reduceCtorEq, Nat.reduceLT, Int.reduceLT, Int.reduceLE, Int.reduceEq, Int.reduceAdd, Int.reduceSub, Int.reduceNeg, Bool.not_true, Bool.not_false, beq_self_eq_true, Int.reduceBEq, Int.reduceBNe, ge_iff_le, gt_iff_lt, Int.reduceToNat, Bool.and_true, Bool.and_false, Bool.true_and, Bool.false_and])
    | (refine hQ _ ?_; clear hQ hd; (try clear hbf); clear Q all)
    | (refine k_true ?_ ?_; (· (simp (maxSteps := 2000000) only [go_sem, hT, Nat.reduceAdd, Nat.reduceEqDiff, Nat.reduceLeDiff, Nat.reduceSub, ↓reduceIte, reduceIte, Nat.reduceMul, reduceCtorEq, Nat.reduceLT, Int.reduceLT, Int.reduceLE, Int.reduceEq, Int.reduceAdd, Int.reduceSub, Int.reduceNeg, Bool.not_true, Bool.not_false, beq_self_eq_true, Int.reduceBEq, Int.reduceBNe, ge_iff_le, gt_iff_lt, Int.reduceToNat, Bool.and_true, Bool.and_false, Bool.true_and, Bool.false_and]; done)))
    | (refine k_false ?_ ?_; (· (simp (maxSteps := 2000000) only [go_sem, hT, Nat.reduceAdd, Nat.reduceEqDiff, Nat.reduceLeDiff, Nat.reduceSub, ↓reduceIte, reduceIte, Nat.reduceMul, reduceCtorEq, Nat.reduceLT, Int.reduceLT, Int.reduceLE, Int.reduceEq, Int.reduceAdd, Int.reduceSub, Int.reduceNeg, Bool.not_true, Bool.not_false, beq_self_eq_true, Int.reduceBEq, Int.reduceBNe, ge_iff_le, gt_iff_lt, Int.reduceToNat, Bool.and_true, Bool.and_false, Bool.true_and, Bool.false_and]; done)))
    | (rw [wrap64]; rotate_left 1; (· omega); (· omega); (try simp (maxSteps := 2000000) only [go_sem, hd, hT, Nat.reduceAdd, Nat.reduceEqDiff, Nat.reduceLeDiff, Nat.reduceSub, ↓reduceIte, reduceIte, Nat.reduceMul, reduceCtorEq, Nat.reduceLT, Int.reduceLT, Int.reduceLE, Int.reduceEq, Int.reduceAdd, Int.reduceSub, Int.reduceNeg, Bool.not_true, Bool.not_false, beq_self_eq_true, Int.reduceBEq, Int.reduceBNe, ge_iff_le, gt_iff_lt, Int.reduceToNat, Bool.and_true, Bool.and_false, Bool.true_and, Bool.false_and]))
    | fail
  refine k_loop (fun j s => ∃ (i : Nat), j = t.kids.length - i ∧ i ≤ t.kids.length ∧ s = ⟨ofL [(1, tI (bud (t.t.few 300 && (t.kids.take i).all Pr.fewT) m (1 + ((t.kids.take i).map Pr.size).sum))), (2, .c (.ref 0 0)), (5, tI i)], [.box 30 (t.enc.map .d)], 31⟩) (t.kids.length - (0))
    (weak_keep (l := [(1, tI (bud (t.t.few 300 && (t.kids.take (0)).all Pr.fewT) m (1 + ((t.kids.take (0)).map Pr.size).sum))), (2, .c (.ref 0 0)), (5, tI (0))]) (by simp (maxSteps := 2000000) only [go_sem, List.take_zero, List.map_nil, List.sum_nil, hT, List.all_nil, Nat.reduceAdd, Nat.reduceEqDiff, Nat.reduceLeDiff, Nat.reduceSub, ↓reduceIte, reduceIte, Nat.reduceMul, reduceCtorEq, Nat.reduceLT, Int.reduceLT, Int.reduceLE, Int.reduceEq, Int.reduceAdd, Int.reduceSub, Int.reduceNeg, Bool.not_true, Bool.not_false, beq_self_eq_true, Int.reduceBEq, Int.reduceBNe, ge_iff_le, gt_iff_lt, Int.reduceToNat, Bool.and_true, Bool.and_false, Bool.true_and, Bool.false_and]; congr 3; unfold bud; split <;> simp_all <;> omega)) ⟨(0), rfl, by omega, rfl⟩ ?_
  rintro j _ ⟨i, rfl, hi, rfl⟩ Ψ hN hE
  have hb := bud_lt (t.t.few 300 && (t.kids.take i).all Pr.fewT) m (1 + ((t.kids.take i).map Pr.size).sum)
  have hst := sum_take_le t.kids Pr.size i
  by_cases hlt : (i : Int) < (t.kids.length : Int)
  case neg =>
    repeat' first
      | refine k_seq ?_
      | refine k_block ?_
      | refine n_sq ?_
      | refine n_bl ?_
      | refine k_skip ?_
      | refine k_exit ?_
      | refine x_sq ?_
      | refine x_hit ?_
      | refine x_miss (by decide) ?_
      | refine x_nil (Ex.of hE ?_)
      | refine k_ret ?_
      | refine t_sq ?_
      | refine t_bl ?_
      | refine t_nil (Rt.of hE ?_)
      | refine t_nil ?_
      | (refine k_region (by rfl) fun Q all hd hQ => ?_; simp (maxSteps := 2000000) only [go_sem, hd, hlt, Nat.reduceAdd, Nat.reduceEqDiff, Nat.reduceLeDiff, Nat.reduceSub, ↓reduceIte, reduceIte, Nat.reduceMul, reduceCtorEq, Nat.reduceLT, Int.reduceLT, Int.reduceLE, Int.reduceEq, Int.reduceAdd, Int.reduceSub, Int.reduceNeg, Bool.not_true, Bool.not_false, beq_self_eq_true, Int.reduceBEq, Int.reduceBNe, ge_iff_le, gt_iff_lt, Int.reduceToNat, Bool.and_true, Bool.and_false, Bool.true_and, Bool.false_and])
      | (refine k_draw mixed (by kernel_rfl) fun Q all hd hbf hQ => ?_; simp (maxSteps := 2000000) only [go_sem, hd, hlt, Nat.reduceAdd, Nat.reduceEqDiff, Nat.reduceLeDiff, Nat.reduceSub, ↓reduceIte, reduceIte, Nat.reduceMul, reduceCtorEq, Nat.reduceLT, Int.reduceLT, Int.reduceLE, Int.reduceEq, Int.reduceAdd, Int.reduceSub, Int.reduceNeg, Bool.not_true, Bool.not_false, beq_self_eq_true, Int.reduceBEq, Int.reduceBNe, ge_iff_le, gt_iff_lt, Int.reduceToNat, Bool.and_true, Bool.and_false, Bool.true_and, Bool.false_and])
      | (refine hQ _ ?_; clear hQ hd; (try clear hbf); clear Q all)
      | (refine k_true ?_ ?_; (· (simp (maxSteps := 2000000) only [go_sem, hlt, Nat.reduceAdd, Nat.reduceEqDiff, Nat.reduceLeDiff, Nat.reduceSub, ↓reduceIte, reduceIte, Nat.reduceMul, reduceCtorEq, Nat.reduceLT, Int.reduceLT, Int.reduceLE, Int.reduceEq, Int.reduceAdd, Int.reduceSub, Int.reduceNeg, Bool.not_true, Bool.not_false, beq_self_eq_true, Int.reduceBEq, Int.reduceBNe, ge_iff_le, gt_iff_lt, Int.reduceToNat, Bool.and_true, Bool.and_false, Bool.true_and, Bool.false_and]; done)))
      | (refine k_false ?_ ?_; (· (simp (maxSteps := 2000000) only [go_sem, hlt, Nat.reduceAdd, Nat.reduceEqDiff, Nat.reduceLeDiff, Nat.reduceSub, ↓reduceIte, reduceIte, Nat.reduceMul, reduceCtorEq, Nat.reduceLT, Int.reduceLT, Int.reduceLE, Int.reduceEq, Int.reduceAdd, Int.reduceSub, Int.reduceNeg, Bool.not_true, Bool.not_false, beq_self_eq_true, Int.reduceBEq, Int.reduceBNe, ge_iff_le, gt_iff_lt, Int.reduceToNat, Bool.and_true, Bool.and_false, Bool.true_and, Bool.false_and]; done)))
      | (rw [wrap64]; rotate_left 1; (· omega); (· omega); (try simp (maxSteps := 2000000) only [go_sem, hd, hlt, Nat.reduceAdd, Nat.reduceEqDiff, Nat.reduceLeDiff, Nat.reduceSub, ↓reduceIte, reduceIte, Nat.reduceMul, reduceCtorEq, Nat.reduceLT, Int.reduceLT, Int.reduceLE, Int.reduceEq, Int.reduceAdd, Int.reduceSub, Int.reduceNeg, Bool.not_true, Bool.not_false, beq_self_eq_true, Int.reduceBEq, Int.reduceBNe, ge_iff_le, gt_iff_lt, Int.reduceToNat, Bool.and_true, Bool.and_false, Bool.true_and, Bool.false_and]))
      | fail
    have e : i = t.kids.length := by omega
    subst e
    apply And.left
    apply hΦ
    · simp (maxSteps := 2000000) only [go_sem, resT, resOne, Nat.reduceAdd, Nat.reduceEqDiff, Nat.reduceLeDiff, Nat.reduceSub, ↓reduceIte, reduceIte, Nat.reduceMul, reduceCtorEq, Nat.reduceLT, Int.reduceLT, Int.reduceLE, Int.reduceEq, Int.reduceAdd, Int.reduceSub, Int.reduceNeg, Bool.not_true, Bool.not_false, beq_self_eq_true, Int.reduceBEq, Int.reduceBNe, ge_iff_le, gt_iff_lt, Int.reduceToNat, Bool.and_true, Bool.and_false, Bool.true_and, Bool.false_and]; rfl
    · rw [hse, hfe, List.take_length]; rfl
    · simp (maxSteps := 2000000) only [go_sem, Nat.reduceAdd, Nat.reduceEqDiff, Nat.reduceLeDiff, Nat.reduceSub, ↓reduceIte, reduceIte, Nat.reduceMul, reduceCtorEq, Nat.reduceLT, Int.reduceLT, Int.reduceLE, Int.reduceEq, Int.reduceAdd, Int.reduceSub, Int.reduceNeg, Bool.not_true, Bool.not_false, beq_self_eq_true, Int.reduceBEq, Int.reduceBNe, ge_iff_le, gt_iff_lt, Int.reduceToNat, Bool.and_true, Bool.and_false, Bool.true_and, Bool.false_and]
  by_cases hn : (0 : Int) ≤ bud (t.t.few 300 && (t.kids.take i).all Pr.fewT) m (1 + ((t.kids.take i).map Pr.size).sum)
  case neg =>
    repeat' first
      | refine k_seq ?_
      | refine k_block ?_
      | refine n_sq ?_
      | refine n_bl ?_
      | refine k_skip ?_
      | refine k_exit ?_
      | refine x_sq ?_
      | refine x_hit ?_
      | refine x_miss (by decide) ?_
      | refine x_nil (Ex.of hE ?_)
      | refine k_ret ?_
      | refine t_sq ?_
      | refine t_bl ?_
      | refine t_nil (Rt.of hE ?_)
      | refine t_nil ?_
      | (refine k_region (by rfl) fun Q all hd hQ => ?_; simp (maxSteps := 2000000) only [go_sem, hd, hlt, hn, Nat.reduceAdd, Nat.reduceEqDiff, Nat.reduceLeDiff, Nat.reduceSub, ↓reduceIte, reduceIte, Nat.reduceMul, reduceCtorEq, Nat.reduceLT, Int.reduceLT, Int.reduceLE, Int.reduceEq, Int.reduceAdd, Int.reduceSub, Int.reduceNeg, Bool.not_true, Bool.not_false, beq_self_eq_true, Int.reduceBEq, Int.reduceBNe, ge_iff_le, gt_iff_lt, Int.reduceToNat, Bool.and_true, Bool.and_false, Bool.true_and, Bool.false_and])
      | (refine k_draw mixed (by kernel_rfl) fun Q all hd hbf hQ => ?_; simp (maxSteps := 2000000) only [go_sem, hd, hlt, hn, Nat.reduceAdd, Nat.reduceEqDiff, Nat.reduceLeDiff, Nat.reduceSub, ↓reduceIte, reduceIte, Nat.reduceMul, reduceCtorEq, Nat.reduceLT, Int.reduceLT, Int.reduceLE, Int.reduceEq, Int.reduceAdd, Int.reduceSub, Int.reduceNeg, Bool.not_true, Bool.not_false, beq_self_eq_true, Int.reduceBEq, Int.reduceBNe, ge_iff_le, gt_iff_lt, Int.reduceToNat, Bool.and_true, Bool.and_false, Bool.true_and, Bool.false_and])
      | (refine hQ _ ?_; clear hQ hd; (try clear hbf); clear Q all)
      | (refine k_true ?_ ?_; (· (simp (maxSteps := 2000000) only [go_sem, hlt, hn, Nat.reduceAdd, Nat.reduceEqDiff, Nat.reduceLeDiff, Nat.reduceSub, ↓reduceIte, reduceIte, Nat.reduceMul, reduceCtorEq, Nat.reduceLT, Int.reduceLT, Int.reduceLE, Int.reduceEq, Int.reduceAdd, Int.reduceSub, Int.reduceNeg, Bool.not_true, Bool.not_false, beq_self_eq_true, Int.reduceBEq, Int.reduceBNe, ge_iff_le, gt_iff_lt, Int.reduceToNat, Bool.and_true, Bool.and_false, Bool.true_and, Bool.false_and]; done)))
      | (refine k_false ?_ ?_; (· (simp (maxSteps := 2000000) only [go_sem, hlt, hn, Nat.reduceAdd, Nat.reduceEqDiff, Nat.reduceLeDiff, Nat.reduceSub, ↓reduceIte, reduceIte, Nat.reduceMul, reduceCtorEq, Nat.reduceLT, Int.reduceLT, Int.reduceLE, Int.reduceEq, Int.reduceAdd, Int.reduceSub, Int.reduceNeg, Bool.not_true, Bool.not_false, beq_self_eq_true, Int.reduceBEq, Int.reduceBNe, ge_iff_le, gt_iff_lt, Int.reduceToNat, Bool.and_true, Bool.and_false, Bool.true_and, Bool.false_and]; done)))
      | (rw [wrap64]; rotate_left 1; (· omega); (· omega); (try simp (maxSteps := 2000000) only [go_sem, hd, hlt, hn, Nat.reduceAdd, Nat.reduceEqDiff, Nat.reduceLeDiff, Nat.reduceSub, ↓reduceIte, reduceIte, Nat.reduceMul, reduceCtorEq, Nat.reduceLT, Int.reduceLT, Int.reduceLE, Int.reduceEq, Int.reduceAdd, Int.reduceSub, Int.reduceNeg, Bool.not_true, Bool.not_false, beq_self_eq_true, Int.reduceBEq, Int.reduceBNe, ge_iff_le, gt_iff_lt, Int.reduceToNat, Bool.and_true, Bool.and_false, Bool.true_and, Bool.false_and]))
      | fail
    apply And.left
    apply hΦ
    · simp (maxSteps := 2000000) only [go_sem, resT, resOne, Nat.reduceAdd, Nat.reduceEqDiff, Nat.reduceLeDiff, Nat.reduceSub, ↓reduceIte, reduceIte, Nat.reduceMul, reduceCtorEq, Nat.reduceLT, Int.reduceLT, Int.reduceLE, Int.reduceEq, Int.reduceAdd, Int.reduceSub, Int.reduceNeg, Bool.not_true, Bool.not_false, beq_self_eq_true, Int.reduceBEq, Int.reduceBNe, ge_iff_le, gt_iff_lt, Int.reduceToNat, Bool.and_true, Bool.and_false, Bool.true_and, Bool.false_and]; rfl
    · rw [bud_neg hn, bud_neg (fun h => hn (bud_nonneg.2 ?_))]
      rotate_left
      · have ⟨g1, g2⟩ := bud_nonneg.1 h
        rw [hfe, Bool.and_eq_true] at g1
        refine ⟨?_, by omega⟩
        rw [Bool.and_eq_true]
        refine ⟨g1.1, List.all_eq_true.2 fun x hx => List.all_eq_true.1 g1.2 x (List.mem_of_mem_take hx)⟩
      rfl
    · simp (maxSteps := 2000000) only [go_sem, Nat.reduceAdd, Nat.reduceEqDiff, Nat.reduceLeDiff, Nat.reduceSub, ↓reduceIte, reduceIte, Nat.reduceMul, reduceCtorEq, Nat.reduceLT, Int.reduceLT, Int.reduceLE, Int.reduceEq, Int.reduceAdd, Int.reduceSub, Int.reduceNeg, Bool.not_true, Bool.not_false, beq_self_eq_true, Int.reduceBEq, Int.reduceBNe, ge_iff_le, gt_iff_lt, Int.reduceToNat, Bool.and_true, Bool.and_false, Bool.true_and, Bool.false_and]
  have hlt' : i < t.kids.length := by omega
  have hk := List.getElem?_eq_getElem hlt'
  have h0 : (0 : Int) ≤ (i : Int) := by omega
  repeat' first
    | refine k_seq ?_
    | refine k_block ?_
    | refine n_sq ?_
    | refine n_bl ?_
    | refine k_skip ?_
    | refine k_exit ?_
    | refine x_sq ?_
    | refine x_hit ?_
    | refine x_miss (by decide) ?_
    | refine x_nil (Ex.of hE ?_)
    | refine k_ret ?_
    | refine t_sq ?_
    | refine t_bl ?_
    | refine t_nil (Rt.of hE ?_)
    | refine t_nil ?_
    | (refine k_region (by rfl) fun Q all hd hQ => ?_; simp (maxSteps := 2000000) only [go_sem, hd, hlt, hn, hk, h0, Nat.reduceAdd, Nat.reduceEqDiff, Nat.reduceLeDiff, Nat.reduceSub, ↓reduceIte, reduceIte, Nat.reduceMul, reduceCtorEq, Nat.reduceLT, Int.reduceLT, Int.reduceLE, Int.reduceEq, Int.reduceAdd, Int.reduceSub, Int.reduceNeg, Bool.not_true, Bool.not_false, beq_self_eq_true, Int.reduceBEq, Int.reduceBNe, ge_iff_le, gt_iff_lt, Int.reduceToNat, Bool.and_true, Bool.and_false, Bool.true_and, Bool.false_and])
    | (refine k_draw mixed (by kernel_rfl) fun Q all hd hbf hQ => ?_; simp (maxSteps := 2000000) only [go_sem, hd, hlt, hn, hk, h0, Nat.reduceAdd, Nat.reduceEqDiff, Nat.reduceLeDiff, Nat.reduceSub, ↓reduceIte, reduceIte, Nat.reduceMul, reduceCtorEq, Nat.reduceLT, Int.reduceLT, Int.reduceLE, Int.reduceEq, Int.reduceAdd, Int.reduceSub, Int.reduceNeg, Bool.not_true, Bool.not_false, beq_self_eq_true, Int.reduceBEq, Int.reduceBNe, ge_iff_le, gt_iff_lt, Int.reduceToNat, Bool.and_true, Bool.and_false, Bool.true_and, Bool.false_and])
    | (refine hQ _ ?_; clear hQ hd; (try clear hbf); clear Q all)
    | (refine k_true ?_ ?_; (· (simp (maxSteps := 2000000) only [go_sem, hlt, hn, hk, h0, Nat.reduceAdd, Nat.reduceEqDiff, Nat.reduceLeDiff, Nat.reduceSub, ↓reduceIte, reduceIte, Nat.reduceMul, reduceCtorEq, Nat.reduceLT, Int.reduceLT, Int.reduceLE, Int.reduceEq, Int.reduceAdd, Int.reduceSub, Int.reduceNeg, Bool.not_true, Bool.not_false, beq_self_eq_true, Int.reduceBEq, Int.reduceBNe, ge_iff_le, gt_iff_lt, Int.reduceToNat, Bool.and_true, Bool.and_false, Bool.true_and, Bool.false_and]; done)))
    | (refine k_false ?_ ?_; (· (simp (maxSteps := 2000000) only [go_sem, hlt, hn, hk, h0, Nat.reduceAdd, Nat.reduceEqDiff, Nat.reduceLeDiff, Nat.reduceSub, ↓reduceIte, reduceIte, Nat.reduceMul, reduceCtorEq, Nat.reduceLT, Int.reduceLT, Int.reduceLE, Int.reduceEq, Int.reduceAdd, Int.reduceSub, Int.reduceNeg, Bool.not_true, Bool.not_false, beq_self_eq_true, Int.reduceBEq, Int.reduceBNe, ge_iff_le, gt_iff_lt, Int.reduceToNat, Bool.and_true, Bool.and_false, Bool.true_and, Bool.false_and]; done)))
    | (rw [wrap64]; rotate_left 1; (· omega); (· omega); (try simp (maxSteps := 2000000) only [go_sem, hd, hlt, hn, hk, h0, Nat.reduceAdd, Nat.reduceEqDiff, Nat.reduceLeDiff, Nat.reduceSub, ↓reduceIte, reduceIte, Nat.reduceMul, reduceCtorEq, Nat.reduceLT, Int.reduceLT, Int.reduceLE, Int.reduceEq, Int.reduceAdd, Int.reduceSub, Int.reduceNeg, Bool.not_true, Bool.not_false, beq_self_eq_true, Int.reduceBEq, Int.reduceBNe, ge_iff_le, gt_iff_lt, Int.reduceToNat, Bool.and_true, Bool.and_false, Bool.true_and, Bool.false_and]))
    | fail
  rw [bud_eq hn]
  repeat' first
    | refine k_seq ?_
    | refine k_block ?_
    | refine n_sq ?_
    | refine n_bl ?_
    | refine k_skip ?_
    | refine k_exit ?_
    | refine x_sq ?_
    | refine x_hit ?_
    | refine x_miss (by decide) ?_
    | refine x_nil (Ex.of hE ?_)
    | refine k_ret ?_
    | refine t_sq ?_
    | refine t_bl ?_
    | refine t_nil (Rt.of hE ?_)
    | refine t_nil ?_
    | (refine k_region (by rfl) fun Q all hd hQ => ?_; simp (maxSteps := 2000000) only [go_sem, hd, hlt, hk, h0, Nat.reduceAdd, Nat.reduceEqDiff, Nat.reduceLeDiff, Nat.reduceSub, ↓reduceIte, reduceIte, Nat.reduceMul, reduceCtorEq, Nat.reduceLT, Int.reduceLT, Int.reduceLE, Int.reduceEq, Int.reduceAdd, Int.reduceSub, Int.reduceNeg, Bool.not_true, Bool.not_false, beq_self_eq_true, Int.reduceBEq, Int.reduceBNe, ge_iff_le, gt_iff_lt, Int.reduceToNat, Bool.and_true, Bool.and_false, Bool.true_and, Bool.false_and])
    | (refine k_draw mixed (by kernel_rfl) fun Q all hd hbf hQ => ?_; simp (maxSteps := 2000000) only [go_sem, hd, hlt, hk, h0, Nat.reduceAdd, Nat.reduceEqDiff, Nat.reduceLeDiff, Nat.reduceSub, ↓reduceIte, reduceIte, Nat.reduceMul, reduceCtorEq, Nat.reduceLT, Int.reduceLT, Int.reduceLE, Int.reduceEq, Int.reduceAdd, Int.reduceSub, Int.reduceNeg, Bool.not_true, Bool.not_false, beq_self_eq_true, Int.reduceBEq, Int.reduceBNe, ge_iff_le, gt_iff_lt, Int.reduceToNat, Bool.and_true, Bool.and_false, Bool.true_and, Bool.false_and])
    | (refine hQ _ ?_; clear hQ hd; (try clear hbf); clear Q all)
    | (apply callW_fz (left_pure t.kids[i] (m - (1 + ((t.kids.take i).map Pr.size).sum)) (by omega)); (· (simp (maxSteps := 2000000) only [go_sem, hlt, hk, h0, Nat.reduceAdd, Nat.reduceEqDiff, Nat.reduceLeDiff, Nat.reduceSub, ↓reduceIte, reduceIte, Nat.reduceMul, reduceCtorEq, Nat.reduceLT, Int.reduceLT, Int.reduceLE, Int.reduceEq, Int.reduceAdd, Int.reduceSub, Int.reduceNeg, Bool.not_true, Bool.not_false, beq_self_eq_true, Int.reduceBEq, Int.reduceBNe, ge_iff_le, gt_iff_lt, Int.reduceToNat, Bool.and_true, Bool.and_false, Bool.true_and, Bool.false_and]; rfl)); (try simp (maxSteps := 2000000) only [go_sem, hd, hlt, hk, h0, Nat.reduceAdd, Nat.reduceEqDiff, Nat.reduceLeDiff, Nat.reduceSub, ↓reduceIte, reduceIte, Nat.reduceMul, reduceCtorEq, Nat.reduceLT, Int.reduceLT, Int.reduceLE, Int.reduceEq, Int.reduceAdd, Int.reduceSub, Int.reduceNeg, Bool.not_true, Bool.not_false, beq_self_eq_true, Int.reduceBEq, Int.reduceBNe, ge_iff_le, gt_iff_lt, Int.reduceToNat, Bool.and_true, Bool.and_false, Bool.true_and, Bool.false_and]))
    | (apply callD_pure (left_pure t.kids[i] (m - (1 + ((t.kids.take i).map Pr.size).sum)) (by omega)); (· (simp (maxSteps := 2000000) only [go_sem, hlt, hk, h0, Nat.reduceAdd, Nat.reduceEqDiff, Nat.reduceLeDiff, Nat.reduceSub, ↓reduceIte, reduceIte, Nat.reduceMul, reduceCtorEq, Nat.reduceLT, Int.reduceLT, Int.reduceLE, Int.reduceEq, Int.reduceAdd, Int.reduceSub, Int.reduceNeg, Bool.not_true, Bool.not_false, beq_self_eq_true, Int.reduceBEq, Int.reduceBNe, ge_iff_le, gt_iff_lt, Int.reduceToNat, Bool.and_true, Bool.and_false, Bool.true_and, Bool.false_and]; rfl)); (try simp (maxSteps := 2000000) only [go_sem, hd, hlt, hk, h0, Nat.reduceAdd, Nat.reduceEqDiff, Nat.reduceLeDiff, Nat.reduceSub, ↓reduceIte, reduceIte, Nat.reduceMul, reduceCtorEq, Nat.reduceLT, Int.reduceLT, Int.reduceLE, Int.reduceEq, Int.reduceAdd, Int.reduceSub, Int.reduceNeg, Bool.not_true, Bool.not_false, beq_self_eq_true, Int.reduceBEq, Int.reduceBNe, ge_iff_le, gt_iff_lt, Int.reduceToNat, Bool.and_true, Bool.and_false, Bool.true_and, Bool.false_and]))
    | (refine k_true ?_ ?_; (· (simp (maxSteps := 2000000) only [go_sem, hlt, hk, h0, Nat.reduceAdd, Nat.reduceEqDiff, Nat.reduceLeDiff, Nat.reduceSub, ↓reduceIte, reduceIte, Nat.reduceMul, reduceCtorEq, Nat.reduceLT, Int.reduceLT, Int.reduceLE, Int.reduceEq, Int.reduceAdd, Int.reduceSub, Int.reduceNeg, Bool.not_true, Bool.not_false, beq_self_eq_true, Int.reduceBEq, Int.reduceBNe, ge_iff_le, gt_iff_lt, Int.reduceToNat, Bool.and_true, Bool.and_false, Bool.true_and, Bool.false_and]; done)))
    | (refine k_false ?_ ?_; (· (simp (maxSteps := 2000000) only [go_sem, hlt, hk, h0, Nat.reduceAdd, Nat.reduceEqDiff, Nat.reduceLeDiff, Nat.reduceSub, ↓reduceIte, reduceIte, Nat.reduceMul, reduceCtorEq, Nat.reduceLT, Int.reduceLT, Int.reduceLE, Int.reduceEq, Int.reduceAdd, Int.reduceSub, Int.reduceNeg, Bool.not_true, Bool.not_false, beq_self_eq_true, Int.reduceBEq, Int.reduceBNe, ge_iff_le, gt_iff_lt, Int.reduceToNat, Bool.and_true, Bool.and_false, Bool.true_and, Bool.false_and]; done)))
    | (rw [wrap64]; rotate_left 1; (· omega); (· omega); (try simp (maxSteps := 2000000) only [go_sem, hd, hlt, hk, h0, Nat.reduceAdd, Nat.reduceEqDiff, Nat.reduceLeDiff, Nat.reduceSub, ↓reduceIte, reduceIte, Nat.reduceMul, reduceCtorEq, Nat.reduceLT, Int.reduceLT, Int.reduceLE, Int.reduceEq, Int.reduceAdd, Int.reduceSub, Int.reduceNeg, Bool.not_true, Bool.not_false, beq_self_eq_true, Int.reduceBEq, Int.reduceBNe, ge_iff_le, gt_iff_lt, Int.reduceToNat, Bool.and_true, Bool.and_false, Bool.true_and, Bool.false_and]))
    | fail
  rw [bud_step hn]
  repeat' first
    | refine k_seq ?_
    | refine k_block ?_
    | refine n_sq ?_
    | refine n_bl ?_
    | refine k_skip ?_
    | refine k_exit ?_
    | refine x_sq ?_
    | refine x_hit ?_
    | refine x_miss (by decide) ?_
    | refine x_nil (Ex.of hE ?_)
    | refine k_ret ?_
    | refine t_sq ?_
    | refine t_bl ?_
    | refine t_nil (Rt.of hE ?_)
    | refine t_nil ?_
    | (refine k_region (by rfl) fun Q all hd hQ => ?_; simp (maxSteps := 2000000) only [go_sem, hd, Nat.reduceAdd, Nat.reduceEqDiff, Nat.reduceLeDiff, Nat.reduceSub, ↓reduceIte, reduceIte, Nat.reduceMul, reduceCtorEq, Nat.reduceLT, Int.reduceLT, Int.reduceLE, Int.reduceEq, Int.reduceAdd, Int.reduceSub, Int.reduceNeg, Bool.not_true, Bool.not_false, beq_self_eq_true, Int.reduceBEq, Int.reduceBNe, ge_iff_le, gt_iff_lt, Int.reduceToNat, Bool.and_true, Bool.and_false, Bool.true_and, Bool.false_and])
    | (refine k_draw mixed (by kernel_rfl) fun Q all hd hbf hQ => ?_; simp (maxSteps := 2000000) only [go_sem, hd, Nat.reduceAdd, Nat.reduceEqDiff, Nat.reduceLeDiff, Nat.reduceSub, ↓reduceIte, reduceIte, Nat.reduceMul, reduceCtorEq, Nat.reduceLT, Int.reduceLT, Int.reduceLE, Int.reduceEq, Int.reduceAdd, Int.reduceSub, Int.reduceNeg, Bool.not_true, Bool.not_false, beq_self_eq_true, Int.reduceBEq, Int.reduceBNe, ge_iff_le, gt_iff_lt, Int.reduceToNat, Bool.and_true, Bool.and_false, Bool.true_and, Bool.false_and])
    | (refine hQ _ ?_; clear hQ hd; (try clear hbf); clear Q all)
    | (refine k_true ?_ ?_; (· (simp (maxSteps := 2000000) only [go_sem, Nat.reduceAdd, Nat.reduceEqDiff, Nat.reduceLeDiff, Nat.reduceSub, ↓reduceIte, reduceIte, Nat.reduceMul, reduceCtorEq, Nat.reduceLT, Int.reduceLT, Int.reduceLE, Int.reduceEq, Int.reduceAdd, Int.reduceSub, Int.reduceNeg, Bool.not_true, Bool.not_false, beq_self_eq_true, Int.reduceBEq, Int.reduceBNe, ge_iff_le, gt_iff_lt, Int.reduceToNat, Bool.and_true, Bool.and_false, Bool.true_and, Bool.false_and]; done)))
    | (refine k_false ?_ ?_; (· (simp (maxSteps := 2000000) only [go_sem, Nat.reduceAdd, Nat.reduceEqDiff, Nat.reduceLeDiff, Nat.reduceSub, ↓reduceIte, reduceIte, Nat.reduceMul, reduceCtorEq, Nat.reduceLT, Int.reduceLT, Int.reduceLE, Int.reduceEq, Int.reduceAdd, Int.reduceSub, Int.reduceNeg, Bool.not_true, Bool.not_false, beq_self_eq_true, Int.reduceBEq, Int.reduceBNe, ge_iff_le, gt_iff_lt, Int.reduceToNat, Bool.and_true, Bool.and_false, Bool.true_and, Bool.false_and]; done)))
    | (rw [wrap64]; rotate_left 1; (· omega); (· omega); (try simp (maxSteps := 2000000) only [go_sem, hd, Nat.reduceAdd, Nat.reduceEqDiff, Nat.reduceLeDiff, Nat.reduceSub, ↓reduceIte, reduceIte, Nat.reduceMul, reduceCtorEq, Nat.reduceLT, Int.reduceLT, Int.reduceLE, Int.reduceEq, Int.reduceAdd, Int.reduceSub, Int.reduceNeg, Bool.not_true, Bool.not_false, beq_self_eq_true, Int.reduceBEq, Int.reduceBNe, ge_iff_le, gt_iff_lt, Int.reduceToNat, Bool.and_true, Bool.and_false, Bool.true_and, Bool.false_and]))
    | fail
  refine n_nil (hN (t.kids.length - (i + 1)) _ _ (by omega) (weak_keep (l := [(1, tI (bud (t.t.few 300 && (t.kids.take (i + 1)).all Pr.fewT) m (1 + ((t.kids.take (i + 1)).map Pr.size).sum))), (2, .c (.ref 0 0)), (5, tI (i + 1))]) (by rw [sum_take_succ _ _ _ hlt', all_take_succ _ _ _ hlt', ← Nat.add_assoc, Bool.and_assoc]; simp (maxSteps := 2000000) only [go_sem, Nat.reduceAdd, Nat.reduceEqDiff, Nat.reduceLeDiff, Nat.reduceSub, ↓reduceIte, reduceIte, Nat.reduceMul, reduceCtorEq, Nat.reduceLT, Int.reduceLT, Int.reduceLE, Int.reduceEq, Int.reduceAdd, Int.reduceSub, Int.reduceNeg, Bool.not_true, Bool.not_false, beq_self_eq_true, Int.reduceBEq, Int.reduceBNe, ge_iff_le, gt_iff_lt, Int.reduceToNat, Bool.and_true, Bool.and_false, Bool.true_and, Bool.false_and]; try rfl)) ⟨(i + 1), rfl, by omega, rfl⟩)
termination_by SizeOf.sizeOf t
decreasing_by all_goals exact Pr.kid_lt (List.getElem_mem _)

theorem few03_pure (t : Pr) (m : Nat) (hm : m ≤ 100000) : PureC Kx 11 [tG t.enc, tI m] (tB (t.few m)) := by
  refine pure_of_can Try.func11 rfl (nt := 14) rfl rfl (by decide) (by simp) (by simp (maxSteps := 2000000) only [go_sem, Nat.reduceAdd, Nat.reduceEqDiff, Nat.reduceLeDiff, Nat.reduceSub, ↓reduceIte, reduceIte, Nat.reduceMul, reduceCtorEq, Nat.reduceLT, Int.reduceLT, Int.reduceLE, Int.reduceEq, Int.reduceAdd, Int.reduceSub, Int.reduceNeg, Bool.not_true, Bool.not_false, beq_self_eq_true, Int.reduceBEq, Int.reduceBNe, ge_iff_le, gt_iff_lt, Int.reduceToNat, Bool.and_true, Bool.and_false, Bool.true_and, Bool.false_and]) fun Φ hΦ => ?_
  by_cases h1 : (0 : Int) ≤ bud t.fewT m t.size
  case neg =>
    repeat' first
      | refine k_seq ?_
      | refine k_block ?_
      | refine n_sq ?_
      | refine n_bl ?_
      | refine k_skip ?_
      | refine k_exit ?_
      | refine x_sq ?_
      | refine x_hit ?_
      | refine x_miss (by decide) ?_
      | refine x_nil (Ex.of hE ?_)
      | refine k_ret ?_
      | refine t_sq ?_
      | refine t_bl ?_
      | refine t_nil (Rt.of hE ?_)
      | refine t_nil ?_
      | (refine k_region (by rfl) fun Q all hd hQ => ?_; simp (maxSteps := 2000000) only [go_sem, hd, h1, Nat.reduceAdd, Nat.reduceEqDiff, Nat.reduceLeDiff, Nat.reduceSub, ↓reduceIte, reduceIte, Nat.reduceMul, reduceCtorEq, Nat.reduceLT, Int.reduceLT, Int.reduceLE, Int.reduceEq, Int.reduceAdd, Int.reduceSub, Int.reduceNeg, Bool.not_true, Bool.not_false, beq_self_eq_true, Int.reduceBEq, Int.reduceBNe, ge_iff_le, gt_iff_lt, Int.reduceToNat, Bool.and_true, Bool.and_false, Bool.true_and, Bool.false_and])
      | (refine k_draw mixed (by kernel_rfl) fun Q all hd hbf hQ => ?_; simp (maxSteps := 2000000) only [go_sem, hd, h1, Nat.reduceAdd, Nat.reduceEqDiff, Nat.reduceLeDiff, Nat.reduceSub, ↓reduceIte, reduceIte, Nat.reduceMul, reduceCtorEq, Nat.reduceLT, Int.reduceLT, Int.reduceLE, Int.reduceEq, Int.reduceAdd, Int.reduceSub, Int.reduceNeg, Bool.not_true, Bool.not_false, beq_self_eq_true, Int.reduceBEq, Int.reduceBNe, ge_iff_le, gt_iff_lt, Int.reduceToNat, Bool.and_true, Bool.and_false, Bool.true_and, Bool.false_and])
      | (refine hQ _ ?_; clear hQ hd; (try clear hbf); clear Q all)
      | (apply callW_fz (left_pure t m hm); (· (simp (maxSteps := 2000000) only [go_sem, h1, Nat.reduceAdd, Nat.reduceEqDiff, Nat.reduceLeDiff, Nat.reduceSub, ↓reduceIte, reduceIte, Nat.reduceMul, reduceCtorEq, Nat.reduceLT, Int.reduceLT, Int.reduceLE, Int.reduceEq, Int.reduceAdd, Int.reduceSub, Int.reduceNeg, Bool.not_true, Bool.not_false, beq_self_eq_true, Int.reduceBEq, Int.reduceBNe, ge_iff_le, gt_iff_lt, Int.reduceToNat, Bool.and_true, Bool.and_false, Bool.true_and, Bool.false_and]; rfl)); (try simp (maxSteps := 2000000) only [go_sem, hd, h1, Nat.reduceAdd, Nat.reduceEqDiff, Nat.reduceLeDiff, Nat.reduceSub, ↓reduceIte, reduceIte, Nat.reduceMul, reduceCtorEq, Nat.reduceLT, Int.reduceLT, Int.reduceLE, Int.reduceEq, Int.reduceAdd, Int.reduceSub, Int.reduceNeg, Bool.not_true, Bool.not_false, beq_self_eq_true, Int.reduceBEq, Int.reduceBNe, ge_iff_le, gt_iff_lt, Int.reduceToNat, Bool.and_true, Bool.and_false, Bool.true_and, Bool.false_and]))
      | (apply callD_pure (left_pure t m hm); (· (simp (maxSteps := 2000000) only [go_sem, h1, Nat.reduceAdd, Nat.reduceEqDiff, Nat.reduceLeDiff, Nat.reduceSub, ↓reduceIte, reduceIte, Nat.reduceMul, reduceCtorEq, Nat.reduceLT, Int.reduceLT, Int.reduceLE, Int.reduceEq, Int.reduceAdd, Int.reduceSub, Int.reduceNeg, Bool.not_true, Bool.not_false, beq_self_eq_true, Int.reduceBEq, Int.reduceBNe, ge_iff_le, gt_iff_lt, Int.reduceToNat, Bool.and_true, Bool.and_false, Bool.true_and, Bool.false_and]; rfl)); (try simp (maxSteps := 2000000) only [go_sem, hd, h1, Nat.reduceAdd, Nat.reduceEqDiff, Nat.reduceLeDiff, Nat.reduceSub, ↓reduceIte, reduceIte, Nat.reduceMul, reduceCtorEq, Nat.reduceLT, Int.reduceLT, Int.reduceLE, Int.reduceEq, Int.reduceAdd, Int.reduceSub, Int.reduceNeg, Bool.not_true, Bool.not_false, beq_self_eq_true, Int.reduceBEq, Int.reduceBNe, ge_iff_le, gt_iff_lt, Int.reduceToNat, Bool.and_true, Bool.and_false, Bool.true_and, Bool.false_and]))
      | (refine k_true ?_ ?_; (· (simp (maxSteps := 2000000) only [go_sem, h1, Nat.reduceAdd, Nat.reduceEqDiff, Nat.reduceLeDiff, Nat.reduceSub, ↓reduceIte, reduceIte, Nat.reduceMul, reduceCtorEq, Nat.reduceLT, Int.reduceLT, Int.reduceLE, Int.reduceEq, Int.reduceAdd, Int.reduceSub, Int.reduceNeg, Bool.not_true, Bool.not_false, beq_self_eq_true, Int.reduceBEq, Int.reduceBNe, ge_iff_le, gt_iff_lt, Int.reduceToNat, Bool.and_true, Bool.and_false, Bool.true_and, Bool.false_and]; done)))
      | (refine k_false ?_ ?_; (· (simp (maxSteps := 2000000) only [go_sem, h1, Nat.reduceAdd, Nat.reduceEqDiff, Nat.reduceLeDiff, Nat.reduceSub, ↓reduceIte, reduceIte, Nat.reduceMul, reduceCtorEq, Nat.reduceLT, Int.reduceLT, Int.reduceLE, Int.reduceEq, Int.reduceAdd, Int.reduceSub, Int.reduceNeg, Bool.not_true, Bool.not_false, beq_self_eq_true, Int.reduceBEq, Int.reduceBNe, ge_iff_le, gt_iff_lt, Int.reduceToNat, Bool.and_true, Bool.and_false, Bool.true_and, Bool.false_and]; done)))
      | (rw [wrap64]; rotate_left 1; (· omega); (· omega); (try simp (maxSteps := 2000000) only [go_sem, hd, h1, Nat.reduceAdd, Nat.reduceEqDiff, Nat.reduceLeDiff, Nat.reduceSub, ↓reduceIte, reduceIte, Nat.reduceMul, reduceCtorEq, Nat.reduceLT, Int.reduceLT, Int.reduceLE, Int.reduceEq, Int.reduceAdd, Int.reduceSub, Int.reduceNeg, Bool.not_true, Bool.not_false, beq_self_eq_true, Int.reduceBEq, Int.reduceBNe, ge_iff_le, gt_iff_lt, Int.reduceToNat, Bool.and_true, Bool.and_false, Bool.true_and, Bool.false_and]))
      | fail
    apply And.left
    apply hΦ
    · simp (maxSteps := 2000000) only [go_sem, resT, resOne, Nat.reduceAdd, Nat.reduceEqDiff, Nat.reduceLeDiff, Nat.reduceSub, ↓reduceIte, reduceIte, Nat.reduceMul, reduceCtorEq, Nat.reduceLT, Int.reduceLT, Int.reduceLE, Int.reduceEq, Int.reduceAdd, Int.reduceSub, Int.reduceNeg, Bool.not_true, Bool.not_false, beq_self_eq_true, Int.reduceBEq, Int.reduceBNe, ge_iff_le, gt_iff_lt, Int.reduceToNat, Bool.and_true, Bool.and_false, Bool.true_and, Bool.false_and]; rfl
    · simp only [Pr.few, decide_eq_false h1]; rfl
    · simp (maxSteps := 2000000) only [go_sem, Nat.reduceAdd, Nat.reduceEqDiff, Nat.reduceLeDiff, Nat.reduceSub, ↓reduceIte, reduceIte, Nat.reduceMul, reduceCtorEq, Nat.reduceLT, Int.reduceLT, Int.reduceLE, Int.reduceEq, Int.reduceAdd, Int.reduceSub, Int.reduceNeg, Bool.not_true, Bool.not_false, beq_self_eq_true, Int.reduceBEq, Int.reduceBNe, ge_iff_le, gt_iff_lt, Int.reduceToNat, Bool.and_true, Bool.and_false, Bool.true_and, Bool.false_and]
  have h2 := (bud_nonneg.1 h1).2
  repeat' first
    | refine k_seq ?_
    | refine k_block ?_
    | refine n_sq ?_
    | refine n_bl ?_
    | refine k_skip ?_
    | refine k_exit ?_
    | refine x_sq ?_
    | refine x_hit ?_
    | refine x_miss (by decide) ?_
    | refine x_nil (Ex.of hE ?_)
    | refine k_ret ?_
    | refine t_sq ?_
    | refine t_bl ?_
    | refine t_nil (Rt.of hE ?_)
    | refine t_nil ?_
    | (refine k_region (by rfl) fun Q all hd hQ => ?_; simp (maxSteps := 2000000) only [go_sem, hd, h1, Nat.reduceAdd, Nat.reduceEqDiff, Nat.reduceLeDiff, Nat.reduceSub, ↓reduceIte, reduceIte, Nat.reduceMul, reduceCtorEq, Nat.reduceLT, Int.reduceLT, Int.reduceLE, Int.reduceEq, Int.reduceAdd, Int.reduceSub, Int.reduceNeg, Bool.not_true, Bool.not_false, beq_self_eq_true, Int.reduceBEq, Int.reduceBNe, ge_iff_le, gt_iff_lt, Int.reduceToNat, Bool.and_true, Bool.and_false, Bool.true_and, Bool.false_and])
    | (refine k_draw mixed (by kernel_rfl) fun Q all hd hbf hQ => ?_; simp (maxSteps := 2000000) only [go_sem, hd, h1, Nat.reduceAdd, Nat.reduceEqDiff, Nat.reduceLeDiff, Nat.reduceSub, ↓reduceIte, reduceIte, Nat.reduceMul, reduceCtorEq, Nat.reduceLT, Int.reduceLT, Int.reduceLE, Int.reduceEq, Int.reduceAdd, Int.reduceSub, Int.reduceNeg, Bool.not_true, Bool.not_false, beq_self_eq_true, Int.reduceBEq, Int.reduceBNe, ge_iff_le, gt_iff_lt, Int.reduceToNat, Bool.and_true, Bool.and_false, Bool.true_and, Bool.false_and])
    | (refine hQ _ ?_; clear hQ hd; (try clear hbf); clear Q all)
    | (apply callW_fz (left_pure t m hm); (· (simp (maxSteps := 2000000) only [go_sem, h1, Nat.reduceAdd, Nat.reduceEqDiff, Nat.reduceLeDiff, Nat.reduceSub, ↓reduceIte, reduceIte, Nat.reduceMul, reduceCtorEq, Nat.reduceLT, Int.reduceLT, Int.reduceLE, Int.reduceEq, Int.reduceAdd, Int.reduceSub, Int.reduceNeg, Bool.not_true, Bool.not_false, beq_self_eq_true, Int.reduceBEq, Int.reduceBNe, ge_iff_le, gt_iff_lt, Int.reduceToNat, Bool.and_true, Bool.and_false, Bool.true_and, Bool.false_and]; rfl)); (try simp (maxSteps := 2000000) only [go_sem, hd, h1, Nat.reduceAdd, Nat.reduceEqDiff, Nat.reduceLeDiff, Nat.reduceSub, ↓reduceIte, reduceIte, Nat.reduceMul, reduceCtorEq, Nat.reduceLT, Int.reduceLT, Int.reduceLE, Int.reduceEq, Int.reduceAdd, Int.reduceSub, Int.reduceNeg, Bool.not_true, Bool.not_false, beq_self_eq_true, Int.reduceBEq, Int.reduceBNe, ge_iff_le, gt_iff_lt, Int.reduceToNat, Bool.and_true, Bool.and_false, Bool.true_and, Bool.false_and]))
    | (apply callD_pure (left_pure t m hm); (· (simp (maxSteps := 2000000) only [go_sem, h1, Nat.reduceAdd, Nat.reduceEqDiff, Nat.reduceLeDiff, Nat.reduceSub, ↓reduceIte, reduceIte, Nat.reduceMul, reduceCtorEq, Nat.reduceLT, Int.reduceLT, Int.reduceLE, Int.reduceEq, Int.reduceAdd, Int.reduceSub, Int.reduceNeg, Bool.not_true, Bool.not_false, beq_self_eq_true, Int.reduceBEq, Int.reduceBNe, ge_iff_le, gt_iff_lt, Int.reduceToNat, Bool.and_true, Bool.and_false, Bool.true_and, Bool.false_and]; rfl)); (try simp (maxSteps := 2000000) only [go_sem, hd, h1, Nat.reduceAdd, Nat.reduceEqDiff, Nat.reduceLeDiff, Nat.reduceSub, ↓reduceIte, reduceIte, Nat.reduceMul, reduceCtorEq, Nat.reduceLT, Int.reduceLT, Int.reduceLE, Int.reduceEq, Int.reduceAdd, Int.reduceSub, Int.reduceNeg, Bool.not_true, Bool.not_false, beq_self_eq_true, Int.reduceBEq, Int.reduceBNe, ge_iff_le, gt_iff_lt, Int.reduceToNat, Bool.and_true, Bool.and_false, Bool.true_and, Bool.false_and]))
    | (apply callW_fz (depthPr_pure t (by omega)); (· (simp (maxSteps := 2000000) only [go_sem, h1, Nat.reduceAdd, Nat.reduceEqDiff, Nat.reduceLeDiff, Nat.reduceSub, ↓reduceIte, reduceIte, Nat.reduceMul, reduceCtorEq, Nat.reduceLT, Int.reduceLT, Int.reduceLE, Int.reduceEq, Int.reduceAdd, Int.reduceSub, Int.reduceNeg, Bool.not_true, Bool.not_false, beq_self_eq_true, Int.reduceBEq, Int.reduceBNe, ge_iff_le, gt_iff_lt, Int.reduceToNat, Bool.and_true, Bool.and_false, Bool.true_and, Bool.false_and]; rfl)); (try simp (maxSteps := 2000000) only [go_sem, hd, h1, Nat.reduceAdd, Nat.reduceEqDiff, Nat.reduceLeDiff, Nat.reduceSub, ↓reduceIte, reduceIte, Nat.reduceMul, reduceCtorEq, Nat.reduceLT, Int.reduceLT, Int.reduceLE, Int.reduceEq, Int.reduceAdd, Int.reduceSub, Int.reduceNeg, Bool.not_true, Bool.not_false, beq_self_eq_true, Int.reduceBEq, Int.reduceBNe, ge_iff_le, gt_iff_lt, Int.reduceToNat, Bool.and_true, Bool.and_false, Bool.true_and, Bool.false_and]))
    | (apply callD_pure (depthPr_pure t (by omega)); (· (simp (maxSteps := 2000000) only [go_sem, h1, Nat.reduceAdd, Nat.reduceEqDiff, Nat.reduceLeDiff, Nat.reduceSub, ↓reduceIte, reduceIte, Nat.reduceMul, reduceCtorEq, Nat.reduceLT, Int.reduceLT, Int.reduceLE, Int.reduceEq, Int.reduceAdd, Int.reduceSub, Int.reduceNeg, Bool.not_true, Bool.not_false, beq_self_eq_true, Int.reduceBEq, Int.reduceBNe, ge_iff_le, gt_iff_lt, Int.reduceToNat, Bool.and_true, Bool.and_false, Bool.true_and, Bool.false_and]; rfl)); (try simp (maxSteps := 2000000) only [go_sem, hd, h1, Nat.reduceAdd, Nat.reduceEqDiff, Nat.reduceLeDiff, Nat.reduceSub, ↓reduceIte, reduceIte, Nat.reduceMul, reduceCtorEq, Nat.reduceLT, Int.reduceLT, Int.reduceLE, Int.reduceEq, Int.reduceAdd, Int.reduceSub, Int.reduceNeg, Bool.not_true, Bool.not_false, beq_self_eq_true, Int.reduceBEq, Int.reduceBNe, ge_iff_le, gt_iff_lt, Int.reduceToNat, Bool.and_true, Bool.and_false, Bool.true_and, Bool.false_and]))
    | (refine k_true ?_ ?_; (· (simp (maxSteps := 2000000) only [go_sem, h1, Nat.reduceAdd, Nat.reduceEqDiff, Nat.reduceLeDiff, Nat.reduceSub, ↓reduceIte, reduceIte, Nat.reduceMul, reduceCtorEq, Nat.reduceLT, Int.reduceLT, Int.reduceLE, Int.reduceEq, Int.reduceAdd, Int.reduceSub, Int.reduceNeg, Bool.not_true, Bool.not_false, beq_self_eq_true, Int.reduceBEq, Int.reduceBNe, ge_iff_le, gt_iff_lt, Int.reduceToNat, Bool.and_true, Bool.and_false, Bool.true_and, Bool.false_and]; done)))
    | (refine k_false ?_ ?_; (· (simp (maxSteps := 2000000) only [go_sem, h1, Nat.reduceAdd, Nat.reduceEqDiff, Nat.reduceLeDiff, Nat.reduceSub, ↓reduceIte, reduceIte, Nat.reduceMul, reduceCtorEq, Nat.reduceLT, Int.reduceLT, Int.reduceLE, Int.reduceEq, Int.reduceAdd, Int.reduceSub, Int.reduceNeg, Bool.not_true, Bool.not_false, beq_self_eq_true, Int.reduceBEq, Int.reduceBNe, ge_iff_le, gt_iff_lt, Int.reduceToNat, Bool.and_true, Bool.and_false, Bool.true_and, Bool.false_and]; done)))
    | (rw [wrap64]; rotate_left 1; (· omega); (· omega); (try simp (maxSteps := 2000000) only [go_sem, hd, h1, Nat.reduceAdd, Nat.reduceEqDiff, Nat.reduceLeDiff, Nat.reduceSub, ↓reduceIte, reduceIte, Nat.reduceMul, reduceCtorEq, Nat.reduceLT, Int.reduceLT, Int.reduceLE, Int.reduceEq, Int.reduceAdd, Int.reduceSub, Int.reduceNeg, Bool.not_true, Bool.not_false, beq_self_eq_true, Int.reduceBEq, Int.reduceBNe, ge_iff_le, gt_iff_lt, Int.reduceToNat, Bool.and_true, Bool.and_false, Bool.true_and, Bool.false_and]))
    | fail
  apply And.left
  apply hΦ
  · simp (maxSteps := 2000000) only [go_sem, resT, resOne, Nat.reduceAdd, Nat.reduceEqDiff, Nat.reduceLeDiff, Nat.reduceSub, ↓reduceIte, reduceIte, Nat.reduceMul, reduceCtorEq, Nat.reduceLT, Int.reduceLT, Int.reduceLE, Int.reduceEq, Int.reduceAdd, Int.reduceSub, Int.reduceNeg, Bool.not_true, Bool.not_false, beq_self_eq_true, Int.reduceBEq, Int.reduceBNe, ge_iff_le, gt_iff_lt, Int.reduceToNat, Bool.and_true, Bool.and_false, Bool.true_and, Bool.false_and]; rfl
  · rw [show t.few m = decide ((t.depth : Int) ≤ 150) by simp only [Pr.few, decide_eq_true h1, Bool.true_and]; rw [decide_eq_decide]; omega]; rfl
  · simp (maxSteps := 2000000) only [go_sem, Nat.reduceAdd, Nat.reduceEqDiff, Nat.reduceLeDiff, Nat.reduceSub, ↓reduceIte, reduceIte, Nat.reduceMul, reduceCtorEq, Nat.reduceLT, Int.reduceLT, Int.reduceLE, Int.reduceEq, Int.reduceAdd, Int.reduceSub, Int.reduceNeg, Bool.not_true, Bool.not_false, beq_self_eq_true, Int.reduceBEq, Int.reduceBNe, ge_iff_le, gt_iff_lt, Int.reduceToNat, Bool.and_true, Bool.and_false, Bool.true_and, Bool.false_and]

end Go.Proofs.Ythnnnnaifnddbaa

