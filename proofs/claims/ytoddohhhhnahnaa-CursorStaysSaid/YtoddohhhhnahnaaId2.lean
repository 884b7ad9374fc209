/- Identifiers: less. -/
import Derived.Test.YtoddohhhhnahnaaId1
namespace Go.Proofs.Ytoddohhhhnahnaa
open Go.RowKit

theorem less_cmp (c a c2 a2 : Int) : decide ((if cmpI c c2 = 0 then cmpI a a2 else cmpI c c2) < 0) = Rga.less ⟨c, a⟩ ⟨c2, a2⟩ := by
  rw [Bool.eq_iff_iff, decide_eq_true_iff, Rga.less_iff]
  simp only [cmpI]
  repeat' split
  all_goals omega

set_option maxHeartbeats 1600000 in
theorem less_any (c a c2 a2 : Int) (w : World) : Calls Try.prog 56 #[.agg #[.int .i64 c, .int .i64 a], .agg #[.int .i64 c2, .int .i64 a2]] w fun e w' => e = .returned (.bool (Rga.less ⟨c, a⟩ ⟨c2, a2⟩)) ∧ Keeps NoB w w' := by
  go_enter Try.func56, Try.ntmps56
  go_wp2
  refine wpD_begin (n := 14) (l := [false, false, false, false, false, false, false, false, false, false, false, false, false, false].toArray) [13] (fun w' => w'.cell? ⟨w.heap.size, 0, none⟩ = some (.int .i64 c) ∧ w'.cell? ⟨w.heap.size, 1, none⟩ = some (.int .i64 a) ∧ w'.cell? ⟨w.heap.size + 1, 0, none⟩ = some (.int .i64 c2) ∧ w'.cell? ⟨w.heap.size + 1, 1, none⟩ = some (.int .i64 a2)) (by kernel_rfl) (by kernel_rfl) (by kernel_rfl) ?_ (fun hS => ?_)
  · first | (go_keep; done) | go_simp
  try dsimp only at hS
  refine wpD_takeL (i := 0) (v := ?v1_0) rfl (by kernel_rfl) (by kernel_rfl) (by kernel_rfl) (fun _ _ _ h => h) (Or.inl ⟨by rfl, ?hy1_0⟩) ?_
  case hy1_0 => (intro w; go_simp; try with_reducible rfl)
  simp only [Act.put, List.setIfInBounds_toArray, List.set_cons_zero, List.set_cons_succ]
  refine wpD_takeL (i := 2) (v := ?v1_2) rfl (by kernel_rfl) (by kernel_rfl) (by kernel_rfl) (fun _ _ _ h => h) (Or.inl ⟨by rfl, ?hy1_2⟩) ?_
  case hy1_2 => (intro w; go_simp; try with_reducible rfl)
  simp only [Act.put, List.setIfInBounds_toArray, List.set_cons_zero, List.set_cons_succ]
  refine wpD_takeL (i := 5) (v := ?v1_5) rfl (by kernel_rfl) (by kernel_rfl) (by kernel_rfl) (fun _ _ _ h => h) (Or.inl ⟨by rfl, ?hy1_5⟩) ?_
  case hy1_5 => (intro w; go_simp; try with_reducible rfl)
  simp only [Act.put, List.setIfInBounds_toArray, List.set_cons_zero, List.set_cons_succ]
  refine wpD_takeL (i := 7) (v := ?v1_7) rfl (by kernel_rfl) (by kernel_rfl) (by kernel_rfl) (fun _ _ _ h => h) (Or.inl ⟨by rfl, ?hy1_7⟩) ?_
  case hy1_7 => (intro w; go_simp; try with_reducible rfl)
  simp only [Act.put, List.setIfInBounds_toArray, List.set_cons_zero, List.set_cons_succ]
  refine wpD_loadL (i := 1) (v := ?v1_1) rfl (by kernel_rfl) (by kernel_rfl) (by kernel_rfl) (by kernel_rfl) (fun _ _ _ h => h) (Or.inl ⟨by rfl, ?hy1_1⟩) hS ?_
  case hy1_1 => (intro w hSw; (try dsimp only at hSw); go_simp; try with_reducible rfl)
  simp only [Act.put, List.setIfInBounds_toArray, List.set_cons_zero, List.set_cons_succ]
  refine wpD_loadL (i := 3) (v := ?v1_3) rfl (by kernel_rfl) (by kernel_rfl) (by kernel_rfl) (by kernel_rfl) (fun _ _ _ h => h) (Or.inl ⟨by rfl, ?hy1_3⟩) hS ?_
  case hy1_3 => (intro w hSw; (try dsimp only at hSw); go_simp; try with_reducible rfl)
  simp only [Act.put, List.setIfInBounds_toArray, List.set_cons_zero, List.set_cons_succ]
  refine wpD_loadL (i := 6) (v := ?v1_6) rfl (by kernel_rfl) (by kernel_rfl) (by kernel_rfl) (by kernel_rfl) (fun _ _ _ h => h) (Or.inl ⟨by rfl, ?hy1_6⟩) hS ?_
  case hy1_6 => (intro w hSw; (try dsimp only at hSw); go_simp; try with_reducible rfl)
  simp only [Act.put, List.setIfInBounds_toArray, List.set_cons_zero, List.set_cons_succ]
  refine wpD_loadL (i := 8) (v := ?v1_8) rfl (by kernel_rfl) (by kernel_rfl) (by kernel_rfl) (by kernel_rfl) (fun _ _ _ h => h) (Or.inl ⟨by rfl, ?hy1_8⟩) hS ?_
  case hy1_8 => (intro w hSw; (try dsimp only at hSw); go_simp; try with_reducible rfl)
  simp only [Act.put, List.setIfInBounds_toArray, List.set_cons_zero, List.set_cons_succ]
  -- MID 4: F68 cmp.Compare[int](t6, t8)
  refine wpD_mid (i := 4) (by kernel_rfl) rfl (fun K hK => ?_)
  go_simp
  go_at_call 68
  refine (compare_any _ _ _).mono ?_
  rintro e w' ⟨rfl, rfl⟩
  refine hK.out _ _ (fun hSw => ?_) ?_
  · first | exact hSw | (go_keep; done)
  clear hK K
  simp only [List.setIfInBounds_toArray, List.set_cons_zero, List.set_cons_succ]
  -- MID 9: F68 cmp.Compare[int](t11, t13)
  refine wpD_mid (i := 9) (by kernel_rfl) rfl (fun K hK => ?_)
  go_simp
  go_at_call 68
  refine (compare_any _ _ _).mono ?_
  rintro e w' ⟨rfl, rfl⟩
  refine hK.out _ _ (fun hSw => ?_) ?_
  · first | exact hSw | (go_keep; done)
  clear hK K
  simp only [List.setIfInBounds_toArray, List.set_cons_zero, List.set_cons_succ]
  -- MID 10: buildSlice 126 2 [(0, t9), (1, t14)]
  refine wpD_mid (i := 10) (by kernel_rfl) rfl (fun K hK => ?_)
  go_simp
  refine hK.out _ _ (fun hSw => ?_) ?_
  · go_keep
  clear hK K
  simp only [List.setIfInBounds_toArray, List.set_cons_zero, List.set_cons_succ]
  -- MID 11: F69 cmp.Or[int](t15)
  refine wpD_mid (i := 11) (by kernel_rfl) rfl (fun K hK => ?_)
  go_simp
  go_at_call 69
  refine (or2_any _ _ (cmpI c c2) (cmpI a a2) (by go_simp) (by go_simp)).mono ?_
  rintro e w' ⟨rfl, rfl⟩
  refine hK.out _ _ (fun hSw => ?_) ?_
  · first | exact hSw | (go_keep; done)
  clear hK K
  simp only [List.setIfInBounds_toArray, List.set_cons_zero, List.set_cons_succ]
  refine wpD_takeL (i := 12) (v := ?v1_12) rfl (by kernel_rfl) (by kernel_rfl) (by kernel_rfl) (fun _ _ _ h => h) (Or.inl ⟨by rfl, ?hy1_12⟩) ?_
  case hy1_12 => (intro w; go_simp; try with_reducible rfl)
  simp only [Act.put, List.setIfInBounds_toArray, List.set_cons_zero, List.set_cons_succ]
  refine wpD_tail 13 [13] (by kernel_rfl) (by kernel_rfl) ?_
  simp only [List.drop_succ_cons, List.drop_zero]
  clear hS
  go_wp2
  all_goals
    have e1 := less_cmp c a c2 a2
    simp only [h, if_true, if_false] at e1
    go_ret
    exact ⟨by rw [← e1]; rfl, (((((Keeps.refl NoB w).alloc _).alloc _).drew).alloc _)⟩
end Go.Proofs.Ytoddohhhhnahnaa
