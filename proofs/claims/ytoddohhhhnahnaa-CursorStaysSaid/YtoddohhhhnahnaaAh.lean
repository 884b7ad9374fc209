/- The sequence: Ahead. -/
import Derived.Test.YtoddohhhhnahnaaQr
namespace Go.Proofs.Ytoddohhhhnahnaa
open Go.RowKit

set_option maxHeartbeats 1600000 in
set_option maxRecDepth 100000 in
theorem ahead_any (w : World) (F : Nat → Prop) (x : Nat) (es : List Rga.El) (top : Int) (h : Lies w F x es top) (i : Rga.Id) (hi : 0 ≤ posI es i) :
    Calls Try.prog 30 #[.pointer (some ⟨x, 0, none⟩), .agg #[.int .i64 i.ctr, .int .i64 i.author]] w (intKeeps w (aheadE es i)) := by
  obtain ⟨S, os, vec, f, h, hb⟩ := h
  have h' := h.keep ((Keeps.refl NoB w).alloc (.cells #[.int .i64 i.ctr, .int .i64 i.author] 24)) (fun _ _ e => e)
  have HP := Lib.hid (rplace_any _ x S.ev S.ix S.ov S.vv (.map (some S.mb)) top es h'.head.drew h'.els.drew i)
  have HI : Hid (IdxAt (w.alloc (.cells #[.int .i64 i.ctr, .int .i64 i.author] 24)).drew S.Fi S.ix S.lv S.rs) := Lib.hid (h'.idx.kept (Nat.le_refl _) (fun _ _ _ _ _ => rfl))
  have c1 : w.cell? ⟨x, 1, none⟩ = some (.pointer (some ⟨S.ix, 0, none⟩)) := h.head.cell 1
  have hpl : posI es i < (marks S.rs).length := by
    rw [h.mks, List.length_map]
    rcases posI_range es i with ⟨e, _⟩ | ⟨k, _, e, hk, _⟩ <;> omega
  have HPP := Lib.hid (And.intro hi hpl)
  have HE : Hid (aheadE es i = (cnt ((marks S.rs).take (posI es i).toNat) : Int)) := Lib.hid (by rw [h.mks]; rfl)
  have xlt := h.head.lt
  clear h h' hi hpl
  generalize aheadE es i = q at *
  generalize posI es i = p at *
  go_enter Try.func30, Try.ntmps30
  go_wp2_with fail
  refine wpD_begin (n := 9) (l := [false, false, false, false, false, false, false, false, false].toArray) [7, 8] (fun w' => w'.cell? ⟨x, 1, none⟩ = some (.pointer (some ⟨S.ix, 0, none⟩)) ∧ w'.cell? ⟨w.heap.size, 0, none⟩ = some (.int .i64 i.ctr) ∧ w'.cell? ⟨w.heap.size, 1, none⟩ = some (.int .i64 i.author)) (by kernel_rfl) (by kernel_rfl) (by kernel_rfl) ?_ (fun hS => ?_)
  · first | (go_keep; done) | go_simp
  try dsimp only at hS
  refine wpD_takeL (i := 0) (v := ?vh_0) rfl (by kernel_rfl) (by kernel_rfl) (by kernel_rfl) (fun _ _ _ h => h) (Or.inl ⟨by rfl, ?hyh_0⟩) ?_
  case hyh_0 => (intro w; go_simp; try with_reducible rfl)
  simp only [Act.put, List.setIfInBounds_toArray, List.set_cons_zero, List.set_cons_succ]
  refine wpD_takeL (i := 1) (v := ?vh_1) rfl (by kernel_rfl) (by kernel_rfl) (by kernel_rfl) (fun _ _ _ h => h) (Or.inl ⟨by rfl, ?hyh_1⟩) ?_
  case hyh_1 => (intro w; go_simp; try with_reducible rfl)
  simp only [Act.put, List.setIfInBounds_toArray, List.set_cons_zero, List.set_cons_succ]
  refine wpD_takeL (i := 2) (v := ?vh_2) rfl (by kernel_rfl) (by kernel_rfl) (by kernel_rfl) (fun _ _ _ h => h) (Or.inl ⟨by rfl, ?hyh_2⟩) ?_
  case hyh_2 => (intro w; go_simp; try with_reducible rfl)
  simp only [Act.put, List.setIfInBounds_toArray, List.set_cons_zero, List.set_cons_succ]
  refine wpD_takeL (i := 4) (v := ?vh_4) rfl (by kernel_rfl) (by kernel_rfl) (by kernel_rfl) (fun _ _ _ h => h) (Or.inl ⟨by rfl, ?hyh_4⟩) ?_
  case hyh_4 => (intro w; go_simp; try with_reducible rfl)
  simp only [Act.put, List.setIfInBounds_toArray, List.set_cons_zero, List.set_cons_succ]
  refine wpD_loadL (i := 3) (v := ?vh_3) rfl (by kernel_rfl) (by kernel_rfl) (by kernel_rfl) (by kernel_rfl) (fun _ _ _ h => h) (Or.inl ⟨by rfl, ?hyh_3⟩) hS ?_
  case hyh_3 => (intro w hSw; (try dsimp only at hSw); go_simp; try with_reducible rfl)
  simp only [Act.put, List.setIfInBounds_toArray, List.set_cons_zero, List.set_cons_succ]
  refine wpD_loadL (i := 5) (v := ?vh_5) rfl (by kernel_rfl) (by kernel_rfl) (by kernel_rfl) (by kernel_rfl) (fun _ _ _ h => h) (Or.inl ⟨by rfl, ?hyh_5⟩) hS ?_
  case hyh_5 => (intro w hSw; (try dsimp only at hSw); go_simp; try with_reducible rfl)
  simp only [Act.put, List.setIfInBounds_toArray, List.set_cons_zero, List.set_cons_succ]
  -- MID 6: F38 rga.Text).place(t9, t10)
  refine wpD_mid (i := 6) (by kernel_rfl) rfl (fun K hK => ?_)
  go_simp
  go_at_call 38
  refine HP.out.mono ?_
  rintro e w1 ⟨rfl, hk1⟩
  refine hK.out _ _ (fun hSw => ?_) ?_
  · exact ⟨hk1.some hSw.1, hk1.some hSw.2.1, hk1.some hSw.2.2⟩
  clear hK K
  simp only [List.setIfInBounds_toArray, List.set_cons_zero, List.set_cons_succ]
  refine wpD_tail 7 [7, 8] (by kernel_rfl) (by kernel_rfl) ?_
  simp only [List.drop_succ_cons, List.drop_zero]
  clear hS
  have HR := Lib.hid (rank_mid w1 S.Fi S.ix S.lv S.rs (HI.out.kept hk1.size (fun g cs t hg _ => hk1.block g (Array.getElem?_eq_some_iff.1 hg).1 (fun e => e))) p (by have := HPP.out.1; omega) HPP.out.2)
  have hk1 := Lib.hid hk1
  go_wp2_with (first | (go_at_call 48; refine HR.out.mono ?_; rintro e w2 ⟨n, rfl, rfl⟩))
  go_ret
  rw [HE.out]
  exact ⟨rfl, (((Keeps.refl NoB w).alloc _).drew.trans hk1.out).drewN _⟩
end Go.Proofs.Ytoddohhhhnahnaa
