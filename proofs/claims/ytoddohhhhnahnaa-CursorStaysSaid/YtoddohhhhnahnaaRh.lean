/- The document's text: Has. -/
import Derived.Test.YtoddohhhhnahnaaRk
import Derived.Test.YtoddohhhhnahnaaIx2
namespace Go.Proofs.Ytoddohhhhnahnaa
open Go.RowKit

set_option maxHeartbeats 6400000 in
set_option maxRecDepth 100000 in
theorem rhas_any (w : World) (x : Nat) (lv : Value) (ops : List Rga.Opn) (hx : Cells w x 59 [lv]) (hr : Row w 49 7 lv ops.length (opsV ops)) (i : Rga.Id) :
    Calls Try.prog 47 #[.pointer (some ⟨x, 0, none⟩), .agg #[.int .i64 i.ctr, .int .i64 i.author]] w (boolKeeps w (Rga.has ops i)) := by
  have hn := hr.small
  have hk1 : Keeps NoB w (w.alloc (.cells #[.int .i64 i.ctr, .int .i64 i.author] 24)) := (Keeps.refl NoB w).alloc _
  have hr1 := hr.alloc (.cells #[.int .i64 i.ctr, .int .i64 i.author] 24)
  have hx1 := hx.alloc (.cells #[.int .i64 i.ctr, .int .i64 i.author] 24)
  have hb1 := Cells.new w [.int .i64 i.ctr, .int .i64 i.author] 24
  obtain ⟨A, c, rfl⟩ := hr.slice
  have xlt := hx.lt
  obtain ⟨w1, hw1⟩ : ∃ w1, w1 = w.alloc (.cells #[.int .i64 i.ctr, .int .i64 i.author] 24) := ⟨_, rfl⟩
  go_enter Try.func47, Try.ntmps47
  go_wp2
  rw [← hw1] at hk1 hr1 hx1 hb1 ⊢
  have HW := Lib.hid hw1
  have HR := Lib.hid hr1
  have HK := Lib.hid hk1
  have c0 : w1.cell? ⟨x, 0, none⟩ = some (.slice A ops.length c) := hx1.cell 0
  have b0 : w1.cell? ⟨w.heap.size, 0, none⟩ = some (.int .i64 i.ctr) := hb1.cell 0
  have b1 : w1.cell? ⟨w.heap.size, 1, none⟩ = some (.int .i64 i.author) := hb1.cell 1
  clear hw1 hk1 hr1 hx1 hb1 hr hx
  go_loopw [5] (fun t5 wr => ∃ k m : Nat, k ≤ ops.length ∧ t5 = .int .i64 k ∧ wr = w1.drewN m ∧ Rga.has (ops.take k) i = false) (fun t5 _ => ops.length - (intOf t5).toNat)
  case atStart => exact ⟨0, 0, Nat.zero_le _, rfl, rfl, rfl⟩
  case round =>
    obtain ⟨k, m, hk, rfl, rfl, hno⟩ := hrel
    have HN := Lib.hid hno
    clear hno
    by_cases hkl : k < ops.length
    · obtain ⟨o, ho⟩ : ∃ o, ops[k]? = some o := ⟨_, List.getElem?_eq_getElem hkl⟩
      obtain ⟨g, c', e, hg, hc', p0, p1, _, p3, _⟩ := row_op HR.out k o ho
      cases e
      have HO := Lib.hid ho
      clear ho
      rcases hi : o.ins with _ | _
      · rw [hi] at p3
        have HI := Lib.hid hi
        clear hi
        go_wp2_with fail
        refine wpD_begin (n := 20) (l := [false, false, false, false, false, false, false, false, false, false, false, false, false, false, false, false, false, false, false, false].toArray) [18, 19] (fun w' => w'.cell? ⟨x, 0, none⟩ = some (.slice (some ⟨g, 0, none⟩) ops.length c) ∧ w'.cell? ⟨g, k * 7 + 3, none⟩ = some (.bool false) ∧ w'.cell? ⟨g, k * 7, none⟩ = some (.int .i64 o.id.ctr) ∧ w'.cell? ⟨g, k * 7 + 1, none⟩ = some (.int .i64 o.id.author) ∧ w'.cell? ⟨w.heap.size, 0, none⟩ = some (.int .i64 i.ctr) ∧ w'.cell? ⟨w.heap.size, 1, none⟩ = some (.int .i64 i.author)) (by kernel_rfl) (by kernel_rfl) (by kernel_rfl) ?_ (fun hS => ?_)
        · first | (go_keep; done) | go_simp
        try dsimp only at hS
        refine wpD_takeL (i := 0) (v := ?va_0) rfl (by kernel_rfl) (by kernel_rfl) (by kernel_rfl) (fun _ _ _ h => h) (Or.inl ⟨by rfl, ?hya_0⟩) ?_
        case hya_0 => (intro w; go_simp; try with_reducible rfl)
        simp only [Act.put, List.setIfInBounds_toArray, List.set_cons_zero, List.set_cons_succ]
        refine wpD_takeL (i := 1) (v := ?va_1) rfl (by kernel_rfl) (by kernel_rfl) (by kernel_rfl) (fun _ _ _ h => h) (Or.inl ⟨by rfl, ?hya_1⟩) ?_
        case hya_1 => (intro w; go_simp; try with_reducible rfl)
        simp only [Act.put, List.setIfInBounds_toArray, List.set_cons_zero, List.set_cons_succ]
        refine wpD_takeL (i := 2) (v := ?va_2) rfl (by kernel_rfl) (by kernel_rfl) (by kernel_rfl) (fun _ _ _ h => h) (Or.inl ⟨by rfl, ?hya_2⟩) ?_
        case hya_2 => (intro w; go_simp; try with_reducible rfl)
        simp only [Act.put, List.setIfInBounds_toArray, List.set_cons_zero, List.set_cons_succ]
        refine wpD_takeL (i := 4) (v := ?va_4) rfl (by kernel_rfl) (by kernel_rfl) (by kernel_rfl) (fun _ _ _ h => h) (Or.inl ⟨by rfl, ?hya_4⟩) ?_
        case hya_4 => (intro w; go_simp; try with_reducible rfl)
        simp only [Act.put, List.setIfInBounds_toArray, List.set_cons_zero, List.set_cons_succ]
        refine wpD_loadL (i := 3) (v := ?va_3) rfl (by kernel_rfl) (by kernel_rfl) (by kernel_rfl) (by kernel_rfl) (fun _ _ _ h => h) (Or.inl ⟨by rfl, ?hya_3⟩) hS ?_
        case hya_3 => (intro w hSw; (try dsimp only at hSw); go_simp; try with_reducible rfl)
        simp only [Act.put, List.setIfInBounds_toArray, List.set_cons_zero, List.set_cons_succ]
        refine wpD_takeL (i := 5) (v := ?va_5) rfl (by kernel_rfl) (by kernel_rfl) (by kernel_rfl) (fun _ _ _ h => h) (Or.inl ⟨by rfl, ?hya_5⟩) ?_
        case hya_5 => (intro w; go_simp; try with_reducible rfl)
        simp only [Act.put, List.setIfInBounds_toArray, List.set_cons_zero, List.set_cons_succ]
        refine wpD_takeL (i := 6) (v := ?va_6) rfl (by kernel_rfl) (by kernel_rfl) (by kernel_rfl) (fun _ _ _ h => h) (Or.inl ⟨by rfl, ?hya_6⟩) ?_
        case hya_6 => (intro w; go_simp; try with_reducible rfl)
        simp only [Act.put, List.setIfInBounds_toArray, List.set_cons_zero, List.set_cons_succ]
        refine wpD_loadL (i := 7) (v := ?va_7) rfl (by kernel_rfl) (by kernel_rfl) (by kernel_rfl) (by kernel_rfl) (fun _ _ _ h => h) (Or.inl ⟨by rfl, ?hya_7⟩) hS ?_
        case hya_7 => (intro w hSw; (try dsimp only at hSw); go_simp; try with_reducible rfl)
        simp only [Act.put, List.setIfInBounds_toArray, List.set_cons_zero, List.set_cons_succ]
        refine wpD_takeL (i := 8) (v := ?va_8) rfl (by kernel_rfl) (by kernel_rfl) (by kernel_rfl) (fun _ _ _ h => h) (Or.inl ⟨by rfl, ?hya_8⟩) ?_
        case hya_8 => (intro w; go_simp; try with_reducible rfl)
        simp only [Act.put, List.setIfInBounds_toArray, List.set_cons_zero, List.set_cons_succ]
        refine wpD_takeL (i := 9) (v := undef) rfl (by kernel_rfl) (by kernel_rfl) (by kernel_rfl) (fun _ _ _ h => h) (Or.inr ⟨by rfl, rfl⟩) ?_
        simp only [Act.put, List.setIfInBounds_toArray, List.set_cons_zero, List.set_cons_succ]
        refine wpD_takeL (i := 10) (v := undef) rfl (by kernel_rfl) (by kernel_rfl) (by kernel_rfl) (fun _ _ _ h => h) (Or.inr ⟨by rfl, rfl⟩) ?_
        simp only [Act.put, List.setIfInBounds_toArray, List.set_cons_zero, List.set_cons_succ]
        refine wpD_takeL (i := 11) (v := undef) rfl (by kernel_rfl) (by kernel_rfl) (by kernel_rfl) (fun _ _ _ h => h) (Or.inr ⟨by rfl, rfl⟩) ?_
        simp only [Act.put, List.setIfInBounds_toArray, List.set_cons_zero, List.set_cons_succ]
        refine wpD_takeL (i := 13) (v := undef) rfl (by kernel_rfl) (by kernel_rfl) (by kernel_rfl) (fun _ _ _ h => h) (Or.inr ⟨by rfl, rfl⟩) ?_
        simp only [Act.put, List.setIfInBounds_toArray, List.set_cons_zero, List.set_cons_succ]
        refine wpD_takeL (i := 12) (v := undef) rfl (by kernel_rfl) (by kernel_rfl) (by kernel_rfl) (fun _ _ _ h => h) (Or.inr ⟨by rfl, rfl⟩) ?_
        simp only [Act.put, List.setIfInBounds_toArray, List.set_cons_zero, List.set_cons_succ]
        refine wpD_takeL (i := 14) (v := undef) rfl (by kernel_rfl) (by kernel_rfl) (by kernel_rfl) (fun _ _ _ h => h) (Or.inr ⟨by rfl, rfl⟩) ?_
        simp only [Act.put, List.setIfInBounds_toArray, List.set_cons_zero, List.set_cons_succ]
        refine wpD_takeL (i := 15) (v := undef) rfl (by kernel_rfl) (by kernel_rfl) (by kernel_rfl) (fun _ _ _ h => h) (Or.inr ⟨by rfl, rfl⟩) ?_
        simp only [Act.put, List.setIfInBounds_toArray, List.set_cons_zero, List.set_cons_succ]
        refine wpD_takeL (i := 16) (v := undef) rfl (by kernel_rfl) (by kernel_rfl) (by kernel_rfl) (fun _ _ _ h => h) (Or.inr ⟨by rfl, rfl⟩) ?_
        simp only [Act.put, List.setIfInBounds_toArray, List.set_cons_zero, List.set_cons_succ]
        refine wpD_takeL (i := 17) (v := undef) rfl (by kernel_rfl) (by kernel_rfl) (by kernel_rfl) (fun _ _ _ h => h) (Or.inr ⟨by rfl, rfl⟩) ?_
        simp only [Act.put, List.setIfInBounds_toArray, List.set_cons_zero, List.set_cons_succ]
        refine wpD_tail 18 [18, 19] (by kernel_rfl) (by kernel_rfl) ?_
        simp only [List.drop_succ_cons, List.drop_zero]
        clear hS
        go_wp2_with fail
        go_roundw
        case rel =>
          refine ⟨k + 1, m + 1, by omega, by go_num, drewN_drew w1 m, ?_⟩
          rw [take_snoc HO.out, Rga.has_snoc, HN.out, Bool.false_or]
          rw [HI.out]; rfl
        case measure => simp [intOf]; omega
      · rw [hi] at p3
        have HI := Lib.hid hi
        clear hi
        by_cases hid : o.id = i
        · rw [hid] at p0 p1
          have HD := Lib.hid hid
          clear hid
          go_wp2_with fail
          refine wpD_begin (n := 20) (l := [false, false, false, false, false, false, false, false, false, false, false, false, false, false, false, false, false, false, false, false].toArray) [18, 19] (fun w' => w'.cell? ⟨x, 0, none⟩ = some (.slice (some ⟨g, 0, none⟩) ops.length c) ∧ w'.cell? ⟨g, k * 7 + 3, none⟩ = some (.bool true) ∧ w'.cell? ⟨g, k * 7, none⟩ = some (.int .i64 i.ctr) ∧ w'.cell? ⟨g, k * 7 + 1, none⟩ = some (.int .i64 i.author) ∧ w'.cell? ⟨w.heap.size, 0, none⟩ = some (.int .i64 i.ctr) ∧ w'.cell? ⟨w.heap.size, 1, none⟩ = some (.int .i64 i.author)) (by kernel_rfl) (by kernel_rfl) (by kernel_rfl) ?_ (fun hS => ?_)
          · first | (go_keep; done) | go_simp
          try dsimp only at hS
          refine wpD_takeL (i := 0) (v := ?vb_0) rfl (by kernel_rfl) (by kernel_rfl) (by kernel_rfl) (fun _ _ _ h => h) (Or.inl ⟨by rfl, ?hyb_0⟩) ?_
          case hyb_0 => (intro w; go_simp; try with_reducible rfl)
          simp only [Act.put, List.setIfInBounds_toArray, List.set_cons_zero, List.set_cons_succ]
          refine wpD_takeL (i := 1) (v := ?vb_1) rfl (by kernel_rfl) (by kernel_rfl) (by kernel_rfl) (fun _ _ _ h => h) (Or.inl ⟨by rfl, ?hyb_1⟩) ?_
          case hyb_1 => (intro w; go_simp; try with_reducible rfl)
          simp only [Act.put, List.setIfInBounds_toArray, List.set_cons_zero, List.set_cons_succ]
          refine wpD_takeL (i := 2) (v := ?vb_2) rfl (by kernel_rfl) (by kernel_rfl) (by kernel_rfl) (fun _ _ _ h => h) (Or.inl ⟨by rfl, ?hyb_2⟩) ?_
          case hyb_2 => (intro w; go_simp; try with_reducible rfl)
          simp only [Act.put, List.setIfInBounds_toArray, List.set_cons_zero, List.set_cons_succ]
          refine wpD_takeL (i := 4) (v := ?vb_4) rfl (by kernel_rfl) (by kernel_rfl) (by kernel_rfl) (fun _ _ _ h => h) (Or.inl ⟨by rfl, ?hyb_4⟩) ?_
          case hyb_4 => (intro w; go_simp; try with_reducible rfl)
          simp only [Act.put, List.setIfInBounds_toArray, List.set_cons_zero, List.set_cons_succ]
          refine wpD_loadL (i := 3) (v := ?vb_3) rfl (by kernel_rfl) (by kernel_rfl) (by kernel_rfl) (by kernel_rfl) (fun _ _ _ h => h) (Or.inl ⟨by rfl, ?hyb_3⟩) hS ?_
          case hyb_3 => (intro w hSw; (try dsimp only at hSw); go_simp; try with_reducible rfl)
          simp only [Act.put, List.setIfInBounds_toArray, List.set_cons_zero, List.set_cons_succ]
          refine wpD_takeL (i := 5) (v := ?vb_5) rfl (by kernel_rfl) (by kernel_rfl) (by kernel_rfl) (fun _ _ _ h => h) (Or.inl ⟨by rfl, ?hyb_5⟩) ?_
          case hyb_5 => (intro w; go_simp; try with_reducible rfl)
          simp only [Act.put, List.setIfInBounds_toArray, List.set_cons_zero, List.set_cons_succ]
          refine wpD_takeL (i := 6) (v := ?vb_6) rfl (by kernel_rfl) (by kernel_rfl) (by kernel_rfl) (fun _ _ _ h => h) (Or.inl ⟨by rfl, ?hyb_6⟩) ?_
          case hyb_6 => (intro w; go_simp; try with_reducible rfl)
          simp only [Act.put, List.setIfInBounds_toArray, List.set_cons_zero, List.set_cons_succ]
          refine wpD_loadL (i := 7) (v := ?vb_7) rfl (by kernel_rfl) (by kernel_rfl) (by kernel_rfl) (by kernel_rfl) (fun _ _ _ h => h) (Or.inl ⟨by rfl, ?hyb_7⟩) hS ?_
          case hyb_7 => (intro w hSw; (try dsimp only at hSw); go_simp; try with_reducible rfl)
          simp only [Act.put, List.setIfInBounds_toArray, List.set_cons_zero, List.set_cons_succ]
          refine wpD_takeL (i := 8) (v := ?vb_8) rfl (by kernel_rfl) (by kernel_rfl) (by kernel_rfl) (fun _ _ _ h => h) (Or.inl ⟨by rfl, ?hyb_8⟩) ?_
          case hyb_8 => (intro w; go_simp; try with_reducible rfl)
          simp only [Act.put, List.setIfInBounds_toArray, List.set_cons_zero, List.set_cons_succ]
          refine wpD_takeL (i := 9) (v := ?vb_9) rfl (by kernel_rfl) (by kernel_rfl) (by kernel_rfl) (fun _ _ _ h => h) (Or.inl ⟨by rfl, ?hyb_9⟩) ?_
          case hyb_9 => (intro w; go_simp; try with_reducible rfl)
          simp only [Act.put, List.setIfInBounds_toArray, List.set_cons_zero, List.set_cons_succ]
          refine wpD_takeL (i := 10) (v := ?vb_10) rfl (by kernel_rfl) (by kernel_rfl) (by kernel_rfl) (fun _ _ _ h => h) (Or.inl ⟨by rfl, ?hyb_10⟩) ?_
          case hyb_10 => (intro w; go_simp; try with_reducible rfl)
          simp only [Act.put, List.setIfInBounds_toArray, List.set_cons_zero, List.set_cons_succ]
          refine wpD_takeL (i := 11) (v := ?vb_11) rfl (by kernel_rfl) (by kernel_rfl) (by kernel_rfl) (fun _ _ _ h => h) (Or.inl ⟨by rfl, ?hyb_11⟩) ?_
          case hyb_11 => (intro w; go_simp; try with_reducible rfl)
          simp only [Act.put, List.setIfInBounds_toArray, List.set_cons_zero, List.set_cons_succ]
          refine wpD_takeL (i := 13) (v := ?vb_13) rfl (by kernel_rfl) (by kernel_rfl) (by kernel_rfl) (fun _ _ _ h => h) (Or.inl ⟨by rfl, ?hyb_13⟩) ?_
          case hyb_13 => (intro w; go_simp; try with_reducible rfl)
          simp only [Act.put, List.setIfInBounds_toArray, List.set_cons_zero, List.set_cons_succ]
          refine wpD_loadL (i := 12) (v := ?vb_12) rfl (by kernel_rfl) (by kernel_rfl) (by kernel_rfl) (by kernel_rfl) (fun _ _ _ h => h) (Or.inl ⟨by rfl, ?hyb_12⟩) hS ?_
          case hyb_12 => (intro w hSw; (try dsimp only at hSw); go_simp; try with_reducible rfl)
          simp only [Act.put, List.setIfInBounds_toArray, List.set_cons_zero, List.set_cons_succ]
          refine wpD_takeL (i := 14) (v := ?vb_14) rfl (by kernel_rfl) (by kernel_rfl) (by kernel_rfl) (fun _ _ _ h => h) (Or.inl ⟨by rfl, ?hyb_14⟩) ?_
          case hyb_14 => (intro w; go_simp; try with_reducible rfl)
          simp only [Act.put, List.setIfInBounds_toArray, List.set_cons_zero, List.set_cons_succ]
          refine wpD_takeL (i := 15) (v := ?vb_15) rfl (by kernel_rfl) (by kernel_rfl) (by kernel_rfl) (fun _ _ _ h => h) (Or.inl ⟨by rfl, ?hyb_15⟩) ?_
          case hyb_15 => (intro w; go_simp; try with_reducible rfl)
          simp only [Act.put, List.setIfInBounds_toArray, List.set_cons_zero, List.set_cons_succ]
          refine wpD_loadL (i := 16) (v := ?vb_16) rfl (by kernel_rfl) (by kernel_rfl) (by kernel_rfl) (by kernel_rfl) (fun _ _ _ h => h) (Or.inl ⟨by rfl, ?hyb_16⟩) hS ?_
          case hyb_16 => (intro w hSw; (try dsimp only at hSw); go_simp; try with_reducible rfl)
          simp only [Act.put, List.setIfInBounds_toArray, List.set_cons_zero, List.set_cons_succ]
          refine wpD_loadL (i := 17) (v := ?vb_17) rfl (by kernel_rfl) (by kernel_rfl) (by kernel_rfl) (by kernel_rfl) (fun _ _ _ h => h) (Or.inl ⟨by rfl, ?hyb_17⟩) hS ?_
          case hyb_17 => (intro w hSw; (try dsimp only at hSw); go_simp; try with_reducible rfl)
          simp only [Act.put, List.setIfInBounds_toArray, List.set_cons_zero, List.set_cons_succ]
          refine wpD_tail 18 [18, 19] (by kernel_rfl) (by kernel_rfl) ?_
          simp only [List.drop_succ_cons, List.drop_zero]
          clear hS
          go_wp2_with fail
          go_ret
          have hh : Rga.has ops i = true := (Rga.has_iff _ _).2 ⟨o, List.mem_of_getElem? HO.out, HI.out, HD.out⟩
          exact ⟨by rw [hh]; rfl, (HK.out.drewN m).drew⟩
        · have hd : ¬ o.id.ctr = i.ctr ∨ (o.id.ctr = i.ctr ∧ ¬ o.id.author = i.author) := by
            by_cases e1 : o.id.ctr = i.ctr
            · by_cases e2 : o.id.author = i.author
              · exact absurd (by cases h1 : o.id; cases h2 : i; rw [h1, h2] at e1 e2; simp at e1 e2; rw [e1, e2]) hid
              · exact .inr ⟨e1, e2⟩
            · exact .inl e1
          have HD := Lib.hid hid
          clear hid
          rcases hd with hd | ⟨hd1, hd⟩
          · skip
            go_wp2_with fail
            refine wpD_begin (n := 20) (l := [false, false, false, false, false, false, false, false, false, false, false, false, false, false, false, false, false, false, false, false].toArray) [18, 19] (fun w' => w'.cell? ⟨x, 0, none⟩ = some (.slice (some ⟨g, 0, none⟩) ops.length c) ∧ w'.cell? ⟨g, k * 7 + 3, none⟩ = some (.bool true) ∧ w'.cell? ⟨g, k * 7, none⟩ = some (.int .i64 o.id.ctr) ∧ w'.cell? ⟨g, k * 7 + 1, none⟩ = some (.int .i64 o.id.author) ∧ w'.cell? ⟨w.heap.size, 0, none⟩ = some (.int .i64 i.ctr) ∧ w'.cell? ⟨w.heap.size, 1, none⟩ = some (.int .i64 i.author)) (by kernel_rfl) (by kernel_rfl) (by kernel_rfl) ?_ (fun hS => ?_)
            · first | (go_keep; done) | go_simp
            try dsimp only at hS
            refine wpD_takeL (i := 0) (v := ?vc_0) rfl (by kernel_rfl) (by kernel_rfl) (by kernel_rfl) (fun _ _ _ h => h) (Or.inl ⟨by rfl, ?hyc_0⟩) ?_
            case hyc_0 => (intro w; go_simp; try with_reducible rfl)
            simp only [Act.put, List.setIfInBounds_toArray, List.set_cons_zero, List.set_cons_succ]
            refine wpD_takeL (i := 1) (v := ?vc_1) rfl (by kernel_rfl) (by kernel_rfl) (by kernel_rfl) (fun _ _ _ h => h) (Or.inl ⟨by rfl, ?hyc_1⟩) ?_
            case hyc_1 => (intro w; go_simp; try with_reducible rfl)
            simp only [Act.put, List.setIfInBounds_toArray, List.set_cons_zero, List.set_cons_succ]
            refine wpD_takeL (i := 2) (v := ?vc_2) rfl (by kernel_rfl) (by kernel_rfl) (by kernel_rfl) (fun _ _ _ h => h) (Or.inl ⟨by rfl, ?hyc_2⟩) ?_
            case hyc_2 => (intro w; go_simp; try with_reducible rfl)
            simp only [Act.put, List.setIfInBounds_toArray, List.set_cons_zero, List.set_cons_succ]
            refine wpD_takeL (i := 4) (v := ?vc_4) rfl (by kernel_rfl) (by kernel_rfl) (by kernel_rfl) (fun _ _ _ h => h) (Or.inl ⟨by rfl, ?hyc_4⟩) ?_
            case hyc_4 => (intro w; go_simp; try with_reducible rfl)
            simp only [Act.put, List.setIfInBounds_toArray, List.set_cons_zero, List.set_cons_succ]
            refine wpD_loadL (i := 3) (v := ?vc_3) rfl (by kernel_rfl) (by kernel_rfl) (by kernel_rfl) (by kernel_rfl) (fun _ _ _ h => h) (Or.inl ⟨by rfl, ?hyc_3⟩) hS ?_
            case hyc_3 => (intro w hSw; (try dsimp only at hSw); go_simp; try with_reducible rfl)
            simp only [Act.put, List.setIfInBounds_toArray, List.set_cons_zero, List.set_cons_succ]
            refine wpD_takeL (i := 5) (v := ?vc_5) rfl (by kernel_rfl) (by kernel_rfl) (by kernel_rfl) (fun _ _ _ h => h) (Or.inl ⟨by rfl, ?hyc_5⟩) ?_
            case hyc_5 => (intro w; go_simp; try with_reducible rfl)
            simp only [Act.put, List.setIfInBounds_toArray, List.set_cons_zero, List.set_cons_succ]
            refine wpD_takeL (i := 6) (v := ?vc_6) rfl (by kernel_rfl) (by kernel_rfl) (by kernel_rfl) (fun _ _ _ h => h) (Or.inl ⟨by rfl, ?hyc_6⟩) ?_
            case hyc_6 => (intro w; go_simp; try with_reducible rfl)
            simp only [Act.put, List.setIfInBounds_toArray, List.set_cons_zero, List.set_cons_succ]
            refine wpD_loadL (i := 7) (v := ?vc_7) rfl (by kernel_rfl) (by kernel_rfl) (by kernel_rfl) (by kernel_rfl) (fun _ _ _ h => h) (Or.inl ⟨by rfl, ?hyc_7⟩) hS ?_
            case hyc_7 => (intro w hSw; (try dsimp only at hSw); go_simp; try with_reducible rfl)
            simp only [Act.put, List.setIfInBounds_toArray, List.set_cons_zero, List.set_cons_succ]
            refine wpD_takeL (i := 8) (v := ?vc_8) rfl (by kernel_rfl) (by kernel_rfl) (by kernel_rfl) (fun _ _ _ h => h) (Or.inl ⟨by rfl, ?hyc_8⟩) ?_
            case hyc_8 => (intro w; go_simp; try with_reducible rfl)
            simp only [Act.put, List.setIfInBounds_toArray, List.set_cons_zero, List.set_cons_succ]
            refine wpD_takeL (i := 9) (v := ?vc_9) rfl (by kernel_rfl) (by kernel_rfl) (by kernel_rfl) (fun _ _ _ h => h) (Or.inl ⟨by rfl, ?hyc_9⟩) ?_
            case hyc_9 => (intro w; go_simp; try with_reducible rfl)
            simp only [Act.put, List.setIfInBounds_toArray, List.set_cons_zero, List.set_cons_succ]
            refine wpD_takeL (i := 10) (v := ?vc_10) rfl (by kernel_rfl) (by kernel_rfl) (by kernel_rfl) (fun _ _ _ h => h) (Or.inl ⟨by rfl, ?hyc_10⟩) ?_
            case hyc_10 => (intro w; go_simp; try with_reducible rfl)
            simp only [Act.put, List.setIfInBounds_toArray, List.set_cons_zero, List.set_cons_succ]
            refine wpD_takeL (i := 11) (v := ?vc_11) rfl (by kernel_rfl) (by kernel_rfl) (by kernel_rfl) (fun _ _ _ h => h) (Or.inl ⟨by rfl, ?hyc_11⟩) ?_
            case hyc_11 => (intro w; go_simp; try with_reducible rfl)
            simp only [Act.put, List.setIfInBounds_toArray, List.set_cons_zero, List.set_cons_succ]
            refine wpD_takeL (i := 13) (v := ?vc_13) rfl (by kernel_rfl) (by kernel_rfl) (by kernel_rfl) (fun _ _ _ h => h) (Or.inl ⟨by rfl, ?hyc_13⟩) ?_
            case hyc_13 => (intro w; go_simp; try with_reducible rfl)
            simp only [Act.put, List.setIfInBounds_toArray, List.set_cons_zero, List.set_cons_succ]
            refine wpD_loadL (i := 12) (v := ?vc_12) rfl (by kernel_rfl) (by kernel_rfl) (by kernel_rfl) (by kernel_rfl) (fun _ _ _ h => h) (Or.inl ⟨by rfl, ?hyc_12⟩) hS ?_
            case hyc_12 => (intro w hSw; (try dsimp only at hSw); go_simp; try with_reducible rfl)
            simp only [Act.put, List.setIfInBounds_toArray, List.set_cons_zero, List.set_cons_succ]
            refine wpD_takeL (i := 14) (v := ?vc_14) rfl (by kernel_rfl) (by kernel_rfl) (by kernel_rfl) (fun _ _ _ h => h) (Or.inl ⟨by rfl, ?hyc_14⟩) ?_
            case hyc_14 => (intro w; go_simp; try with_reducible rfl)
            simp only [Act.put, List.setIfInBounds_toArray, List.set_cons_zero, List.set_cons_succ]
            refine wpD_takeL (i := 15) (v := ?vc_15) rfl (by kernel_rfl) (by kernel_rfl) (by kernel_rfl) (fun _ _ _ h => h) (Or.inl ⟨by rfl, ?hyc_15⟩) ?_
            case hyc_15 => (intro w; go_simp; try with_reducible rfl)
            simp only [Act.put, List.setIfInBounds_toArray, List.set_cons_zero, List.set_cons_succ]
            refine wpD_loadL (i := 16) (v := ?vc_16) rfl (by kernel_rfl) (by kernel_rfl) (by kernel_rfl) (by kernel_rfl) (fun _ _ _ h => h) (Or.inl ⟨by rfl, ?hyc_16⟩) hS ?_
            case hyc_16 => (intro w hSw; (try dsimp only at hSw); go_simp; try with_reducible rfl)
            simp only [Act.put, List.setIfInBounds_toArray, List.set_cons_zero, List.set_cons_succ]
            refine wpD_loadL (i := 17) (v := ?vc_17) rfl (by kernel_rfl) (by kernel_rfl) (by kernel_rfl) (by kernel_rfl) (fun _ _ _ h => h) (Or.inl ⟨by rfl, ?hyc_17⟩) hS ?_
            case hyc_17 => (intro w hSw; (try dsimp only at hSw); go_simp; try with_reducible rfl)
            simp only [Act.put, List.setIfInBounds_toArray, List.set_cons_zero, List.set_cons_succ]
            refine wpD_tail 18 [18, 19] (by kernel_rfl) (by kernel_rfl) ?_
            simp only [List.drop_succ_cons, List.drop_zero]
            clear hS
            go_wp2_with fail
            go_roundw
            case rel =>
              refine ⟨k + 1, m + 1, by omega, by go_num, drewN_drew w1 m, ?_⟩
              rw [take_snoc HO.out, Rga.has_snoc, HN.out, Bool.false_or]
              simp [HD.out]
            case measure => simp [intOf]; omega
          · rw [hd1] at p0
            clear hd1
            go_wp2_with fail
            refine wpD_begin (n := 20) (l := [false, false, false, false, false, false, false, false, false, false, false, false, false, false, false, false, false, false, false, false].toArray) [18, 19] (fun w' => w'.cell? ⟨x, 0, none⟩ = some (.slice (some ⟨g, 0, none⟩) ops.length c) ∧ w'.cell? ⟨g, k * 7 + 3, none⟩ = some (.bool true) ∧ w'.cell? ⟨g, k * 7, none⟩ = some (.int .i64 i.ctr) ∧ w'.cell? ⟨g, k * 7 + 1, none⟩ = some (.int .i64 o.id.author) ∧ w'.cell? ⟨w.heap.size, 0, none⟩ = some (.int .i64 i.ctr) ∧ w'.cell? ⟨w.heap.size, 1, none⟩ = some (.int .i64 i.author)) (by kernel_rfl) (by kernel_rfl) (by kernel_rfl) ?_ (fun hS => ?_)
            · first | (go_keep; done) | go_simp
            try dsimp only at hS
            refine wpD_takeL (i := 0) (v := ?vd_0) rfl (by kernel_rfl) (by kernel_rfl) (by kernel_rfl) (fun _ _ _ h => h) (Or.inl ⟨by rfl, ?hyd_0⟩) ?_
            case hyd_0 => (intro w; go_simp; try with_reducible rfl)
            simp only [Act.put, List.setIfInBounds_toArray, List.set_cons_zero, List.set_cons_succ]
            refine wpD_takeL (i := 1) (v := ?vd_1) rfl (by kernel_rfl) (by kernel_rfl) (by kernel_rfl) (fun _ _ _ h => h) (Or.inl ⟨by rfl, ?hyd_1⟩) ?_
            case hyd_1 => (intro w; go_simp; try with_reducible rfl)
            simp only [Act.put, List.setIfInBounds_toArray, List.set_cons_zero, List.set_cons_succ]
            refine wpD_takeL (i := 2) (v := ?vd_2) rfl (by kernel_rfl) (by kernel_rfl) (by kernel_rfl) (fun _ _ _ h => h) (Or.inl ⟨by rfl, ?hyd_2⟩) ?_
            case hyd_2 => (intro w; go_simp; try with_reducible rfl)
            simp only [Act.put, List.setIfInBounds_toArray, List.set_cons_zero, List.set_cons_succ]
            refine wpD_takeL (i := 4) (v := ?vd_4) rfl (by kernel_rfl) (by kernel_rfl) (by kernel_rfl) (fun _ _ _ h => h) (Or.inl ⟨by rfl, ?hyd_4⟩) ?_
            case hyd_4 => (intro w; go_simp; try with_reducible rfl)
            simp only [Act.put, List.setIfInBounds_toArray, List.set_cons_zero, List.set_cons_succ]
            refine wpD_loadL (i := 3) (v := ?vd_3) rfl (by kernel_rfl) (by kernel_rfl) (by kernel_rfl) (by kernel_rfl) (fun _ _ _ h => h) (Or.inl ⟨by rfl, ?hyd_3⟩) hS ?_
            case hyd_3 => (intro w hSw; (try dsimp only at hSw); go_simp; try with_reducible rfl)
            simp only [Act.put, List.setIfInBounds_toArray, List.set_cons_zero, List.set_cons_succ]
            refine wpD_takeL (i := 5) (v := ?vd_5) rfl (by kernel_rfl) (by kernel_rfl) (by kernel_rfl) (fun _ _ _ h => h) (Or.inl ⟨by rfl, ?hyd_5⟩) ?_
            case hyd_5 => (intro w; go_simp; try with_reducible rfl)
            simp only [Act.put, List.setIfInBounds_toArray, List.set_cons_zero, List.set_cons_succ]
            refine wpD_takeL (i := 6) (v := ?vd_6) rfl (by kernel_rfl) (by kernel_rfl) (by kernel_rfl) (fun _ _ _ h => h) (Or.inl ⟨by rfl, ?hyd_6⟩) ?_
            case hyd_6 => (intro w; go_simp; try with_reducible rfl)
            simp only [Act.put, List.setIfInBounds_toArray, List.set_cons_zero, List.set_cons_succ]
            refine wpD_loadL (i := 7) (v := ?vd_7) rfl (by kernel_rfl) (by kernel_rfl) (by kernel_rfl) (by kernel_rfl) (fun _ _ _ h => h) (Or.inl ⟨by rfl, ?hyd_7⟩) hS ?_
            case hyd_7 => (intro w hSw; (try dsimp only at hSw); go_simp; try with_reducible rfl)
            simp only [Act.put, List.setIfInBounds_toArray, List.set_cons_zero, List.set_cons_succ]
            refine wpD_takeL (i := 8) (v := ?vd_8) rfl (by kernel_rfl) (by kernel_rfl) (by kernel_rfl) (fun _ _ _ h => h) (Or.inl ⟨by rfl, ?hyd_8⟩) ?_
            case hyd_8 => (intro w; go_simp; try with_reducible rfl)
            simp only [Act.put, List.setIfInBounds_toArray, List.set_cons_zero, List.set_cons_succ]
            refine wpD_takeL (i := 9) (v := ?vd_9) rfl (by kernel_rfl) (by kernel_rfl) (by kernel_rfl) (fun _ _ _ h => h) (Or.inl ⟨by rfl, ?hyd_9⟩) ?_
            case hyd_9 => (intro w; go_simp; try with_reducible rfl)
            simp only [Act.put, List.setIfInBounds_toArray, List.set_cons_zero, List.set_cons_succ]
            refine wpD_takeL (i := 10) (v := ?vd_10) rfl (by kernel_rfl) (by kernel_rfl) (by kernel_rfl) (fun _ _ _ h => h) (Or.inl ⟨by rfl, ?hyd_10⟩) ?_
            case hyd_10 => (intro w; go_simp; try with_reducible rfl)
            simp only [Act.put, List.setIfInBounds_toArray, List.set_cons_zero, List.set_cons_succ]
            refine wpD_takeL (i := 11) (v := ?vd_11) rfl (by kernel_rfl) (by kernel_rfl) (by kernel_rfl) (fun _ _ _ h => h) (Or.inl ⟨by rfl, ?hyd_11⟩) ?_
            case hyd_11 => (intro w; go_simp; try with_reducible rfl)
            simp only [Act.put, List.setIfInBounds_toArray, List.set_cons_zero, List.set_cons_succ]
            refine wpD_takeL (i := 13) (v := ?vd_13) rfl (by kernel_rfl) (by kernel_rfl) (by kernel_rfl) (fun _ _ _ h => h) (Or.inl ⟨by rfl, ?hyd_13⟩) ?_
            case hyd_13 => (intro w; go_simp; try with_reducible rfl)
            simp only [Act.put, List.setIfInBounds_toArray, List.set_cons_zero, List.set_cons_succ]
            refine wpD_loadL (i := 12) (v := ?vd_12) rfl (by kernel_rfl) (by kernel_rfl) (by kernel_rfl) (by kernel_rfl) (fun _ _ _ h => h) (Or.inl ⟨by rfl, ?hyd_12⟩) hS ?_
            case hyd_12 => (intro w hSw; (try dsimp only at hSw); go_simp; try with_reducible rfl)
            simp only [Act.put, List.setIfInBounds_toArray, List.set_cons_zero, List.set_cons_succ]
            refine wpD_takeL (i := 14) (v := ?vd_14) rfl (by kernel_rfl) (by kernel_rfl) (by kernel_rfl) (fun _ _ _ h => h) (Or.inl ⟨by rfl, ?hyd_14⟩) ?_
            case hyd_14 => (intro w; go_simp; try with_reducible rfl)
            simp only [Act.put, List.setIfInBounds_toArray, List.set_cons_zero, List.set_cons_succ]
            refine wpD_takeL (i := 15) (v := ?vd_15) rfl (by kernel_rfl) (by kernel_rfl) (by kernel_rfl) (fun _ _ _ h => h) (Or.inl ⟨by rfl, ?hyd_15⟩) ?_
            case hyd_15 => (intro w; go_simp; try with_reducible rfl)
            simp only [Act.put, List.setIfInBounds_toArray, List.set_cons_zero, List.set_cons_succ]
            refine wpD_loadL (i := 16) (v := ?vd_16) rfl (by kernel_rfl) (by kernel_rfl) (by kernel_rfl) (by kernel_rfl) (fun _ _ _ h => h) (Or.inl ⟨by rfl, ?hyd_16⟩) hS ?_
            case hyd_16 => (intro w hSw; (try dsimp only at hSw); go_simp; try with_reducible rfl)
            simp only [Act.put, List.setIfInBounds_toArray, List.set_cons_zero, List.set_cons_succ]
            refine wpD_loadL (i := 17) (v := ?vd_17) rfl (by kernel_rfl) (by kernel_rfl) (by kernel_rfl) (by kernel_rfl) (fun _ _ _ h => h) (Or.inl ⟨by rfl, ?hyd_17⟩) hS ?_
            case hyd_17 => (intro w hSw; (try dsimp only at hSw); go_simp; try with_reducible rfl)
            simp only [Act.put, List.setIfInBounds_toArray, List.set_cons_zero, List.set_cons_succ]
            refine wpD_tail 18 [18, 19] (by kernel_rfl) (by kernel_rfl) ?_
            simp only [List.drop_succ_cons, List.drop_zero]
            clear hS
            go_wp2_with fail
            go_roundw
            case rel =>
              refine ⟨k + 1, m + 1, by omega, by go_num, drewN_drew w1 m, ?_⟩
              rw [take_snoc HO.out, Rga.has_snoc, HN.out, Bool.false_or]
              simp [HD.out]
            case measure => simp [intOf]; omega
    · have hh : Rga.has ops i = false := by
        have := HN.out
        rw [List.take_of_length_le (by omega)] at this
        exact this
      have HH := Lib.hid hh
      clear hh
      go_wp2
      go_ret
      exact ⟨by rw [HH.out]; rfl, HK.out.drewN m⟩
end Go.Proofs.Ytoddohhhhnahnaa
