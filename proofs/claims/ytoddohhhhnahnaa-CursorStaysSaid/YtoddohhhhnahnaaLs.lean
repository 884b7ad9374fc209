/- The law CursorStays: its walk. -/
import Derived.Test.YtoddohhhhnahnaaSp
namespace Go.Proofs.Ytoddohhhhnahnaa
open Go.ChangeShapes Go.WideShapes Go.ChangeAt Go.RowKit

theorem wrap_nat (m : Nat) (h : m ≤ 1099511627776) : IntKind.i64.wrap (m : Int) = m := by
  simp only [IntKind.wrap, IntKind.bits, IntKind.signed]
  simp
  omega

set_option maxHeartbeats 6400000 in
set_option maxRecDepth 100000 in
theorem stays_walk (w : World) (A : Option Addr) (n c : Nat) (l : List Rga.Opn) (h : ROps w A n l) (pl : Int) (ah : Bool) (A2 : Option Addr) (n2 c2 : Nat) (l2 : List Rga.Opn) (h2 : ROps w A2 n2 l2) : Calls Try.prog 8 #[.slice A n c, .int .i64 pl, .bool ah, .slice A2 n2 c2] w (boolKeeps w true) := by
  have HO := Lib.hid h
  have HO2 := Lib.hid h2
  have hn2 := h2.2.1
  have hl2 := h2.1
  clear h h2
  go_enter Try.func8, Try.ntmps8
  go_wp2_with fail
  go_at_call 9
  refine (shown_any _).mono ?_
  rintro e w1 ⟨rfl, hk1⟩
  have HM := Lib.hid (made_any w1 A n c l (HO.out.keep hk1))
  have HK1 := Lib.hid hk1
  clear hk1
  go_wp2_with fail
  go_at_call 10
  refine HM.out.mono ?_
  rintro e w2 ⟨x, y, rfl, hB, hk2⟩
  obtain ⟨F, G, hT, _, hF, _, _⟩ := hB
  have hL := hT.lies (opsN_small l)
  have hG := mEls_good hT
  have HT := Lib.hid (And.intro hT hT.old)
  have HK2 := Lib.hid (HK1.out.trans hk2)
  have HFB : Hid (∀ g, F g → w.heap.size ≤ g) := Lib.hid (fun g hg => Nat.le_trans HK1.out.size (hF g hg))
  have hol : (mOps l).length ≤ 30 := by
    have := opsN_len l (min l.length 30) (by omega)
    unfold mOps
    omega
  have hor : Rga.Ord (mOps l) (Rga.order (mOps l)) := by
    obtain ⟨_, l', _, _, _, hord, _⟩ := hT
    have e1 : l' = Rga.order (mOps l) := hord.is
    rw [← e1]; exact hord
  have HOR := Lib.hid (And.intro hol hor)
  clear hk2 HM HK1 hF hT hol hor
  generalize mOps l = ops at *
  obtain ⟨es, hes⟩ : ∃ es, es = mEls ops := ⟨_, rfl⟩
  have HES := Lib.hid hes
  rw [← hes] at hL hG
  have HL := Lib.hid hL
  have HG := Lib.hid hG
  have hlb : (lenE es : Int) ≤ 1099511627776 := by
    obtain ⟨_, _, _, _, _, hb⟩ := hL
    have := lenE_le es
    omega
  clear hL hG hes
  obtain ⟨N, hN⟩ : ∃ N : Nat, N = lenE es := ⟨_, rfl⟩
  have HN := Lib.hid hN
  have hNb : N ≤ 1099511627776 := by omega
  clear hlb hN
  generalize topC ops = tc at *
  have HLen : Hid (∀ w', Keeps NoB w2 w' → Calls Try.prog 21 #[.pointer (some ⟨x, 0, none⟩)] w' (intKeeps w' N)) := Lib.hid (fun w' hk => by rw [HN.out]; exact len_any w' F x es _ (HL.out.keepN hk))
  go_wp2_with fail
  go_at_call 21
  refine (HLen.out _ (Keeps.refl _ _)).mono ?_
  rintro e w3 ⟨rfl, hk3⟩
  have HI := Lib.hid (idsAll_any w3 F x es tc (HL.out.keepN hk3))
  have HK3 := Lib.hid hk3
  clear hk3
  go_wp2_with fail
  have hmask := and_mask pl
  have hp0 : 0 ≤ (bits BinOp.and IntKind.i64 pl 65535).tmod ((N : Int) + 1) := Int.tmod_nonneg _ hmask.1
  have hp1 : (bits BinOp.and IntKind.i64 pl 65535).tmod ((N : Int) + 1) < (N : Int) + 1 := Int.tmod_lt_of_pos _ (by omega)
  clear hmask
  generalize (bits BinOp.and IntKind.i64 pl 65535).tmod ((N : Int) + 1) = p at *
  go_at_call 25
  refine HI.out.mono ?_
  rintro e w4 ⟨v4, rfl, hrow4, hk4, hf4⟩
  obtain ⟨i, hh, _⟩ := back_law HG.out hp0 (by have := HN.out; omega) ah
  have HH : Hid (Calls Try.prog 13 #[.pointer (some ⟨x, 0, none⟩), .int .i64 p, .bool ah] w4 (valKeeps w4 (.tuple #[.agg #[.int .i64 i.ctr, .int .i64 i.author, .bool ah], .int .i64 0]))) := Lib.hid (by
    have := hold_any w4 F x es _ (HL.out.keepN (HK3.out.trans hk4)) p ah
    rw [hh] at this
    exact this)
  have HHI := Lib.hid hh
  have hrow4' : Row w4 24 2 v4 N (idsV (idsE es)) := by rw [HN.out, ← idsE_length]; exact hrow4
  obtain ⟨A4, c4, hv4⟩ := hrow4'.slice
  have HV4 := Lib.hid hv4
  have HR4 := Lib.hid (And.intro hrow4 (And.intro hf4 hk4.size))
  have HK4 := Lib.hid (HK3.out.trans hk4)
  have hw4 : w2.heap.size ≤ w4.heap.size := (HK3.out.trans hk4).size
  clear hh hrow4 hrow4' hf4 hk4 HI
  subst hv4
  go_wp2_with fail
  go_at_call 13
  refine HH.out.mono ?_
  rintro e w5 ⟨rfl, hk5⟩
  obtain ⟨w6, hw6⟩ : ∃ w6, w6 = w5.alloc (.cells #[.int .i64 i.ctr, .int .i64 i.author, .bool ah] 26) := ⟨_, rfl⟩
  have hst : StInv w x es (.slice A4 N c4) w5.heap.size [.int .i64 i.ctr, .int .i64 i.author, .bool ah] 0 w6 := by
    have hk6 : Keeps NoB w4 w6 := by rw [hw6]; exact hk5.alloc _
    have hk26 := HK4.out.trans hk6
    have hsz : w2.heap.size ≤ w5.heap.size := (HK4.out.trans hk5).size
    refine ⟨F, ops, HT.out.1.keep hk26 (fun _ _ e => e), by have := HOR.out.1; omega, by rw [HES.out]; exact Ext.refl _, HOR.out.2, HFB.out, HR4.out.1.keep hk6 (fun _ _ e => e), ?_, ?_, ?_, HK2.out.trans hk26⟩
    · intro g hg hf
      have h1 := HR4.out.2.1 g hg
      have h2 := HT.out.2 g hf
      have := HK3.out.size
      omega
    · rw [hw6]; exact Cells.new w5 [.int .i64 i.ctr, .int .i64 i.author, .bool ah] _
    · intro hf
      have h2 := HT.out.2 _ hf
      omega
  have HST := Lib.hid hst
  have HL6 := Lib.hid (HLen.out w6 (by rw [hw6]; exact (HK4.out.trans hk5).alloc _))
  rw [hw6] at HL6 HST
  clear hst hk5 HH
  go_wp2_with fail
  go_at_call 21
  refine HL6.out.mono ?_
  rintro e w7 ⟨rfl, hk7⟩
  have HS7 : Hid (StInv w x es (.slice A4 N c4) w5.heap.size [.int .i64 i.ctr, .int .i64 i.author, .bool ah] 0 w7) := Lib.hid (by
    obtain ⟨F, ops, h1, h2, h3, h4, h5, h6, h7, h8, h9, h10⟩ := HST.out
    exact ⟨F, ops, h1.keep hk7 (fun _ _ e => e), h2, h3, h4, h5, h6.keep hk7 (fun _ _ e => e), h7, h8.keep hk7 (fun e => e), h9, h10.trans hk7⟩)
  clear hw6 hk7 HST HL6 HLen
  generalize w5.heap.size = ba at *
  clear HT HOR HFB HL HR4 HK4 HK3 HK2 HV4
  obtain ⟨M, hM⟩ : ∃ M, M = min l2.length 30 := ⟨_, rfl⟩
  have hMn : M ≤ n2 ∧ M ≤ 30 := by omega
  have hMb : n2 ≤ M ∨ 30 ≤ M := by omega
  clear hM
  go_wp2_with fail
  go_loopw [15] (fun t15 wr => ∃ k : Nat, k ≤ M ∧ t15 = .int .i64 k ∧ Hid (StInv w x es (.slice A4 N c4) ba [.int .i64 i.ctr, .int .i64 i.author, .bool ah] k wr)) (fun t15 _ => M - (intOf t15).toNat)
  case atStart => exact ⟨0, Nat.zero_le _, rfl, HS7⟩
  case round =>
    obtain ⟨k, hk, rfl, HS⟩ := hrel
    by_cases hkM : k < M
    · have hkn : k < n2 := by omega
      have hk30 : k < 30 := by omega
      obtain ⟨o, ho⟩ : ∃ o, l2[k]? = some o := ⟨_, List.getElem?_eq_getElem (by omega)⟩
      obtain ⟨g, b, rfl, hc⟩ := HO2.out.2.2 k o ho
      have HC := Lib.hid hc
      have hkw : Keeps NoB w wr := by obtain ⟨F, ops, h1, h2, h3, h4, h5, h6, h7, h8, h9, h10⟩ := HS.out; exact h10
      have HP := Lib.hid (st_put HS.out (by omega) o)
      have q0 := (hkw).some (HC.out 0 _ rfl)
      have q1 := (hkw).some (HC.out 1 _ rfl)
      have q2 := (hkw).some (HC.out 2 _ rfl)
      have q3 := (hkw).some (HC.out 3 _ rfl)
      have q4 := (hkw).some (HC.out 4 _ rfl)
      have q5 := (hkw).some (HC.out 5 _ rfl)
      have q6 := (hkw).some (HC.out 6 _ rfl)
      simp only [Nat.add_zero] at q0
      clear ho hc hkw hMb
      go_wp2_with fail
      go_at_call 24
      refine HP.out.mono ?_
      rintro e w8 ⟨b8, n8, rfl, hs8⟩
      have HS8 := Lib.hid hs8
      clear hs8 HP q0 q1 q2 q3 q4 q5 q6
      go_wp2_with fail
      go_roundw
      case rel => exact ⟨k + 1, by omega, by go_num, HS8⟩
      case measure => simp [intOf]; omega
    · have hkk : k = M := by omega
      have hst : (¬ k < n2) ∨ (k < n2 ∧ ¬ k < 30) := by omega
      rcases hst with hst | ⟨hst, hst2⟩
      · skip
        obtain ⟨F1, ops1, h1, h2, h3, h4, h5, h6, h7, h8, h9, h10⟩ := HS.out
        have hL1 := h1.lies (by omega)
        have hG1 := mEls_good h1
        obtain ⟨i', q, hh', hpl, hq, hord, hc3, hc4⟩ := stays_law HG.out hG1 h3 hp0 (by have := HN.out; omega) ah
        have hii : i' = i := by
          have := HHI.out
          rw [hh'] at this
          exact Option.some.inj this
        subst hii
        have HPl : Hid (Calls Try.prog 11 #[.pointer (some ⟨x, 0, none⟩), .agg #[.int .i64 i'.ctr, .int .i64 i'.author, .bool ah]] wr (valKeeps wr (.tuple #[.int .i64 q, .int .i64 0]))) := Lib.hid (by
          have := place_cur wr F1 x _ _ hL1 i' ah
          rw [hpl] at this
          exact this)
        have a0 := h8.cell 0
        have a1 := h8.cell 1
        have a2 := h8.cell 2
        simp only [List.getElem?_cons_zero, List.getElem?_cons_succ] at a0 a1 a2
        generalize mEls ops1 = es1 at *
        generalize topC ops1 = tc1 at *
        obtain ⟨N1, hN1⟩ : ∃ N1 : Nat, N1 = lenE es1 := ⟨_, rfl⟩
        have hqN : q ≤ N1 := by omega
        have hN1b : N1 ≤ 1099511627776 := by
          obtain ⟨_, _, _, _, _, hb⟩ := hL1
          have := lenE_le es1
          omega
        have HN1 := Lib.hid hN1
        have HL1 := Lib.hid hL1
        have HLAW := Lib.hid (And.intro hord (And.intro hc3 hc4))
        have HRW := Lib.hid (And.intro h6 h10)
        clear h1 h2 h3 h4 h5 h6 h7 h8 h9 h10 hL1 hG1 hh' hpl hq hord hc3 hc4 hN1 HS hkM hMb hk
        go_wp2_with fail
        go_at_call 11
        refine HPl.out.mono ?_
        rintro r w8 ⟨rfl, hk8⟩
        have HI8 := Lib.hid (idsAll_any w8 F1 x es1 tc1 (HL1.out.keepN hk8))
        have HK8 := Lib.hid hk8
        clear hk8 HPl a0 a1 a2
        go_wp2_with fail
        go_at_call 25
        refine HI8.out.mono ?_
        rintro r wf ⟨v9, rfl, hrow9, hk9, hf9⟩
        have hrow9' : Row wf 24 2 v9 N1 (idsV (idsE es1)) := by rw [HN1.out, ← idsE_length]; exact hrow9
        obtain ⟨A9, c9, hv9⟩ := hrow9'.slice
        subst hv9
        have HR9 := Lib.hid hrow9
        have HR0 := Lib.hid (HRW.out.1.keep (HK8.out.trans hk9) (fun _ _ e => e))
        have HKF := Lib.hid (HRW.out.2.trans (HK8.out.trans hk9))
        have HLF := Lib.hid (HL1.out.keepN (HK8.out.trans hk9))
        clear hrow9 hrow9' hk9 hf9 HI8 HK8 HRW HL1
        go_wp2_with fail
        have hd1 : decide ((q : Int) < 0) = false := decide_eq_false (by omega)
        have hd2 : decide (N1 < q) = false := decide_eq_false (by omega)
        simp only [hd1, hd2, Bool.or_false]
        clear hd1 hd2
        go_loopw [19] (fun t19 wq => ∃ a : Nat, a ≤ N1 ∧ t19 = .int .i64 a ∧ ∃ m : Nat, wq = wf.drewN m) (fun t19 _ => N1 - (intOf t19).toNat)
        case atStart => exact ⟨0, Nat.zero_le _, rfl, 0, rfl⟩
        case round =>
          obtain ⟨a, ha, rfl, m0, rfl⟩ := hrel
          by_cases haN : a < N1
          · go_wp2_with fail
            go_loopw [20] (fun t20 wq => ∃ b : Nat, b ≤ N ∧ t20 = .int .i64 b ∧ ∃ m : Nat, wq = wf.drewN m) (fun t20 _ => N - (intOf t20).toNat)
            case atStart => exact ⟨0, Nat.zero_le _, rfl, m0, rfl⟩
            case round =>
              obtain ⟨b, hb, rfl, m, rfl⟩ := hrel
              by_cases hbN : b < N
              · obtain ⟨y1, hy1⟩ : ∃ y1, (idsE es1)[a]? = some y1 := ⟨_, List.getElem?_eq_getElem (by rw [idsE_length, ← HN1.out]; exact haN)⟩
                obtain ⟨y0, hy0⟩ : ∃ y0, (idsE es)[b]? = some y0 := ⟨_, List.getElem?_eq_getElem (by rw [idsE_length, ← HN.out]; exact hbN)⟩
                obtain ⟨g1, cg1, e1, p0, p1⟩ := row_id HR9.out a y1 hy1
                obtain ⟨g0, cg0, e0, r0, r1⟩ := row_id HR0.out b y0 hy0
                obtain rfl : A9 = some ⟨g1, 0, none⟩ := by injection e1
                obtain rfl : A4 = some ⟨g0, 0, none⟩ := by injection e0
                clear e1 e0
                have HY := Lib.hid (And.intro hy1 hy0)
                clear hy1 hy0
                by_cases hyy : y1 = y0
                · subst hyy
                  have hiff := HLAW.out.1 b a y1 HY.out.2 HY.out.1
                  have hbp : ((b : Int) < p ∧ a < q) ∨ (¬ (b : Int) < p ∧ ¬ a < q) := by
                    by_cases h : (b : Int) < p
                    · exact .inl ⟨h, hiff.1 h⟩
                    · exact .inr ⟨h, fun h' => h (hiff.2 h')⟩
                  clear hiff
                  rcases hbp with ⟨hb1, hb2⟩ | ⟨hb1, hb2⟩
                  · skip
                    go_wp2_with fail
                    refine wpD_begin (n := 18) (l := [false, false, false, false, false, false, false, false, false, false, false, false, false, false, false, false, false, false].toArray) [14, 15, 16, 17] (fun w' => w'.cell? ⟨g1, a * 2, none⟩ = some (.int .i64 y1.ctr) ∧ w'.cell? ⟨g1, a * 2 + 1, none⟩ = some (.int .i64 y1.author) ∧ w'.cell? ⟨g0, b * 2, none⟩ = some (.int .i64 y1.ctr) ∧ w'.cell? ⟨g0, b * 2 + 1, none⟩ = some (.int .i64 y1.author)) (by kernel_rfl) (by kernel_rfl) (by kernel_rfl) ?_ (fun hS => ?_)
                    · first | (go_keep; done) | go_simp
                    try dsimp only at hS
                    refine wpD_takeL (i := 0) (v := ?vAe_0) rfl (by kernel_rfl) (by kernel_rfl) (by kernel_rfl) (fun _ _ _ h => h) (Or.inl ⟨by rfl, ?hyAe_0⟩) ?_
                    case hyAe_0 => (intro w; go_simp; try with_reducible rfl)
                    simp only [Act.put, List.setIfInBounds_toArray, List.set_cons_zero, List.set_cons_succ]
                    refine wpD_takeL (i := 1) (v := ?vAe_1) rfl (by kernel_rfl) (by kernel_rfl) (by kernel_rfl) (fun _ _ _ h => h) (Or.inl ⟨by rfl, ?hyAe_1⟩) ?_
                    case hyAe_1 => (intro w; go_simp; try with_reducible rfl)
                    simp only [Act.put, List.setIfInBounds_toArray, List.set_cons_zero, List.set_cons_succ]
                    refine wpD_takeL (i := 2) (v := ?vAe_2) rfl (by kernel_rfl) (by kernel_rfl) (by kernel_rfl) (fun _ _ _ h => h) (Or.inl ⟨by rfl, ?hyAe_2⟩) ?_
                    case hyAe_2 => (intro w; go_simp; try with_reducible rfl)
                    simp only [Act.put, List.setIfInBounds_toArray, List.set_cons_zero, List.set_cons_succ]
                    refine wpD_takeL (i := 4) (v := ?vAe_4) rfl (by kernel_rfl) (by kernel_rfl) (by kernel_rfl) (fun _ _ _ h => h) (Or.inl ⟨by rfl, ?hyAe_4⟩) ?_
                    case hyAe_4 => (intro w; go_simp; try with_reducible rfl)
                    simp only [Act.put, List.setIfInBounds_toArray, List.set_cons_zero, List.set_cons_succ]
                    refine wpD_takeL (i := 5) (v := ?vAe_5) rfl (by kernel_rfl) (by kernel_rfl) (by kernel_rfl) (fun _ _ _ h => h) (Or.inl ⟨by rfl, ?hyAe_5⟩) ?_
                    case hyAe_5 => (intro w; go_simp; try with_reducible rfl)
                    simp only [Act.put, List.setIfInBounds_toArray, List.set_cons_zero, List.set_cons_succ]
                    refine wpD_takeL (i := 6) (v := ?vAe_6) rfl (by kernel_rfl) (by kernel_rfl) (by kernel_rfl) (fun _ _ _ h => h) (Or.inl ⟨by rfl, ?hyAe_6⟩) ?_
                    case hyAe_6 => (intro w; go_simp; try with_reducible rfl)
                    simp only [Act.put, List.setIfInBounds_toArray, List.set_cons_zero, List.set_cons_succ]
                    refine wpD_loadL (i := 3) (v := ?vAe_3) rfl (by kernel_rfl) (by kernel_rfl) (by kernel_rfl) (by kernel_rfl) (fun _ _ _ h => h) (Or.inl ⟨by rfl, ?hyAe_3⟩) hS ?_
                    case hyAe_3 => (intro w hSw; (try dsimp only at hSw); go_simp; try with_reducible rfl)
                    simp only [Act.put, List.setIfInBounds_toArray, List.set_cons_zero, List.set_cons_succ]
                    refine wpD_loadL (i := 7) (v := ?vAe_7) rfl (by kernel_rfl) (by kernel_rfl) (by kernel_rfl) (by kernel_rfl) (fun _ _ _ h => h) (Or.inl ⟨by rfl, ?hyAe_7⟩) hS ?_
                    case hyAe_7 => (intro w hSw; (try dsimp only at hSw); go_simp; try with_reducible rfl)
                    simp only [Act.put, List.setIfInBounds_toArray, List.set_cons_zero, List.set_cons_succ]
                    refine wpD_takeL (i := 8) (v := ?vAe_8) rfl (by kernel_rfl) (by kernel_rfl) (by kernel_rfl) (fun _ _ _ h => h) (Or.inl ⟨by rfl, ?hyAe_8⟩) ?_
                    case hyAe_8 => (intro w; go_simp; try with_reducible rfl)
                    simp only [Act.put, List.setIfInBounds_toArray, List.set_cons_zero, List.set_cons_succ]
                    refine wpD_takeL (i := 9) (v := ?vAe_9) rfl (by kernel_rfl) (by kernel_rfl) (by kernel_rfl) (fun _ _ _ h => h) (Or.inl ⟨by rfl, ?hyAe_9⟩) ?_
                    case hyAe_9 => (intro w; go_simp; try with_reducible rfl)
                    simp only [Act.put, List.setIfInBounds_toArray, List.set_cons_zero, List.set_cons_succ]
                    refine wpD_takeL (i := 10) (v := ?vAe_10) rfl (by kernel_rfl) (by kernel_rfl) (by kernel_rfl) (fun _ _ _ h => h) (Or.inl ⟨by rfl, ?hyAe_10⟩) ?_
                    case hyAe_10 => (intro w; go_simp; try with_reducible rfl)
                    simp only [Act.put, List.setIfInBounds_toArray, List.set_cons_zero, List.set_cons_succ]
                    refine wpD_takeL (i := 11) (v := ?vAe_11) rfl (by kernel_rfl) (by kernel_rfl) (by kernel_rfl) (fun _ _ _ h => h) (Or.inl ⟨by rfl, ?hyAe_11⟩) ?_
                    case hyAe_11 => (intro w; go_simp; try with_reducible rfl)
                    simp only [Act.put, List.setIfInBounds_toArray, List.set_cons_zero, List.set_cons_succ]
                    refine wpD_takeL (i := 12) (v := ?vAe_12) rfl (by kernel_rfl) (by kernel_rfl) (by kernel_rfl) (fun _ _ _ h => h) (Or.inl ⟨by rfl, ?hyAe_12⟩) ?_
                    case hyAe_12 => (intro w; go_simp; try with_reducible rfl)
                    simp only [Act.put, List.setIfInBounds_toArray, List.set_cons_zero, List.set_cons_succ]
                    refine wpD_takeL (i := 13) (v := ?vAe_13) rfl (by kernel_rfl) (by kernel_rfl) (by kernel_rfl) (fun _ _ _ h => h) (Or.inl ⟨by rfl, ?hyAe_13⟩) ?_
                    case hyAe_13 => (intro w; go_simp; try with_reducible rfl)
                    simp only [Act.put, List.setIfInBounds_toArray, List.set_cons_zero, List.set_cons_succ]
                    refine wpD_tail 14 [14, 15, 16, 17] (by kernel_rfl) (by kernel_rfl) ?_
                    simp only [List.drop_succ_cons, List.drop_zero]
                    clear hS
                    go_wp2_with fail
                    go_roundw
                    case rel => exact ⟨b + 1, by omega, by go_num, m + 1, drewN_drew wf m⟩
                    case measure => simp [intOf]; omega
                  · skip
                    go_wp2_with fail
                    refine wpD_begin (n := 18) (l := [false, false, false, false, false, false, false, false, false, false, false, false, false, false, false, false, false, false].toArray) [14, 15, 16, 17] (fun w' => w'.cell? ⟨g1, a * 2, none⟩ = some (.int .i64 y1.ctr) ∧ w'.cell? ⟨g1, a * 2 + 1, none⟩ = some (.int .i64 y1.author) ∧ w'.cell? ⟨g0, b * 2, none⟩ = some (.int .i64 y1.ctr) ∧ w'.cell? ⟨g0, b * 2 + 1, none⟩ = some (.int .i64 y1.author)) (by kernel_rfl) (by kernel_rfl) (by kernel_rfl) ?_ (fun hS => ?_)
                    · first | (go_keep; done) | go_simp
                    try dsimp only at hS
                    refine wpD_takeL (i := 0) (v := ?vAf_0) rfl (by kernel_rfl) (by kernel_rfl) (by kernel_rfl) (fun _ _ _ h => h) (Or.inl ⟨by rfl, ?hyAf_0⟩) ?_
                    case hyAf_0 => (intro w; go_simp; try with_reducible rfl)
                    simp only [Act.put, List.setIfInBounds_toArray, List.set_cons_zero, List.set_cons_succ]
                    refine wpD_takeL (i := 1) (v := ?vAf_1) rfl (by kernel_rfl) (by kernel_rfl) (by kernel_rfl) (fun _ _ _ h => h) (Or.inl ⟨by rfl, ?hyAf_1⟩) ?_
                    case hyAf_1 => (intro w; go_simp; try with_reducible rfl)
                    simp only [Act.put, List.setIfInBounds_toArray, List.set_cons_zero, List.set_cons_succ]
                    refine wpD_takeL (i := 2) (v := ?vAf_2) rfl (by kernel_rfl) (by kernel_rfl) (by kernel_rfl) (fun _ _ _ h => h) (Or.inl ⟨by rfl, ?hyAf_2⟩) ?_
                    case hyAf_2 => (intro w; go_simp; try with_reducible rfl)
                    simp only [Act.put, List.setIfInBounds_toArray, List.set_cons_zero, List.set_cons_succ]
                    refine wpD_takeL (i := 4) (v := ?vAf_4) rfl (by kernel_rfl) (by kernel_rfl) (by kernel_rfl) (fun _ _ _ h => h) (Or.inl ⟨by rfl, ?hyAf_4⟩) ?_
                    case hyAf_4 => (intro w; go_simp; try with_reducible rfl)
                    simp only [Act.put, List.setIfInBounds_toArray, List.set_cons_zero, List.set_cons_succ]
                    refine wpD_takeL (i := 5) (v := ?vAf_5) rfl (by kernel_rfl) (by kernel_rfl) (by kernel_rfl) (fun _ _ _ h => h) (Or.inl ⟨by rfl, ?hyAf_5⟩) ?_
                    case hyAf_5 => (intro w; go_simp; try with_reducible rfl)
                    simp only [Act.put, List.setIfInBounds_toArray, List.set_cons_zero, List.set_cons_succ]
                    refine wpD_takeL (i := 6) (v := ?vAf_6) rfl (by kernel_rfl) (by kernel_rfl) (by kernel_rfl) (fun _ _ _ h => h) (Or.inl ⟨by rfl, ?hyAf_6⟩) ?_
                    case hyAf_6 => (intro w; go_simp; try with_reducible rfl)
                    simp only [Act.put, List.setIfInBounds_toArray, List.set_cons_zero, List.set_cons_succ]
                    refine wpD_loadL (i := 3) (v := ?vAf_3) rfl (by kernel_rfl) (by kernel_rfl) (by kernel_rfl) (by kernel_rfl) (fun _ _ _ h => h) (Or.inl ⟨by rfl, ?hyAf_3⟩) hS ?_
                    case hyAf_3 => (intro w hSw; (try dsimp only at hSw); go_simp; try with_reducible rfl)
                    simp only [Act.put, List.setIfInBounds_toArray, List.set_cons_zero, List.set_cons_succ]
                    refine wpD_loadL (i := 7) (v := ?vAf_7) rfl (by kernel_rfl) (by kernel_rfl) (by kernel_rfl) (by kernel_rfl) (fun _ _ _ h => h) (Or.inl ⟨by rfl, ?hyAf_7⟩) hS ?_
                    case hyAf_7 => (intro w hSw; (try dsimp only at hSw); go_simp; try with_reducible rfl)
                    simp only [Act.put, List.setIfInBounds_toArray, List.set_cons_zero, List.set_cons_succ]
                    refine wpD_takeL (i := 8) (v := ?vAf_8) rfl (by kernel_rfl) (by kernel_rfl) (by kernel_rfl) (fun _ _ _ h => h) (Or.inl ⟨by rfl, ?hyAf_8⟩) ?_
                    case hyAf_8 => (intro w; go_simp; try with_reducible rfl)
                    simp only [Act.put, List.setIfInBounds_toArray, List.set_cons_zero, List.set_cons_succ]
                    refine wpD_takeL (i := 9) (v := ?vAf_9) rfl (by kernel_rfl) (by kernel_rfl) (by kernel_rfl) (fun _ _ _ h => h) (Or.inl ⟨by rfl, ?hyAf_9⟩) ?_
                    case hyAf_9 => (intro w; go_simp; try with_reducible rfl)
                    simp only [Act.put, List.setIfInBounds_toArray, List.set_cons_zero, List.set_cons_succ]
                    refine wpD_takeL (i := 10) (v := ?vAf_10) rfl (by kernel_rfl) (by kernel_rfl) (by kernel_rfl) (fun _ _ _ h => h) (Or.inl ⟨by rfl, ?hyAf_10⟩) ?_
                    case hyAf_10 => (intro w; go_simp; try with_reducible rfl)
                    simp only [Act.put, List.setIfInBounds_toArray, List.set_cons_zero, List.set_cons_succ]
                    refine wpD_takeL (i := 11) (v := ?vAf_11) rfl (by kernel_rfl) (by kernel_rfl) (by kernel_rfl) (fun _ _ _ h => h) (Or.inl ⟨by rfl, ?hyAf_11⟩) ?_
                    case hyAf_11 => (intro w; go_simp; try with_reducible rfl)
                    simp only [Act.put, List.setIfInBounds_toArray, List.set_cons_zero, List.set_cons_succ]
                    refine wpD_takeL (i := 12) (v := ?vAf_12) rfl (by kernel_rfl) (by kernel_rfl) (by kernel_rfl) (fun _ _ _ h => h) (Or.inl ⟨by rfl, ?hyAf_12⟩) ?_
                    case hyAf_12 => (intro w; go_simp; try with_reducible rfl)
                    simp only [Act.put, List.setIfInBounds_toArray, List.set_cons_zero, List.set_cons_succ]
                    refine wpD_takeL (i := 13) (v := ?vAf_13) rfl (by kernel_rfl) (by kernel_rfl) (by kernel_rfl) (fun _ _ _ h => h) (Or.inl ⟨by rfl, ?hyAf_13⟩) ?_
                    case hyAf_13 => (intro w; go_simp; try with_reducible rfl)
                    simp only [Act.put, List.setIfInBounds_toArray, List.set_cons_zero, List.set_cons_succ]
                    refine wpD_tail 14 [14, 15, 16, 17] (by kernel_rfl) (by kernel_rfl) ?_
                    simp only [List.drop_succ_cons, List.drop_zero]
                    clear hS
                    go_wp2_with fail
                    go_roundw
                    case rel => exact ⟨b + 1, by omega, by go_num, m + 1, drewN_drew wf m⟩
                    case measure => simp [intOf]; omega
                · have hd : ¬ y1.ctr = y0.ctr ∨ (y1.ctr = y0.ctr ∧ ¬ y1.author = y0.author) := by
                    by_cases e1 : y1.ctr = y0.ctr
                    · by_cases e2 : y1.author = y0.author
                      · exact absurd (by cases y1; cases y0; simp at e1 e2; rw [e1, e2]) hyy
                      · exact .inr ⟨e1, e2⟩
                    · exact .inl e1
                  clear hyy
                  rcases hd with hd | ⟨hd1, hd⟩
                  · skip
                    go_wp2_with fail
                    refine wpD_begin (n := 18) (l := [false, false, false, false, false, false, false, false, false, false, false, false, false, false, false, false, false, false].toArray) [14, 15, 16, 17] (fun w' => w'.cell? ⟨g1, a * 2, none⟩ = some (.int .i64 y1.ctr) ∧ w'.cell? ⟨g1, a * 2 + 1, none⟩ = some (.int .i64 y1.author) ∧ w'.cell? ⟨g0, b * 2, none⟩ = some (.int .i64 y0.ctr) ∧ w'.cell? ⟨g0, b * 2 + 1, none⟩ = some (.int .i64 y0.author)) (by kernel_rfl) (by kernel_rfl) (by kernel_rfl) ?_ (fun hS => ?_)
                    · first | (go_keep; done) | go_simp
                    try dsimp only at hS
                    refine wpD_takeL (i := 0) (v := ?vAg_0) rfl (by kernel_rfl) (by kernel_rfl) (by kernel_rfl) (fun _ _ _ h => h) (Or.inl ⟨by rfl, ?hyAg_0⟩) ?_
                    case hyAg_0 => (intro w; go_simp; try with_reducible rfl)
                    simp only [Act.put, List.setIfInBounds_toArray, List.set_cons_zero, List.set_cons_succ]
                    refine wpD_takeL (i := 1) (v := ?vAg_1) rfl (by kernel_rfl) (by kernel_rfl) (by kernel_rfl) (fun _ _ _ h => h) (Or.inl ⟨by rfl, ?hyAg_1⟩) ?_
                    case hyAg_1 => (intro w; go_simp; try with_reducible rfl)
                    simp only [Act.put, List.setIfInBounds_toArray, List.set_cons_zero, List.set_cons_succ]
                    refine wpD_takeL (i := 2) (v := ?vAg_2) rfl (by kernel_rfl) (by kernel_rfl) (by kernel_rfl) (fun _ _ _ h => h) (Or.inl ⟨by rfl, ?hyAg_2⟩) ?_
                    case hyAg_2 => (intro w; go_simp; try with_reducible rfl)
                    simp only [Act.put, List.setIfInBounds_toArray, List.set_cons_zero, List.set_cons_succ]
                    refine wpD_takeL (i := 4) (v := ?vAg_4) rfl (by kernel_rfl) (by kernel_rfl) (by kernel_rfl) (fun _ _ _ h => h) (Or.inl ⟨by rfl, ?hyAg_4⟩) ?_
                    case hyAg_4 => (intro w; go_simp; try with_reducible rfl)
                    simp only [Act.put, List.setIfInBounds_toArray, List.set_cons_zero, List.set_cons_succ]
                    refine wpD_takeL (i := 5) (v := ?vAg_5) rfl (by kernel_rfl) (by kernel_rfl) (by kernel_rfl) (fun _ _ _ h => h) (Or.inl ⟨by rfl, ?hyAg_5⟩) ?_
                    case hyAg_5 => (intro w; go_simp; try with_reducible rfl)
                    simp only [Act.put, List.setIfInBounds_toArray, List.set_cons_zero, List.set_cons_succ]
                    refine wpD_takeL (i := 6) (v := ?vAg_6) rfl (by kernel_rfl) (by kernel_rfl) (by kernel_rfl) (fun _ _ _ h => h) (Or.inl ⟨by rfl, ?hyAg_6⟩) ?_
                    case hyAg_6 => (intro w; go_simp; try with_reducible rfl)
                    simp only [Act.put, List.setIfInBounds_toArray, List.set_cons_zero, List.set_cons_succ]
                    refine wpD_loadL (i := 3) (v := ?vAg_3) rfl (by kernel_rfl) (by kernel_rfl) (by kernel_rfl) (by kernel_rfl) (fun _ _ _ h => h) (Or.inl ⟨by rfl, ?hyAg_3⟩) hS ?_
                    case hyAg_3 => (intro w hSw; (try dsimp only at hSw); go_simp; try with_reducible rfl)
                    simp only [Act.put, List.setIfInBounds_toArray, List.set_cons_zero, List.set_cons_succ]
                    refine wpD_loadL (i := 7) (v := ?vAg_7) rfl (by kernel_rfl) (by kernel_rfl) (by kernel_rfl) (by kernel_rfl) (fun _ _ _ h => h) (Or.inl ⟨by rfl, ?hyAg_7⟩) hS ?_
                    case hyAg_7 => (intro w hSw; (try dsimp only at hSw); go_simp; try with_reducible rfl)
                    simp only [Act.put, List.setIfInBounds_toArray, List.set_cons_zero, List.set_cons_succ]
                    refine wpD_takeL (i := 8) (v := ?vAg_8) rfl (by kernel_rfl) (by kernel_rfl) (by kernel_rfl) (fun _ _ _ h => h) (Or.inl ⟨by rfl, ?hyAg_8⟩) ?_
                    case hyAg_8 => (intro w; go_simp; try with_reducible rfl)
                    simp only [Act.put, List.setIfInBounds_toArray, List.set_cons_zero, List.set_cons_succ]
                    refine wpD_takeL (i := 9) (v := ?vAg_9) rfl (by kernel_rfl) (by kernel_rfl) (by kernel_rfl) (fun _ _ _ h => h) (Or.inl ⟨by rfl, ?hyAg_9⟩) ?_
                    case hyAg_9 => (intro w; go_simp; try with_reducible rfl)
                    simp only [Act.put, List.setIfInBounds_toArray, List.set_cons_zero, List.set_cons_succ]
                    refine wpD_takeL (i := 10) (v := undef) rfl (by kernel_rfl) (by kernel_rfl) (by kernel_rfl) (fun _ _ _ h => h) (Or.inr ⟨by rfl, rfl⟩) ?_
                    simp only [Act.put, List.setIfInBounds_toArray, List.set_cons_zero, List.set_cons_succ]
                    refine wpD_takeL (i := 11) (v := undef) rfl (by kernel_rfl) (by kernel_rfl) (by kernel_rfl) (fun _ _ _ h => h) (Or.inr ⟨by rfl, rfl⟩) ?_
                    simp only [Act.put, List.setIfInBounds_toArray, List.set_cons_zero, List.set_cons_succ]
                    refine wpD_takeL (i := 12) (v := undef) rfl (by kernel_rfl) (by kernel_rfl) (by kernel_rfl) (fun _ _ _ h => h) (Or.inr ⟨by rfl, rfl⟩) ?_
                    simp only [Act.put, List.setIfInBounds_toArray, List.set_cons_zero, List.set_cons_succ]
                    refine wpD_takeL (i := 13) (v := undef) rfl (by kernel_rfl) (by kernel_rfl) (by kernel_rfl) (fun _ _ _ h => h) (Or.inr ⟨by rfl, rfl⟩) ?_
                    simp only [Act.put, List.setIfInBounds_toArray, List.set_cons_zero, List.set_cons_succ]
                    refine wpD_tail 14 [14, 15, 16, 17] (by kernel_rfl) (by kernel_rfl) ?_
                    simp only [List.drop_succ_cons, List.drop_zero]
                    clear hS
                    go_wp2_with fail
                    go_roundw
                    case rel => exact ⟨b + 1, by omega, by go_num, m + 1, drewN_drew wf m⟩
                    case measure => simp [intOf]; omega
                  · rw [hd1] at p0
                    clear hd1
                    go_wp2_with fail
                    refine wpD_begin (n := 18) (l := [false, false, false, false, false, false, false, false, false, false, false, false, false, false, false, false, false, false].toArray) [14, 15, 16, 17] (fun w' => w'.cell? ⟨g1, a * 2, none⟩ = some (.int .i64 y0.ctr) ∧ w'.cell? ⟨g1, a * 2 + 1, none⟩ = some (.int .i64 y1.author) ∧ w'.cell? ⟨g0, b * 2, none⟩ = some (.int .i64 y0.ctr) ∧ w'.cell? ⟨g0, b * 2 + 1, none⟩ = some (.int .i64 y0.author)) (by kernel_rfl) (by kernel_rfl) (by kernel_rfl) ?_ (fun hS => ?_)
                    · first | (go_keep; done) | go_simp
                    try dsimp only at hS
                    refine wpD_takeL (i := 0) (v := ?vAh_0) rfl (by kernel_rfl) (by kernel_rfl) (by kernel_rfl) (fun _ _ _ h => h) (Or.inl ⟨by rfl, ?hyAh_0⟩) ?_
                    case hyAh_0 => (intro w; go_simp; try with_reducible rfl)
                    simp only [Act.put, List.setIfInBounds_toArray, List.set_cons_zero, List.set_cons_succ]
                    refine wpD_takeL (i := 1) (v := ?vAh_1) rfl (by kernel_rfl) (by kernel_rfl) (by kernel_rfl) (fun _ _ _ h => h) (Or.inl ⟨by rfl, ?hyAh_1⟩) ?_
                    case hyAh_1 => (intro w; go_simp; try with_reducible rfl)
                    simp only [Act.put, List.setIfInBounds_toArray, List.set_cons_zero, List.set_cons_succ]
                    refine wpD_takeL (i := 2) (v := ?vAh_2) rfl (by kernel_rfl) (by kernel_rfl) (by kernel_rfl) (fun _ _ _ h => h) (Or.inl ⟨by rfl, ?hyAh_2⟩) ?_
                    case hyAh_2 => (intro w; go_simp; try with_reducible rfl)
                    simp only [Act.put, List.setIfInBounds_toArray, List.set_cons_zero, List.set_cons_succ]
                    refine wpD_takeL (i := 4) (v := ?vAh_4) rfl (by kernel_rfl) (by kernel_rfl) (by kernel_rfl) (fun _ _ _ h => h) (Or.inl ⟨by rfl, ?hyAh_4⟩) ?_
                    case hyAh_4 => (intro w; go_simp; try with_reducible rfl)
                    simp only [Act.put, List.setIfInBounds_toArray, List.set_cons_zero, List.set_cons_succ]
                    refine wpD_takeL (i := 5) (v := ?vAh_5) rfl (by kernel_rfl) (by kernel_rfl) (by kernel_rfl) (fun _ _ _ h => h) (Or.inl ⟨by rfl, ?hyAh_5⟩) ?_
                    case hyAh_5 => (intro w; go_simp; try with_reducible rfl)
                    simp only [Act.put, List.setIfInBounds_toArray, List.set_cons_zero, List.set_cons_succ]
                    refine wpD_takeL (i := 6) (v := ?vAh_6) rfl (by kernel_rfl) (by kernel_rfl) (by kernel_rfl) (fun _ _ _ h => h) (Or.inl ⟨by rfl, ?hyAh_6⟩) ?_
                    case hyAh_6 => (intro w; go_simp; try with_reducible rfl)
                    simp only [Act.put, List.setIfInBounds_toArray, List.set_cons_zero, List.set_cons_succ]
                    refine wpD_loadL (i := 3) (v := ?vAh_3) rfl (by kernel_rfl) (by kernel_rfl) (by kernel_rfl) (by kernel_rfl) (fun _ _ _ h => h) (Or.inl ⟨by rfl, ?hyAh_3⟩) hS ?_
                    case hyAh_3 => (intro w hSw; (try dsimp only at hSw); go_simp; try with_reducible rfl)
                    simp only [Act.put, List.setIfInBounds_toArray, List.set_cons_zero, List.set_cons_succ]
                    refine wpD_loadL (i := 7) (v := ?vAh_7) rfl (by kernel_rfl) (by kernel_rfl) (by kernel_rfl) (by kernel_rfl) (fun _ _ _ h => h) (Or.inl ⟨by rfl, ?hyAh_7⟩) hS ?_
                    case hyAh_7 => (intro w hSw; (try dsimp only at hSw); go_simp; try with_reducible rfl)
                    simp only [Act.put, List.setIfInBounds_toArray, List.set_cons_zero, List.set_cons_succ]
                    refine wpD_takeL (i := 8) (v := ?vAh_8) rfl (by kernel_rfl) (by kernel_rfl) (by kernel_rfl) (fun _ _ _ h => h) (Or.inl ⟨by rfl, ?hyAh_8⟩) ?_
                    case hyAh_8 => (intro w; go_simp; try with_reducible rfl)
                    simp only [Act.put, List.setIfInBounds_toArray, List.set_cons_zero, List.set_cons_succ]
                    refine wpD_takeL (i := 9) (v := ?vAh_9) rfl (by kernel_rfl) (by kernel_rfl) (by kernel_rfl) (fun _ _ _ h => h) (Or.inl ⟨by rfl, ?hyAh_9⟩) ?_
                    case hyAh_9 => (intro w; go_simp; try with_reducible rfl)
                    simp only [Act.put, List.setIfInBounds_toArray, List.set_cons_zero, List.set_cons_succ]
                    refine wpD_takeL (i := 10) (v := undef) rfl (by kernel_rfl) (by kernel_rfl) (by kernel_rfl) (fun _ _ _ h => h) (Or.inr ⟨by rfl, rfl⟩) ?_
                    simp only [Act.put, List.setIfInBounds_toArray, List.set_cons_zero, List.set_cons_succ]
                    refine wpD_takeL (i := 11) (v := undef) rfl (by kernel_rfl) (by kernel_rfl) (by kernel_rfl) (fun _ _ _ h => h) (Or.inr ⟨by rfl, rfl⟩) ?_
                    simp only [Act.put, List.setIfInBounds_toArray, List.set_cons_zero, List.set_cons_succ]
                    refine wpD_takeL (i := 12) (v := undef) rfl (by kernel_rfl) (by kernel_rfl) (by kernel_rfl) (fun _ _ _ h => h) (Or.inr ⟨by rfl, rfl⟩) ?_
                    simp only [Act.put, List.setIfInBounds_toArray, List.set_cons_zero, List.set_cons_succ]
                    refine wpD_takeL (i := 13) (v := undef) rfl (by kernel_rfl) (by kernel_rfl) (by kernel_rfl) (fun _ _ _ h => h) (Or.inr ⟨by rfl, rfl⟩) ?_
                    simp only [Act.put, List.setIfInBounds_toArray, List.set_cons_zero, List.set_cons_succ]
                    refine wpD_tail 14 [14, 15, 16, 17] (by kernel_rfl) (by kernel_rfl) ?_
                    simp only [List.drop_succ_cons, List.drop_zero]
                    clear hS
                    go_wp2_with fail
                    go_roundw
                    case rel => exact ⟨b + 1, by omega, by go_num, m + 1, drewN_drew wf m⟩
                    case measure => simp [intOf]; omega
              · go_wp2_with fail
                exact ⟨⟨a + 1, by omega, by go_num, m, rfl⟩, by simp [intOf]; omega⟩
          · have HAl : Hid (∀ z : Rga.Id, Calls Try.prog 26 #[.pointer (some ⟨x, 0, none⟩), .agg #[.int .i64 z.ctr, .int .i64 z.author]] (wf.drewN m0) (boolKeeps (wf.drewN m0) (aliveE es1 z))) := Lib.hid (fun z => alive_any _ F1 x es1 tc1 (HLF.out.keepN (drew_keeps wf m0)) z)
            cases ah
            · by_cases hpz : 0 < p
              · obtain ⟨pn, rfl⟩ : ∃ pn : Nat, p = ((pn : Nat) : Int) + 1 := ⟨p.toNat - 1, by omega⟩
                obtain ⟨y0, hy0⟩ : ∃ y0, (idsE es)[pn]? = some y0 := ⟨_, List.getElem?_eq_getElem (by rw [idsE_length, ← HN.out]; omega)⟩
                obtain ⟨g0, cg0, e0, r0, r1⟩ := row_id HR0.out pn y0 hy0
                obtain rfl : A4 = some ⟨g0, 0, none⟩ := by injection e0
                have HY0 := Lib.hid hy0
                have HA0 := Lib.hid (HAl.out y0)
                have hpN : pn < N := by omega
                clear e0 hy0 HAl
                rcases hal : aliveE es1 y0 with _ | _
                · rw [hal] at HA0
                  clear hal
                  go_wp2_with (first | (go_at_call 26; refine HA0.out.mono ?_; rintro r wg ⟨rfl, hkg⟩; have hkg := Lib.hid hkg))
                  go_ret
                  exact ⟨rfl, (HKF.out.drewN m0).trans hkg.out⟩
                · rw [hal] at HA0
                  have hq3 := HLAW.out.2.1 rfl (by omega) y0 (by rw [show ((pn : Int) + 1 - 1).toNat = pn by omega]; exact HY0.out) hal
                  obtain ⟨qn, hqn⟩ : ∃ qn : Nat, q = qn + 1 := ⟨q - 1, by omega⟩
                  obtain ⟨g1, cg1, e1, s0, s1⟩ := row_id HR9.out qn y0 (by have := hq3.2; rw [hqn] at this; simpa using this)
                  have hqz : (q : Int) = (qn : Int) + 1 := by omega
                  have hqp : 0 < (qn : Int) + 1 := by omega
                  have hqN1 : qn < N1 := by omega
                  have hwq := wrap_nat qn (by omega)
                  have hwp := wrap_nat pn (by omega)
                  rw [hqz]
                  obtain rfl : A9 = some ⟨g1, 0, none⟩ := by injection e1
                  have HS4 := Lib.hid (And.intro s0 (And.intro s1 (And.intro r0 r1)))
                  clear hal hq3 e1 hqn hqz HLAW
                  go_wp2_with fail
                  go_at_call 26
                  refine HA0.out.mono ?_
                  rintro r wg ⟨rfl, hkg⟩
                  have hkw := ((Keeps.refl NoB wf).drewN m0).trans hkg
                  have s0 := hkw.some HS4.out.1
                  have s1 := hkw.some HS4.out.2.1
                  have r0 := hkw.some HS4.out.2.2.1
                  have r1 := hkw.some HS4.out.2.2.2
                  have HKG := Lib.hid hkw
                  clear hkg hkw
                  go_wp2_with fail
                  refine wpD_begin (n := 16) (l := [false, false, false, false, false, false, false, false, false, false, false, false, false, false, false, false].toArray) [13, 14, 15] (fun w' => w'.cell? ⟨g1, qn * 2, none⟩ = some (.int .i64 y0.ctr) ∧ w'.cell? ⟨g1, qn * 2 + 1, none⟩ = some (.int .i64 y0.author) ∧ w'.cell? ⟨g0, pn * 2, none⟩ = some (.int .i64 y0.ctr) ∧ w'.cell? ⟨g0, pn * 2 + 1, none⟩ = some (.int .i64 y0.author)) (by kernel_rfl) (by kernel_rfl) (by kernel_rfl) ?_ (fun hS => ?_)
                  · first | (go_keep; done) | go_simp
                  try dsimp only at hS
                  refine wpD_takeL (i := 0) (v := ?vAi_0) rfl (by kernel_rfl) (by kernel_rfl) (by kernel_rfl) (fun _ _ _ h => h) (Or.inl ⟨by rfl, ?hyAi_0⟩) ?_
                  case hyAi_0 => (intro w; go_simp; try with_reducible rfl)
                  simp only [Act.put, List.setIfInBounds_toArray, List.set_cons_zero, List.set_cons_succ]
                  refine wpD_takeL (i := 1) (v := ?vAi_1) rfl (by kernel_rfl) (by kernel_rfl) (by kernel_rfl) (fun _ _ _ h => h) (Or.inl ⟨by rfl, ?hyAi_1⟩) ?_
                  case hyAi_1 => (intro w; go_simp; try with_reducible rfl)
                  simp only [Act.put, List.setIfInBounds_toArray, List.set_cons_zero, List.set_cons_succ]
                  refine wpD_takeL (i := 2) (v := ?vAi_2) rfl (by kernel_rfl) (by kernel_rfl) (by kernel_rfl) (fun _ _ _ h => h) (Or.inl ⟨by rfl, ?hyAi_2⟩) ?_
                  case hyAi_2 => (intro w; go_simp; try with_reducible rfl)
                  simp only [Act.put, List.setIfInBounds_toArray, List.set_cons_zero, List.set_cons_succ]
                  refine wpD_takeL (i := 3) (v := ?vAi_3) rfl (by kernel_rfl) (by kernel_rfl) (by kernel_rfl) (fun _ _ _ h => h) (Or.inl ⟨by rfl, ?hyAi_3⟩) ?_
                  case hyAi_3 => (intro w; go_simp; try with_reducible rfl)
                  simp only [Act.put, List.setIfInBounds_toArray, List.set_cons_zero, List.set_cons_succ]
                  refine wpD_takeL (i := 4) (v := ?vAi_4) rfl (by kernel_rfl) (by kernel_rfl) (by kernel_rfl) (fun _ _ _ h => h) (Or.inl ⟨by rfl, ?hyAi_4⟩) ?_
                  case hyAi_4 => (intro w; go_simp; try with_reducible rfl)
                  simp only [Act.put, List.setIfInBounds_toArray, List.set_cons_zero, List.set_cons_succ]
                  refine wpD_takeL (i := 5) (v := ?vAi_5) rfl (by kernel_rfl) (by kernel_rfl) (by kernel_rfl) (fun _ _ _ h => h) (Or.inl ⟨by rfl, ?hyAi_5⟩) ?_
                  case hyAi_5 => (intro w; go_simp; try with_reducible rfl)
                  simp only [Act.put, List.setIfInBounds_toArray, List.set_cons_zero, List.set_cons_succ]
                  refine wpD_takeL (i := 6) (v := ?vAi_6) rfl (by kernel_rfl) (by kernel_rfl) (by kernel_rfl) (fun _ _ _ h => h) (Or.inl ⟨by rfl, ?hyAi_6⟩) ?_
                  case hyAi_6 => (intro w; go_simp; try with_reducible rfl)
                  simp only [Act.put, List.setIfInBounds_toArray, List.set_cons_zero, List.set_cons_succ]
                  refine wpD_takeL (i := 8) (v := ?vAi_8) rfl (by kernel_rfl) (by kernel_rfl) (by kernel_rfl) (fun _ _ _ h => h) (Or.inl ⟨by rfl, ?hyAi_8⟩) ?_
                  case hyAi_8 => (intro w; go_simp; try with_reducible rfl)
                  simp only [Act.put, List.setIfInBounds_toArray, List.set_cons_zero, List.set_cons_succ]
                  refine wpD_takeL (i := 9) (v := ?vAi_9) rfl (by kernel_rfl) (by kernel_rfl) (by kernel_rfl) (fun _ _ _ h => h) (Or.inl ⟨by rfl, ?hyAi_9⟩) ?_
                  case hyAi_9 => (intro w; go_simp; try with_reducible rfl)
                  simp only [Act.put, List.setIfInBounds_toArray, List.set_cons_zero, List.set_cons_succ]
                  refine wpD_takeL (i := 10) (v := ?vAi_10) rfl (by kernel_rfl) (by kernel_rfl) (by kernel_rfl) (fun _ _ _ h => h) (Or.inl ⟨by rfl, ?hyAi_10⟩) ?_
                  case hyAi_10 => (intro w; go_simp; try with_reducible rfl)
                  simp only [Act.put, List.setIfInBounds_toArray, List.set_cons_zero, List.set_cons_succ]
                  refine wpD_takeL (i := 11) (v := ?vAi_11) rfl (by kernel_rfl) (by kernel_rfl) (by kernel_rfl) (fun _ _ _ h => h) (Or.inl ⟨by rfl, ?hyAi_11⟩) ?_
                  case hyAi_11 => (intro w; go_simp; try with_reducible rfl)
                  simp only [Act.put, List.setIfInBounds_toArray, List.set_cons_zero, List.set_cons_succ]
                  refine wpD_loadL (i := 7) (v := ?vAi_7) rfl (by kernel_rfl) (by kernel_rfl) (by kernel_rfl) (by kernel_rfl) (fun _ _ _ h => h) (Or.inl ⟨by rfl, ?hyAi_7⟩) hS ?_
                  case hyAi_7 => (intro w hSw; (try dsimp only at hSw); go_simp; try with_reducible rfl)
                  simp only [Act.put, List.setIfInBounds_toArray, List.set_cons_zero, List.set_cons_succ]
                  refine wpD_loadL (i := 12) (v := ?vAi_12) rfl (by kernel_rfl) (by kernel_rfl) (by kernel_rfl) (by kernel_rfl) (fun _ _ _ h => h) (Or.inl ⟨by rfl, ?hyAi_12⟩) hS ?_
                  case hyAi_12 => (intro w hSw; (try dsimp only at hSw); go_simp; try with_reducible rfl)
                  simp only [Act.put, List.setIfInBounds_toArray, List.set_cons_zero, List.set_cons_succ]
                  refine wpD_tail 13 [13, 14, 15] (by kernel_rfl) (by kernel_rfl) ?_
                  simp only [List.drop_succ_cons, List.drop_zero]
                  clear hS
                  go_wp2_with fail
                  go_ret
                  exact ⟨rfl, (HKF.out.trans HKG.out).drew⟩
              · obtain rfl : p = 0 := by omega
                clear HAl
                go_wp2_with fail
                go_ret
                exact ⟨rfl, HKF.out.drewN m0⟩
            · by_cases hpz : p < (N : Int)
              · obtain ⟨pn, rfl⟩ : ∃ pn : Nat, p = ((pn : Nat) : Int) := ⟨p.toNat, by omega⟩
                obtain ⟨y0, hy0⟩ : ∃ y0, (idsE es)[pn]? = some y0 := ⟨_, List.getElem?_eq_getElem (by rw [idsE_length, ← HN.out]; omega)⟩
                obtain ⟨g0, cg0, e0, r0, r1⟩ := row_id HR0.out pn y0 hy0
                obtain rfl : A4 = some ⟨g0, 0, none⟩ := by injection e0
                have HY0 := Lib.hid hy0
                have HA0 := Lib.hid (HAl.out y0)
                have hpN : pn < N := by omega
                clear e0 hy0 HAl
                rcases hal : aliveE es1 y0 with _ | _
                · rw [hal] at HA0
                  clear hal
                  go_wp2_with (first | (go_at_call 26; refine HA0.out.mono ?_; rintro r wg ⟨rfl, hkg⟩; have hkg := Lib.hid hkg))
                  go_ret
                  exact ⟨rfl, (HKF.out.drewN m0).trans hkg.out⟩
                · rw [hal] at HA0
                  have hq4 := HLAW.out.2.2 rfl (by have := HN.out; omega) y0 (by rw [Int.toNat_natCast]; exact HY0.out) hal
                  have hqN1 : q < N1 := by have := HN1.out; have := hq4.1; omega
                  obtain ⟨g1, cg1, e1, s0, s1⟩ := row_id HR9.out q y0 hq4.2
                  obtain rfl : A9 = some ⟨g1, 0, none⟩ := by injection e1
                  have HS4 := Lib.hid (And.intro s0 (And.intro s1 (And.intro r0 r1)))
                  clear hal hq4 e1
                  go_wp2_with fail
                  go_at_call 26
                  refine HA0.out.mono ?_
                  rintro r wg ⟨rfl, hkg⟩
                  have hkw := ((Keeps.refl NoB wf).drewN m0).trans hkg
                  have s0 := hkw.some HS4.out.1
                  have s1 := hkw.some HS4.out.2.1
                  have r0 := hkw.some HS4.out.2.2.1
                  have r1 := hkw.some HS4.out.2.2.2
                  have HKG := Lib.hid hkw
                  clear hkg hkw
                  go_wp2_with fail
                  refine wpD_begin (n := 16) (l := [false, false, false, false, false, false, false, false, false, false, false, false, false, false, false, false].toArray) [13, 14, 15] (fun w' => w'.cell? ⟨g1, q * 2, none⟩ = some (.int .i64 y0.ctr) ∧ w'.cell? ⟨g1, q * 2 + 1, none⟩ = some (.int .i64 y0.author) ∧ w'.cell? ⟨g0, pn * 2, none⟩ = some (.int .i64 y0.ctr) ∧ w'.cell? ⟨g0, pn * 2 + 1, none⟩ = some (.int .i64 y0.author)) (by kernel_rfl) (by kernel_rfl) (by kernel_rfl) ?_ (fun hS => ?_)
                  · first | (go_keep; done) | go_simp
                  try dsimp only at hS
                  refine wpD_takeL (i := 0) (v := ?vAj_0) rfl (by kernel_rfl) (by kernel_rfl) (by kernel_rfl) (fun _ _ _ h => h) (Or.inl ⟨by rfl, ?hyAj_0⟩) ?_
                  case hyAj_0 => (intro w; go_simp; try with_reducible rfl)
                  simp only [Act.put, List.setIfInBounds_toArray, List.set_cons_zero, List.set_cons_succ]
                  refine wpD_takeL (i := 1) (v := ?vAj_1) rfl (by kernel_rfl) (by kernel_rfl) (by kernel_rfl) (fun _ _ _ h => h) (Or.inl ⟨by rfl, ?hyAj_1⟩) ?_
                  case hyAj_1 => (intro w; go_simp; try with_reducible rfl)
                  simp only [Act.put, List.setIfInBounds_toArray, List.set_cons_zero, List.set_cons_succ]
                  refine wpD_takeL (i := 2) (v := ?vAj_2) rfl (by kernel_rfl) (by kernel_rfl) (by kernel_rfl) (fun _ _ _ h => h) (Or.inl ⟨by rfl, ?hyAj_2⟩) ?_
                  case hyAj_2 => (intro w; go_simp; try with_reducible rfl)
                  simp only [Act.put, List.setIfInBounds_toArray, List.set_cons_zero, List.set_cons_succ]
                  refine wpD_takeL (i := 3) (v := ?vAj_3) rfl (by kernel_rfl) (by kernel_rfl) (by kernel_rfl) (fun _ _ _ h => h) (Or.inl ⟨by rfl, ?hyAj_3⟩) ?_
                  case hyAj_3 => (intro w; go_simp; try with_reducible rfl)
                  simp only [Act.put, List.setIfInBounds_toArray, List.set_cons_zero, List.set_cons_succ]
                  refine wpD_takeL (i := 4) (v := ?vAj_4) rfl (by kernel_rfl) (by kernel_rfl) (by kernel_rfl) (fun _ _ _ h => h) (Or.inl ⟨by rfl, ?hyAj_4⟩) ?_
                  case hyAj_4 => (intro w; go_simp; try with_reducible rfl)
                  simp only [Act.put, List.setIfInBounds_toArray, List.set_cons_zero, List.set_cons_succ]
                  refine wpD_takeL (i := 5) (v := ?vAj_5) rfl (by kernel_rfl) (by kernel_rfl) (by kernel_rfl) (fun _ _ _ h => h) (Or.inl ⟨by rfl, ?hyAj_5⟩) ?_
                  case hyAj_5 => (intro w; go_simp; try with_reducible rfl)
                  simp only [Act.put, List.setIfInBounds_toArray, List.set_cons_zero, List.set_cons_succ]
                  refine wpD_takeL (i := 6) (v := ?vAj_6) rfl (by kernel_rfl) (by kernel_rfl) (by kernel_rfl) (fun _ _ _ h => h) (Or.inl ⟨by rfl, ?hyAj_6⟩) ?_
                  case hyAj_6 => (intro w; go_simp; try with_reducible rfl)
                  simp only [Act.put, List.setIfInBounds_toArray, List.set_cons_zero, List.set_cons_succ]
                  refine wpD_takeL (i := 7) (v := ?vAj_7) rfl (by kernel_rfl) (by kernel_rfl) (by kernel_rfl) (fun _ _ _ h => h) (Or.inl ⟨by rfl, ?hyAj_7⟩) ?_
                  case hyAj_7 => (intro w; go_simp; try with_reducible rfl)
                  simp only [Act.put, List.setIfInBounds_toArray, List.set_cons_zero, List.set_cons_succ]
                  refine wpD_takeL (i := 9) (v := ?vAj_9) rfl (by kernel_rfl) (by kernel_rfl) (by kernel_rfl) (fun _ _ _ h => h) (Or.inl ⟨by rfl, ?hyAj_9⟩) ?_
                  case hyAj_9 => (intro w; go_simp; try with_reducible rfl)
                  simp only [Act.put, List.setIfInBounds_toArray, List.set_cons_zero, List.set_cons_succ]
                  refine wpD_takeL (i := 10) (v := ?vAj_10) rfl (by kernel_rfl) (by kernel_rfl) (by kernel_rfl) (fun _ _ _ h => h) (Or.inl ⟨by rfl, ?hyAj_10⟩) ?_
                  case hyAj_10 => (intro w; go_simp; try with_reducible rfl)
                  simp only [Act.put, List.setIfInBounds_toArray, List.set_cons_zero, List.set_cons_succ]
                  refine wpD_takeL (i := 11) (v := ?vAj_11) rfl (by kernel_rfl) (by kernel_rfl) (by kernel_rfl) (fun _ _ _ h => h) (Or.inl ⟨by rfl, ?hyAj_11⟩) ?_
                  case hyAj_11 => (intro w; go_simp; try with_reducible rfl)
                  simp only [Act.put, List.setIfInBounds_toArray, List.set_cons_zero, List.set_cons_succ]
                  refine wpD_loadL (i := 8) (v := ?vAj_8) rfl (by kernel_rfl) (by kernel_rfl) (by kernel_rfl) (by kernel_rfl) (fun _ _ _ h => h) (Or.inl ⟨by rfl, ?hyAj_8⟩) hS ?_
                  case hyAj_8 => (intro w hSw; (try dsimp only at hSw); go_simp; try with_reducible rfl)
                  simp only [Act.put, List.setIfInBounds_toArray, List.set_cons_zero, List.set_cons_succ]
                  refine wpD_loadL (i := 12) (v := ?vAj_12) rfl (by kernel_rfl) (by kernel_rfl) (by kernel_rfl) (by kernel_rfl) (fun _ _ _ h => h) (Or.inl ⟨by rfl, ?hyAj_12⟩) hS ?_
                  case hyAj_12 => (intro w hSw; (try dsimp only at hSw); go_simp; try with_reducible rfl)
                  simp only [Act.put, List.setIfInBounds_toArray, List.set_cons_zero, List.set_cons_succ]
                  refine wpD_tail 13 [13, 14, 15] (by kernel_rfl) (by kernel_rfl) ?_
                  simp only [List.drop_succ_cons, List.drop_zero]
                  clear hS
                  go_wp2_with fail
                  go_ret
                  exact ⟨rfl, (HKF.out.trans HKG.out).drew⟩
              · clear HAl
                go_wp2_with fail
                go_ret
                exact ⟨rfl, HKF.out.drewN m0⟩
      · skip
        obtain ⟨F1, ops1, h1, h2, h3, h4, h5, h6, h7, h8, h9, h10⟩ := HS.out
        have hL1 := h1.lies (by omega)
        have hG1 := mEls_good h1
        obtain ⟨i', q, hh', hpl, hq, hord, hc3, hc4⟩ := stays_law HG.out hG1 h3 hp0 (by have := HN.out; omega) ah
        have hii : i' = i := by
          have := HHI.out
          rw [hh'] at this
          exact Option.some.inj this
        subst hii
        have HPl : Hid (Calls Try.prog 11 #[.pointer (some ⟨x, 0, none⟩), .agg #[.int .i64 i'.ctr, .int .i64 i'.author, .bool ah]] wr (valKeeps wr (.tuple #[.int .i64 q, .int .i64 0]))) := Lib.hid (by
          have := place_cur wr F1 x _ _ hL1 i' ah
          rw [hpl] at this
          exact this)
        have a0 := h8.cell 0
        have a1 := h8.cell 1
        have a2 := h8.cell 2
        simp only [List.getElem?_cons_zero, List.getElem?_cons_succ] at a0 a1 a2
        generalize mEls ops1 = es1 at *
        generalize topC ops1 = tc1 at *
        obtain ⟨N1, hN1⟩ : ∃ N1 : Nat, N1 = lenE es1 := ⟨_, rfl⟩
        have hqN : q ≤ N1 := by omega
        have hN1b : N1 ≤ 1099511627776 := by
          obtain ⟨_, _, _, _, _, hb⟩ := hL1
          have := lenE_le es1
          omega
        have HN1 := Lib.hid hN1
        have HL1 := Lib.hid hL1
        have HLAW := Lib.hid (And.intro hord (And.intro hc3 hc4))
        have HRW := Lib.hid (And.intro h6 h10)
        clear h1 h2 h3 h4 h5 h6 h7 h8 h9 h10 hL1 hG1 hh' hpl hq hord hc3 hc4 hN1 HS hkM hMb hk
        go_wp2_with fail
        go_at_call 11
        refine HPl.out.mono ?_
        rintro r w8 ⟨rfl, hk8⟩
        have HI8 := Lib.hid (idsAll_any w8 F1 x es1 tc1 (HL1.out.keepN hk8))
        have HK8 := Lib.hid hk8
        clear hk8 HPl a0 a1 a2
        go_wp2_with fail
        go_at_call 25
        refine HI8.out.mono ?_
        rintro r wf ⟨v9, rfl, hrow9, hk9, hf9⟩
        have hrow9' : Row wf 24 2 v9 N1 (idsV (idsE es1)) := by rw [HN1.out, ← idsE_length]; exact hrow9
        obtain ⟨A9, c9, hv9⟩ := hrow9'.slice
        subst hv9
        have HR9 := Lib.hid hrow9
        have HR0 := Lib.hid (HRW.out.1.keep (HK8.out.trans hk9) (fun _ _ e => e))
        have HKF := Lib.hid (HRW.out.2.trans (HK8.out.trans hk9))
        have HLF := Lib.hid (HL1.out.keepN (HK8.out.trans hk9))
        clear hrow9 hrow9' hk9 hf9 HI8 HK8 HRW HL1
        go_wp2_with fail
        have hd1 : decide ((q : Int) < 0) = false := decide_eq_false (by omega)
        have hd2 : decide (N1 < q) = false := decide_eq_false (by omega)
        simp only [hd1, hd2, Bool.or_false]
        clear hd1 hd2
        go_loopw [19] (fun t19 wq => ∃ a : Nat, a ≤ N1 ∧ t19 = .int .i64 a ∧ ∃ m : Nat, wq = wf.drewN m) (fun t19 _ => N1 - (intOf t19).toNat)
        case atStart => exact ⟨0, Nat.zero_le _, rfl, 0, rfl⟩
        case round =>
          obtain ⟨a, ha, rfl, m0, rfl⟩ := hrel
          by_cases haN : a < N1
          · go_wp2_with fail
            go_loopw [20] (fun t20 wq => ∃ b : Nat, b ≤ N ∧ t20 = .int .i64 b ∧ ∃ m : Nat, wq = wf.drewN m) (fun t20 _ => N - (intOf t20).toNat)
            case atStart => exact ⟨0, Nat.zero_le _, rfl, m0, rfl⟩
            case round =>
              obtain ⟨b, hb, rfl, m, rfl⟩ := hrel
              by_cases hbN : b < N
              · obtain ⟨y1, hy1⟩ : ∃ y1, (idsE es1)[a]? = some y1 := ⟨_, List.getElem?_eq_getElem (by rw [idsE_length, ← HN1.out]; exact haN)⟩
                obtain ⟨y0, hy0⟩ : ∃ y0, (idsE es)[b]? = some y0 := ⟨_, List.getElem?_eq_getElem (by rw [idsE_length, ← HN.out]; exact hbN)⟩
                obtain ⟨g1, cg1, e1, p0, p1⟩ := row_id HR9.out a y1 hy1
                obtain ⟨g0, cg0, e0, r0, r1⟩ := row_id HR0.out b y0 hy0
                obtain rfl : A9 = some ⟨g1, 0, none⟩ := by injection e1
                obtain rfl : A4 = some ⟨g0, 0, none⟩ := by injection e0
                clear e1 e0
                have HY := Lib.hid (And.intro hy1 hy0)
                clear hy1 hy0
                by_cases hyy : y1 = y0
                · subst hyy
                  have hiff := HLAW.out.1 b a y1 HY.out.2 HY.out.1
                  have hbp : ((b : Int) < p ∧ a < q) ∨ (¬ (b : Int) < p ∧ ¬ a < q) := by
                    by_cases h : (b : Int) < p
                    · exact .inl ⟨h, hiff.1 h⟩
                    · exact .inr ⟨h, fun h' => h (hiff.2 h')⟩
                  clear hiff
                  rcases hbp with ⟨hb1, hb2⟩ | ⟨hb1, hb2⟩
                  · skip
                    go_wp2_with fail
                    refine wpD_begin (n := 18) (l := [false, false, false, false, false, false, false, false, false, false, false, false, false, false, false, false, false, false].toArray) [14, 15, 16, 17] (fun w' => w'.cell? ⟨g1, a * 2, none⟩ = some (.int .i64 y1.ctr) ∧ w'.cell? ⟨g1, a * 2 + 1, none⟩ = some (.int .i64 y1.author) ∧ w'.cell? ⟨g0, b * 2, none⟩ = some (.int .i64 y1.ctr) ∧ w'.cell? ⟨g0, b * 2 + 1, none⟩ = some (.int .i64 y1.author)) (by kernel_rfl) (by kernel_rfl) (by kernel_rfl) ?_ (fun hS => ?_)
                    · first | (go_keep; done) | go_simp
                    try dsimp only at hS
                    refine wpD_takeL (i := 0) (v := ?vBe_0) rfl (by kernel_rfl) (by kernel_rfl) (by kernel_rfl) (fun _ _ _ h => h) (Or.inl ⟨by rfl, ?hyBe_0⟩) ?_
                    case hyBe_0 => (intro w; go_simp; try with_reducible rfl)
                    simp only [Act.put, List.setIfInBounds_toArray, List.set_cons_zero, List.set_cons_succ]
                    refine wpD_takeL (i := 1) (v := ?vBe_1) rfl (by kernel_rfl) (by kernel_rfl) (by kernel_rfl) (fun _ _ _ h => h) (Or.inl ⟨by rfl, ?hyBe_1⟩) ?_
                    case hyBe_1 => (intro w; go_simp; try with_reducible rfl)
                    simp only [Act.put, List.setIfInBounds_toArray, List.set_cons_zero, List.set_cons_succ]
                    refine wpD_takeL (i := 2) (v := ?vBe_2) rfl (by kernel_rfl) (by kernel_rfl) (by kernel_rfl) (fun _ _ _ h => h) (Or.inl ⟨by rfl, ?hyBe_2⟩) ?_
                    case hyBe_2 => (intro w; go_simp; try with_reducible rfl)
                    simp only [Act.put, List.setIfInBounds_toArray, List.set_cons_zero, List.set_cons_succ]
                    refine wpD_takeL (i := 4) (v := ?vBe_4) rfl (by kernel_rfl) (by kernel_rfl) (by kernel_rfl) (fun _ _ _ h => h) (Or.inl ⟨by rfl, ?hyBe_4⟩) ?_
                    case hyBe_4 => (intro w; go_simp; try with_reducible rfl)
                    simp only [Act.put, List.setIfInBounds_toArray, List.set_cons_zero, List.set_cons_succ]
                    refine wpD_takeL (i := 5) (v := ?vBe_5) rfl (by kernel_rfl) (by kernel_rfl) (by kernel_rfl) (fun _ _ _ h => h) (Or.inl ⟨by rfl, ?hyBe_5⟩) ?_
                    case hyBe_5 => (intro w; go_simp; try with_reducible rfl)
                    simp only [Act.put, List.setIfInBounds_toArray, List.set_cons_zero, List.set_cons_succ]
                    refine wpD_takeL (i := 6) (v := ?vBe_6) rfl (by kernel_rfl) (by kernel_rfl) (by kernel_rfl) (fun _ _ _ h => h) (Or.inl ⟨by rfl, ?hyBe_6⟩) ?_
                    case hyBe_6 => (intro w; go_simp; try with_reducible rfl)
                    simp only [Act.put, List.setIfInBounds_toArray, List.set_cons_zero, List.set_cons_succ]
                    refine wpD_loadL (i := 3) (v := ?vBe_3) rfl (by kernel_rfl) (by kernel_rfl) (by kernel_rfl) (by kernel_rfl) (fun _ _ _ h => h) (Or.inl ⟨by rfl, ?hyBe_3⟩) hS ?_
                    case hyBe_3 => (intro w hSw; (try dsimp only at hSw); go_simp; try with_reducible rfl)
                    simp only [Act.put, List.setIfInBounds_toArray, List.set_cons_zero, List.set_cons_succ]
                    refine wpD_loadL (i := 7) (v := ?vBe_7) rfl (by kernel_rfl) (by kernel_rfl) (by kernel_rfl) (by kernel_rfl) (fun _ _ _ h => h) (Or.inl ⟨by rfl, ?hyBe_7⟩) hS ?_
                    case hyBe_7 => (intro w hSw; (try dsimp only at hSw); go_simp; try with_reducible rfl)
                    simp only [Act.put, List.setIfInBounds_toArray, List.set_cons_zero, List.set_cons_succ]
                    refine wpD_takeL (i := 8) (v := ?vBe_8) rfl (by kernel_rfl) (by kernel_rfl) (by kernel_rfl) (fun _ _ _ h => h) (Or.inl ⟨by rfl, ?hyBe_8⟩) ?_
                    case hyBe_8 => (intro w; go_simp; try with_reducible rfl)
                    simp only [Act.put, List.setIfInBounds_toArray, List.set_cons_zero, List.set_cons_succ]
                    refine wpD_takeL (i := 9) (v := ?vBe_9) rfl (by kernel_rfl) (by kernel_rfl) (by kernel_rfl) (fun _ _ _ h => h) (Or.inl ⟨by rfl, ?hyBe_9⟩) ?_
                    case hyBe_9 => (intro w; go_simp; try with_reducible rfl)
                    simp only [Act.put, List.setIfInBounds_toArray, List.set_cons_zero, List.set_cons_succ]
                    refine wpD_takeL (i := 10) (v := ?vBe_10) rfl (by kernel_rfl) (by kernel_rfl) (by kernel_rfl) (fun _ _ _ h => h) (Or.inl ⟨by rfl, ?hyBe_10⟩) ?_
                    case hyBe_10 => (intro w; go_simp; try with_reducible rfl)
                    simp only [Act.put, List.setIfInBounds_toArray, List.set_cons_zero, List.set_cons_succ]
                    refine wpD_takeL (i := 11) (v := ?vBe_11) rfl (by kernel_rfl) (by kernel_rfl) (by kernel_rfl) (fun _ _ _ h => h) (Or.inl ⟨by rfl, ?hyBe_11⟩) ?_
                    case hyBe_11 => (intro w; go_simp; try with_reducible rfl)
                    simp only [Act.put, List.setIfInBounds_toArray, List.set_cons_zero, List.set_cons_succ]
                    refine wpD_takeL (i := 12) (v := ?vBe_12) rfl (by kernel_rfl) (by kernel_rfl) (by kernel_rfl) (fun _ _ _ h => h) (Or.inl ⟨by rfl, ?hyBe_12⟩) ?_
                    case hyBe_12 => (intro w; go_simp; try with_reducible rfl)
                    simp only [Act.put, List.setIfInBounds_toArray, List.set_cons_zero, List.set_cons_succ]
                    refine wpD_takeL (i := 13) (v := ?vBe_13) rfl (by kernel_rfl) (by kernel_rfl) (by kernel_rfl) (fun _ _ _ h => h) (Or.inl ⟨by rfl, ?hyBe_13⟩) ?_
                    case hyBe_13 => (intro w; go_simp; try with_reducible rfl)
                    simp only [Act.put, List.setIfInBounds_toArray, List.set_cons_zero, List.set_cons_succ]
                    refine wpD_tail 14 [14, 15, 16, 17] (by kernel_rfl) (by kernel_rfl) ?_
                    simp only [List.drop_succ_cons, List.drop_zero]
                    clear hS
                    go_wp2_with fail
                    go_roundw
                    case rel => exact ⟨b + 1, by omega, by go_num, m + 1, drewN_drew wf m⟩
                    case measure => simp [intOf]; omega
                  · skip
                    go_wp2_with fail
                    refine wpD_begin (n := 18) (l := [false, false, false, false, false, false, false, false, false, false, false, false, false, false, false, false, false, false].toArray) [14, 15, 16, 17] (fun w' => w'.cell? ⟨g1, a * 2, none⟩ = some (.int .i64 y1.ctr) ∧ w'.cell? ⟨g1, a * 2 + 1, none⟩ = some (.int .i64 y1.author) ∧ w'.cell? ⟨g0, b * 2, none⟩ = some (.int .i64 y1.ctr) ∧ w'.cell? ⟨g0, b * 2 + 1, none⟩ = some (.int .i64 y1.author)) (by kernel_rfl) (by kernel_rfl) (by kernel_rfl) ?_ (fun hS => ?_)
                    · first | (go_keep; done) | go_simp
                    try dsimp only at hS
                    refine wpD_takeL (i := 0) (v := ?vBf_0) rfl (by kernel_rfl) (by kernel_rfl) (by kernel_rfl) (fun _ _ _ h => h) (Or.inl ⟨by rfl, ?hyBf_0⟩) ?_
                    case hyBf_0 => (intro w; go_simp; try with_reducible rfl)
                    simp only [Act.put, List.setIfInBounds_toArray, List.set_cons_zero, List.set_cons_succ]
                    refine wpD_takeL (i := 1) (v := ?vBf_1) rfl (by kernel_rfl) (by kernel_rfl) (by kernel_rfl) (fun _ _ _ h => h) (Or.inl ⟨by rfl, ?hyBf_1⟩) ?_
                    case hyBf_1 => (intro w; go_simp; try with_reducible rfl)
                    simp only [Act.put, List.setIfInBounds_toArray, List.set_cons_zero, List.set_cons_succ]
                    refine wpD_takeL (i := 2) (v := ?vBf_2) rfl (by kernel_rfl) (by kernel_rfl) (by kernel_rfl) (fun _ _ _ h => h) (Or.inl ⟨by rfl, ?hyBf_2⟩) ?_
                    case hyBf_2 => (intro w; go_simp; try with_reducible rfl)
                    simp only [Act.put, List.setIfInBounds_toArray, List.set_cons_zero, List.set_cons_succ]
                    refine wpD_takeL (i := 4) (v := ?vBf_4) rfl (by kernel_rfl) (by kernel_rfl) (by kernel_rfl) (fun _ _ _ h => h) (Or.inl ⟨by rfl, ?hyBf_4⟩) ?_
                    case hyBf_4 => (intro w; go_simp; try with_reducible rfl)
                    simp only [Act.put, List.setIfInBounds_toArray, List.set_cons_zero, List.set_cons_succ]
                    refine wpD_takeL (i := 5) (v := ?vBf_5) rfl (by kernel_rfl) (by kernel_rfl) (by kernel_rfl) (fun _ _ _ h => h) (Or.inl ⟨by rfl, ?hyBf_5⟩) ?_
                    case hyBf_5 => (intro w; go_simp; try with_reducible rfl)
                    simp only [Act.put, List.setIfInBounds_toArray, List.set_cons_zero, List.set_cons_succ]
                    refine wpD_takeL (i := 6) (v := ?vBf_6) rfl (by kernel_rfl) (by kernel_rfl) (by kernel_rfl) (fun _ _ _ h => h) (Or.inl ⟨by rfl, ?hyBf_6⟩) ?_
                    case hyBf_6 => (intro w; go_simp; try with_reducible rfl)
                    simp only [Act.put, List.setIfInBounds_toArray, List.set_cons_zero, List.set_cons_succ]
                    refine wpD_loadL (i := 3) (v := ?vBf_3) rfl (by kernel_rfl) (by kernel_rfl) (by kernel_rfl) (by kernel_rfl) (fun _ _ _ h => h) (Or.inl ⟨by rfl, ?hyBf_3⟩) hS ?_
                    case hyBf_3 => (intro w hSw; (try dsimp only at hSw); go_simp; try with_reducible rfl)
                    simp only [Act.put, List.setIfInBounds_toArray, List.set_cons_zero, List.set_cons_succ]
                    refine wpD_loadL (i := 7) (v := ?vBf_7) rfl (by kernel_rfl) (by kernel_rfl) (by kernel_rfl) (by kernel_rfl) (fun _ _ _ h => h) (Or.inl ⟨by rfl, ?hyBf_7⟩) hS ?_
                    case hyBf_7 => (intro w hSw; (try dsimp only at hSw); go_simp; try with_reducible rfl)
                    simp only [Act.put, List.setIfInBounds_toArray, List.set_cons_zero, List.set_cons_succ]
                    refine wpD_takeL (i := 8) (v := ?vBf_8) rfl (by kernel_rfl) (by kernel_rfl) (by kernel_rfl) (fun _ _ _ h => h) (Or.inl ⟨by rfl, ?hyBf_8⟩) ?_
                    case hyBf_8 => (intro w; go_simp; try with_reducible rfl)
                    simp only [Act.put, List.setIfInBounds_toArray, List.set_cons_zero, List.set_cons_succ]
                    refine wpD_takeL (i := 9) (v := ?vBf_9) rfl (by kernel_rfl) (by kernel_rfl) (by kernel_rfl) (fun _ _ _ h => h) (Or.inl ⟨by rfl, ?hyBf_9⟩) ?_
                    case hyBf_9 => (intro w; go_simp; try with_reducible rfl)
                    simp only [Act.put, List.setIfInBounds_toArray, List.set_cons_zero, List.set_cons_succ]
                    refine wpD_takeL (i := 10) (v := ?vBf_10) rfl (by kernel_rfl) (by kernel_rfl) (by kernel_rfl) (fun _ _ _ h => h) (Or.inl ⟨by rfl, ?hyBf_10⟩) ?_
                    case hyBf_10 => (intro w; go_simp; try with_reducible rfl)
                    simp only [Act.put, List.setIfInBounds_toArray, List.set_cons_zero, List.set_cons_succ]
                    refine wpD_takeL (i := 11) (v := ?vBf_11) rfl (by kernel_rfl) (by kernel_rfl) (by kernel_rfl) (fun _ _ _ h => h) (Or.inl ⟨by rfl, ?hyBf_11⟩) ?_
                    case hyBf_11 => (intro w; go_simp; try with_reducible rfl)
                    simp only [Act.put, List.setIfInBounds_toArray, List.set_cons_zero, List.set_cons_succ]
                    refine wpD_takeL (i := 12) (v := ?vBf_12) rfl (by kernel_rfl) (by kernel_rfl) (by kernel_rfl) (fun _ _ _ h => h) (Or.inl ⟨by rfl, ?hyBf_12⟩) ?_
                    case hyBf_12 => (intro w; go_simp; try with_reducible rfl)
                    simp only [Act.put, List.setIfInBounds_toArray, List.set_cons_zero, List.set_cons_succ]
                    refine wpD_takeL (i := 13) (v := ?vBf_13) rfl (by kernel_rfl) (by kernel_rfl) (by kernel_rfl) (fun _ _ _ h => h) (Or.inl ⟨by rfl, ?hyBf_13⟩) ?_
                    case hyBf_13 => (intro w; go_simp; try with_reducible rfl)
                    simp only [Act.put, List.setIfInBounds_toArray, List.set_cons_zero, List.set_cons_succ]
                    refine wpD_tail 14 [14, 15, 16, 17] (by kernel_rfl) (by kernel_rfl) ?_
                    simp only [List.drop_succ_cons, List.drop_zero]
                    clear hS
                    go_wp2_with fail
                    go_roundw
                    case rel => exact ⟨b + 1, by omega, by go_num, m + 1, drewN_drew wf m⟩
                    case measure => simp [intOf]; omega
                · have hd : ¬ y1.ctr = y0.ctr ∨ (y1.ctr = y0.ctr ∧ ¬ y1.author = y0.author) := by
                    by_cases e1 : y1.ctr = y0.ctr
                    · by_cases e2 : y1.author = y0.author
                      · exact absurd (by cases y1; cases y0; simp at e1 e2; rw [e1, e2]) hyy
                      · exact .inr ⟨e1, e2⟩
                    · exact .inl e1
                  clear hyy
                  rcases hd with hd | ⟨hd1, hd⟩
                  · skip
                    go_wp2_with fail
                    refine wpD_begin (n := 18) (l := [false, false, false, false, false, false, false, false, false, false, false, false, false, false, false, false, false, false].toArray) [14, 15, 16, 17] (fun w' => w'.cell? ⟨g1, a * 2, none⟩ = some (.int .i64 y1.ctr) ∧ w'.cell? ⟨g1, a * 2 + 1, none⟩ = some (.int .i64 y1.author) ∧ w'.cell? ⟨g0, b * 2, none⟩ = some (.int .i64 y0.ctr) ∧ w'.cell? ⟨g0, b * 2 + 1, none⟩ = some (.int .i64 y0.author)) (by kernel_rfl) (by kernel_rfl) (by kernel_rfl) ?_ (fun hS => ?_)
                    · first | (go_keep; done) | go_simp
                    try dsimp only at hS
                    refine wpD_takeL (i := 0) (v := ?vBg_0) rfl (by kernel_rfl) (by kernel_rfl) (by kernel_rfl) (fun _ _ _ h => h) (Or.inl ⟨by rfl, ?hyBg_0⟩) ?_
                    case hyBg_0 => (intro w; go_simp; try with_reducible rfl)
                    simp only [Act.put, List.setIfInBounds_toArray, List.set_cons_zero, List.set_cons_succ]
                    refine wpD_takeL (i := 1) (v := ?vBg_1) rfl (by kernel_rfl) (by kernel_rfl) (by kernel_rfl) (fun _ _ _ h => h) (Or.inl ⟨by rfl, ?hyBg_1⟩) ?_
                    case hyBg_1 => (intro w; go_simp; try with_reducible rfl)
                    simp only [Act.put, List.setIfInBounds_toArray, List.set_cons_zero, List.set_cons_succ]
                    refine wpD_takeL (i := 2) (v := ?vBg_2) rfl (by kernel_rfl) (by kernel_rfl) (by kernel_rfl) (fun _ _ _ h => h) (Or.inl ⟨by rfl, ?hyBg_2⟩) ?_
                    case hyBg_2 => (intro w; go_simp; try with_reducible rfl)
                    simp only [Act.put, List.setIfInBounds_toArray, List.set_cons_zero, List.set_cons_succ]
                    refine wpD_takeL (i := 4) (v := ?vBg_4) rfl (by kernel_rfl) (by kernel_rfl) (by kernel_rfl) (fun _ _ _ h => h) (Or.inl ⟨by rfl, ?hyBg_4⟩) ?_
                    case hyBg_4 => (intro w; go_simp; try with_reducible rfl)
                    simp only [Act.put, List.setIfInBounds_toArray, List.set_cons_zero, List.set_cons_succ]
                    refine wpD_takeL (i := 5) (v := ?vBg_5) rfl (by kernel_rfl) (by kernel_rfl) (by kernel_rfl) (fun _ _ _ h => h) (Or.inl ⟨by rfl, ?hyBg_5⟩) ?_
                    case hyBg_5 => (intro w; go_simp; try with_reducible rfl)
                    simp only [Act.put, List.setIfInBounds_toArray, List.set_cons_zero, List.set_cons_succ]
                    refine wpD_takeL (i := 6) (v := ?vBg_6) rfl (by kernel_rfl) (by kernel_rfl) (by kernel_rfl) (fun _ _ _ h => h) (Or.inl ⟨by rfl, ?hyBg_6⟩) ?_
                    case hyBg_6 => (intro w; go_simp; try with_reducible rfl)
                    simp only [Act.put, List.setIfInBounds_toArray, List.set_cons_zero, List.set_cons_succ]
                    refine wpD_loadL (i := 3) (v := ?vBg_3) rfl (by kernel_rfl) (by kernel_rfl) (by kernel_rfl) (by kernel_rfl) (fun _ _ _ h => h) (Or.inl ⟨by rfl, ?hyBg_3⟩) hS ?_
                    case hyBg_3 => (intro w hSw; (try dsimp only at hSw); go_simp; try with_reducible rfl)
                    simp only [Act.put, List.setIfInBounds_toArray, List.set_cons_zero, List.set_cons_succ]
                    refine wpD_loadL (i := 7) (v := ?vBg_7) rfl (by kernel_rfl) (by kernel_rfl) (by kernel_rfl) (by kernel_rfl) (fun _ _ _ h => h) (Or.inl ⟨by rfl, ?hyBg_7⟩) hS ?_
                    case hyBg_7 => (intro w hSw; (try dsimp only at hSw); go_simp; try with_reducible rfl)
                    simp only [Act.put, List.setIfInBounds_toArray, List.set_cons_zero, List.set_cons_succ]
                    refine wpD_takeL (i := 8) (v := ?vBg_8) rfl (by kernel_rfl) (by kernel_rfl) (by kernel_rfl) (fun _ _ _ h => h) (Or.inl ⟨by rfl, ?hyBg_8⟩) ?_
                    case hyBg_8 => (intro w; go_simp; try with_reducible rfl)
                    simp only [Act.put, List.setIfInBounds_toArray, List.set_cons_zero, List.set_cons_succ]
                    refine wpD_takeL (i := 9) (v := ?vBg_9) rfl (by kernel_rfl) (by kernel_rfl) (by kernel_rfl) (fun _ _ _ h => h) (Or.inl ⟨by rfl, ?hyBg_9⟩) ?_
                    case hyBg_9 => (intro w; go_simp; try with_reducible rfl)
                    simp only [Act.put, List.setIfInBounds_toArray, List.set_cons_zero, List.set_cons_succ]
                    refine wpD_takeL (i := 10) (v := undef) rfl (by kernel_rfl) (by kernel_rfl) (by kernel_rfl) (fun _ _ _ h => h) (Or.inr ⟨by rfl, rfl⟩) ?_
                    simp only [Act.put, List.setIfInBounds_toArray, List.set_cons_zero, List.set_cons_succ]
                    refine wpD_takeL (i := 11) (v := undef) rfl (by kernel_rfl) (by kernel_rfl) (by kernel_rfl) (fun _ _ _ h => h) (Or.inr ⟨by rfl, rfl⟩) ?_
                    simp only [Act.put, List.setIfInBounds_toArray, List.set_cons_zero, List.set_cons_succ]
                    refine wpD_takeL (i := 12) (v := undef) rfl (by kernel_rfl) (by kernel_rfl) (by kernel_rfl) (fun _ _ _ h => h) (Or.inr ⟨by rfl, rfl⟩) ?_
                    simp only [Act.put, List.setIfInBounds_toArray, List.set_cons_zero, List.set_cons_succ]
                    refine wpD_takeL (i := 13) (v := undef) rfl (by kernel_rfl) (by kernel_rfl) (by kernel_rfl) (fun _ _ _ h => h) (Or.inr ⟨by rfl, rfl⟩) ?_
                    simp only [Act.put, List.setIfInBounds_toArray, List.set_cons_zero, List.set_cons_succ]
                    refine wpD_tail 14 [14, 15, 16, 17] (by kernel_rfl) (by kernel_rfl) ?_
                    simp only [List.drop_succ_cons, List.drop_zero]
                    clear hS
                    go_wp2_with fail
                    go_roundw
                    case rel => exact ⟨b + 1, by omega, by go_num, m + 1, drewN_drew wf m⟩
                    case measure => simp [intOf]; omega
                  · rw [hd1] at p0
                    clear hd1
                    go_wp2_with fail
                    refine wpD_begin (n := 18) (l := [false, false, false, false, false, false, false, false, false, false, false, false, false, false, false, false, false, false].toArray) [14, 15, 16, 17] (fun w' => w'.cell? ⟨g1, a * 2, none⟩ = some (.int .i64 y0.ctr) ∧ w'.cell? ⟨g1, a * 2 + 1, none⟩ = some (.int .i64 y1.author) ∧ w'.cell? ⟨g0, b * 2, none⟩ = some (.int .i64 y0.ctr) ∧ w'.cell? ⟨g0, b * 2 + 1, none⟩ = some (.int .i64 y0.author)) (by kernel_rfl) (by kernel_rfl) (by kernel_rfl) ?_ (fun hS => ?_)
                    · first | (go_keep; done) | go_simp
                    try dsimp only at hS
                    refine wpD_takeL (i := 0) (v := ?vBh_0) rfl (by kernel_rfl) (by kernel_rfl) (by kernel_rfl) (fun _ _ _ h => h) (Or.inl ⟨by rfl, ?hyBh_0⟩) ?_
                    case hyBh_0 => (intro w; go_simp; try with_reducible rfl)
                    simp only [Act.put, List.setIfInBounds_toArray, List.set_cons_zero, List.set_cons_succ]
                    refine wpD_takeL (i := 1) (v := ?vBh_1) rfl (by kernel_rfl) (by kernel_rfl) (by kernel_rfl) (fun _ _ _ h => h) (Or.inl ⟨by rfl, ?hyBh_1⟩) ?_
                    case hyBh_1 => (intro w; go_simp; try with_reducible rfl)
                    simp only [Act.put, List.setIfInBounds_toArray, List.set_cons_zero, List.set_cons_succ]
                    refine wpD_takeL (i := 2) (v := ?vBh_2) rfl (by kernel_rfl) (by kernel_rfl) (by kernel_rfl) (fun _ _ _ h => h) (Or.inl ⟨by rfl, ?hyBh_2⟩) ?_
                    case hyBh_2 => (intro w; go_simp; try with_reducible rfl)
                    simp only [Act.put, List.setIfInBounds_toArray, List.set_cons_zero, List.set_cons_succ]
                    refine wpD_takeL (i := 4) (v := ?vBh_4) rfl (by kernel_rfl) (by kernel_rfl) (by kernel_rfl) (fun _ _ _ h => h) (Or.inl ⟨by rfl, ?hyBh_4⟩) ?_
                    case hyBh_4 => (intro w; go_simp; try with_reducible rfl)
                    simp only [Act.put, List.setIfInBounds_toArray, List.set_cons_zero, List.set_cons_succ]
                    refine wpD_takeL (i := 5) (v := ?vBh_5) rfl (by kernel_rfl) (by kernel_rfl) (by kernel_rfl) (fun _ _ _ h => h) (Or.inl ⟨by rfl, ?hyBh_5⟩) ?_
                    case hyBh_5 => (intro w; go_simp; try with_reducible rfl)
                    simp only [Act.put, List.setIfInBounds_toArray, List.set_cons_zero, List.set_cons_succ]
                    refine wpD_takeL (i := 6) (v := ?vBh_6) rfl (by kernel_rfl) (by kernel_rfl) (by kernel_rfl) (fun _ _ _ h => h) (Or.inl ⟨by rfl, ?hyBh_6⟩) ?_
                    case hyBh_6 => (intro w; go_simp; try with_reducible rfl)
                    simp only [Act.put, List.setIfInBounds_toArray, List.set_cons_zero, List.set_cons_succ]
                    refine wpD_loadL (i := 3) (v := ?vBh_3) rfl (by kernel_rfl) (by kernel_rfl) (by kernel_rfl) (by kernel_rfl) (fun _ _ _ h => h) (Or.inl ⟨by rfl, ?hyBh_3⟩) hS ?_
                    case hyBh_3 => (intro w hSw; (try dsimp only at hSw); go_simp; try with_reducible rfl)
                    simp only [Act.put, List.setIfInBounds_toArray, List.set_cons_zero, List.set_cons_succ]
                    refine wpD_loadL (i := 7) (v := ?vBh_7) rfl (by kernel_rfl) (by kernel_rfl) (by kernel_rfl) (by kernel_rfl) (fun _ _ _ h => h) (Or.inl ⟨by rfl, ?hyBh_7⟩) hS ?_
                    case hyBh_7 => (intro w hSw; (try dsimp only at hSw); go_simp; try with_reducible rfl)
                    simp only [Act.put, List.setIfInBounds_toArray, List.set_cons_zero, List.set_cons_succ]
                    refine wpD_takeL (i := 8) (v := ?vBh_8) rfl (by kernel_rfl) (by kernel_rfl) (by kernel_rfl) (fun _ _ _ h => h) (Or.inl ⟨by rfl, ?hyBh_8⟩) ?_
                    case hyBh_8 => (intro w; go_simp; try with_reducible rfl)
                    simp only [Act.put, List.setIfInBounds_toArray, List.set_cons_zero, List.set_cons_succ]
                    refine wpD_takeL (i := 9) (v := ?vBh_9) rfl (by kernel_rfl) (by kernel_rfl) (by kernel_rfl) (fun _ _ _ h => h) (Or.inl ⟨by rfl, ?hyBh_9⟩) ?_
                    case hyBh_9 => (intro w; go_simp; try with_reducible rfl)
                    simp only [Act.put, List.setIfInBounds_toArray, List.set_cons_zero, List.set_cons_succ]
                    refine wpD_takeL (i := 10) (v := undef) rfl (by kernel_rfl) (by kernel_rfl) (by kernel_rfl) (fun _ _ _ h => h) (Or.inr ⟨by rfl, rfl⟩) ?_
                    simp only [Act.put, List.setIfInBounds_toArray, List.set_cons_zero, List.set_cons_succ]
                    refine wpD_takeL (i := 11) (v := undef) rfl (by kernel_rfl) (by kernel_rfl) (by kernel_rfl) (fun _ _ _ h => h) (Or.inr ⟨by rfl, rfl⟩) ?_
                    simp only [Act.put, List.setIfInBounds_toArray, List.set_cons_zero, List.set_cons_succ]
                    refine wpD_takeL (i := 12) (v := undef) rfl (by kernel_rfl) (by kernel_rfl) (by kernel_rfl) (fun _ _ _ h => h) (Or.inr ⟨by rfl, rfl⟩) ?_
                    simp only [Act.put, List.setIfInBounds_toArray, List.set_cons_zero, List.set_cons_succ]
                    refine wpD_takeL (i := 13) (v := undef) rfl (by kernel_rfl) (by kernel_rfl) (by kernel_rfl) (fun _ _ _ h => h) (Or.inr ⟨by rfl, rfl⟩) ?_
                    simp only [Act.put, List.setIfInBounds_toArray, List.set_cons_zero, List.set_cons_succ]
                    refine wpD_tail 14 [14, 15, 16, 17] (by kernel_rfl) (by kernel_rfl) ?_
                    simp only [List.drop_succ_cons, List.drop_zero]
                    clear hS
                    go_wp2_with fail
                    go_roundw
                    case rel => exact ⟨b + 1, by omega, by go_num, m + 1, drewN_drew wf m⟩
                    case measure => simp [intOf]; omega
              · go_wp2_with fail
                exact ⟨⟨a + 1, by omega, by go_num, m, rfl⟩, by simp [intOf]; omega⟩
          · have HAl : Hid (∀ z : Rga.Id, Calls Try.prog 26 #[.pointer (some ⟨x, 0, none⟩), .agg #[.int .i64 z.ctr, .int .i64 z.author]] (wf.drewN m0) (boolKeeps (wf.drewN m0) (aliveE es1 z))) := Lib.hid (fun z => alive_any _ F1 x es1 tc1 (HLF.out.keepN (drew_keeps wf m0)) z)
            cases ah
            · by_cases hpz : 0 < p
              · obtain ⟨pn, rfl⟩ : ∃ pn : Nat, p = ((pn : Nat) : Int) + 1 := ⟨p.toNat - 1, by omega⟩
                obtain ⟨y0, hy0⟩ : ∃ y0, (idsE es)[pn]? = some y0 := ⟨_, List.getElem?_eq_getElem (by rw [idsE_length, ← HN.out]; omega)⟩
                obtain ⟨g0, cg0, e0, r0, r1⟩ := row_id HR0.out pn y0 hy0
                obtain rfl : A4 = some ⟨g0, 0, none⟩ := by injection e0
                have HY0 := Lib.hid hy0
                have HA0 := Lib.hid (HAl.out y0)
                have hpN : pn < N := by omega
                clear e0 hy0 HAl
                rcases hal : aliveE es1 y0 with _ | _
                · rw [hal] at HA0
                  clear hal
                  go_wp2_with (first | (go_at_call 26; refine HA0.out.mono ?_; rintro r wg ⟨rfl, hkg⟩; have hkg := Lib.hid hkg))
                  go_ret
                  exact ⟨rfl, (HKF.out.drewN m0).trans hkg.out⟩
                · rw [hal] at HA0
                  have hq3 := HLAW.out.2.1 rfl (by omega) y0 (by rw [show ((pn : Int) + 1 - 1).toNat = pn by omega]; exact HY0.out) hal
                  obtain ⟨qn, hqn⟩ : ∃ qn : Nat, q = qn + 1 := ⟨q - 1, by omega⟩
                  obtain ⟨g1, cg1, e1, s0, s1⟩ := row_id HR9.out qn y0 (by have := hq3.2; rw [hqn] at this; simpa using this)
                  have hqz : (q : Int) = (qn : Int) + 1 := by omega
                  have hqp : 0 < (qn : Int) + 1 := by omega
                  have hqN1 : qn < N1 := by omega
                  have hwq := wrap_nat qn (by omega)
                  have hwp := wrap_nat pn (by omega)
                  rw [hqz]
                  obtain rfl : A9 = some ⟨g1, 0, none⟩ := by injection e1
                  have HS4 := Lib.hid (And.intro s0 (And.intro s1 (And.intro r0 r1)))
                  clear hal hq3 e1 hqn hqz HLAW
                  go_wp2_with fail
                  go_at_call 26
                  refine HA0.out.mono ?_
                  rintro r wg ⟨rfl, hkg⟩
                  have hkw := ((Keeps.refl NoB wf).drewN m0).trans hkg
                  have s0 := hkw.some HS4.out.1
                  have s1 := hkw.some HS4.out.2.1
                  have r0 := hkw.some HS4.out.2.2.1
                  have r1 := hkw.some HS4.out.2.2.2
                  have HKG := Lib.hid hkw
                  clear hkg hkw
                  go_wp2_with fail
                  refine wpD_begin (n := 16) (l := [false, false, false, false, false, false, false, false, false, false, false, false, false, false, false, false].toArray) [13, 14, 15] (fun w' => w'.cell? ⟨g1, qn * 2, none⟩ = some (.int .i64 y0.ctr) ∧ w'.cell? ⟨g1, qn * 2 + 1, none⟩ = some (.int .i64 y0.author) ∧ w'.cell? ⟨g0, pn * 2, none⟩ = some (.int .i64 y0.ctr) ∧ w'.cell? ⟨g0, pn * 2 + 1, none⟩ = some (.int .i64 y0.author)) (by kernel_rfl) (by kernel_rfl) (by kernel_rfl) ?_ (fun hS => ?_)
                  · first | (go_keep; done) | go_simp
                  try dsimp only at hS
                  refine wpD_takeL (i := 0) (v := ?vBi_0) rfl (by kernel_rfl) (by kernel_rfl) (by kernel_rfl) (fun _ _ _ h => h) (Or.inl ⟨by rfl, ?hyBi_0⟩) ?_
                  case hyBi_0 => (intro w; go_simp; try with_reducible rfl)
                  simp only [Act.put, List.setIfInBounds_toArray, List.set_cons_zero, List.set_cons_succ]
                  refine wpD_takeL (i := 1) (v := ?vBi_1) rfl (by kernel_rfl) (by kernel_rfl) (by kernel_rfl) (fun _ _ _ h => h) (Or.inl ⟨by rfl, ?hyBi_1⟩) ?_
                  case hyBi_1 => (intro w; go_simp; try with_reducible rfl)
                  simp only [Act.put, List.setIfInBounds_toArray, List.set_cons_zero, List.set_cons_succ]
                  refine wpD_takeL (i := 2) (v := ?vBi_2) rfl (by kernel_rfl) (by kernel_rfl) (by kernel_rfl) (fun _ _ _ h => h) (Or.inl ⟨by rfl, ?hyBi_2⟩) ?_
                  case hyBi_2 => (intro w; go_simp; try with_reducible rfl)
                  simp only [Act.put, List.setIfInBounds_toArray, List.set_cons_zero, List.set_cons_succ]
                  refine wpD_takeL (i := 3) (v := ?vBi_3) rfl (by kernel_rfl) (by kernel_rfl) (by kernel_rfl) (fun _ _ _ h => h) (Or.inl ⟨by rfl, ?hyBi_3⟩) ?_
                  case hyBi_3 => (intro w; go_simp; try with_reducible rfl)
                  simp only [Act.put, List.setIfInBounds_toArray, List.set_cons_zero, List.set_cons_succ]
                  refine wpD_takeL (i := 4) (v := ?vBi_4) rfl (by kernel_rfl) (by kernel_rfl) (by kernel_rfl) (fun _ _ _ h => h) (Or.inl ⟨by rfl, ?hyBi_4⟩) ?_
                  case hyBi_4 => (intro w; go_simp; try with_reducible rfl)
                  simp only [Act.put, List.setIfInBounds_toArray, List.set_cons_zero, List.set_cons_succ]
                  refine wpD_takeL (i := 5) (v := ?vBi_5) rfl (by kernel_rfl) (by kernel_rfl) (by kernel_rfl) (fun _ _ _ h => h) (Or.inl ⟨by rfl, ?hyBi_5⟩) ?_
                  case hyBi_5 => (intro w; go_simp; try with_reducible rfl)
                  simp only [Act.put, List.setIfInBounds_toArray, List.set_cons_zero, List.set_cons_succ]
                  refine wpD_takeL (i := 6) (v := ?vBi_6) rfl (by kernel_rfl) (by kernel_rfl) (by kernel_rfl) (fun _ _ _ h => h) (Or.inl ⟨by rfl, ?hyBi_6⟩) ?_
                  case hyBi_6 => (intro w; go_simp; try with_reducible rfl)
                  simp only [Act.put, List.setIfInBounds_toArray, List.set_cons_zero, List.set_cons_succ]
                  refine wpD_takeL (i := 8) (v := ?vBi_8) rfl (by kernel_rfl) (by kernel_rfl) (by kernel_rfl) (fun _ _ _ h => h) (Or.inl ⟨by rfl, ?hyBi_8⟩) ?_
                  case hyBi_8 => (intro w; go_simp; try with_reducible rfl)
                  simp only [Act.put, List.setIfInBounds_toArray, List.set_cons_zero, List.set_cons_succ]
                  refine wpD_takeL (i := 9) (v := ?vBi_9) rfl (by kernel_rfl) (by kernel_rfl) (by kernel_rfl) (fun _ _ _ h => h) (Or.inl ⟨by rfl, ?hyBi_9⟩) ?_
                  case hyBi_9 => (intro w; go_simp; try with_reducible rfl)
                  simp only [Act.put, List.setIfInBounds_toArray, List.set_cons_zero, List.set_cons_succ]
                  refine wpD_takeL (i := 10) (v := ?vBi_10) rfl (by kernel_rfl) (by kernel_rfl) (by kernel_rfl) (fun _ _ _ h => h) (Or.inl ⟨by rfl, ?hyBi_10⟩) ?_
                  case hyBi_10 => (intro w; go_simp; try with_reducible rfl)
                  simp only [Act.put, List.setIfInBounds_toArray, List.set_cons_zero, List.set_cons_succ]
                  refine wpD_takeL (i := 11) (v := ?vBi_11) rfl (by kernel_rfl) (by kernel_rfl) (by kernel_rfl) (fun _ _ _ h => h) (Or.inl ⟨by rfl, ?hyBi_11⟩) ?_
                  case hyBi_11 => (intro w; go_simp; try with_reducible rfl)
                  simp only [Act.put, List.setIfInBounds_toArray, List.set_cons_zero, List.set_cons_succ]
                  refine wpD_loadL (i := 7) (v := ?vBi_7) rfl (by kernel_rfl) (by kernel_rfl) (by kernel_rfl) (by kernel_rfl) (fun _ _ _ h => h) (Or.inl ⟨by rfl, ?hyBi_7⟩) hS ?_
                  case hyBi_7 => (intro w hSw; (try dsimp only at hSw); go_simp; try with_reducible rfl)
                  simp only [Act.put, List.setIfInBounds_toArray, List.set_cons_zero, List.set_cons_succ]
                  refine wpD_loadL (i := 12) (v := ?vBi_12) rfl (by kernel_rfl) (by kernel_rfl) (by kernel_rfl) (by kernel_rfl) (fun _ _ _ h => h) (Or.inl ⟨by rfl, ?hyBi_12⟩) hS ?_
                  case hyBi_12 => (intro w hSw; (try dsimp only at hSw); go_simp; try with_reducible rfl)
                  simp only [Act.put, List.setIfInBounds_toArray, List.set_cons_zero, List.set_cons_succ]
                  refine wpD_tail 13 [13, 14, 15] (by kernel_rfl) (by kernel_rfl) ?_
                  simp only [List.drop_succ_cons, List.drop_zero]
                  clear hS
                  go_wp2_with fail
                  go_ret
                  exact ⟨rfl, (HKF.out.trans HKG.out).drew⟩
              · obtain rfl : p = 0 := by omega
                clear HAl
                go_wp2_with fail
                go_ret
                exact ⟨rfl, HKF.out.drewN m0⟩
            · by_cases hpz : p < (N : Int)
              · obtain ⟨pn, rfl⟩ : ∃ pn : Nat, p = ((pn : Nat) : Int) := ⟨p.toNat, by omega⟩
                obtain ⟨y0, hy0⟩ : ∃ y0, (idsE es)[pn]? = some y0 := ⟨_, List.getElem?_eq_getElem (by rw [idsE_length, ← HN.out]; omega)⟩
                obtain ⟨g0, cg0, e0, r0, r1⟩ := row_id HR0.out pn y0 hy0
                obtain rfl : A4 = some ⟨g0, 0, none⟩ := by injection e0
                have HY0 := Lib.hid hy0
                have HA0 := Lib.hid (HAl.out y0)
                have hpN : pn < N := by omega
                clear e0 hy0 HAl
                rcases hal : aliveE es1 y0 with _ | _
                · rw [hal] at HA0
                  clear hal
                  go_wp2_with (first | (go_at_call 26; refine HA0.out.mono ?_; rintro r wg ⟨rfl, hkg⟩; have hkg := Lib.hid hkg))
                  go_ret
                  exact ⟨rfl, (HKF.out.drewN m0).trans hkg.out⟩
                · rw [hal] at HA0
                  have hq4 := HLAW.out.2.2 rfl (by have := HN.out; omega) y0 (by rw [Int.toNat_natCast]; exact HY0.out) hal
                  have hqN1 : q < N1 := by have := HN1.out; have := hq4.1; omega
                  obtain ⟨g1, cg1, e1, s0, s1⟩ := row_id HR9.out q y0 hq4.2
                  obtain rfl : A9 = some ⟨g1, 0, none⟩ := by injection e1
                  have HS4 := Lib.hid (And.intro s0 (And.intro s1 (And.intro r0 r1)))
                  clear hal hq4 e1
                  go_wp2_with fail
                  go_at_call 26
                  refine HA0.out.mono ?_
                  rintro r wg ⟨rfl, hkg⟩
                  have hkw := ((Keeps.refl NoB wf).drewN m0).trans hkg
                  have s0 := hkw.some HS4.out.1
                  have s1 := hkw.some HS4.out.2.1
                  have r0 := hkw.some HS4.out.2.2.1
                  have r1 := hkw.some HS4.out.2.2.2
                  have HKG := Lib.hid hkw
                  clear hkg hkw
                  go_wp2_with fail
                  refine wpD_begin (n := 16) (l := [false, false, false, false, false, false, false, false, false, false, false, false, false, false, false, false].toArray) [13, 14, 15] (fun w' => w'.cell? ⟨g1, q * 2, none⟩ = some (.int .i64 y0.ctr) ∧ w'.cell? ⟨g1, q * 2 + 1, none⟩ = some (.int .i64 y0.author) ∧ w'.cell? ⟨g0, pn * 2, none⟩ = some (.int .i64 y0.ctr) ∧ w'.cell? ⟨g0, pn * 2 + 1, none⟩ = some (.int .i64 y0.author)) (by kernel_rfl) (by kernel_rfl) (by kernel_rfl) ?_ (fun hS => ?_)
                  · first | (go_keep; done) | go_simp
                  try dsimp only at hS
                  refine wpD_takeL (i := 0) (v := ?vBj_0) rfl (by kernel_rfl) (by kernel_rfl) (by kernel_rfl) (fun _ _ _ h => h) (Or.inl ⟨by rfl, ?hyBj_0⟩) ?_
                  case hyBj_0 => (intro w; go_simp; try with_reducible rfl)
                  simp only [Act.put, List.setIfInBounds_toArray, List.set_cons_zero, List.set_cons_succ]
                  refine wpD_takeL (i := 1) (v := ?vBj_1) rfl (by kernel_rfl) (by kernel_rfl) (by kernel_rfl) (fun _ _ _ h => h) (Or.inl ⟨by rfl, ?hyBj_1⟩) ?_
                  case hyBj_1 => (intro w; go_simp; try with_reducible rfl)
                  simp only [Act.put, List.setIfInBounds_toArray, List.set_cons_zero, List.set_cons_succ]
                  refine wpD_takeL (i := 2) (v := ?vBj_2) rfl (by kernel_rfl) (by kernel_rfl) (by kernel_rfl) (fun _ _ _ h => h) (Or.inl ⟨by rfl, ?hyBj_2⟩) ?_
                  case hyBj_2 => (intro w; go_simp; try with_reducible rfl)
                  simp only [Act.put, List.setIfInBounds_toArray, List.set_cons_zero, List.set_cons_succ]
                  refine wpD_takeL (i := 3) (v := ?vBj_3) rfl (by kernel_rfl) (by kernel_rfl) (by kernel_rfl) (fun _ _ _ h => h) (Or.inl ⟨by rfl, ?hyBj_3⟩) ?_
                  case hyBj_3 => (intro w; go_simp; try with_reducible rfl)
                  simp only [Act.put, List.setIfInBounds_toArray, List.set_cons_zero, List.set_cons_succ]
                  refine wpD_takeL (i := 4) (v := ?vBj_4) rfl (by kernel_rfl) (by kernel_rfl) (by kernel_rfl) (fun _ _ _ h => h) (Or.inl ⟨by rfl, ?hyBj_4⟩) ?_
                  case hyBj_4 => (intro w; go_simp; try with_reducible rfl)
                  simp only [Act.put, List.setIfInBounds_toArray, List.set_cons_zero, List.set_cons_succ]
                  refine wpD_takeL (i := 5) (v := ?vBj_5) rfl (by kernel_rfl) (by kernel_rfl) (by kernel_rfl) (fun _ _ _ h => h) (Or.inl ⟨by rfl, ?hyBj_5⟩) ?_
                  case hyBj_5 => (intro w; go_simp; try with_reducible rfl)
                  simp only [Act.put, List.setIfInBounds_toArray, List.set_cons_zero, List.set_cons_succ]
                  refine wpD_takeL (i := 6) (v := ?vBj_6) rfl (by kernel_rfl) (by kernel_rfl) (by kernel_rfl) (fun _ _ _ h => h) (Or.inl ⟨by rfl, ?hyBj_6⟩) ?_
                  case hyBj_6 => (intro w; go_simp; try with_reducible rfl)
                  simp only [Act.put, List.setIfInBounds_toArray, List.set_cons_zero, List.set_cons_succ]
                  refine wpD_takeL (i := 7) (v := ?vBj_7) rfl (by kernel_rfl) (by kernel_rfl) (by kernel_rfl) (fun _ _ _ h => h) (Or.inl ⟨by rfl, ?hyBj_7⟩) ?_
                  case hyBj_7 => (intro w; go_simp; try with_reducible rfl)
                  simp only [Act.put, List.setIfInBounds_toArray, List.set_cons_zero, List.set_cons_succ]
                  refine wpD_takeL (i := 9) (v := ?vBj_9) rfl (by kernel_rfl) (by kernel_rfl) (by kernel_rfl) (fun _ _ _ h => h) (Or.inl ⟨by rfl, ?hyBj_9⟩) ?_
                  case hyBj_9 => (intro w; go_simp; try with_reducible rfl)
                  simp only [Act.put, List.setIfInBounds_toArray, List.set_cons_zero, List.set_cons_succ]
                  refine wpD_takeL (i := 10) (v := ?vBj_10) rfl (by kernel_rfl) (by kernel_rfl) (by kernel_rfl) (fun _ _ _ h => h) (Or.inl ⟨by rfl, ?hyBj_10⟩) ?_
                  case hyBj_10 => (intro w; go_simp; try with_reducible rfl)
                  simp only [Act.put, List.setIfInBounds_toArray, List.set_cons_zero, List.set_cons_succ]
                  refine wpD_takeL (i := 11) (v := ?vBj_11) rfl (by kernel_rfl) (by kernel_rfl) (by kernel_rfl) (fun _ _ _ h => h) (Or.inl ⟨by rfl, ?hyBj_11⟩) ?_
                  case hyBj_11 => (intro w; go_simp; try with_reducible rfl)
                  simp only [Act.put, List.setIfInBounds_toArray, List.set_cons_zero, List.set_cons_succ]
                  refine wpD_loadL (i := 8) (v := ?vBj_8) rfl (by kernel_rfl) (by kernel_rfl) (by kernel_rfl) (by kernel_rfl) (fun _ _ _ h => h) (Or.inl ⟨by rfl, ?hyBj_8⟩) hS ?_
                  case hyBj_8 => (intro w hSw; (try dsimp only at hSw); go_simp; try with_reducible rfl)
                  simp only [Act.put, List.setIfInBounds_toArray, List.set_cons_zero, List.set_cons_succ]
                  refine wpD_loadL (i := 12) (v := ?vBj_12) rfl (by kernel_rfl) (by kernel_rfl) (by kernel_rfl) (by kernel_rfl) (fun _ _ _ h => h) (Or.inl ⟨by rfl, ?hyBj_12⟩) hS ?_
                  case hyBj_12 => (intro w hSw; (try dsimp only at hSw); go_simp; try with_reducible rfl)
                  simp only [Act.put, List.setIfInBounds_toArray, List.set_cons_zero, List.set_cons_succ]
                  refine wpD_tail 13 [13, 14, 15] (by kernel_rfl) (by kernel_rfl) ?_
                  simp only [List.drop_succ_cons, List.drop_zero]
                  clear hS
                  go_wp2_with fail
                  go_ret
                  exact ⟨rfl, (HKF.out.trans HKG.out).drew⟩
              · clear HAl
                go_wp2_with fail
                go_ret
                exact ⟨rfl, HKF.out.drewN m0⟩
end Go.Proofs.Ytoddohhhhnahnaa
