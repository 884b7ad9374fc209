/- The law CursorGone: its walk. -/
import Derived.Test.YtoddohhhhnahnaaGn
namespace Go.Proofs.Ytoddohhhhnahnaa
open Go.ChangeShapes Go.WideShapes Go.ChangeAt Go.RowKit

theorem and_mask (a : Int) : 0 ≤ bits .and .i64 a 65535 ∧ bits .and .i64 a 65535 ≤ 65535 := by
  have h2 : (BitVec.ofInt 64 (65535 : Int)).toNat = 65535 := by decide
  have e : bits .and .i64 a 65535 = IntKind.i64.wrap (((BitVec.ofInt 64 a).toNat &&& 65535 : Nat) : Int) := by
    show IntKind.i64.wrap ((BitVec.ofInt 64 a &&& BitVec.ofInt 64 65535).toNat : Int) = _
    rw [BitVec.toNat_and, h2]
  have h3 : (BitVec.ofInt 64 a).toNat &&& 65535 ≤ 65535 := Nat.and_le_right
  rw [e]
  generalize (BitVec.ofInt 64 a).toNat &&& 65535 = m at *
  have h4 : IntKind.i64.wrap (m : Int) = m := by
    simp only [IntKind.wrap, IntKind.bits, IntKind.signed]
    simp
    omega
  omega

set_option maxHeartbeats 6400000 in
set_option maxRecDepth 100000 in
theorem gone_walk (w : World) (A : Option Addr) (n c : Nat) (l : List Rga.Opn) (h : ROps w A n l) (pl : Int) : Calls Try.prog 7 #[.slice A n c, .int .i64 pl] w (boolKeeps w true) := by
  have HO := Lib.hid h
  have hl := h.1
  have hn := h.2.1
  clear h
  go_enter Try.func7, Try.ntmps7
  go_wp2_with fail
  go_at_call 9
  refine (shown_any _).mono ?_
  rintro e w1 ⟨rfl, hk1⟩
  have HM := Lib.hid (made_any w1 A n c l (HO.out.keep hk1))
  have HK1 := Lib.hid hk1
  clear hk1
  go_wp2_with fail
  go_at_call 10
  refine HM.out.mono ?_
  rintro e w2 ⟨x, y, rfl, hB, hk2⟩
  obtain ⟨F, G, hT, _, hF, _, _⟩ := hB
  have hL := hT.lies (opsN_small l)
  have hG := mEls_good hT
  have hold := hT.old
  have HK2 := Lib.hid (HK1.out.trans hk2)
  have HFB : Hid (∀ g, F g → w.heap.size ≤ g) := Lib.hid (fun g hg => Nat.le_trans HK1.out.size (hF g hg))
  clear hk2 HM HK1 hF
  obtain ⟨ops, hops⟩ : ∃ ops, ops = mOps l := ⟨_, rfl⟩
  have HOPS := Lib.hid hops
  rw [← hops] at hL hG hT
  have HT := Lib.hid (And.intro hT hold)
  clear hops hT hold
  have HL := Lib.hid hL
  have HG := Lib.hid hG
  obtain ⟨es, hes⟩ : ∃ es, es = mEls ops := ⟨_, rfl⟩
  have HES := Lib.hid hes
  rw [← hes] at hL
  have hlb : (lenE es : Int) ≤ 1099511627776 := by
    obtain ⟨_, _, _, _, _, hb⟩ := hL
    have := lenE_le es
    omega
  rw [← hes] at HL HG
  clear hL hG hes
  obtain ⟨N, hN⟩ : ∃ N : Nat, N = lenE es := ⟨_, rfl⟩
  have HN := Lib.hid hN
  have hNb : N ≤ 1099511627776 := by omega
  clear hlb hN
  have HLen : Hid (Calls Try.prog 21 #[.pointer (some ⟨x, 0, none⟩)] w2 (intKeeps w2 N)) := Lib.hid (by rw [HN.out]; exact len_any w2 F x es _ HL.out)
  go_wp2_with fail
  go_at_call 21
  refine HLen.out.mono ?_
  rintro e w3 ⟨rfl, hk3⟩
  have HK3 := Lib.hid hk3
  clear hk3 HLen
  go_wp2_with fail
  have hmask := and_mask pl
  have hp0 : 0 ≤ (bits BinOp.and IntKind.i64 pl 65535).tmod ((N : Int) + 1) := Int.tmod_nonneg _ hmask.1
  have hp1 : (bits BinOp.and IntKind.i64 pl 65535).tmod ((N : Int) + 1) < (N : Int) + 1 := Int.tmod_lt_of_pos _ (by omega)
  clear hmask
  generalize (bits BinOp.and IntKind.i64 pl 65535).tmod ((N : Int) + 1) = p at *
  have htop := topC_nonneg ops
  by_cases hpz : p = 0
  · subst hpz
    obtain ⟨ib, hb, _⟩ := back_law HG.out (p := 0) (by omega) (by omega) true
    have ha : holdE es 0 false = some Rga.Id.zero := by
      unfold holdE
      rw [if_neg (by omega)]
      simp [at_none (es := es) (k := -1) (by omega)]
    have HHb : Hid (∀ w', Keeps NoB w2 w' → Calls Try.prog 13 #[.pointer (some ⟨x, 0, none⟩), .int .i64 0, .bool true] w' (valKeeps w' (.tuple #[.agg #[.int .i64 ib.ctr, .int .i64 ib.author, .bool true], .int .i64 0]))) := Lib.hid (fun w' hk => by
      have := hold_any w' F x es _ (HL.out.keepN hk) 0 true
      rw [hb] at this
      exact this)
    have HHa : Hid (Calls Try.prog 13 #[.pointer (some ⟨x, 0, none⟩), .int .i64 0, .bool false] w3 (valKeeps w3 (.tuple #[.agg #[.int .i64 0, .int .i64 0, .bool false], .int .i64 0]))) := Lib.hid (by
      have := hold_any w3 F x es _ (HL.out.keepN HK3.out) 0 false
      rw [ha] at this
      exact this)
    clear ha hb
    go_at_call 13
    refine HHa.out.mono ?_
    rintro r w4 ⟨rfl, hk4⟩
    have hk5 : Keeps NoB w2 (w4.alloc (.cells #[.int .i64 0, .int .i64 0, .bool false] 26)) := (HK3.out.trans hk4).alloc _
    have HCa := Lib.hid (Cells.new w4 [.int .i64 0, .int .i64 0, .bool false] 26)
    have hw4 : w2.heap.size ≤ w4.heap.size := (HK3.out.trans hk4).size
    have HHb5 := Lib.hid (HHb.out _ hk5)
    have HK5 := Lib.hid hk5
    clear hk4 hk5 HHb HHa
    go_wp2_with fail
    go_at_call 13
    refine HHb5.out.mono ?_
    rintro r w6 ⟨rfl, hk6⟩
    have hw6 : w2.heap.size ≤ w6.heap.size := (HK5.out.trans hk6).size
    have hk7 : Keeps NoB w2 (w6.alloc (.cells #[.int .i64 ib.ctr, .int .i64 ib.author, .bool true] 26)) := (HK5.out.trans hk6).alloc _
    have HCa7 := Lib.hid ((HCa.out.keep hk6 (fun e => e)).alloc (.cells #[.int .i64 ib.ctr, .int .i64 ib.author, .bool true] 26))
    have HCb7 := Lib.hid (Cells.new w6 [.int .i64 ib.ctr, .int .i64 ib.author, .bool true] 26)
    have HTop := Lib.hid (top_any _ F x es _ (HL.out.keepN hk7))
    have HK7 := Lib.hid hk7
    clear hk6 hk7 HHb5 HCa
    go_wp2_with fail
    go_at_call 22
    refine HTop.out.mono ?_
    rintro r w8 ⟨rfl, hk8⟩
    have HCa8 := Lib.hid (HCa7.out.keep hk8 (fun e => e))
    have HCb8 := Lib.hid (HCb7.out.keep hk8 (fun e => e))
    have HK8 := Lib.hid (HK7.out.trans hk8)
    have a0 := HCa8.out.cell 0
    have a1 := HCa8.out.cell 1
    clear hk8 HTop HCa7 HCb7 HK7 HK5
    by_cases ht : 4294967295 ≤ topC ops
    · generalize topC ops = tc at *
      go_wp2_with fail
      go_ret
      exact ⟨rfl, HK2.out.trans HK8.out⟩
    · generalize topC ops = tc at *
      go_wp2_with fail
      go_ret
      exact ⟨rfl, HK2.out.trans HK8.out⟩
  · obtain ⟨j, e, he, hal, ha, hat, hpa, ib, hb, hpb⟩ := gone_a HG.out (p := p) (by omega) (by have := HN.out; omega)
    have HE := Lib.hid (And.intro he (And.intro hal (And.intro hat (And.intro hpa hpb))))
    clear he hal hat hpa hpb
    have HHb : Hid (∀ w', Keeps NoB w2 w' → Calls Try.prog 13 #[.pointer (some ⟨x, 0, none⟩), .int .i64 p, .bool true] w' (valKeeps w' (.tuple #[.agg #[.int .i64 ib.ctr, .int .i64 ib.author, .bool true], .int .i64 0]))) := Lib.hid (fun w' hk => by
      have := hold_any w' F x es _ (HL.out.keepN hk) p true
      rw [hb] at this
      exact this)
    have HHa : Hid (Calls Try.prog 13 #[.pointer (some ⟨x, 0, none⟩), .int .i64 p, .bool false] w3 (valKeeps w3 (.tuple #[.agg #[.int .i64 e.id.ctr, .int .i64 e.id.author, .bool false], .int .i64 0]))) := Lib.hid (by
      have := hold_any w3 F x es _ (HL.out.keepN HK3.out) p false
      rw [ha] at this
      exact this)
    clear ha hb
    go_at_call 13
    refine HHa.out.mono ?_
    rintro r w4 ⟨rfl, hk4⟩
    have hk5 : Keeps NoB w2 (w4.alloc (.cells #[.int .i64 e.id.ctr, .int .i64 e.id.author, .bool false] 26)) := (HK3.out.trans hk4).alloc _
    have HCa := Lib.hid (Cells.new w4 [.int .i64 e.id.ctr, .int .i64 e.id.author, .bool false] 26)
    have hw4 : w2.heap.size ≤ w4.heap.size := (HK3.out.trans hk4).size
    have HHb5 := Lib.hid (HHb.out _ hk5)
    have HK5 := Lib.hid hk5
    clear hk4 hk5 HHb HHa
    go_wp2_with fail
    go_at_call 13
    refine HHb5.out.mono ?_
    rintro r w6 ⟨rfl, hk6⟩
    have hw6 : w2.heap.size ≤ w6.heap.size := (HK5.out.trans hk6).size
    have hk7 : Keeps NoB w2 (w6.alloc (.cells #[.int .i64 ib.ctr, .int .i64 ib.author, .bool true] 26)) := (HK5.out.trans hk6).alloc _
    have HCa7 := Lib.hid ((HCa.out.keep hk6 (fun e => e)).alloc (.cells #[.int .i64 ib.ctr, .int .i64 ib.author, .bool true] 26))
    have HCb7 := Lib.hid (Cells.new w6 [.int .i64 ib.ctr, .int .i64 ib.author, .bool true] 26)
    have HTop := Lib.hid (top_any _ F x es _ (HL.out.keepN hk7))
    have HK7 := Lib.hid hk7
    clear hk6 hk7 HHb5 HCa
    go_wp2_with fail
    go_at_call 22
    refine HTop.out.mono ?_
    rintro r w8 ⟨rfl, hk8⟩
    have HCa8 := Lib.hid (HCa7.out.keep hk8 (fun e => e))
    have HCb8 := Lib.hid (HCb7.out.keep hk8 (fun e => e))
    have HK8 := Lib.hid (HK7.out.trans hk8)
    have a0 := HCa8.out.cell 0
    have a1 := HCa8.out.cell 1
    clear hk8 HTop HCa7 HCb7 HK7 HK5
    by_cases ht : 4294967295 ≤ topC ops
    · generalize topC ops = tc at *
      go_wp2_with fail
      go_ret
      exact ⟨rfl, HK2.out.trans HK8.out⟩
    · have HAt : Hid (Calls Try.prog 23 #[.pointer (some ⟨x, 0, none⟩), .int .i64 (p - 1)] w8 (fun r w' => r = .returned (.tuple #[.agg #[.int .i64 e.id.ctr, .int .i64 e.id.author], .bool true]) ∧ Keeps NoB w8 w')) := Lib.hid (by
        have := at_any w8 F x es _ (HL.out.keepN HK8.out) (p - 1)
        rw [HE.out.2.2.1] at this
        exact this)
      obtain ⟨tc, htc⟩ : ∃ tc, tc = topC ops := ⟨_, rfl⟩
      rw [← htc] at ht htop ⊢
      have HTC := Lib.hid htc
      clear htc
      go_wp2_with fail
      go_at_call 23
      refine HAt.out.mono ?_
      rintro r w9 ⟨rfl, hk9⟩
      have hw9 : w2.heap.size ≤ w9.heap.size := (HK8.out.trans hk9).size
      clear a0 a1
      have hca9 := HCa8.out.keep hk9 (fun e => e)
      have a0 := hca9.cell 0
      have a1 := hca9.cell 1
      have halt := hca9.lt
      have HCa9 := Lib.hid (hca9.alloc (.cells #[.int .i64 e.id.ctr, .int .i64 e.id.author] 24))
      have HCb9 := Lib.hid ((HCb8.out.keep hk9 (fun e => e)).alloc (.cells #[.int .i64 e.id.ctr, .int .i64 e.id.author] 24))
      have HCx9 := Lib.hid (Cells.new w9 [.int .i64 e.id.ctr, .int .i64 e.id.author] 24)
      have HK9 : Hid (Keeps NoB w2 (w9.alloc (.cells #[.int .i64 e.id.ctr, .int .i64 e.id.author] 24))) := Lib.hid ((HK8.out.trans hk9).alloc _)
      clear hk9 hca9 HAt HCa8 HCb8 HK8
      go_wp2_with fail
      obtain ⟨wx, hwx⟩ : ∃ wx, wx = w9.alloc (.cells #[.int .i64 e.id.ctr, .int .i64 e.id.author] 24) := ⟨_, rfl⟩
      have hbx : w9.heap.size = w9.heap.size := rfl
      rw [← hwx] at HCa9 HCb9 HCx9 HK9 ⊢
      clear hwx a0 a1 hbx halt
      generalize w9.heap.size = bx at *
      generalize w4.heap.size = ba at *
      generalize w6.heap.size = bb at *
      have HOx := Lib.hid (HO.out.keep (HK2.out.trans HK9.out))
      go_loopw [16] (fun t16 wr => ∃ k : Nat, k ≤ n ∧ t16 = .int .i64 k ∧ wr = wx ∧ Hid (∀ (i : Nat) (o : Rga.Opn), i < k → l[i]? = some o → o.id.author ≠ 4194303)) (fun t16 _ => n - (intOf t16).toNat)
      case atStart => exact ⟨0, Nat.zero_le _, rfl, by first | rfl | trivial, Lib.hid (fun i o hi => absurd hi (Nat.not_lt_zero _))⟩
      case round =>
        obtain ⟨k, hk, rfl, rfl, HNO⟩ := hrel
        by_cases hkn : k < n
        · obtain ⟨o, ho⟩ : ∃ o, l[k]? = some o := ⟨_, List.getElem?_eq_getElem (by omega)⟩
          obtain ⟨g, b, rfl, hc⟩ := HOx.out.2.2 k o ho
          have q1 := hc 1 _ rfl
          have HO1 := Lib.hid ho
          clear ho hc
          by_cases hau : o.id.author = 4194303
          · go_wp2_with fail
            go_ret
            exact ⟨rfl, HK2.out.trans HK9.out⟩
          · go_wp2_with fail
            go_roundw
            case rel =>
              refine ⟨k + 1, by omega, by go_num, by first | rfl | trivial, Lib.hid (fun i o' hi ho' => ?_)⟩
              by_cases hik : i < k
              · exact HNO.out i o' hik ho'
              · obtain rfl : i = k := by omega
                have := HO1.out
                rw [ho'] at this
                cases this
                exact hau
            case measure => simp [intOf]; omega
        · have hkk : k = n := by omega
          have hno : ∀ o ∈ ops, o.id.author ≠ 4194303 := by
            intro o ho
            rw [HOPS.out] at ho
            have hm := opsN_mem l _ (Nat.min_le_left _ _) o ho
            obtain ⟨i, hi⟩ := List.getElem?_of_mem hm
            exact HNO.out i o (by have := (List.getElem?_eq_some_iff.1 hi).1; omega) hi
          have HNA := Lib.hid hno
          have x0 := HCx9.out.cell 0
          have x1 := HCx9.out.cell 1
          have xlt := HCx9.out.lt
          simp only [List.getElem?_cons_zero, List.getElem?_cons_succ] at x0 x1
          clear hno hkk HNO HOx
          go_wp2_with fail
          refine wpD_begin (n := 9) (l := [false, false, false, false, false, false, false, false, false].toArray) [7, 8] (fun w' => w'.cell? ⟨bx, 0, none⟩ = some (.int .i64 e.id.ctr) ∧ w'.cell? ⟨bx, 1, none⟩ = some (.int .i64 e.id.author)) (by kernel_rfl) (by kernel_rfl) (by kernel_rfl) ?_ (fun hS => ?_)
          · first | (go_keep; done) | go_simp
          try dsimp only at hS
          refine wpD_takeL (i := 0) (v := ?vg_0) rfl (by kernel_rfl) (by kernel_rfl) (by kernel_rfl) (fun _ _ _ h => h) (Or.inl ⟨by rfl, ?hyg_0⟩) ?_
          case hyg_0 => (intro w; go_simp; try with_reducible rfl)
          simp only [Act.put, List.setIfInBounds_toArray, List.set_cons_zero, List.set_cons_succ]
          refine wpD_takeL (i := 1) (v := ?vg_1) rfl (by kernel_rfl) (by kernel_rfl) (by kernel_rfl) (fun _ _ _ h => h) (Or.inl ⟨by rfl, ?hyg_1⟩) ?_
          case hyg_1 => (intro w; go_simp; try with_reducible rfl)
          simp only [Act.put, List.setIfInBounds_toArray, List.set_cons_zero, List.set_cons_succ]
          refine wpD_takeL (i := 4) (v := ?vg_4) rfl (by kernel_rfl) (by kernel_rfl) (by kernel_rfl) (fun _ _ _ h => h) (Or.inl ⟨by rfl, ?hyg_4⟩) ?_
          case hyg_4 => (intro w; go_simp; try with_reducible rfl)
          simp only [Act.put, List.setIfInBounds_toArray, List.set_cons_zero, List.set_cons_succ]
          refine wpD_loadL (i := 6) (v := ?vg_6) rfl (by kernel_rfl) (by kernel_rfl) (by kernel_rfl) (by kernel_rfl) (fun _ _ _ h => h) (Or.inl ⟨by rfl, ?hyg_6⟩) hS ?_
          case hyg_6 => (intro w hSw; (try dsimp only at hSw); go_simp; try with_reducible rfl)
          simp only [Act.put, List.setIfInBounds_toArray, List.set_cons_zero, List.set_cons_succ]
          -- MID 2: F22 rga.Text).Top(t105)
          refine wpD_mid (i := 2) (by kernel_rfl) rfl (fun K hK => ?_)
          go_simp
          go_at_call 22
          have HTp := Lib.hid (top_any _ F x es _ ((HL.out.keepN HK9.out).keepN ((Keeps.refl NoB wr).drew)))
          rw [← HTC.out] at HTp
          refine HTp.out.mono ?_
          rintro r w11 ⟨rfl, hk11⟩
          refine hK.out _ _ (fun hSw => ?_) ?_
          · exact ⟨hk11.some hSw.1, hk11.some hSw.2⟩
          clear hK K
          simp only [List.setIfInBounds_toArray, List.set_cons_zero, List.set_cons_succ]
          refine wpD_takeL (i := 3) (v := ?vg_3) rfl (by kernel_rfl) (by kernel_rfl) (by kernel_rfl) (fun _ _ _ h => h) (Or.inl ⟨by rfl, ?hyg_3⟩) ?_
          case hyg_3 => (intro w; go_simp; try with_reducible rfl)
          simp only [Act.put, List.setIfInBounds_toArray, List.set_cons_zero, List.set_cons_succ]
          refine wpD_takeL (i := 5) (v := ?vg_5) rfl (by kernel_rfl) (by kernel_rfl) (by kernel_rfl) (fun _ _ _ h => h) (Or.inl ⟨by rfl, ?hyg_5⟩) ?_
          case hyg_5 => (intro w; go_simp; try with_reducible rfl)
          simp only [Act.put, List.setIfInBounds_toArray, List.set_cons_zero, List.set_cons_succ]
          refine wpD_tail 7 [7, 8] (by kernel_rfl) (by kernel_rfl) ?_
          simp only [List.drop_succ_cons, List.drop_zero]
          clear hS
          have HKx : Hid (Keeps NoB wr w11) := Lib.hid (((Keeps.refl NoB wr).drew).trans hk11)
          have HK11 := Lib.hid (HK9.out.trans HKx.out)
          clear hk11 x0 x1 xlt
          have hTx : Txt w11 F x ops := HT.out.1.keep HK11.out (fun _ _ e => e)
          have hwf := hTx.wf
          have hord : Rga.Ord ops (Rga.order ops) := by
            obtain ⟨_, l', _, _, _, hord, _⟩ := hTx
            have e1 : l' = Rga.order ops := hord.is
            rw [← e1]; exact hord
          have hhas : Rga.has ops e.id = true := (has_els hord e.id).2 ⟨e, by have := List.mem_of_getElem? HE.out.1; rw [HES.out] at this; exact this, rfl⟩
          have hputs : Rga.puts ops ⟨⟨topC ops + 1, 4194303⟩, 1, false, e.id, 0⟩ = (true, 0) := gone_puts hwf (by decide) HNA.out (by rw [← HTC.out]; omega) hhas
          have hput : Rga.put ops ⟨⟨topC ops + 1, 4194303⟩, 1, false, e.id, 0⟩ = ops ++ [⟨⟨topC ops + 1, 4194303⟩, 1, false, e.id, 0⟩] := by unfold Rga.put; rw [hputs]; rfl
          have hels : mEls (ops ++ [⟨⟨topC ops + 1, 4194303⟩, 1, false, e.id, 0⟩]) = killEl es j := by
            rw [HES.out]
            exact gone_els hwf hord (by rw [hputs]) rfl (by rw [← HES.out]; exact HE.out.1) rfl (by rw [← HES.out]; exact HG.out)
          have hsm : ops.length < 1099511627775 := by
            rw [HOPS.out]
            have := opsN_len l (min l.length 30) (by omega)
            unfold mOps
            omega
          have HP : Hid (Calls Try.prog 24 #[.pointer (some ⟨x, 0, none⟩), .agg #[.int .i64 (tc + 1), .int .i64 4194303, .int .i64 1, .bool false, .int .i64 e.id.ctr, .int .i64 e.id.author, .int .i32 0]] w11 (TakePost w11 F x ops ⟨⟨topC ops + 1, 4194303⟩, 1, false, e.id, 0⟩)) := Lib.hid (by
            rw [HTC.out]
            exact put_any w11 F x ops hTx (by omega) ⟨⟨topC ops + 1, 4194303⟩, 1, false, e.id, 0⟩)
          have HPE := Lib.hid (And.intro hputs (And.intro hput (And.intro hels hsm)))
          clear hTx hwf hord hhas hputs hput hels hsm
          go_wp2_with fail
          go_at_call 24
          refine HP.out.mono ?_
          rintro r w12 ⟨hr12, F', hT12, hk12, _⟩
          rw [HPE.out.1] at hr12
          subst hr12
          rw [HPE.out.2.1] at hT12
          have hL12 := hT12.lies (by simp; have := HPE.out.2.2.2; omega)
          rw [HPE.out.2.2.1] at hL12
          have hold2 : ∀ b, F b → b < w2.heap.size := HT.out.2
          have hca := (HCa9.out.keep HKx.out (fun e => e)).keep hk12 (fun hf => by have := hold2 _ hf; omega)
          have hcb := (HCb9.out.keep HKx.out (fun e => e)).keep hk12 (fun hf => by have := hold2 _ hf; omega)
          have HK12 : Hid (Keeps NoB w w12) := Lib.hid ((HK2.out.trans HK11.out).then hk12 (fun g hg => .inr (HFB.out g hg)))
          have HL12 := Lib.hid hL12
          have HCa12 := Lib.hid hca
          have HCb12 := Lib.hid hcb
          have a0 := hca.cell 0
          have a1 := hca.cell 1
          have a2 := hca.cell 2
          have HPa : Hid (Calls Try.prog 11 #[.pointer (some ⟨x, 0, none⟩), .agg #[.int .i64 e.id.ctr, .int .i64 e.id.author, .bool false]] w12 (valKeeps w12 (.tuple #[.int .i64 (p - 1), .int .i64 0]))) := Lib.hid (by
            have := place_cur w12 F' x _ _ hL12 e.id false
            rw [HE.out.2.2.2.1] at this
            exact this)
          clear hT12 hL12 hold2 hca hcb hk12 HP
          generalize topC (ops ++ [⟨⟨topC ops + 1, 4194303⟩, 1, false, e.id, 0⟩]) = tc2 at *
          go_wp2_with fail
          go_at_call 11
          refine HPa.out.mono ?_
          rintro r w13 ⟨rfl, hk13⟩
          have hcb := HCb12.out.keep hk13 (fun e => e)
          clear a0 a1 a2
          have b0 := hcb.cell 0
          have b1 := hcb.cell 1
          have b2 := hcb.cell 2
          have HPb : Hid (Calls Try.prog 11 #[.pointer (some ⟨x, 0, none⟩), .agg #[.int .i64 ib.ctr, .int .i64 ib.author, .bool true]] w13 (valKeeps w13 (.tuple #[.int .i64 (p - 1), .int .i64 0]))) := Lib.hid (by
            have := place_cur w13 F' x _ _ (HL12.out.keepN hk13) ib true
            rw [HE.out.2.2.2.2] at this
            exact this)
          have HL13 := Lib.hid (HL12.out.keepN hk13)
          have HK13 := Lib.hid (HK12.out.trans hk13)
          clear hk13 hcb HPa
          go_wp2_with fail
          go_at_call 11
          refine HPb.out.mono ?_
          rintro r w14 ⟨rfl, hk14⟩
          have HLn : Hid (Calls Try.prog 21 #[.pointer (some ⟨x, 0, none⟩)] w14 (intKeeps w14 ((N : Int) - 1))) := Lib.hid (by
            have := len_any w14 F' x _ _ (HL13.out.keepN hk14)
            have h2 := gone_len HE.out.1 HE.out.2.1
            rw [show ((lenE (killEl es j) : Nat) : Int) = (N : Int) - 1 by have := HN.out; omega] at this
            exact this)
          have HK14 := Lib.hid (HK13.out.trans hk14)
          clear hk14 HPb
          go_wp2_with (first | (go_at_call 21; refine HLn.out.mono ?_; rintro r w15 ⟨rfl, hk15⟩; have hk15 := Lib.hid hk15))
          go_ret
          exact ⟨rfl, HK14.out.trans hk15.out⟩

set_option maxRecDepth 100000 in
theorem gone_contract (H : Type) (enc : TypeId × Value → H) (W : World) (base : Nat) (args : Array Value) (ds gs : List (DataW H)) (before : List MemPlace)
    (hval : ∀ (j : Nat) t v, Try.f7.params[j]? = some t → args[j]? = some v → Value.okWide Try.prog W .any base t v)
    (hW : DataW.Whole enc Try.prog Try.f7.params.toList Rows.cursorGoneSpec.vars false W args.toList ds gs before) :
    Calls Try.prog 7 args W fun e W' => ∃ v, e = .returned v ∧ Rows.cursorGoneSpec.post enc Try.prog Try.f7 false true false false W args v W' := by
  have hW' := hW
  obtain ⟨p, q, hA0, hV, rfl, hfz, hnd⟩ := hW
  have hA : DataW.TrodAll enc Try.prog W 0 (fun _ => true) true Try.f7.params.toList args.toList ds p := hA0
  rw [Try.params7] at hA hval
  obtain ⟨v0, vs0, d0, ds0, p0, q0, hargs, rfl, rfl, h0, r0⟩ := trodAll_cons hA
  obtain ⟨v1, vs1, d1, ds1, p1, q1, rfl, rfl, rfl, h1, r1⟩ := trodAll_cons r0
  obtain ⟨rfl, rfl, rfl⟩ := trodAll_nil r1
  obtain rfl : args = #[v0, v1] := by cases args; simp_all
  obtain ⟨rfl, rfl⟩ := trodVars_none hV
  obtain ⟨i, rfl, rfl, rfl, wi⟩ := open_int Try.underlying3 (hval 1 3 v1 rfl rfl) h1
  obtain ⟨a0, len, cap, rfl⟩ := okWide_slice Try.underlying22 (hval 0 22 v0 rfl rfl)
  obtain ⟨fuel, hf⟩ := h0
  simp only [Value.cells] at hf
  obtain ⟨l, hRO⟩ := open_ops (cap := cap) (a0 := a0) (len := len) hf
  refine (gone_walk W a0 len cap l hRO i).mono fun e W' ⟨he, hk⟩ => ?_
  subst he
  exact ⟨_, rfl, law_post laidOut rfl rfl rfl Try.underlying4 (by decide +kernel) hW' (hk.below (fun _ _ e => e))⟩

set_option maxRecDepth 100000 in
theorem gone_lifted (os : Os) (started : os.Started) (H : Type) (enc : TypeId × Value → H) :
    ReturnsInHanded {} Try.checked os 7 .any (Rows.cursorGoneSpec.pre6 enc Try.prog Try.f7 Rows.cursorGoneRow.domain false) (Rows.cursorGoneSpec.post enc Try.prog Try.f7 false true false false) := by
  refine returnsInHanded_of_change (C := Try.checked) ownK started (by kernel_rfl) Try.func7
    (ChangeSpec.witness6 (enc := enc) (C := Try.checked) false ⟨#[], #[.slice none 0 0, .int .i64 0], []⟩ 8 (by kernel_rfl) (by kernel_rfl) (by kernel_rfl) (by kernel_rfl)) ?_
  intro W base args ds gs before hval hW _ _
  exact gone_contract H enc W base args ds gs before hval hW

theorem gone_proved : Rows.CursorGoneSaid :=
  OpenClaim.holds_of_wide 7 Try.f7 rfl rfl rfl rfl rfl rfl rfl ⟨rfl, rfl, rfl, rfl, rfl⟩ rfl rfl rfl rfl rfl (by kernel_rfl) Try.func7 (by kernel_rfl)
    (of_decide_eq_true (by kernel_rfl)) (by unfold Func.isWrapper; first | (rw [if_pos (by decide +kernel)]; kernel_rfl) | (rw [if_neg (by decide +kernel)]; exact ⟨rfl, rfl⟩))
    (fun os started H enc _ => gone_lifted os started H enc)
end Go.Proofs.Ytoddohhhhnahnaa
