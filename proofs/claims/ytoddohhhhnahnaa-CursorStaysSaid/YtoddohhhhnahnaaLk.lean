/- The law CursorBack: it returns true for every input, and the input reads as it did. -/
import Derived.Test.YtoddohhhhnahnaaPl
namespace Go.Proofs.Ytoddohhhhnahnaa
open Go.ChangeShapes Go.WideShapes Go.ChangeAt Go.RowKit

set_option maxHeartbeats 3200000 in
set_option maxRecDepth 100000 in
theorem back_walk (w : World) (A : Option Addr) (n c : Nat) (l : List Rga.Opn) (h : ROps w A n l) : Calls Try.prog 5 #[.slice A n c] w (boolKeeps w true) := by
  have HO := Lib.hid h
  clear h
  go_enter Try.func5, Try.ntmps5
  go_wp2_with fail
  go_at_call 9
  refine (shown_any _).mono ?_
  rintro e w1 ⟨rfl, hk1⟩
  have HM := Lib.hid (made_any w1 A n c l (HO.out.keep hk1))
  have HK1 := Lib.hid hk1
  clear hk1
  go_wp2_with fail
  go_at_call 10
  refine HM.out.mono ?_
  rintro e w2 ⟨x, y, rfl, hB, hk2⟩
  obtain ⟨F, hL, hG⟩ := hB.asks
  have HK2 := Lib.hid (HK1.out.trans hk2)
  clear hB hk2 HM HK1 HO
  generalize mEls (mOps l) = es at *
  generalize topC (mOps l) = top at *
  have HL := Lib.hid hL
  have HG := Lib.hid hG
  have hlb : (lenE es : Int) ≤ 1099511627776 := by
    obtain ⟨_, _, _, _, _, hb⟩ := hL
    have := lenE_le es
    omega
  clear hL hG
  obtain ⟨N, hN⟩ : ∃ N : Nat, N = lenE es := ⟨_, rfl⟩
  have HN := Lib.hid hN
  have hNb : N ≤ 1099511627776 := by omega
  clear hlb hN
  have HLen : Hid (∀ w', Keeps NoB w2 w' → Calls Try.prog 21 #[.pointer (some ⟨x, 0, none⟩)] w' (intKeeps w' N)) := Lib.hid (fun w' hk => by rw [HN.out]; exact len_any w' F x es top (HL.out.keepN hk))
  go_wp2_with fail
  go_loopw [6] (fun t6 wr => ∃ p : Nat, p ≤ N + 1 ∧ t6 = .int .i64 p ∧ Hid (Keeps NoB w2 wr)) (fun t6 _ => N + 1 - (intOf t6).toNat)
  case atStart => exact ⟨0, Nat.zero_le _, rfl, Lib.hid (Keeps.refl _ _)⟩
  case round =>
    obtain ⟨p, hp, rfl, HKp⟩ := hrel
    have HLp := Lib.hid (HLen.out wr HKp.out)
    by_cases hpN : p ≤ N
    · go_wp2_with fail
      go_at_call 21
      refine HLp.out.mono ?_
      rintro e w3 ⟨rfl, hk3⟩
      have HK3 := Lib.hid (HKp.out.trans hk3)
      clear hk3 HLp HKp
      go_wp2_with fail
      go_loopw [7] (fun t7 wr' => ∃ k : Nat, k ≤ 2 ∧ t7 = .int .i64 k ∧ Hid (Keeps NoB w2 wr')) (fun t7 _ => 2 - (intOf t7).toNat)
      case atStart => exact ⟨0, Nat.zero_le _, rfl, HK3⟩
      case round =>
        obtain ⟨k, hk, rfl, HKi⟩ := hrel
        have hk3 : k = 0 ∨ k = 1 ∨ k = 2 := by omega
        rcases hk3 with rfl | rfl | rfl
        · skip
          obtain ⟨i, hh, hpl⟩ := back_law HG.out (p := (p : Int)) (by omega) (by have := HN.out; omega) false
          have HH := Lib.hid (hold_any wr F x es top (HL.out.keepN HKi.out) p false)
          rw [hh] at HH
          simp only [holdV] at HH
          have HPL : Hid (∀ w', Keeps NoB w2 w' → Calls Try.prog 11 #[.pointer (some ⟨x, 0, none⟩), .agg #[.int .i64 i.ctr, .int .i64 i.author, .bool false]] w' (valKeeps w' (.tuple #[.int .i64 p, .int .i64 0]))) := Lib.hid (fun w' hk => by
            have := place_cur w' F x es top (HL.out.keepN hk) i false
            rw [hpl] at this
            exact this)
          clear hh hpl
          go_wp2_with fail
          go_at_call 13
          refine HH.out.mono ?_
          rintro e w4 ⟨rfl, hk4⟩
          have hk5 : Keeps NoB w2 (w4.alloc (.cells #[.int .i64 i.ctr, .int .i64 i.author, .bool false] 26)) := (HKi.out.trans hk4).alloc _
          have HC5 := Lib.hid (Cells.new w4 [.int .i64 i.ctr, .int .i64 i.author, .bool false] 26)
          have HP5 := Lib.hid (HPL.out _ hk5)
          have HK5 := Lib.hid hk5
          clear hk4 hk5 HH HPL
          go_wp2_with fail
          go_at_call 11
          refine HP5.out.mono ?_
          rintro e w6 ⟨rfl, hk6⟩
          have hc6 := HC5.out.keep hk6 (fun e => e)
          have c2 := hc6.cell 2
          have HK6 := Lib.hid (HK5.out.trans hk6)
          clear hk6 hc6 HP5
          go_wp2_with fail
          go_roundw
          case rel => exact ⟨0 + 1, by omega, by first | rfl | go_num, HK6⟩
          case measure => simp [intOf]
        · skip
          obtain ⟨i, hh, hpl⟩ := back_law HG.out (p := (p : Int)) (by omega) (by have := HN.out; omega) true
          have HH := Lib.hid (hold_any wr F x es top (HL.out.keepN HKi.out) p true)
          rw [hh] at HH
          simp only [holdV] at HH
          have HPL : Hid (∀ w', Keeps NoB w2 w' → Calls Try.prog 11 #[.pointer (some ⟨x, 0, none⟩), .agg #[.int .i64 i.ctr, .int .i64 i.author, .bool true]] w' (valKeeps w' (.tuple #[.int .i64 p, .int .i64 0]))) := Lib.hid (fun w' hk => by
            have := place_cur w' F x es top (HL.out.keepN hk) i true
            rw [hpl] at this
            exact this)
          clear hh hpl
          go_wp2_with fail
          go_at_call 13
          refine HH.out.mono ?_
          rintro e w4 ⟨rfl, hk4⟩
          have hk5 : Keeps NoB w2 (w4.alloc (.cells #[.int .i64 i.ctr, .int .i64 i.author, .bool true] 26)) := (HKi.out.trans hk4).alloc _
          have HC5 := Lib.hid (Cells.new w4 [.int .i64 i.ctr, .int .i64 i.author, .bool true] 26)
          have HP5 := Lib.hid (HPL.out _ hk5)
          have HK5 := Lib.hid hk5
          clear hk4 hk5 HH HPL
          go_wp2_with fail
          go_at_call 11
          refine HP5.out.mono ?_
          rintro e w6 ⟨rfl, hk6⟩
          have hc6 := HC5.out.keep hk6 (fun e => e)
          have c2 := hc6.cell 2
          have HK6 := Lib.hid (HK5.out.trans hk6)
          clear hk6 hc6 HP5
          go_wp2_with fail
          go_roundw
          case rel => exact ⟨1 + 1, by omega, by first | rfl | go_num, HK6⟩
          case measure => simp [intOf]
        · go_wp2_with fail
          exact ⟨⟨p + 1, by omega, by go_num, HKi⟩, by simp [intOf]; omega⟩
    · go_wp2_with (first | (go_at_call 21; refine HLp.out.mono ?_; rintro e w3 ⟨rfl, hk3⟩; have hk3 := Lib.hid hk3))
      go_ret
      exact ⟨rfl, HK2.out.trans (HKp.out.trans hk3.out)⟩
end Go.Proofs.Ytoddohhhhnahnaa
