/- Boundaries: Snap, Left, Right of the document. -/
import Derived.Test.YtoddohhhhnahnaaBd
namespace Go.Proofs.Ytoddohhhhnahnaa
open Go.RowKit

theorem snapF_succ (l : List Bool) (p : Int) (n : Nat) : snapF l p (n + 1) = if l.getD n false = true ∧ (n : Int) ≤ p then n else snapF l p n := rfl
theorem snapF_le (l : List Bool) (p : Int) : ∀ n : Nat, snapF l p n ≤ n
  | 0 => Nat.le_refl _
  | n + 1 => by
    rw [snapF_succ]
    split
    · omega
    · have := snapF_le l p n; omega

theorem rsnap_any (w : World) (A : Option Addr) (n c : Nat) (l : List Bool) (h : RB w A n c l) (p : Int) :
    Calls Try.prog 16 #[.slice A n c, .int .i64 p] w (isInt w (snapV l p)) := by
  obtain ⟨hl, hnc, hc, hb, _⟩ := h
  have HB := Lib.hid hb
  have HV : Hid (snapV l p = snapF l p n) := Lib.hid (by rw [← snapF_all, hl])
  generalize snapV l p = sv at *
  clear hb
  go_enter Try.func16, Try.ntmps16
  go_wp2
  go_loopw [5, 6] (fun t5 t6 wr => ∃ k : Nat, k ≤ n ∧ t6 = .int .i64 k ∧ wr = w ∧ ∃ q : Nat, t5 = .int .i64 q ∧ q = snapF l p k) (fun _ t6 _ => n - (intOf t6).toNat)
  case atStart => exact ⟨0, Nat.zero_le _, rfl, rfl, 0, rfl, rfl⟩
  case round =>
    obtain ⟨k, hk, rfl, rfl, q, rfl, hq⟩ := hrel
    have HQ := Lib.hid hq
    clear hq
    by_cases hkl : k < n
    · obtain ⟨b, hb⟩ : ∃ b, l[k]? = some b := ⟨_, List.getElem?_eq_getElem (by omega)⟩
      obtain ⟨a, rfl, hcell⟩ := HB.out _ _ hb
      have hs : snapF l p (k + 1) = if b = true ∧ (k : Int) ≤ p then k else q := by rw [snapF_succ, getD_of hb, HQ.out]
      have HS := Lib.hid hs
      clear hb hs
      rcases b with _ | _
      · go_wp2
        go_roundw
        case rel => exact ⟨k + 1, by omega, by go_num, by first | rfl | trivial, q, rfl, by rw [HS.out, if_neg (fun e => Bool.noConfusion e.1)]⟩
        case measure => simp [intOf]; omega
      · by_cases hkp : (k : Int) ≤ p
        · go_wp2
          go_roundw
          case rel => exact ⟨k + 1, by omega, by go_num, by first | rfl | trivial, k, rfl, by rw [HS.out, if_pos ⟨rfl, hkp⟩]⟩
          case measure => simp [intOf]; omega
        · go_wp2
          go_roundw
          case rel => exact ⟨k + 1, by omega, by go_num, by first | rfl | trivial, q, rfl, by rw [HS.out, if_neg (fun e => hkp e.2)]⟩
          case measure => simp [intOf]; omega
    · obtain rfl : k = n := by omega
      go_wp2
      go_ret
      exact ⟨by rw [HV.out, ← HQ.out]; rfl, rfl⟩

theorem rleft_any (w : World) (A : Option Addr) (n c : Nat) (l : List Bool) (h : RB w A n c l) (p : Int) :
    Calls Try.prog 18 #[.slice A n c, .int .i64 p] w (isInt w (snapV l (p - 1))) := by
  obtain ⟨hl, hnc, hc, hb, _⟩ := h
  have HB := Lib.hid hb
  have HV : Hid (snapV l (p - 1) = snapF l (p - 1) n) := Lib.hid (by rw [← snapF_all, hl])
  generalize snapV l (p - 1) = sv at *
  clear hb
  go_enter Try.func18, Try.ntmps18
  go_wp2
  go_loopw [5, 6] (fun t5 t6 wr => ∃ k : Nat, k ≤ n ∧ t6 = .int .i64 k ∧ wr = w ∧ ∃ q : Nat, t5 = .int .i64 q ∧ q = snapF l (p - 1) k) (fun _ t6 _ => n - (intOf t6).toNat)
  case atStart => exact ⟨0, Nat.zero_le _, rfl, rfl, 0, rfl, rfl⟩
  case round =>
    obtain ⟨k, hk, rfl, rfl, q, rfl, hq⟩ := hrel
    have HQ := Lib.hid hq
    clear hq
    by_cases hkl : k < n
    · obtain ⟨b, hb⟩ : ∃ b, l[k]? = some b := ⟨_, List.getElem?_eq_getElem (by omega)⟩
      obtain ⟨a, rfl, hcell⟩ := HB.out _ _ hb
      have hs : snapF l (p - 1) (k + 1) = if b = true ∧ (k : Int) ≤ p - 1 then k else q := by rw [snapF_succ, getD_of hb, HQ.out]
      have HS := Lib.hid hs
      clear hb hs
      rcases b with _ | _
      · go_wp2
        go_roundw
        case rel => exact ⟨k + 1, by omega, by go_num, by first | rfl | trivial, q, rfl, by rw [HS.out, if_neg (fun e => Bool.noConfusion e.1)]⟩
        case measure => simp [intOf]; omega
      · by_cases hkp : (k : Int) < p
        · go_wp2
          go_roundw
          case rel => exact ⟨k + 1, by omega, by go_num, by first | rfl | trivial, k, rfl, by rw [HS.out, if_pos ⟨rfl, by omega⟩]⟩
          case measure => simp [intOf]; omega
        · go_wp2
          go_roundw
          case rel => exact ⟨k + 1, by omega, by go_num, by first | rfl | trivial, q, rfl, by rw [HS.out, if_neg (fun e => by omega)]⟩
          case measure => simp [intOf]; omega
    · obtain rfl : k = n := by omega
      go_wp2
      go_ret
      exact ⟨by rw [HV.out, ← HQ.out]; rfl, rfl⟩

theorem rright_any (w : World) (A : Option Addr) (n c : Nat) (l : List Bool) (h : RB w A n c l) (p : Int) :
    Calls Try.prog 20 #[.slice A n c, .int .i64 p] w (isInt w (rightV l p)) := by
  obtain ⟨hl, hnc, hc, hb, _⟩ := h
  have HB := Lib.hid hb
  clear hb
  go_enter Try.func20, Try.ntmps20
  go_wp2
  go_loopw [5] (fun t5 wr => ∃ k : Nat, k ≤ n ∧ t5 = .int .i64 k ∧ wr = w ∧ ∀ j < k, l[j]? = some true → (j : Int) ≤ p) (fun t5 _ => n - (intOf t5).toNat)
  case atStart => exact ⟨0, Nat.zero_le _, rfl, rfl, fun j hj => absurd hj (Nat.not_lt_zero _)⟩
  case round =>
    obtain ⟨k, hk, rfl, rfl, hno⟩ := hrel
    have HN := Lib.hid hno
    clear hno
    by_cases hkl : k < n
    · obtain ⟨b, hb⟩ : ∃ b, l[k]? = some b := ⟨_, List.getElem?_eq_getElem (by omega)⟩
      obtain ⟨a, rfl, hcell⟩ := HB.out _ _ hb
      have Hb := Lib.hid hb
      clear hb
      rcases b with _ | _
      · go_wp2
        go_roundw
        case rel =>
          refine ⟨k + 1, by omega, by go_num, by first | rfl | trivial, fun j hj hjt => ?_⟩
          by_cases e : j < k
          · exact HN.out j e hjt
          · obtain rfl : j = k := by omega
            have h1 := Hb.out
            rw [hjt] at h1
            cases h1
        case measure => simp [intOf]; omega
      · by_cases hkp : p < (k : Int)
        · go_wp2
          go_ret
          exact ⟨by rw [rightV_hit Hb.out hkp HN.out]; rfl, rfl⟩
        · go_wp2
          go_roundw
          case rel =>
            refine ⟨k + 1, by omega, by go_num, by first | rfl | trivial, fun j hj hjt => ?_⟩
            by_cases e : j < k
            · exact HN.out j e hjt
            · omega
          case measure => simp [intOf]; omega
    · have HV : Hid (rightV l p = max 0 ((n : Int) - 1)) := Lib.hid (by
        rw [← hl]
        exact rightV_miss (fun j hj => HN.out j (by have := (List.getElem?_eq_some_iff.1 hj).1; omega) hj))
      generalize rightV l p = sv at *
      go_wp2
      all_goals go_ret
      all_goals refine ⟨?_, rfl⟩
      all_goals rw [HV.out]
      all_goals show Ending.returned (.int .i64 _) = _
      all_goals congr 2
      all_goals omega
end Go.Proofs.Ytoddohhhhnahnaa
