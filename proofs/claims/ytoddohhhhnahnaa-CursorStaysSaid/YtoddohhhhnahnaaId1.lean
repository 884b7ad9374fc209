/- Identifiers: which are right, which is less. -/
import Derived.Test.YtoddohhhhnahnaaRows
import Derived.Test.YtoddohhhhnahnaaK2
import Derived.Test.YtoddohhhhnahnaaDr
import Derived.Test.YtoddohhhhnahnaaRga2
namespace Go.Proofs.Ytoddohhhhnahnaa
open Go.RowKit

theorem in_any (a lo hi : Int) (w : World) : Calls Try.prog 52 #[.int .i64 a, .int .i64 lo, .int .i64 hi] w fun e w' => e = .returned (.bool (decide (lo ≤ a) && decide (a ≤ hi))) ∧ w = w' := by
  by_cases h1 : lo ≤ a
  · by_cases h2 : a ≤ hi
    all_goals
      go_enter Try.func52, Try.ntmps52
      go_wp2
      go_ret
      simp [h1, h2]
  · go_enter Try.func52, Try.ntmps52
    go_wp2
    go_ret
    simp
    omega

theorem id_any (c a : Int) (w : World) : Calls Try.prog 51 #[.agg #[.int .i64 c, .int .i64 a]] w fun e w' => e = .returned (.bool (Rga.idOk ⟨c, a⟩)) ∧ Keeps NoB w w' := by
  have h1 := in_any c 1 4294967295
  have h2 := in_any a 0 4194303
  have hok : Rga.idOk ⟨c, a⟩ = ((decide ((1 : Int) ≤ c) && decide (c ≤ 4294967295)) && (decide ((0 : Int) ≤ a) && decide (a ≤ 4194303))) := by
    rw [Bool.eq_iff_iff]; simp [Rga.idOk]; omega
  rw [hok]
  generalize (decide ((1 : Int) ≤ c) && decide (c ≤ 4294967295)) = b1 at *
  generalize (decide ((0 : Int) ≤ a) && decide (a ≤ 4194303)) = b2 at *
  clear hok
  have H1 := Lib.hid h1
  have H2 := Lib.hid h2
  clear h1 h2
  cases b1
  · go_enter Try.func51, Try.ntmps51
    go_wp2_with (first | (go_at_call 52; refine (H1.out _).mono ?_; rintro e w' ⟨rfl, rfl⟩))
    go_ret
    exact ⟨rfl, (Keeps.refl _ _).alloc _⟩
  · go_enter Try.func51, Try.ntmps51
    go_wp2_with fail
    refine (H1.out _).mono ?_
    rintro e w' ⟨rfl, rfl⟩
    go_wp2_with fail
    refine (H2.out _).mono ?_
    rintro e w' ⟨rfl, rfl⟩
    go_wp2_with fail
    go_ret
    exact ⟨by simp, (Keeps.refl _ _).alloc _⟩

def cmpI (x y : Int) : Int := if x < y then -1 else if y < x then 1 else 0

theorem nan_any (x : Int) (w : World) : Calls Try.prog 77 #[.int .i64 x] w fun e w' => e = .returned (.bool false) ∧ w = w' := by
  go_enter Try.func77, Try.ntmps77
  go_wp2
  go_ret
  exact ⟨by simp, rfl⟩

theorem compare_any (x y : Int) (w : World) : Calls Try.prog 68 #[.int .i64 x, .int .i64 y] w fun e w' => e = .returned (.int .i64 (cmpI x y)) ∧ w = w' := by
  by_cases h1 : x < y
  · have hv : cmpI x y = -1 := by simp [cmpI, h1]
    rw [hv]
    clear hv
    go_enter Try.func68, Try.ntmps68
    go_wp2_with (first | (go_at_call 77; refine (nan_any _ _).mono ?_; rintro e w' ⟨rfl, rfl⟩))
    go_ret
    exact ⟨rfl, rfl⟩
  · by_cases h2 : y < x
    · have hv : cmpI x y = 1 := by simp [cmpI, h1, h2]
      rw [hv]
      clear hv
      go_enter Try.func68, Try.ntmps68
      go_wp2_with (first | (go_at_call 77; refine (nan_any _ _).mono ?_; rintro e w' ⟨rfl, rfl⟩))
      go_ret
      exact ⟨rfl, rfl⟩
    · have hv : cmpI x y = 0 := by simp [cmpI, h1, h2]
      rw [hv]
      clear hv
      go_enter Try.func68, Try.ntmps68
      go_wp2_with (first | (go_at_call 77; refine (nan_any _ _).mono ?_; rintro e w' ⟨rfl, rfl⟩))
      go_ret
      exact ⟨rfl, rfl⟩

theorem or2_any (w : World) (b : Nat) (p q : Int) (h0 : w.cell? ⟨b, 0, none⟩ = some (.int .i64 p)) (h1 : w.cell? ⟨b, 1, none⟩ = some (.int .i64 q)) :
    Calls Try.prog 69 #[.slice (some ⟨b, 0, none⟩) 2 2] w fun e w' => e = .returned (.int .i64 (if p = 0 then q else p)) ∧ w = w' := by
  go_enter Try.func69, Try.ntmps69
  go_wp2
  go_loop [8] (fun t8 => t8 = .int .i64 0 ∨ (p = 0 ∧ t8 = .int .i64 1) ∨ (p = 0 ∧ q = 0 ∧ t8 = .int .i64 2)) (fun t8 => 2 - (intOf t8).toNat)
  case atStart => exact .inl rfl
  case round =>
    rcases hrel with rfl | ⟨rfl, rfl⟩ | ⟨rfl, rfl, rfl⟩
    · by_cases hp : p = 0
      · subst hp
        go_wp2
        go_round
        case rel => simp
        case measure => simp [intOf]
      · go_wp2
        go_ret
        simp
    · by_cases hq : q = 0
      · subst hq
        go_wp2
        go_round
        case rel => simp
        case measure => simp [intOf]
      · go_wp2
        go_ret
        simp
    · go_wp2
      go_ret
      simp
end Go.Proofs.Ytoddohhhhnahnaa
