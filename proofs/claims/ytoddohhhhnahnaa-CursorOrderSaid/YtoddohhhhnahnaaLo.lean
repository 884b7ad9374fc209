/- The law CursorOrder: it returns true for every input, and the input reads as it did. -/
import Derived.Test.YtoddohhhhnahnaaLb
namespace Go.Proofs.Ytoddohhhhnahnaa
open Go.ChangeShapes Go.WideShapes Go.ChangeAt Go.RowKit

theorem snapN_le (l : List Bool) : ∀ k : Nat, snapN l k ≤ k
  | 0 => Nat.le_refl _
  | k + 1 => by
    rw [snapN_succ]
    split
    · exact Nat.le_refl _
    · have := snapN_le l k; omega

theorem snapN_gap (l : List Bool) : ∀ (k j : Nat), snapN l k < j → j ≤ k → l[j]? ≠ some true
  | 0, j, h1, h2 => by omega
  | k + 1, j, h1, h2 => by
    rw [snapN_succ] at h1
    split at h1
    · omega
    · rename_i hf
      by_cases e : j = k + 1
      · subst e
        intro h
        exact hf (getD_of h)
      · exact snapN_gap l k j h1 (by omega)

theorem order_right (l : List Bool) (k : Nat) (h : l[k + 1]? = some true) : rightV l (snapN l k : Nat) = ((k + 1 : Nat) : Int) := by
  have h1 := snapN_le l k
  refine rightV_hit h (by omega) (fun j hj hjt => ?_)
  by_cases e : snapN l k < j
  · exact absurd hjt (snapN_gap l k j e (by omega))
  · omega
theorem order_snap (l : List Bool) (k : Nat) (h : l[k + 1]? = some true) : snapV l ((k + 1 : Nat) : Int) = ((k + 1 : Nat) : Int) := by
  have hl := (List.getElem?_eq_some_iff.1 h).1
  unfold snapV
  rw [show (min ((k + 1 : Nat) : Int) ((l.length : Int) - 1)).toNat = k + 1 by omega, snapN_succ, getD_of h, if_pos rfl]
theorem order_left (l : List Bool) (k : Nat) (h : k < l.length) : snapV l (((k + 1 : Nat) : Int) - 1) = ((snapN l k : Nat) : Int) := by
  unfold snapV
  rw [show (min (((k + 1 : Nat) : Int) - 1) ((l.length : Int) - 1)).toNat = k by omega]
theorem order_end_right (l : List Bool) (k : Nat) (h : l.length = k + 1) : rightV l (snapN l k : Nat) = (k : Int) := by
  rw [rightV_miss (fun j hj => ?_), h]
  · omega
  · have h1 := (List.getElem?_eq_some_iff.1 hj).1
    by_cases e : snapN l k < j
    · exact absurd hj (snapN_gap l k j e (by omega))
    · omega
theorem order_end_snap (l : List Bool) (k : Nat) (h : l.length = k + 1) : snapV l (((k + 1 : Nat) : Int) + 5) = ((snapN l k : Nat) : Int) := by
  unfold snapV
  rw [h, show (min (((k + 1 : Nat) : Int) + 5) (((k + 1 : Nat) : Int) - 1)).toNat = k by omega]

set_option maxHeartbeats 1600000 in
set_option maxRecDepth 100000 in
/-- Behind the cut to two hundred: no boundaries. -/
theorem order_none (w : World) (A : Option Addr) (c : Nat) (h : RB w A 0 c []) :
    Calls Try.prog 6 #[.slice A 0 c] w (boolKeeps w true) := by
  have hc := h.2.2.1
  have hnil := h.2.2.2.2
  have HR : Hid (∀ w', Keeps NoB w w' → RB w' A 0 c []) := Lib.hid (fun w' k => h.keep k)
  clear h
  rcases A with _ | a
  · obtain rfl : c = 0 := hnil rfl
    clear hnil
    go_enter Try.func6, Try.ntmps6
    go_wp2_with fail
    go_at_call 9
    refine (shown_any _).mono ?_
    rintro e w1 ⟨rfl, hk1⟩
    have HRt : Hid (Calls Try.prog 19 #[.slice none 0 0, .int .i64 0] w1 (isInt w1 0)) := Lib.hid (right_any2 w1 none 0 0 [] (HR.out w1 hk1) 0 (by decide))
    have HL : Hid (Calls Try.prog 17 #[.slice none 0 0, .int .i64 0] w1 (isInt w1 0)) := Lib.hid (left_any w1 none 0 0 [] (HR.out w1 hk1) 0 (by decide) (by decide))
    have HS : Hid (Calls Try.prog 15 #[.slice none 0 0, .int .i64 5] w1 (isInt w1 0)) := Lib.hid (snap_any w1 none 0 0 [] (HR.out w1 hk1) 5 (by decide))
    have HK := Lib.hid hk1
    clear hk1
    go_wp2_with (first | (go_at_call 15; refine HS.out.mono ?_; rintro e w' ⟨rfl, rfl⟩) | (go_at_call 17; refine HL.out.mono ?_; rintro e w' ⟨rfl, rfl⟩) | (go_at_call 19; refine HRt.out.mono ?_; rintro e w' ⟨rfl, rfl⟩))
    go_ret
    exact ⟨rfl, HK.out⟩
  · clear hnil
    go_enter Try.func6, Try.ntmps6
    go_wp2_with fail
    go_at_call 9
    refine (shown_any _).mono ?_
    rintro e w1 ⟨rfl, hk1⟩
    have HRt : Hid (Calls Try.prog 19 #[.slice (some a) 0 c, .int .i64 0] w1 (isInt w1 0)) := Lib.hid (right_any2 w1 (some a) 0 c [] (HR.out w1 hk1) 0 (by decide))
    have HL : Hid (Calls Try.prog 17 #[.slice (some a) 0 c, .int .i64 0] w1 (isInt w1 0)) := Lib.hid (left_any w1 (some a) 0 c [] (HR.out w1 hk1) 0 (by decide) (by decide))
    have HS : Hid (Calls Try.prog 15 #[.slice (some a) 0 c, .int .i64 5] w1 (isInt w1 0)) := Lib.hid (snap_any w1 (some a) 0 c [] (HR.out w1 hk1) 5 (by decide))
    have HK := Lib.hid hk1
    clear hk1
    go_wp2_with (first | (go_at_call 15; refine HS.out.mono ?_; rintro e w' ⟨rfl, rfl⟩) | (go_at_call 17; refine HL.out.mono ?_; rintro e w' ⟨rfl, rfl⟩) | (go_at_call 19; refine HRt.out.mono ?_; rintro e w' ⟨rfl, rfl⟩))
    go_ret
    exact ⟨rfl, HK.out⟩

set_option maxHeartbeats 3200000 in
set_option maxRecDepth 100000 in
theorem order_some (w : World) (A : Option Addr) (n c : Nat) (l : List Bool) (h : RB w A n c l) (h0 : 0 < n) :
    Calls Try.prog 6 #[.slice A n c] w (boolKeeps w true) := by
  have hl := h.1
  have hnc := h.2.1
  have hc := h.2.2.1
  obtain ⟨b0, hb0⟩ : ∃ b, l[0]? = some b := ⟨_, List.getElem?_eq_getElem (by omega)⟩
  obtain ⟨a, rfl, _⟩ := h.2.2.2.1 0 b0 hb0
  obtain ⟨m, hm⟩ : ∃ m, m = min n 200 := ⟨_, rfl⟩
  have HR : Hid (∀ w', Keeps NoB w w' → RB w' (some a) m c (l.take m)) := Lib.hid (fun w' k => (h.keep k).take m (by omega))
  have hm2 : (n ≤ 200 ∧ m = n) ∨ (200 < n ∧ m = 200) := by omega
  clear h hm hb0 hl
  generalize l.take m = l2 at *
  rcases hm2 with ⟨hm1, rfl⟩ | ⟨hm1, rfl⟩
  all_goals
    go_enter Try.func6, Try.ntmps6
    go_wp2_with fail
    go_at_call 9
    refine (shown_any _).mono ?_
    rintro e w1 ⟨rfl, hk1⟩
    have HB := Lib.hid (HR.out w1 hk1)
    have HK := Lib.hid hk1
    have hl2 := HB.out.1
    clear hk1
    go_wp2_with fail
    try simp only [show ((m : Int) == 0) = false from by simp; omega]
    go_loopw [4, 5] (fun t4 t5 wr => ∃ k : Nat, k + 1 ≤ l2.length ∧ t5 = .int .i64 ((k + 1 : Nat) : Int) ∧ wr = w1 ∧ ∃ q : Nat, t4 = .int .i64 q ∧ q = snapN l2 k) (fun _ t5 _ => l2.length - (intOf t5).toNat)
    case atStart => exact ⟨0, by omega, rfl, by first | rfl | trivial, 0, rfl, rfl⟩
    case round =>
      obtain ⟨k, hk, rfl, rfl, q, rfl, hq⟩ := hrel
      have hqk := snapN_le l2 k
      rw [← hq] at hqk
      have HQ := Lib.hid hq
      clear hq
      obtain ⟨p, hp⟩ : ∃ p, p = k + 1 := ⟨_, rfl⟩
      have HP := Lib.hid hp
      by_cases hkl : k + 1 < l2.length
      · obtain ⟨b, hb⟩ : ∃ b, l2[k + 1]? = some b := ⟨_, List.getElem?_eq_getElem hkl⟩
        obtain ⟨a', e, hcell⟩ := HB.out.2.2.2.1 _ _ hb
        cases e
        have Hb := Lib.hid hb
        rw [← hp] at hcell hkl ⊢
        clear hb hp hk
        rcases b with _ | _
        · go_wp2_with fail
          go_roundw
          case rel =>
            refine ⟨k + 1, by have := HP.out; omega, by rw [HP.out]; go_num, by first | rfl | trivial, q, rfl, ?_⟩
            rw [snapN_succ, getD_of Hb.out, if_neg (by decide)]
            exact HQ.out
          case measure =>
            have := HP.out
            simp [intOf]
            omega
        · have HRt := Lib.hid (right_any2 wr _ _ _ l2 HB.out q (by omega))
          rw [HQ.out, order_right l2 k Hb.out, ← HQ.out, ← HP.out] at HRt
          have HS := Lib.hid (snap_any wr _ _ _ l2 HB.out ((k + 1 : Nat) : Int) (by omega))
          rw [order_snap l2 k Hb.out, ← HP.out] at HS
          have HL := Lib.hid (left_any wr _ _ _ l2 HB.out ((k + 1 : Nat) : Int) (by omega) (by have := HP.out; omega))
          rw [order_left l2 k (by have := HP.out; omega), ← HQ.out, ← HP.out] at HL
          go_wp2_with (first | (go_at_call 15; refine HS.out.mono ?_; rintro e w' ⟨rfl, rfl⟩) | (go_at_call 17; refine HL.out.mono ?_; rintro e w' ⟨rfl, rfl⟩) | (go_at_call 19; refine HRt.out.mono ?_; rintro e w' ⟨rfl, rfl⟩))
          go_roundw
          case rel =>
            refine ⟨k + 1, by have := HP.out; omega, by rw [HP.out]; go_num, by first | rfl | trivial, p, rfl, ?_⟩
            rw [snapN_succ, getD_of Hb.out, if_pos rfl]
            exact HP.out
          case measure =>
            have := HP.out
            simp [intOf]
            omega
      · have hkl2 : l2.length = k + 1 := by omega
        have HRt := Lib.hid (right_any2 wr _ _ _ l2 HB.out q (by omega))
        rw [HQ.out, order_end_right l2 k hkl2, ← HQ.out] at HRt
        have HS := Lib.hid (snap_any wr _ _ _ l2 HB.out (((k + 1 : Nat) : Int) + 5) (by omega))
        rw [order_end_snap l2 k hkl2, ← HQ.out] at HS
        rw [← HP.out] at HS
        rw [show (k : Int) = (p : Int) - 1 by have := HP.out; omega] at HRt
        rw [← hp]
        have hpm := (show p = l2.length by omega).trans hl2
        clear hp hk hkl hkl2 HP HQ hqk
        subst hpm
        go_wp2_with (first | (go_at_call 15; refine HS.out.mono ?_; rintro e w' ⟨rfl, rfl⟩) | (go_at_call 19; refine HRt.out.mono ?_; rintro e w' ⟨rfl, rfl⟩))
        go_ret
        exact ⟨rfl, HK.out⟩

theorem order_walk (w : World) (A : Option Addr) (n c : Nat) (l : List Bool) (h : RB w A n c l) :
    Calls Try.prog 6 #[.slice A n c] w (boolKeeps w true) := by
  by_cases h0 : 0 < n
  · exact order_some w A n c l h h0
  · obtain rfl : n = 0 := by omega
    obtain rfl : l = [] := List.length_eq_zero_iff.1 h.1
    exact order_none w A c h

set_option maxRecDepth 100000 in
theorem order_contract (H : Type) (enc : TypeId × Value → H) (W : World) (base : Nat) (args : Array Value) (ds gs : List (DataW H)) (before : List MemPlace)
    (hval : ∀ (j : Nat) t v, Try.f6.params[j]? = some t → args[j]? = some v → Value.okWide Try.prog W .any base t v)
    (hW : DataW.Whole enc Try.prog Try.f6.params.toList Rows.cursorOrderSpec.vars false W args.toList ds gs before) :
    Calls Try.prog 6 args W fun e W' => ∃ v, e = .returned v ∧ Rows.cursorOrderSpec.post enc Try.prog Try.f6 false true false false W args v W' := by
  have hW' := hW
  obtain ⟨p, q, hA0, hV, rfl, hfz, hnd⟩ := hW
  have hA : DataW.TrodAll enc Try.prog W 0 (fun _ => true) true Try.f6.params.toList args.toList ds p := hA0
  rw [Try.params6] at hA hval
  obtain ⟨v0, vs0, d0, ds0, p0, q0, hargs, rfl, rfl, h0, r0⟩ := trodAll_cons hA
  obtain ⟨rfl, rfl, rfl⟩ := trodAll_nil r0
  obtain rfl : args = #[v0] := by cases args; simp_all
  obtain ⟨rfl, rfl⟩ := trodVars_none hV
  obtain ⟨a0, len, cap, rfl⟩ := okWide_slice Try.underlying40 (hval 0 40 v0 rfl rfl)
  obtain ⟨fuel, hf⟩ := h0
  have hRB : ∃ l, RB W a0 len cap l := by
    rcases Deep.open_bools Try.underlying40 Try.underlying4 cells_bool hf with ⟨hcs, _⟩ | ⟨a, len', cap', B, hcs, _, hl, hm, _, hcell⟩
    · simp [Value.cells] at hcs
      obtain ⟨rfl, rfl, rfl⟩ := hcs
      exact ⟨[], rfl, Nat.le_refl _, by omega, fun j b hj => by simp at hj, fun _ => rfl⟩
    · simp [Value.cells] at hcs
      obtain ⟨rfl, rfl, rfl⟩ := hcs
      refine ⟨(List.range len).map B, by simp, hl, ?_, fun j b hj => ⟨a, rfl, ?_⟩, fun e => by cases e⟩
      · have : maxLen ≤ 9223372036854775807 := by decide +kernel
        omega
      · rw [List.getElem?_map, Option.map_eq_some_iff] at hj
        obtain ⟨k, hk, rfl⟩ := hj
        obtain ⟨hk1, hk2⟩ := List.getElem?_eq_some_iff.1 hk
        simp at hk1 hk2
        subst hk2
        exact hcell _ (by omega)
  obtain ⟨l, hRB⟩ := hRB
  refine (order_walk W a0 len cap l hRB).mono fun e W' ⟨he, hk⟩ => ?_
  subst he
  exact ⟨_, rfl, law_post laidOut rfl rfl rfl Try.underlying4 (by decide +kernel) hW' (hk.below (fun _ _ e => e))⟩

set_option maxRecDepth 100000 in
theorem order_lifted (os : Os) (started : os.Started) (H : Type) (enc : TypeId × Value → H) :
    ReturnsInHanded {} Try.checked os 6 .any (Rows.cursorOrderSpec.pre6 enc Try.prog Try.f6 Rows.cursorOrderRow.domain false) (Rows.cursorOrderSpec.post enc Try.prog Try.f6 false true false false) := by
  refine returnsInHanded_of_change (C := Try.checked) ownK started (by kernel_rfl) Try.func6
    (ChangeSpec.witness6 (enc := enc) (C := Try.checked) false ⟨#[], #[.slice none 0 0], []⟩ 8 (by kernel_rfl) (by kernel_rfl) (by kernel_rfl) (by kernel_rfl)) ?_
  intro W base args ds gs before hval hW _ _
  exact order_contract H enc W base args ds gs before hval hW

theorem order_proved : Rows.CursorOrderSaid :=
  OpenClaim.holds_of_wide 6 Try.f6 rfl rfl rfl rfl rfl rfl rfl ⟨rfl, rfl, rfl, rfl, rfl⟩ rfl rfl rfl rfl rfl (by kernel_rfl) Try.func6 (by kernel_rfl)
    (of_decide_eq_true (by kernel_rfl)) (by unfold Func.isWrapper; first | (rw [if_pos (by decide +kernel)]; kernel_rfl) | (rw [if_neg (by decide +kernel)]; exact ⟨rfl, rfl⟩))
    (fun os started H enc _ => order_lifted os started H enc)
end Go.Proofs.Ytoddohhhhnahnaa
