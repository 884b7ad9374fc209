/- The law CursorBounds: it returns true for every input, and the input reads as it did. -/
import Derived.Test.YtoddohhhhnahnaaFin
import Derived.Deep.Grids
namespace Go.Proofs.Ytoddohhhhnahnaa
open Go.ChangeShapes Go.WideShapes Go.ChangeAt Go.RowKit

theorem Keeps.someA {a b : World} (h : Keeps NoB a b) {p : Addr} {v : Value} (hc : a.cell? p = Option.some v) : b.cell? p = Option.some v := by
  have hs := World.cell?_spot hc
  obtain ⟨g, o, s⟩ := p
  simp only at hs
  subst hs
  exact h.some hc

theorem RB.keep {w w' : World} {A : Option Addr} {n c : Nat} {l : List Bool} (h : RB w A n c l) (k : Keeps NoB w w') : RB w' A n c l := by
  refine ⟨h.1, h.2.1, h.2.2.1, fun j b hj => ?_, h.2.2.2.2⟩
  obtain ⟨a, e, hc⟩ := h.2.2.2.1 j b hj
  exact ⟨a, e, k.someA hc⟩

theorem RB.take {w : World} {A : Option Addr} {n c : Nat} {l : List Bool} (h : RB w A n c l) (m : Nat) (hm : m ≤ n) : RB w A m c (l.take m) := by
  have hl := h.1
  have hnc := h.2.1
  refine ⟨by simp; omega, by omega, h.2.2.1, fun j b hj => ?_, h.2.2.2.2⟩
  rw [List.getElem?_take] at hj
  split at hj
  · exact h.2.2.2.1 j b hj
  · cases hj

set_option maxHeartbeats 1600000 in
set_option maxRecDepth 100000 in
theorem bounds_walk (w : World) (A : Option Addr) (n c : Nat) (l : List Bool) (h : RB w A n c l) (p : Int) (hp1 : -9223372036854775808 ≤ p) (hp2 : p ≤ 9223372036854775807) :
    Calls Try.prog 4 #[.slice A n c, .int .i64 p] w (boolKeeps w true) := by
  have hnc := h.2.1
  have hc := h.2.2.1
  have hnil := h.2.2.2.2
  obtain ⟨m, hm⟩ : ∃ m, m = min n 200 := ⟨_, rfl⟩
  have HR : Hid (∀ w', Keeps NoB w w' → RB w' A m c (l.take m)) := Lib.hid (fun w' k => (h.keep k).take m (by omega))
  have hm2 : (n ≤ 200 ∧ m = n) ∨ (200 < n ∧ m = 200) := by omega
  clear h hm
  generalize l.take m = l2 at *
  rcases A with _ | a
  · obtain rfl : c = 0 := hnil rfl
    obtain rfl : n = 0 := by omega
    obtain rfl : m = 0 := by omega
    clear hm2 hnil
    go_enter Try.func4, Try.ntmps4
    go_wp2_with fail
    go_at_call 9
    refine (shown_any _).mono ?_
    rintro e w1 ⟨rfl, hk1⟩
    have HS := Lib.hid (snap_any w1 none 0 0 l2 (HR.out w1 hk1) p hp1)
    have HL := Lib.hid (left_any w1 none 0 0 l2 (HR.out w1 hk1) p hp1 hp2)
    have HRt := Lib.hid (right_any2 w1 none 0 0 l2 (HR.out w1 hk1) p hp1)
    have HS2 := Lib.hid (rsnap_any w1 none 0 0 l2 (HR.out w1 hk1) p)
    have HL2 := Lib.hid (rleft_any w1 none 0 0 l2 (HR.out w1 hk1) p)
    have HR2 := Lib.hid (rright_any w1 none 0 0 l2 (HR.out w1 hk1) p)
    have HK := Lib.hid hk1
    clear hk1
    generalize snapV l2 p = v1 at *
    generalize snapV l2 (p - 1) = v2 at *
    generalize rightV l2 p = v3 at *
    go_wp2_with (first | (go_at_call 15; refine HS.out.mono ?_; rintro e w' ⟨rfl, rfl⟩) | (go_at_call 17; refine HL.out.mono ?_; rintro e w' ⟨rfl, rfl⟩) | (go_at_call 19; refine HRt.out.mono ?_; rintro e w' ⟨rfl, rfl⟩) | (go_at_call 16; refine HS2.out.mono ?_; rintro e w' ⟨rfl, rfl⟩) | (go_at_call 18; refine HL2.out.mono ?_; rintro e w' ⟨rfl, rfl⟩) | (go_at_call 20; refine HR2.out.mono ?_; rintro e w' ⟨rfl, rfl⟩))
    go_ret
    exact ⟨rfl, HK.out⟩
  · clear hnil
    rcases hm2 with ⟨hm1, rfl⟩ | ⟨hm1, rfl⟩
    all_goals
      go_enter Try.func4, Try.ntmps4
      go_wp2_with fail
      go_at_call 9
      refine (shown_any _).mono ?_
      rintro e w1 ⟨rfl, hk1⟩
      have HS := Lib.hid (snap_any w1 _ _ c l2 (HR.out w1 hk1) p hp1)
      have HL := Lib.hid (left_any w1 _ _ c l2 (HR.out w1 hk1) p hp1 hp2)
      have HRt := Lib.hid (right_any2 w1 _ _ c l2 (HR.out w1 hk1) p hp1)
      have HS2 := Lib.hid (rsnap_any w1 _ _ c l2 (HR.out w1 hk1) p)
      have HL2 := Lib.hid (rleft_any w1 _ _ c l2 (HR.out w1 hk1) p)
      have HR2 := Lib.hid (rright_any w1 _ _ c l2 (HR.out w1 hk1) p)
      have HK := Lib.hid hk1
      clear hk1
      generalize snapV l2 p = v1 at *
      generalize snapV l2 (p - 1) = v2 at *
      generalize rightV l2 p = v3 at *
      go_wp2_with (first | (go_at_call 15; refine HS.out.mono ?_; rintro e w' ⟨rfl, rfl⟩) | (go_at_call 17; refine HL.out.mono ?_; rintro e w' ⟨rfl, rfl⟩) | (go_at_call 19; refine HRt.out.mono ?_; rintro e w' ⟨rfl, rfl⟩) | (go_at_call 16; refine HS2.out.mono ?_; rintro e w' ⟨rfl, rfl⟩) | (go_at_call 18; refine HL2.out.mono ?_; rintro e w' ⟨rfl, rfl⟩) | (go_at_call 20; refine HR2.out.mono ?_; rintro e w' ⟨rfl, rfl⟩))
      go_ret
      exact ⟨rfl, HK.out⟩

theorem cells_bool : Try.prog.cellsOf 4 = 1 := by kernel_rfl

set_option maxRecDepth 100000 in
theorem bounds_contract (H : Type) (enc : TypeId × Value → H) (W : World) (base : Nat) (args : Array Value) (ds gs : List (DataW H)) (before : List MemPlace)
    (hval : ∀ (j : Nat) t v, Try.f4.params[j]? = some t → args[j]? = some v → Value.okWide Try.prog W .any base t v)
    (hW : DataW.Whole enc Try.prog Try.f4.params.toList Rows.cursorBoundsSpec.vars false W args.toList ds gs before) :
    Calls Try.prog 4 args W fun e W' => ∃ v, e = .returned v ∧ Rows.cursorBoundsSpec.post enc Try.prog Try.f4 false true false false W args v W' := by
  have hW' := hW
  obtain ⟨p, q, hA0, hV, rfl, hfz, hnd⟩ := hW
  have hA : DataW.TrodAll enc Try.prog W 0 (fun _ => true) true Try.f4.params.toList args.toList ds p := hA0
  rw [Try.params4] at hA hval
  obtain ⟨v0, vs0, d0, ds0, p0, q0, hargs, rfl, rfl, h0, r0⟩ := trodAll_cons hA
  obtain ⟨v1, vs1, d1, ds1, p1, q1, rfl, rfl, rfl, h1, r1⟩ := trodAll_cons r0
  obtain ⟨rfl, rfl, rfl⟩ := trodAll_nil r1
  obtain rfl : args = #[v0, v1] := by cases args; simp_all
  obtain ⟨rfl, rfl⟩ := trodVars_none hV
  obtain ⟨i, rfl, rfl, rfl, wi⟩ := open_int Try.underlying3 (hval 1 3 v1 rfl rfl) h1
  obtain ⟨a0, len, cap, rfl⟩ := okWide_slice Try.underlying40 (hval 0 40 v0 rfl rfl)
  obtain ⟨fuel, hf⟩ := h0
  have hi : -9223372036854775808 ≤ i ∧ i ≤ 9223372036854775807 := by simpa [Lit.wf, IntKind.min, IntKind.max, IntKind.signed, IntKind.bits] using wi
  have hRB : ∃ l, RB W a0 len cap l := by
    rcases Deep.open_bools Try.underlying40 Try.underlying4 cells_bool hf with ⟨hcs, _⟩ | ⟨a, len', cap', B, hcs, _, hl, hm, _, hcell⟩
    · simp [Value.cells] at hcs
      obtain ⟨rfl, rfl, rfl⟩ := hcs
      exact ⟨[], rfl, Nat.le_refl _, by omega, fun j b hj => by simp at hj, fun _ => rfl⟩
    · simp [Value.cells] at hcs
      obtain ⟨rfl, rfl, rfl⟩ := hcs
      refine ⟨(List.range len).map B, by simp, hl, ?_, fun j b hj => ⟨a, rfl, ?_⟩, fun e => by cases e⟩
      · have : maxLen ≤ 9223372036854775807 := by decide +kernel
        omega
      · rw [List.getElem?_map, Option.map_eq_some_iff] at hj
        obtain ⟨k, hk, rfl⟩ := hj
        obtain ⟨hk1, hk2⟩ := List.getElem?_eq_some_iff.1 hk
        simp at hk1 hk2
        subst hk2
        exact hcell _ (by omega)
  obtain ⟨l, hRB⟩ := hRB
  refine (bounds_walk W a0 len cap l hRB i hi.1 hi.2).mono fun e W' ⟨he, hk⟩ => ?_
  subst he
  exact ⟨_, rfl, law_post laidOut rfl rfl rfl Try.underlying4 (by decide +kernel) hW' (hk.below (fun _ _ e => e))⟩

set_option maxRecDepth 100000 in
theorem bounds_lifted (os : Os) (started : os.Started) (H : Type) (enc : TypeId × Value → H) :
    ReturnsInHanded {} Try.checked os 4 .any (Rows.cursorBoundsSpec.pre6 enc Try.prog Try.f4 Rows.cursorBoundsRow.domain false) (Rows.cursorBoundsSpec.post enc Try.prog Try.f4 false true false false) := by
  refine returnsInHanded_of_change (C := Try.checked) ownK started (by kernel_rfl) Try.func4
    (ChangeSpec.witness6 (enc := enc) (C := Try.checked) false ⟨#[], #[.slice none 0 0, .int .i64 0], []⟩ 8 (by kernel_rfl) (by kernel_rfl) (by kernel_rfl) (by kernel_rfl)) ?_
  intro W base args ds gs before hval hW _ _
  exact bounds_contract H enc W base args ds gs before hval hW

theorem bounds_proved : Rows.CursorBoundsSaid :=
  OpenClaim.holds_of_wide 4 Try.f4 rfl rfl rfl rfl rfl rfl rfl ⟨rfl, rfl, rfl, rfl, rfl⟩ rfl rfl rfl rfl rfl (by kernel_rfl) Try.func4 (by kernel_rfl)
    (of_decide_eq_true (by kernel_rfl)) (by unfold Func.isWrapper; first | (rw [if_pos (by decide +kernel)]; kernel_rfl) | (rw [if_neg (by decide +kernel)]; exact ⟨rfl, rfl⟩))
    (fun os started H enc _ => bounds_lifted os started H enc)
end Go.Proofs.Ytoddohhhhnahnaa
