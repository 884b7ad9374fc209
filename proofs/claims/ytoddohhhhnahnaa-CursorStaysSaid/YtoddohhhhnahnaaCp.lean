/- Cursors of the program: Place. -/
import Derived.Test.YtoddohhhhnahnaaCh
namespace Go.Proofs.Ytoddohhhhnahnaa
open Go.RowKit

def placeE (es : List Rga.El) (i : Rga.Id) (ahead : Bool) : Int × Int :=
  if i = Rga.Id.zero then (if ahead then (lenE es, 0) else (0, 0))
  else if 0 ≤ posI es i then (if (aliveE es i && !ahead) = true then (aheadE es i + 1, 0) else (aheadE es i, 0)) else (0, 5)

theorem aheadE_bd (es : List Rga.El) (i : Rga.Id) : 0 ≤ aheadE es i ∧ aheadE es i ≤ es.length := by
  have h1 := cnt_le ((es.map (·.alive)).take (posI es i).toNat)
  simp only [List.length_take, List.length_map] at h1
  unfold aheadE
  omega

set_option maxHeartbeats 1600000 in
set_option maxRecDepth 100000 in
theorem place_cur (w : World) (F : Nat → Prop) (x : Nat) (es : List Rga.El) (top : Int) (h : Lies w F x es top) (i : Rga.Id) (ahead : Bool) :
    Calls Try.prog 11 #[.pointer (some ⟨x, 0, none⟩), .agg #[.int .i64 i.ctr, .int .i64 i.author, .bool ahead]] w (valKeeps w (.tuple #[.int .i64 (placeE es i ahead).1, .int .i64 (placeE es i ahead).2])) := by
  have hlb : es.length < 1099511627776 := by
    obtain ⟨_, _, _, _, _, hb⟩ := h
    exact hb
  have hk1 : Keeps NoB w (w.alloc (.cells #[.int .i64 i.ctr, .int .i64 i.author, .bool ahead] 26)) := (Keeps.refl NoB w).alloc _
  have hc1 := Cells.new w [.int .i64 i.ctr, .int .i64 i.author, .bool ahead] 26
  have h1 := h.keepN hk1
  clear h
  by_cases hz : i = Rga.Id.zero
  · subst hz
    have hp : placeE es Rga.Id.zero ahead = if ahead then ((lenE es : Int), 0) else (0, 0) := by simp [placeE]
    rw [hp]
    have HL := Lib.hid (len_any _ F x es top h1)
    generalize (lenE es : Int) = ln at *
    clear h1 hp hk1 hc1
    simp only [Rga.Id.zero] at *
    rcases ahead with _ | _
    all_goals
      simp only [if_true, Bool.false_eq_true, if_false] at *
      go_enter Try.func11, Try.ntmps11
      go_wp2_with (first | (go_at_call 21; refine HL.out.mono ?_; rintro e w2 ⟨rfl, hk2⟩; have hk2 := Lib.hid hk2))
      go_ret2
      first | exact ⟨rfl, (Keeps.refl NoB w).alloc _⟩ | exact ⟨rfl, ((Keeps.refl NoB w).alloc _).trans hk2.out⟩
  · obtain ⟨ic, ia⟩ := i
    have hd : ¬ ic = 0 ∨ (ic = 0 ∧ ¬ ia = 0) := by
      by_cases e1 : ic = 0
      · by_cases e2 : ia = 0
        · exact absurd (by rw [e1, e2]; rfl) hz
        · exact .inr ⟨e1, e2⟩
      · exact .inl e1
    have HH := Lib.hid (has_any _ F x es top h1 ⟨ic, ia⟩)
    dsimp only at HH hc1 hk1 h1 ⊢
    have HC1 := Lib.hid hc1
    have HK1 := Lib.hid hk1
    by_cases hp : 0 ≤ posI es ⟨ic, ia⟩
    · have hpl : placeE es ⟨ic, ia⟩ ahead = if (aliveE es ⟨ic, ia⟩ && !ahead) = true then (aheadE es ⟨ic, ia⟩ + 1, 0) else (aheadE es ⟨ic, ia⟩, 0) := by simp [placeE, hz, hp]
      rw [hpl]
      rw [decide_eq_true hp] at HH
      have HA : Hid (∀ w, Lies w F x es top → Calls Try.prog 26 #[.pointer (some ⟨x, 0, none⟩), .agg #[.int .i64 ic, .int .i64 ia]] w (boolKeeps w (aliveE es ⟨ic, ia⟩))) := Lib.hid (fun w h => alive_any w F x es top h ⟨ic, ia⟩)
      have HD : Hid (∀ w, Lies w F x es top → Calls Try.prog 30 #[.pointer (some ⟨x, 0, none⟩), .agg #[.int .i64 ic, .int .i64 ia]] w (intKeeps w (aheadE es ⟨ic, ia⟩))) := Lib.hid (fun w h => ahead_any w F x es top h ⟨ic, ia⟩ hp)
      have hab := aheadE_bd es ⟨ic, ia⟩
      have hab1 : 0 ≤ aheadE es ⟨ic, ia⟩ := hab.1
      have hab2 : aheadE es ⟨ic, ia⟩ ≤ 1099511627776 := by omega
      have H1 := Lib.hid h1
      generalize aliveE es ⟨ic, ia⟩ = al at *
      generalize aheadE es ⟨ic, ia⟩ = ad at *
      clear hpl h1 hk1 hc1 hz hab hp hlb
      rcases hd with hd | ⟨rfl, hd⟩
      all_goals rcases al with _ | _
      all_goals rcases ahead with _ | _
      all_goals
        simp only [Bool.and_true, Bool.and_false, Bool.not_true, Bool.not_false, if_true, Bool.false_eq_true, if_false]
        go_enter Try.func11, Try.ntmps11
        go_wp2_with fail
        go_at_call 29
        refine HH.out.mono ?_
        rintro e w2 ⟨rfl, hk2⟩
        have hc2 := HC1.out.keep hk2 (fun e => e)
        have c0 := hc2.cell 0
        have c1 := hc2.cell 1
        have c2 := hc2.cell 2
        have HA2 := Lib.hid (HA.out w2 (H1.out.keepN hk2))
        have H2 := Lib.hid (H1.out.keepN hk2)
        have HC2 := Lib.hid hc2
        have HK2 := Lib.hid (HK1.out.trans hk2)
        clear hk2 hc2
        go_wp2_with fail
        go_at_call 26
        refine HA2.out.mono ?_
        rintro e w3 ⟨rfl, hk3⟩
        have hc3 := HC2.out.keep hk3 (fun e => e)
        clear c0 c1 c2
        have c0 := hc3.cell 0
        have c1 := hc3.cell 1
        have c2 := hc3.cell 2
        have HD3 := Lib.hid (HD.out w3 (H2.out.keepN hk3))
        have HC3 := Lib.hid hc3
        have HK3 := Lib.hid (HK2.out.trans hk3)
        clear hk3 hc3
        go_wp2_with (first | (go_at_call 30; refine HD3.out.mono ?_; rintro e w4 ⟨rfl, hk4⟩; have hk4 := Lib.hid hk4))
        go_ret2
        exact ⟨rfl, HK3.out.trans hk4.out⟩
    · have hpl : placeE es ⟨ic, ia⟩ ahead = (0, 5) := by simp [placeE, hz, hp]
      rw [hpl]
      rw [decide_eq_false hp] at HH
      clear hpl hp hlb h1 hk1 hc1 hz
      rcases hd with hd | ⟨rfl, hd⟩
      all_goals rcases ahead with _ | _
      all_goals
        go_enter Try.func11, Try.ntmps11
        go_wp2_with (first | (go_at_call 29; refine HH.out.mono ?_; rintro e w2 ⟨rfl, hk2⟩; have hk2 := Lib.hid hk2))
        go_ret2
        exact ⟨rfl, HK1.out.trans hk2.out⟩
end Go.Proofs.Ytoddohhhhnahnaa
