/- Identifiers: which operation is right. -/
import Derived.Test.YtoddohhhhnahnaaId1
namespace Go.Proofs.Ytoddohhhhnahnaa
open Go.RowKit

def opL (o : Rga.Opn) : List Value := [.int .i64 o.id.ctr, .int .i64 o.id.author, .int .i64 o.seq, .bool o.ins, .int .i64 o.ref.ctr, .int .i64 o.ref.author, .int .i32 o.rune]

def boolKeeps (w : World) (b : Bool) (e : Ending) (w' : World) : Prop := e = .returned (.bool b) ∧ Keeps NoB w w'

theorem op_cells {w : World} {b : Nat} {t : TypeId} {o : Rga.Opn} (h : Cells w b t (opL o)) :
    w.cell? ⟨b, 0, none⟩ = some (.int .i64 o.id.ctr) ∧ w.cell? ⟨b, 1, none⟩ = some (.int .i64 o.id.author) ∧ w.cell? ⟨b, 2, none⟩ = some (.int .i64 o.seq) ∧ w.cell? ⟨b, 3, none⟩ = some (.bool o.ins) ∧
      w.cell? ⟨b, 4, none⟩ = some (.int .i64 o.ref.ctr) ∧ w.cell? ⟨b, 5, none⟩ = some (.int .i64 o.ref.author) ∧ w.cell? ⟨b, 6, none⟩ = some (.int .i32 o.rune) :=
  ⟨h.cell 0, h.cell 1, h.cell 2, h.cell 3, h.cell 4, h.cell 5, h.cell 6⟩

set_option maxHeartbeats 3200000 in
theorem right_any (o : Rga.Opn) (w : World) : Calls Try.prog 36 #[.agg #[.int .i64 o.id.ctr, .int .i64 o.id.author, .int .i64 o.seq, .bool o.ins, .int .i64 o.ref.ctr, .int .i64 o.ref.author, .int .i32 o.rune]] w (boolKeeps w (Rga.right o)) := by
  have H1 : Hid (∀ w, Calls Try.prog 51 #[.agg #[.int .i64 o.id.ctr, .int .i64 o.id.author]] w fun e w' => e = .returned (.bool (Rga.idOk o.id)) ∧ Keeps NoB w w') := Lib.hid (fun w => id_any o.id.ctr o.id.author w)
  have H3 : Hid (∀ w, Calls Try.prog 51 #[.agg #[.int .i64 o.ref.ctr, .int .i64 o.ref.author]] w fun e w' => e = .returned (.bool (Rga.idOk o.ref)) ∧ Keeps NoB w w') := Lib.hid (fun w => id_any o.ref.ctr o.ref.author w)
  have H2 := Lib.hid (in_any o.seq 1 4294967295)
  have hR : Rga.right o = (Rga.idOk o.id && (decide ((1 : Int) ≤ o.seq) && decide (o.seq ≤ 4294967295)) && decide (o.ref.ctr < o.id.ctr) && (if o.ins then (Rga.idOk o.ref || decide (o.ref = Rga.Id.zero)) && Rga.charOk o.rune else Rga.idOk o.ref && decide (o.rune = 0))) := by
    simp only [Rga.right, Bool.decide_and]
  have hz : (o.ref = Rga.Id.zero) ↔ (o.ref.ctr = 0 ∧ o.ref.author = 0) := by
    constructor
    · intro h; rw [h]; exact ⟨rfl, rfl⟩
    · intro h; cases hr : o.ref; rw [hr] at h; simp [Rga.Id.zero] at *; exact h
  simp only [hz] at hR
  rw [hR]
  clear hR hz
  have hA0 := Cells.new w (opL o) 49
  generalize (decide ((1 : Int) ≤ o.seq) && decide (o.seq ≤ 4294967295)) = b2 at *
  generalize Rga.idOk o.id = b1 at *
  generalize Rga.idOk o.ref = b3 at *
  have hch : Rga.charOk o.rune = decide (0 ≤ o.rune ∧ o.rune ≤ 1114111 ∧ (o.rune < 55296 ∨ 57344 ≤ o.rune)) := rfl
  rw [hch]
  clear hch
  obtain ⟨⟨ic, ia⟩, sq, ins, ⟨rc, ra⟩, rn⟩ := o
  cases ins
  · have HA := Lib.hid hA0
    clear hA0
    go_enter Try.func36, Try.ntmps36
    go_wp2_with fail
    refine (H1.out _).mono ?_
    rintro e w1 ⟨rfl, hk1⟩
    have hc1 := Cells.keep (F := NoB) (w' := w1) HA.out hk1 (fun e => e)
    have hkw : Keeps NoB w w1 := ((Keeps.refl NoB w).alloc _).trans hk1
    clear hk1
    obtain ⟨c0, c1, c2, c3, c4, c5, c6⟩ := op_cells hc1
    have HC1 := Lib.hid (And.intro hc1 hkw)
    clear hc1 hkw
    simp only at c0 c1 c2 c3 c4 c5 c6
    cases b1
    · go_wp2_with fail
      go_ret
      exact ⟨by simp, HC1.out.2⟩
    · go_wp2_with fail
      go_at_call 52
      refine (H2.out _).mono ?_
      rintro e w' ⟨rfl, rfl⟩
      cases b2
      · go_wp2_with fail
        go_ret
        exact ⟨by simp, HC1.out.2⟩
      · by_cases h3 : ic ≤ rc
        · go_wp2_with fail
          go_ret
          exact ⟨by simp; omega, HC1.out.2⟩
        · go_wp2_with fail
          go_at_call 51
          refine (H3.out _).mono ?_
          rintro e w2 ⟨rfl, hk2⟩
          have hc2 := HC1.out.1.keep hk2 (fun e => e)
          have hkw : Keeps NoB w w2 := HC1.out.2.trans hk2
          clear hk2
          obtain ⟨d0, d1, d2, d3, d4, d5, d6⟩ := op_cells hc2
          have HC2 := Lib.hid hkw
          clear hc2 hkw c0 c1 c2 c3 c4 c5 c6
          simp only at d0 d1 d2 d3 d4 d5 d6
          cases b3
          · go_wp2_with fail
            all_goals go_ret
            all_goals exact ⟨by simp, HC2.out⟩
          · by_cases hr : rn = 0
            · subst hr
              go_wp2_with fail
              all_goals go_ret
              all_goals exact ⟨by simp; try omega, HC2.out⟩
            · go_wp2_with fail
              all_goals go_ret
              all_goals exact ⟨by simp [hr]; try omega, HC2.out⟩
  · have HA := Lib.hid hA0
    clear hA0
    go_enter Try.func36, Try.ntmps36
    go_wp2_with fail
    refine (H1.out _).mono ?_
    rintro e w1 ⟨rfl, hk1⟩
    have hc1 := Cells.keep (F := NoB) (w' := w1) HA.out hk1 (fun e => e)
    have hkw : Keeps NoB w w1 := ((Keeps.refl NoB w).alloc _).trans hk1
    clear hk1
    obtain ⟨c0, c1, c2, c3, c4, c5, c6⟩ := op_cells hc1
    have HC1 := Lib.hid (And.intro hc1 hkw)
    clear hc1 hkw
    simp only at c0 c1 c2 c3 c4 c5 c6
    cases b1
    · go_wp2_with fail
      go_ret
      exact ⟨by simp, HC1.out.2⟩
    · go_wp2_with fail
      go_at_call 52
      refine (H2.out _).mono ?_
      rintro e w' ⟨rfl, rfl⟩
      cases b2
      · go_wp2_with fail
        go_ret
        exact ⟨by simp, HC1.out.2⟩
      · by_cases h3 : ic ≤ rc
        · go_wp2_with fail
          go_ret
          exact ⟨by simp; omega, HC1.out.2⟩
        · go_wp2_with fail
          go_at_call 51
          refine (H3.out _).mono ?_
          rintro e w2 ⟨rfl, hk2⟩
          have hc2 := HC1.out.1.keep hk2 (fun e => e)
          have hkw : Keeps NoB w w2 := HC1.out.2.trans hk2
          clear hk2
          obtain ⟨d0, d1, d2, d3, d4, d5, d6⟩ := op_cells hc2
          have HC2 := Lib.hid hkw
          clear hc2 hkw c0 c1 c2 c3 c4 c5 c6
          simp only at d0 d1 d2 d3 d4 d5 d6
          cases b3
          · by_cases hz1 : rc = 0
            · subst hz1
              by_cases hz2 : ra = 0
              · subst hz2
                have hk : rn < 0 ∨ 1114111 < rn ∨ (0 ≤ rn ∧ rn < 55296) ∨ (55296 ≤ rn ∧ rn < 57344) ∨ (57344 ≤ rn ∧ rn ≤ 1114111) := by omega
                rcases hk with k1 | k1 | ⟨k1, k2⟩ | ⟨k1, k2⟩ | ⟨k1, k2⟩
                all_goals
                  go_wp2_with fail
                  all_goals go_ret
                  all_goals exact ⟨by simp; try omega, HC2.out⟩
              · go_wp2_with fail
                all_goals go_ret
                all_goals exact ⟨by simp, HC2.out⟩
            · go_wp2_with fail
              all_goals go_ret
              all_goals exact ⟨by simp, HC2.out⟩
          · skip
            have hk : rn < 0 ∨ 1114111 < rn ∨ (0 ≤ rn ∧ rn < 55296) ∨ (55296 ≤ rn ∧ rn < 57344) ∨ (57344 ≤ rn ∧ rn ≤ 1114111) := by omega
            rcases hk with k1 | k1 | ⟨k1, k2⟩ | ⟨k1, k2⟩ | ⟨k1, k2⟩
            all_goals
              go_wp2_with fail
              all_goals go_ret
              all_goals exact ⟨by simp; try omega, HC2.out⟩
end Go.Proofs.Ytoddohhhhnahnaa
