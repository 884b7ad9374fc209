/- The document's answer on identifiers: right, Size, Right. -/
import Derived.Test.YtoddohhhhnahnaaId5
namespace Go.Proofs.Ytoddohhhhnahnaa
open Go.RowKit

theorem rid_any (c a : Int) (w : World) : Calls Try.prog 62 #[.agg #[.int .i64 c, .int .i64 a]] w (boolKeeps w (Rga.idOk ⟨c, a⟩)) := by
  have hk : Keeps NoB w (w.alloc (.cells #[.int .i64 c, .int .i64 a] 24)) := (Keeps.refl NoB w).alloc _
  have HK := Lib.hid hk
  clear hk
  have HR : Hid (Rga.idOk ⟨c, a⟩ = decide (1 ≤ c ∧ c ≤ 4294967295 ∧ 0 ≤ a ∧ a < 4194304)) := Lib.hid rfl
  generalize Rga.idOk ⟨c, a⟩ = R at *
  by_cases h1 : 1 ≤ c
  · by_cases h2 : c ≤ 4294967295
    · by_cases h3 : 0 ≤ a
      · by_cases h4 : a < 4194304
        · go_enter Try.func62, Try.ntmps62
          go_wp2
          go_ret
          exact ⟨by rw [HR.out, decide_eq_true ⟨h1, h2, h3, h4⟩]; rfl, HK.out⟩
        · go_enter Try.func62, Try.ntmps62
          go_wp2
          go_ret
          exact ⟨by rw [HR.out, decide_eq_false (fun e => by omega)]; rfl, HK.out⟩
      · go_enter Try.func62, Try.ntmps62
        go_wp2
        go_ret
        exact ⟨by rw [HR.out, decide_eq_false (fun e => by omega)]; rfl, HK.out⟩
    · go_enter Try.func62, Try.ntmps62
      go_wp2
      go_ret
      exact ⟨by rw [HR.out, decide_eq_false (fun e => by omega)]; rfl, HK.out⟩
  · go_enter Try.func62, Try.ntmps62
    go_wp2
    go_ret
    exact ⟨by rw [HR.out, decide_eq_false (fun e => by omega)]; rfl, HK.out⟩

def sizePost (w : World) (b : Bool) (e : Ending) (w' : World) : Prop := ∃ n : Int, e = .returned (.int .i64 n) ∧ (b = true → 0 < n) ∧ (b = false → n = 0) ∧ w = w'

theorem size_any (r : Int) (w : World) : Calls Try.prog 63 #[.int .i32 r] w (sizePost w (Rga.charOk r)) := by
  have HR : Hid (Rga.charOk r = decide (0 ≤ r ∧ r ≤ 1114111 ∧ (r < 55296 ∨ 57344 ≤ r))) := Lib.hid rfl
  generalize Rga.charOk r = R at *
  have hk : r < 0 ∨ 1114111 < r ∨ (55296 ≤ r ∧ r ≤ 57343) ∨ (0 ≤ r ∧ r ≤ 127) ∨ (127 < r ∧ r ≤ 2047) ∨ (2047 < r ∧ r < 55296) ∨ (57343 < r ∧ r ≤ 65535) ∨ (65535 < r ∧ r ≤ 1114111) := by omega
  rcases hk with k | k | ⟨k, k'⟩ | ⟨k, k'⟩ | ⟨k, k'⟩ | ⟨k, k'⟩ | ⟨k, k'⟩ | ⟨k, k'⟩
  all_goals
    go_enter Try.func63, Try.ntmps63
    go_wp2
    go_ret
    refine ⟨_, rfl, fun h => ?_, fun h => ?_, rfl⟩
    all_goals
      have h1 := HR.out.symm.trans h
      first
        | rfl
        | decide
        | (have h2 := of_decide_eq_true h1; omega)
        | (have h2 := of_decide_eq_false h1; omega)

set_option maxHeartbeats 6400000 in
set_option maxRecDepth 100000 in
theorem rright12_any (o : Rga.Opn) (w : World) : Calls Try.prog 45 #[.agg #[.int .i64 o.id.ctr, .int .i64 o.id.author, .int .i64 o.seq, .bool o.ins, .int .i64 o.ref.ctr, .int .i64 o.ref.author, .int .i32 o.rune]] w (boolKeeps w (Rga.right o)) := by
  have H1 : Hid (∀ w, Calls Try.prog 62 #[.agg #[.int .i64 o.id.ctr, .int .i64 o.id.author]] w (boolKeeps w (Rga.idOk o.id))) := Lib.hid (fun w => rid_any o.id.ctr o.id.author w)
  have H3 : Hid (∀ w, Calls Try.prog 62 #[.agg #[.int .i64 o.ref.ctr, .int .i64 o.ref.author]] w (boolKeeps w (Rga.idOk o.ref))) := Lib.hid (fun w => rid_any o.ref.ctr o.ref.author w)
  have H4 : Hid (∀ w, Calls Try.prog 63 #[.int .i32 o.rune] w (sizePost w (Rga.charOk o.rune))) := Lib.hid (fun w => size_any o.rune w)
  have hz : (o.ref = Rga.Id.zero) ↔ (o.ref.ctr = 0 ∧ o.ref.author = 0) := by
    constructor
    · intro h; rw [h]; exact ⟨rfl, rfl⟩
    · intro h; cases hr : o.ref; rw [hr] at h; simp [Rga.Id.zero] at *; exact h
  have hR : Rga.right o = (Rga.idOk o.id && (decide ((1 : Int) ≤ o.seq) && decide (o.seq ≤ 4294967295)) && decide (o.ref.ctr < o.id.ctr) && (if o.ins then (Rga.idOk o.ref || decide (o.ref.ctr = 0 ∧ o.ref.author = 0)) && Rga.charOk o.rune else Rga.idOk o.ref && decide (o.rune = 0))) := by
    simp only [Rga.right, Bool.decide_and, hz]
  have HR := Lib.hid hR
  generalize Rga.right o = R at *
  generalize Rga.idOk o.id = b1 at *
  generalize Rga.idOk o.ref = b3 at *
  generalize Rga.charOk o.rune = ch at *
  clear hR hz
  obtain ⟨⟨ic, ia⟩, sq, ins, ⟨rc, ra⟩, rn⟩ := o
  have hA := Cells.new w [.int .i64 ic, .int .i64 ia, .int .i64 sq, .bool ins, .int .i64 rc, .int .i64 ra, .int .i32 rn] 49
  have HA := Lib.hid hA
  clear hA
  have hcase : (ins = false ∧ rn = 0) ∨ (ins = false ∧ ¬ rn = 0) ∨ ins = true := by
    cases ins
    · by_cases h : rn = 0
      · exact .inl ⟨rfl, h⟩
      · exact .inr (.inl ⟨rfl, h⟩)
    · exact .inr (.inr rfl)
  have hzz : ¬ rc = 0 ∨ (rc = 0 ∧ ¬ ra = 0) ∨ (rc = 0 ∧ ra = 0) := by omega
  dsimp only at *
  have hs : ¬ 1 ≤ sq ∨ (1 ≤ sq ∧ ¬ sq ≤ 4294967295) ∨ (1 ≤ sq ∧ sq ≤ 4294967295 ∧ ¬ rc < ic) ∨ (1 ≤ sq ∧ sq ≤ 4294967295 ∧ rc < ic) := by omega
  have HS := Lib.hid hs
  clear hs
  rcases hcase with ⟨rfl, rfl⟩ | ⟨rfl, hn⟩ | rfl
  all_goals rcases hzz with hz | ⟨rfl, hz⟩ | ⟨rfl, rfl⟩
  all_goals cases b3
  all_goals
    go_enter Try.func45, Try.ntmps45
    go_wp2_with fail
    refine (H3.out _).mono ?_
    rintro e w1 ⟨rfl, hk1⟩
    have hc1 := Cells.keep (F := NoB) (w' := w1) HA.out hk1 (fun e => e)
    have hkw : Keeps NoB w w1 := ((Keeps.refl NoB w).alloc _).trans hk1
    clear hk1
    have c0 := hc1.cell 0
    have c1 := hc1.cell 1
    have c2 := hc1.cell 2
    have c3 := hc1.cell 3
    have c4 := hc1.cell 4
    have c5 := hc1.cell 5
    have c6 := hc1.cell 6
    have HC1 := Lib.hid (And.intro hc1 hkw)
    clear hc1 hkw
    simp only [List.getElem?_cons_zero, List.getElem?_cons_succ] at c0 c1 c2 c3 c4 c5 c6
    go_wp2_with fail
    try
      go_at_call 63
      refine (H4.out _).mono ?_
      rintro e w2 ⟨n, rfl, hn1, hn2, rfl⟩
      have hn : (ch = true ∧ 0 < n) ∨ (ch = false ∧ n = 0) := by
        cases ch
        · exact .inr ⟨rfl, hn2 rfl⟩
        · exact .inl ⟨rfl, hn1 rfl⟩
      clear hn1 hn2
      rcases hn with ⟨rfl, hn⟩ | ⟨rfl, rfl⟩
      all_goals go_wp2_with fail
    all_goals
      go_at_call 62
      refine (H1.out _).mono ?_
      rintro e w3 ⟨rfl, hk3⟩
      have hc3 := HC1.out.1.keep hk3 (fun e => e)
      have HK3 := Lib.hid (HC1.out.2.trans hk3)
      clear c0 c1 c2 c3 c4 c5 c6 hk3
      have c0 := hc3.cell 0
      have c1 := hc3.cell 1
      have c2 := hc3.cell 2
      have c3 := hc3.cell 3
      have c4 := hc3.cell 4
      have c5 := hc3.cell 5
      have c6 := hc3.cell 6
      clear hc3
      simp only [List.getElem?_cons_zero, List.getElem?_cons_succ] at c0 c1 c2 c3 c4 c5 c6
      have hs := HS.out
      cases b1
      · clear hs
        go_wp2_with fail
        go_ret
        exact ⟨by rw [HR.out]; simp, HK3.out⟩
      · rcases hs with s1 | ⟨s1, s2⟩ | ⟨s1, s2, s3⟩ | ⟨s1, s2, s3⟩
        all_goals
          go_wp2_with fail
          go_ret
          exact ⟨by rw [HR.out]; first | (simp; done) | (simp; omega) | (simp [hn]; done) | (simp [hn]; omega), HK3.out⟩
end Go.Proofs.Ytoddohhhhnahnaa
