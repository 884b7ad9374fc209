/- Identifiers: a vector: where an author's entry is, its number. -/
import Derived.Test.YtoddohhhhnahnaaId1
namespace Go.Proofs.Ytoddohhhhnahnaa
open Go.RowKit

theorem placeF_any (e s t : Int) (w : World) : Calls Try.prog 67 #[.agg #[.int .i64 e, .int .i64 s], .int .i64 t] w fun r w' => r = .returned (.int .i64 (cmpI e t)) ∧ Keeps NoB w w' := by
  go_enter Try.func67, Try.ntmps67
  go_wp2_with (first | (go_at_call 68; refine (compare_any _ _ _).mono ?_; rintro e w' ⟨rfl, rfl⟩))
  go_ret
  exact ⟨rfl, (Keeps.refl _ _).alloc _⟩

/-- How many of a row of entries are less. -/
def below (l : List (Int × Int)) (a : Int) : Nat := (l.takeWhile fun p => decide (p.1 < a)).length
/-- A row of entries by rising authors. -/
def Rising (l : List (Int × Int)) : Prop := l.Pairwise fun p q => p.1 < q.1
def entV (l : List (Int × Int)) : List Value := l.flatMap fun p => [.int .i64 p.1, .int .i64 p.2]

theorem below_le (l : List (Int × Int)) (a : Int) : below l a ≤ l.length := by
  unfold below
  induction l with
  | nil => simp
  | cons p l ih => simp only [List.takeWhile_cons]; split <;> simp <;> omega

theorem below_lt {l : List (Int × Int)} (h : Rising l) {a : Int} {i : Nat} {p : Int × Int} (hp : l[i]? = some p) : i < below l a ↔ p.1 < a := by
  induction l generalizing i with
  | nil => simp at hp
  | cons q l ih =>
    unfold Rising at h
    rw [List.pairwise_cons] at h
    unfold below at *
    simp only [List.takeWhile_cons]
    cases i with
    | zero =>
      simp at hp; subst hp
      by_cases hq : q.1 < a <;> simp [hq]
    | succ i =>
      simp at hp
      by_cases hq : q.1 < a
      · simp only [hq, decide_true, if_true, List.length_cons]
        rw [Nat.add_lt_add_iff_right]
        exact ih h.2 hp
      · have := h.1 p (List.mem_of_getElem? hp)
        simp [hq]; omega

theorem entV_length (l : List (Int × Int)) : (entV l).length = l.length * 2 := by
  induction l with
  | nil => rfl
  | cons p l ih => simp [entV] at *; omega
theorem entV_get (l : List (Int × Int)) : ∀ (i : Nat) (p : Int × Int), l[i]? = some p → (entV l)[i * 2]? = some (.int .i64 p.1) ∧ (entV l)[i * 2 + 1]? = some (.int .i64 p.2) := by
  induction l with
  | nil => intro i p h; simp at h
  | cons q l ih =>
    intro i p h
    cases i with
    | zero => simp at h; subst h; simp [entV]
    | succ i =>
      have := ih i p (by simpa using h)
      have e1 : (i + 1) * 2 = i * 2 + 2 := by omega
      rw [e1]
      simpa [entV] using this

def bsPost (w : World) (p : Nat) (b : Bool) (e : Ending) (w' : World) : Prop := e = .returned (.tuple #[.int .i64 p, .bool b]) ∧ Keeps NoB w w'
def hitB (l : List (Int × Int)) (a : Int) : Bool := match l[below l a]? with
  | some p => decide (p.1 = a)
  | none => false

theorem cmpI_nonneg {x y : Int} (h : ¬ x < y) : 0 ≤ cmpI x y := by
  unfold cmpI; rw [if_neg h]; split <;> omega

theorem row_ent {w : World} {v : Value} {l : List (Int × Int)} (h : Row w 104 2 v l.length (entV l)) (i : Nat) (p : Int × Int) (hp : l[i]? = some p) :
    ∃ g c, v = .slice (some ⟨g, 0, none⟩) l.length c ∧ g < w.heap.size ∧ l.length ≤ c ∧ w.cell? ⟨g, i * 2, none⟩ = some (.int .i64 p.1) ∧ w.cell? ⟨g, i * 2 + 1, none⟩ = some (.int .i64 p.2) := by
  have hil : i < l.length := (List.getElem?_eq_some_iff.1 hp).1
  rcases h.form with ⟨_, e, _⟩ | ⟨g, c, e, hlt, h1, _, hc, _⟩
  · omega
  · obtain ⟨e1, e2⟩ := entV_get l i p hp
    exact ⟨g, c, e, hlt, h1, by rw [hc _ (by omega), e1], by rw [hc _ (by omega), e2]⟩

set_option maxHeartbeats 4000000 in
set_option maxRecDepth 1000000 in
theorem bs_any (w : World) (v : Value) (l : List (Int × Int)) (h : Row w 104 2 v l.length (entV l)) (hr : Rising l) (hbig : l.length < 4611686018427387904) (a : Int) :
    Calls Try.prog 66 #[v, .int .i64 a, .func (.func 67) #[] #[]] w (bsPost w (below l a) (hitB l a)) := by
  have hbl := below_le l a
  obtain ⟨A, c, rfl⟩ := h.slice
  have hHR := Lib.hid (And.intro h hr)
  clear h hr
  go_enter Try.func66, Try.ntmps66
  go_wp2_with fail
  go_loopw [9, 10] (fun t9 t10 wr => ∃ i k : Nat, i ≤ below l a ∧ below l a ≤ k ∧ k ≤ l.length ∧ t9 = .int .i64 i ∧ t10 = .int .i64 k ∧ Keeps NoB w wr) (fun t9 t10 _ => (intOf t10).toNat - (intOf t9).toNat)
  case atStart => exact ⟨0, l.length, Nat.zero_le _, hbl, Nat.le_refl _, rfl, rfl, Keeps.refl _ _⟩
  case round =>
    obtain ⟨i, k, h1, h2, h3, rfl, rfl, hk⟩ := hrel
    by_cases hlt : i < k
    · obtain ⟨p, hp⟩ : ∃ p, l[(i + k) / 2]? = some p := ⟨l[(i + k) / 2]'(by omega), by simp [List.getElem?_eq_getElem (show (i + k) / 2 < l.length by omega)]⟩
      obtain ⟨g, c', e, hg, hc', p1, p2⟩ := row_ent hHR.out.1 _ _ hp
      cases e
      have hb := below_lt hHR.out.2 (a := a) hp
      have q1 : wr.cell? ⟨g, (i + k) / 2 * 2, none⟩ = some (.int .i64 p.1) := by rw [hk.cell hg (fun e => e)]; exact p1
      have q2 : wr.cell? ⟨g, (i + k) / 2 * 2 + 1, none⟩ = some (.int .i64 p.2) := by rw [hk.cell hg (fun e => e)]; exact p2
      have PK := Lib.hid (And.intro hk (And.intro hb (And.intro h1 h2)))
      clear hk hb h1 h2 p1 p2 hp
      by_cases hcmp : p.1 < a
      · have hv : cmpI p.1 a = -1 := by simp [cmpI, hcmp]
        have HC := Lib.hid (placeF_any p.1 p.2 a)
        rw [hv] at HC
        clear hv
        go_wp2_with (first | (go_at_call 67; refine (HC.out _).mono ?_; rintro e w' ⟨rfl, hk2⟩; have hk2 := Lib.hid hk2))
        go_roundw
        obtain ⟨hk, hb, h1, h2⟩ := PK.out
        have hlt2 := hb.2 hcmp
        case rel =>
          exact ⟨(i + k) / 2 + 1, k, by omega, h2, h3, by rw [show ((i : Int) + (k : Int)) / 2 + 1 = (((i + k) / 2 + 1 : Nat) : Int) by omega], rfl, hk.trans hk2.out⟩
        case measure => simp [intOf]; omega
      · obtain ⟨r, hr0, hrv⟩ : ∃ r, 0 ≤ r ∧ cmpI p.1 a = r := ⟨cmpI p.1 a, cmpI_nonneg hcmp, rfl⟩
        have HC := Lib.hid (placeF_any p.1 p.2 a)
        rw [hrv] at HC
        clear hrv
        have hr1 : ¬ r < 0 := by omega
        go_wp2_with (first | (go_at_call 67; refine (HC.out _).mono ?_; rintro e w' ⟨rfl, hk2⟩; have hk2 := Lib.hid hk2))
        go_roundw
        obtain ⟨hk, hb, h1, h2⟩ := PK.out
        have hlt2 : ¬ ((i + k) / 2 < below l a) := fun h => by have := hb.1 h; omega
        case rel =>
          exact ⟨i, (i + k) / 2, h1, by omega, by omega, rfl, by rw [show ((i : Int) + (k : Int)) / 2 = (((i + k) / 2 : Nat) : Int) by omega], hk.trans hk2.out⟩
        case measure => simp [intOf]; omega
    · obtain rfl : i = below l a := by omega
      obtain rfl : k = below l a := by omega
      have PK := Lib.hid hk
      by_cases hil : below l a < l.length
      · obtain ⟨p, hp⟩ : ∃ p, l[below l a]? = some p := ⟨l[below l a], by simp [hil]⟩
        obtain ⟨g, c', e, hg, hc', p1, p2⟩ := row_ent hHR.out.1 _ _ hp
        cases e
        have q1 : wr.cell? ⟨g, below l a * 2, none⟩ = some (.int .i64 p.1) := by rw [hk.cell hg (fun e => e)]; exact p1
        have q2 : wr.cell? ⟨g, below l a * 2 + 1, none⟩ = some (.int .i64 p.2) := by rw [hk.cell hg (fun e => e)]; exact p2
        have hh : hitB l a = decide (cmpI p.1 a = 0) := by
          unfold hitB; rw [hp]
          rw [Bool.eq_iff_iff]
          simp only [decide_eq_true_iff]
          unfold cmpI
          constructor
          · rintro rfl; simp
          · intro h; split at h; omega; split at h; omega; omega
        have HC := Lib.hid (placeF_any p.1 p.2 a)
        have HH := Lib.hid hh
        clear hh p1 p2 hp hk h1 h2 h3 hlt
        generalize cmpI p.1 a = r at *
        generalize hbq : below l a = q at *
        generalize hitB l a = hb at *
        clear hHR hbq
        go_wp2_with (first | (go_at_call 67; refine (HC.out _).mono ?_; rintro e w' ⟨rfl, hk2⟩; have hk2 := Lib.hid hk2))
        go_ret2
        exact ⟨by rw [HH.out]; first | rfl | (simp; done), PK.out.trans hk2.out⟩
      · have hh : hitB l a = false := by unfold hitB; rw [List.getElem?_eq_none (by omega)]
        have HH := Lib.hid hh
        clear hh hk h1 h2 h3 hlt
        generalize hbq : below l a = q at *
        generalize hitB l a = hb at *
        clear hHR hbq
        go_wp2_with fail
        go_ret2
        exact ⟨by rw [HH.out]; rfl, PK.out⟩
end Go.Proofs.Ytoddohhhhnahnaa
