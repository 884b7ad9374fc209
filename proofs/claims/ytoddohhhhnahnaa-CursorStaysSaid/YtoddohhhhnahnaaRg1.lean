/- The sequence: where an element is. -/
import Derived.Test.YtoddohhhhnahnaaId4
import Derived.Test.YtoddohhhhnahnaaId5
import Derived.Test.YtoddohhhhnahnaaId2
namespace Go.Proofs.Ytoddohhhhnahnaa
open Go.RowKit

def elV (es : List Rga.El) : List Value := es.flatMap fun e => [.int .i64 e.id.ctr, .int .i64 e.id.author, .int .i32 e.rune, .bool e.alive]

theorem elV_length (l : List Rga.El) : (elV l).length = l.length * 4 := by
  induction l with
  | nil => rfl
  | cons p l ih => simp [elV] at *; omega
theorem elV_get (l : List Rga.El) : ∀ (i : Nat) (e : Rga.El), l[i]? = some e → (elV l)[i * 4]? = some (.int .i64 e.id.ctr) ∧ (elV l)[i * 4 + 1]? = some (.int .i64 e.id.author) ∧ (elV l)[i * 4 + 2]? = some (.int .i32 e.rune) ∧ (elV l)[i * 4 + 3]? = some (.bool e.alive) := by
  induction l with
  | nil => intro i p h; simp at h
  | cons q l ih =>
    intro i p h
    cases i with
    | zero => simp at h; subst h; simp [elV]
    | succ i =>
      have := ih i p (by simpa using h)
      have e1 : (i + 1) * 4 = i * 4 + 4 := by omega
      rw [e1]
      simpa [elV] using this

theorem row_el {w : World} {v : Value} {l : List Rga.El} (h : Row w 83 4 v l.length (elV l)) (i : Nat) (e : Rga.El) (hp : l[i]? = some e) :
    ∃ g c, v = .slice (some ⟨g, 0, none⟩) l.length c ∧ g < w.heap.size ∧ l.length ≤ c ∧ w.cell? ⟨g, i * 4, none⟩ = some (.int .i64 e.id.ctr) ∧ w.cell? ⟨g, i * 4 + 1, none⟩ = some (.int .i64 e.id.author) ∧ w.cell? ⟨g, i * 4 + 2, none⟩ = some (.int .i32 e.rune) ∧ w.cell? ⟨g, i * 4 + 3, none⟩ = some (.bool e.alive) := by
  have hil : i < l.length := (List.getElem?_eq_some_iff.1 hp).1
  rcases h.form with ⟨_, e, _⟩ | ⟨g, c, e, hlt, h1, _, hc, _⟩
  · omega
  · obtain ⟨e1, e2, e3, e4⟩ := elV_get l i _ hp
    exact ⟨g, c, e, hlt, h1, by rw [hc _ (by omega), e1], by rw [hc _ (by omega), e2], by rw [hc _ (by omega), e3], by rw [hc _ (by omega), e4]⟩

theorem sameId_any (c a r : Int) (al : Bool) (b : Nat) (c2 a2 : Int) (w : World) (h0 : w.cell? ⟨b, 0, none⟩ = some (.int .i64 c2)) (h1 : w.cell? ⟨b, 1, none⟩ = some (.int .i64 a2)) :
    Calls Try.prog 55 #[.agg #[.int .i64 c, .int .i64 a, .int .i32 r, .bool al], .pointer (some ⟨b, 0, none⟩)] w (boolKeeps w (decide (c = c2) && decide (a = a2))) := by
  have hlt : b < w.heap.size := World.block_lt_of_cell? w ⟨b, 0, none⟩ h0
  by_cases e1 : c = c2
  · subst e1
    by_cases e2 : a = a2
    · subst e2
      go_enter Try.func55, Try.ntmps55
      go_wp2
      go_ret
      exact ⟨by simp, (Keeps.refl _ _).alloc _⟩
    · go_enter Try.func55, Try.ntmps55
      go_wp2
      go_ret
      exact ⟨by simp [e2], (Keeps.refl _ _).alloc _⟩
  · go_enter Try.func55, Try.ntmps55
    go_wp2
    go_ret
    exact ⟨by simp [e1], (Keeps.refl _ _).alloc _⟩

/-- Where the element of an identifier is; -1: nowhere. -/
def posI (es : List Rga.El) (x : Rga.Id) : Int := match es.findIdx? (fun e => decide (e.id = x)) with
  | some i => i
  | none => -1

theorem posI_some {es : List Rga.El} {x : Rga.Id} {k : Nat} {e : Rga.El} (hk : es[k]? = some e) (he : e.id = x) (hn : ∀ (i : Nat) (e' : Rga.El), i < k → es[i]? = some e' → e'.id ≠ x) : posI es x = k := by
  have : es.findIdx? (fun e => decide (e.id = x)) = some k := by
    rw [List.findIdx?_eq_some_iff_getElem]
    obtain ⟨h1, h2⟩ := List.getElem?_eq_some_iff.1 hk
    refine ⟨h1, by simp [h2, he], fun j hj => ?_⟩
    have := hn j es[j] hj (by simp)
    simpa using this
  simp [posI, this]
theorem posI_none {es : List Rga.El} {x : Rga.Id} (hn : ∀ (i : Nat) (e' : Rga.El), es[i]? = some e' → e'.id ≠ x) : posI es x = -1 := by
  have : es.findIdx? (fun e => decide (e.id = x)) = none := by
    rw [List.findIdx?_eq_none_iff]
    intro e he
    obtain ⟨i, hi⟩ := List.getElem?_of_mem he
    simpa using hn i e hi
  simp [posI, this]

set_option maxHeartbeats 1600000 in
theorem indexF_any (w : World) (v : Value) (es : List Rga.El) (h : Row w 83 4 v es.length (elV es)) (x : Rga.Id) (b : Nat) (h0 : w.cell? ⟨b, 0, none⟩ = some (.int .i64 x.ctr)) (h1 : w.cell? ⟨b, 1, none⟩ = some (.int .i64 x.author)) :
    Calls Try.prog 54 #[v, .func (.func 55) #[] #[.pointer (some ⟨b, 0, none⟩)]] w (intKeeps w (posI es x)) := by
  have hlt : b < w.heap.size := World.block_lt_of_cell? w ⟨b, 0, none⟩ h0
  have hm := h.small
  obtain ⟨A, c, rfl⟩ := h.slice
  have HR := Lib.hid h
  clear h
  go_enter Try.func54, Try.ntmps54
  go_wp2
  go_loopw [8] (fun t8 wr => ∃ k : Nat, k ≤ es.length ∧ t8 = .int .i64 k ∧ Keeps NoB w wr ∧ ∀ (i : Nat) (e' : Rga.El), i < k → es[i]? = some e' → e'.id ≠ x) (fun t8 _ => es.length - (intOf t8).toNat)
  case atStart => exact ⟨0, Nat.zero_le _, rfl, Keeps.refl _ _, fun i _ hi => absurd hi (Nat.not_lt_zero _)⟩
  case round =>
    obtain ⟨k, hkl, rfl, hkw, hno⟩ := hrel
    have PK := Lib.hid (And.intro hkw hno)
    clear hno
    by_cases hk : k < es.length
    · obtain ⟨e, he⟩ : ∃ e, es[k]? = some e := ⟨es[k], by simp [hk]⟩
      obtain ⟨g, c', e', hg, hc', p0, p1, p2, p3⟩ := row_el HR.out _ _ he
      cases e'
      have q0 : wr.cell? ⟨g, k * 4, none⟩ = some (.int .i64 e.id.ctr) := by rw [hkw.cell hg (fun e => e)]; exact p0
      have q1 : wr.cell? ⟨g, k * 4 + 1, none⟩ = some (.int .i64 e.id.author) := by rw [hkw.cell hg (fun e => e)]; exact p1
      have q2 : wr.cell? ⟨g, k * 4 + 2, none⟩ = some (.int .i32 e.rune) := by rw [hkw.cell hg (fun e => e)]; exact p2
      have q3 : wr.cell? ⟨g, k * 4 + 3, none⟩ = some (.bool e.alive) := by rw [hkw.cell hg (fun e => e)]; exact p3
      have HC := Lib.hid (sameId_any e.id.ctr e.id.author e.rune e.alive b x.ctr x.author wr (by rw [hkw.cell hlt (fun e => e)]; exact h0) (by rw [hkw.cell hlt (fun e => e)]; exact h1))
      have heq : (decide (e.id.ctr = x.ctr) && decide (e.id.author = x.author)) = decide (e.id = x) := by
        rw [Bool.eq_iff_iff]; simp only [Bool.and_eq_true, decide_eq_true_iff]
        cases hx : e.id; cases x; simp
      rw [heq] at HC
      have HE := Lib.hid he
      clear he heq p0 p1 p2 p3 hkw
      by_cases hid : e.id = x
      · rw [decide_eq_true hid] at HC
        have hv := posI_some HE.out hid PK.out.2
        rw [hv]
        clear hv
        have HX := Lib.hid hid
        clear hid
        generalize e.alive = al at *
        go_wp2_with (first | (go_at_call 55; refine HC.out.mono ?_; rintro e w' ⟨rfl, hk2⟩; have hk2 := Lib.hid hk2))
        go_ret
        exact ⟨rfl, PK.out.1.trans hk2.out⟩
      · rw [decide_eq_false hid] at HC
        have HX := Lib.hid hid
        clear hid
        generalize e.alive = al at *
        go_wp2_with (first | (go_at_call 55; refine HC.out.mono ?_; rintro e w' ⟨rfl, hk2⟩; have hk2 := Lib.hid hk2))
        go_roundw
        case rel =>
          refine ⟨k + 1, by omega, by go_num, PK.out.1.trans hk2.out, ?_⟩
          intro i e' hi he'
          by_cases hik : i < k
          · exact PK.out.2 i e' hik he'
          · obtain rfl : i = k := by omega
            rw [HE.out] at he'
            injection he' with he'
            subst he'
            exact HX.out
        case measure => simp [intOf]; omega
    · have hv := posI_none (es := es) (x := x) (fun i e' hi => PK.out.2 i e' (by have := (List.getElem?_eq_some_iff.1 hi).1; omega) hi)
      have HV := Lib.hid hv
      clear hv hkw
      go_wp2_with fail
      go_ret
      exact ⟨by rw [HV.out]; rfl, PK.out.1⟩

/-- The slots of a text. -/
def txL (ev : Value) (ix : Nat) (ov vv mv : Value) (top : Int) : List Value := [ev, .pointer (some ⟨ix, 0, none⟩), ov, vv, mv, .int .i64 top]

theorem rplace_any (w : World) (x : Nat) (ev : Value) (ix : Nat) (ov vv mv : Value) (top : Int) (es : List Rga.El) (hx : Cells w x 74 (txL ev ix ov vv mv top)) (h : Row w 83 4 ev es.length (elV es)) (i : Rga.Id) :
    Calls Try.prog 38 #[.pointer (some ⟨x, 0, none⟩), .agg #[.int .i64 i.ctr, .int .i64 i.author]] w (intKeeps w (posI es i)) := by
  have c0 : w.cell? ⟨x, 0, none⟩ = some ev := hx.cell 0
  have xlt := hx.lt
  have hra := h.alloc (.cells #[.int .i64 i.ctr, .int .i64 i.author] 24)
  have hnew := Cells.new w [.int .i64 i.ctr, .int .i64 i.author] 24
  have HF := Lib.hid (indexF_any _ ev es hra i w.heap.size (hnew.cell 0) (hnew.cell 1))
  obtain ⟨A, c, rfl⟩ := h.slice
  clear h hra hnew hx
  go_enter Try.func38, Try.ntmps38
  go_wp2_with (first | (go_at_call 54; refine HF.out.mono ?_; rintro e w' ⟨rfl, hk2⟩; have hk2 := Lib.hid hk2))
  go_ret
  exact ⟨rfl, ((Keeps.refl NoB w).alloc _).trans hk2.out⟩
end Go.Proofs.Ytoddohhhhnahnaa
