/- The document's text: known, Has. -/
import Derived.Test.YtoddohhhhnahnaaRg3
namespace Go.Proofs.Ytoddohhhhnahnaa
open Go.RowKit

theorem opsV_get : ∀ (l : List Rga.Opn) (i : Nat) (o : Rga.Opn), l[i]? = some o → ∀ j, j < 7 → (opsV l)[i * 7 + j]? = (opL o)[j]?
  | [], i, o, h, _, _ => by simp at h
  | x :: l, 0, o, h, j, hj => by
    simp at h; subst h
    have e : opsV (x :: l) = opL x ++ opsV l := by simp [opsV]
    rw [e, List.getElem?_append_left (by simp [opL]; omega)]
    simp
  | x :: l, i + 1, o, h, j, hj => by
    have := opsV_get l i o (by simpa using h) j hj
    have e : opsV (x :: l) = opL x ++ opsV l := by simp [opsV]
    have e7 : (opL x).length = 7 := rfl
    rw [e, List.getElem?_append_right (by omega), e7]
    have e2 : (i + 1) * 7 + j - 7 = i * 7 + j := by omega
    rw [e2]; exact this

theorem row_op {w : World} {v : Value} {l : List Rga.Opn} (h : Row w 49 7 v l.length (opsV l)) (i : Nat) (o : Rga.Opn) (hp : l[i]? = some o) :
    ∃ g c, v = .slice (some ⟨g, 0, none⟩) l.length c ∧ g < w.heap.size ∧ l.length ≤ c ∧ w.cell? ⟨g, i * 7, none⟩ = some (.int .i64 o.id.ctr) ∧ w.cell? ⟨g, i * 7 + 1, none⟩ = some (.int .i64 o.id.author) ∧ w.cell? ⟨g, i * 7 + 2, none⟩ = some (.int .i64 o.seq) ∧ w.cell? ⟨g, i * 7 + 3, none⟩ = some (.bool o.ins) ∧
      w.cell? ⟨g, i * 7 + 4, none⟩ = some (.int .i64 o.ref.ctr) ∧ w.cell? ⟨g, i * 7 + 5, none⟩ = some (.int .i64 o.ref.author) ∧ w.cell? ⟨g, i * 7 + 6, none⟩ = some (.int .i32 o.rune) := by
  have hil : i < l.length := (List.getElem?_eq_some_iff.1 hp).1
  rcases h.form with ⟨_, e, _⟩ | ⟨g, c, e, hlt, h1, _, hc, _⟩
  · omega
  · have hg := opsV_get l i o hp
    refine ⟨g, c, e, hlt, h1, ?_, ?_, ?_, ?_, ?_, ?_, ?_⟩
    · rw [hc _ (by omega)]; exact hg 0 (by omega)
    · rw [hc _ (by omega)]; exact hg 1 (by omega)
    · rw [hc _ (by omega)]; exact hg 2 (by omega)
    · rw [hc _ (by omega)]; exact hg 3 (by omega)
    · rw [hc _ (by omega)]; exact hg 4 (by omega)
    · rw [hc _ (by omega)]; exact hg 5 (by omega)
    · rw [hc _ (by omega)]; exact hg 6 (by omega)

theorem take_snoc {α : Type} {l : List α} {k : Nat} {o : α} (h : l[k]? = some o) : l.take (k + 1) = l.take k ++ [o] := by
  rw [List.take_add_one, h]; rfl

set_option maxHeartbeats 1600000 in
set_option maxRecDepth 100000 in
theorem rknown_any (w : World) (x : Nat) (lv : Value) (ops : List Rga.Opn) (hx : Cells w x 59 [lv]) (hr : Row w 49 7 lv ops.length (opsV ops)) (a : Int) :
    Calls Try.prog 46 #[.pointer (some ⟨x, 0, none⟩), .int .i64 a] w (fun e w' => e = .returned (.tuple #[.int .i64 (Rga.known ops a).1, .int .i64 (Rga.known ops a).2]) ∧ w = w') := by
  have hn := hr.small
  obtain ⟨A, c, rfl⟩ := hr.slice
  have c0 : w.cell? ⟨x, 0, none⟩ = some (.slice A ops.length c) := hx.cell 0
  have HR := Lib.hid hr
  clear hr hx
  go_enter Try.func46, Try.ntmps46
  go_wp2
  go_loopw [6, 7, 8] (fun t6 t7 t8 wr => ∃ k : Nat, k ≤ ops.length ∧ t8 = .int .i64 k ∧ wr = w ∧ ∃ s q : Int, t6 = .int .i64 s ∧ t7 = .int .i64 q ∧ Rga.known (ops.take k) a = (s, q)) (fun _ _ t8 _ => ops.length - (intOf t8).toNat)
  case atStart => exact ⟨0, Nat.zero_le _, rfl, rfl, 0, 0, rfl, rfl, rfl⟩
  case round =>
    obtain ⟨k, hk, rfl, rfl, s, q, rfl, rfl, hkn⟩ := hrel
    by_cases hkl : k < ops.length
    · obtain ⟨o, ho⟩ : ∃ o, ops[k]? = some o := ⟨_, List.getElem?_eq_getElem hkl⟩
      obtain ⟨g, c', e, hg, hc', p0, p1, p2, _⟩ := row_op HR.out k o ho
      cases e
      have hstep : Rga.known (ops.take (k + 1)) a = if o.id.author = a ∧ s < o.seq then (o.seq, o.id.ctr) else (s, q) := by
        rw [take_snoc ho, Rga.known_snoc, hkn]
      have HS := Lib.hid hstep
      clear hstep hkn ho
      by_cases ha : o.id.author = a
      · by_cases hs : s < o.seq
        · go_wp2
          go_roundw
          case rel => exact ⟨k + 1, by omega, by go_num, by first | rfl | trivial, o.seq, o.id.ctr, rfl, rfl, by rw [HS.out, if_pos ⟨ha, hs⟩]⟩
          case measure => simp [intOf]; omega
        · go_wp2
          go_roundw
          case rel => exact ⟨k + 1, by omega, by go_num, by first | rfl | trivial, s, q, rfl, rfl, by rw [HS.out, if_neg (fun e => hs e.2)]⟩
          case measure => simp [intOf]; omega
      · go_wp2
        go_roundw
        case rel => exact ⟨k + 1, by omega, by go_num, by first | rfl | trivial, s, q, rfl, rfl, by rw [HS.out, if_neg (fun e => ha e.1)]⟩
        case measure => simp [intOf]; omega
    · have hkk : ops.take k = ops := List.take_of_length_le (by omega)
      rw [hkk] at hkn
      have HK := Lib.hid hkn
      clear hkn
      go_wp2
      go_ret2
      exact ⟨by rw [HK.out]; rfl, rfl⟩

end Go.Proofs.Ytoddohhhhnahnaa
