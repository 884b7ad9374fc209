/- The index: a row of marks in blocks. -/
import Derived.Test.YtoddohhhhnahnaaRows
import Derived.Test.YtoddohhhhnahnaaK
import Derived.Test.YtoddohhhhnahnaaIxm
namespace Go.Proofs.Ytoddohhhhnahnaa
open Go.RowKit

/-- A block of marks: where it lies, its slice, its marks. -/
structure BlkR where
  a : Nat
  v : Value
  l : List Bool

def marks (rs : List BlkR) : List Bool := rs.flatMap (·.l)

structure IdxAt (w : World) (F : Nat → Prop) (x : Nat) (lv : Value) (rs : List BlkR) : Prop where
  head : Cells w x 79 [.int .i64 (marks rs).length, .int .i64 (cnt (marks rs)), lv]
  row : Row w 97 1 lv rs.length (rs.map fun r => .pointer (some ⟨r.a, 0, none⟩))
  blk : ∀ r ∈ rs, Cells w r.a 99 [r.v, .int .i64 (cnt r.l)] ∧ Row w 4 1 r.v r.l.length (r.l.map Value.bool)
  fx : F x
  frow : ∀ g, lv.ownBlock = some g → F g
  fblk : ∀ r ∈ rs, F r.a ∧ ∀ g, r.v.ownBlock = some g → F g
  apart : rs.Pairwise fun r s => r.a ≠ s.a ∧ (r.v.ownBlock = none ∨ r.v.ownBlock ≠ s.v.ownBlock)
  old : ∀ g, F g → g < w.heap.size
  small : (marks rs).length ≤ 1099511627776

theorem one_any (s : Bool) (w : World) : Calls Try.prog 50 #[.bool s] w fun e w' => e = .returned (.int .i64 (if s then 1 else 0)) ∧ w = w' := by
  cases s <;>
  · go_enter Try.func50, Try.ntmps50
    go_wp2
    go_ret
    exact ⟨rfl, rfl⟩

theorem marks_cons (r : BlkR) (rs : List BlkR) : marks (r :: rs) = r.l ++ marks rs := rfl
theorem marks_append (a b : List BlkR) : marks (a ++ b) = marks a ++ marks b := by simp [marks]

def findPost (w : World) (p : Nat × Int × Nat) (e : Ending) (w' : World) : Prop :=
  ∃ n, w' = w.drewN n ∧ e = .returned (.tuple #[.int .i64 p.1, .int .i64 p.2.1, .int .i64 p.2.2])

theorem drewN_drew (w : World) (n : Nat) : (w.drewN n).drew = w.drewN (n + 1) := by rw [World.drewN_drewN w n 1 |> Eq.symm]; rfl

set_option maxHeartbeats 1600000 in
theorem find_any (w : World) (F : Nat → Prop) (x : Nat) (lv : Value) (rs : List BlkR) (h : IdxAt w F x lv rs) (at_ : Int) (fin : Bool) (ha1 : -9223372036854775808 ≤ at_) (ha2 : at_ ≤ 9223372036854775807) :
    Calls Try.prog 59 #[.pointer (some ⟨x, 0, none⟩), .int .i64 at_, .bool fin] w (findPost w (findF fin (rs.map (·.l)) 0 at_ 0)) := by
  have c2 : w.cell? ⟨x, 2, none⟩ = some lv := h.head.cell 2
  have hn : rs.length ≤ 9223372036854775807 := by
    rcases h.row.form with ⟨_, e, _⟩ | ⟨g, cap, _, _, e1, e2, _⟩
    · omega
    · simp only [maxLen] at e2; omega
  have hsm : cnt (marks rs) ≤ 1099511627776 := Nat.le_trans (cnt_le _) h.small
  obtain ⟨A, c, rfl⟩ := h.row.slice
  go_enter Try.func59, Try.ntmps59
  go_wp2
  go_loopw [1, 9, 17] (fun t1 t9 t17 wr => ∃ (k : Nat) (a : Int) (s m : Nat), k ≤ rs.length ∧ t1 = .int .i64 a ∧ t9 = .int .i64 s ∧ t17 = .int .i64 k ∧ wr = w.drewN m ∧ -9223372036854775808 ≤ a ∧ a ≤ 9223372036854775807 ∧ s + cnt (marks (rs.drop k)) ≤ 1099511627776 ∧
      Hid (findF fin ((rs.drop k).map (·.l)) k a s = findF fin (rs.map (·.l)) 0 at_ 0)) (fun _ _ t17 _ => rs.length - (intOf t17).toNat)
  case atStart => exact ⟨0, at_, 0, 0, Nat.zero_le _, rfl, rfl, rfl, rfl, ha1, ha2, by simpa using hsm, Lib.hid (by simp)⟩
  case round =>
    obtain ⟨k, a, s, m, hk, rfl, rfl, rfl, rfl, hb1, hb2, hs, HF⟩ := hrel
    by_cases hlt : k < rs.length
    · obtain ⟨r, hr⟩ : ∃ r, rs[k]? = some r := ⟨rs[k], by simp [hlt]⟩
      have hrm : r ∈ rs := List.mem_of_getElem? hr
      have hdrop : rs.drop k = r :: rs.drop (k + 1) := by
        rw [List.drop_eq_getElem_cons hlt]; congr 1; exact (List.getElem?_eq_some_iff.1 hr).2
      obtain ⟨hcb, hob⟩ := h.blk r hrm
      obtain ⟨g, cap, hA, _, _, _, hcells, _⟩ := (h.row.form).resolve_left (fun e => by have := e.2.1; omega)
      injection hA with hA _ hc'
      subst hA
      subst hc'
      have hp : w.cell? ⟨g, k, none⟩ = some (.pointer (some ⟨r.a, 0, none⟩)) := by rw [hcells k (by omega)]; simp [hr]
      have b0 : w.cell? ⟨r.a, 0, none⟩ = some r.v := hcb.cell 0
      have b1 : w.cell? ⟨r.a, 1, none⟩ = some (.int .i64 (cnt r.l)) := hcb.cell 1
      obtain ⟨Ar, cr, hv⟩ := hob.slice
      rw [hv] at b0
      have hll : r.l.length ≤ 9223372036854775807 := by
        rcases hob.form with ⟨_, e, _⟩ | ⟨g, cap, _, _, e1, e2, _⟩
        · omega
        · simp only [maxLen] at e2; omega
      have hcl := cnt_le r.l
      rw [hdrop, marks_cons, cnt_append] at hs
      have HF' : findF fin (r.l :: (rs.drop (k + 1)).map (·.l)) k a s = findF fin (rs.map (·.l)) 0 at_ 0 := by rw [← HF.out, hdrop]; rfl
      clear HF hdrop hr hcb hob hcells hv
      by_cases h1 : a < r.l.length
      · rw [findF_stop _ _ _ _ _ _ (.inl h1)] at HF'
        have HF := Lib.hid HF'; clear HF'
        go_wp2
        all_goals (go_ret3; exact ⟨m, rfl, by rw [← HF.out]; rfl⟩)
      · cases fin with
        | false =>
          rw [findF_on _ _ _ _ _ _ (by simpa using h1)] at HF'
          have HF := Lib.hid HF'; clear HF'
          go_wp2
          go_quiet (fail)
          go_wp2
          go_roundw
          case rel => exact ⟨k + 1, a - r.l.length, s + cnt r.l, _, by omega, by go_num, by go_num, by go_num, rfl, by omega, by omega, by omega, HF⟩
          case measure => simp [intOf]; omega
        | true =>
          by_cases h2 : a = r.l.length
          · rw [findF_stop _ _ _ _ _ _ (.inr ⟨rfl, h2⟩)] at HF'
            have HF := Lib.hid HF'; clear HF'
            have h3 : (a == (r.l.length : Int)) = true := by simpa using h2
            clear h2
            go_wp2
            all_goals (go_ret3; exact ⟨m, rfl, by rw [← HF.out]; rfl⟩)
          · rw [findF_on _ _ _ _ _ _ (by simpa [h2] using h1)] at HF'
            have HF := Lib.hid HF'; clear HF'
            have h3 : (a == (r.l.length : Int)) = false := by simpa using h2
            have h4 : (r.l.length : Int) ≤ a := by omega
            clear h2
            go_wp2
            go_quiet (fail)
            go_wp2
            go_roundw
            case rel => exact ⟨k + 1, a - r.l.length, s + cnt r.l, _, by omega, by go_num, by go_num, by go_num, rfl, by omega, by omega, by omega, HF⟩
            case measure => simp [intOf]; omega
    · have hk' : k = rs.length := by omega
      subst hk'
      have HF' := HF.out
      simp only [List.drop_length, List.map_nil, findF] at HF'
      clear HF
      have HF := Lib.hid HF'; clear HF'
      go_wp2
      all_goals (go_ret3; exact ⟨m, rfl, by rw [← HF.out]; rfl⟩)
end Go.Proofs.Ytoddohhhhnahnaa
