/- The index: Rank, Select, Count: what they tell of a row of marks. -/
import Derived.Test.YtoddohhhhnahnaaIx
namespace Go.Proofs.Ytoddohhhhnahnaa
open Go.RowKit

theorem marks_eq (rs : List BlkR) : marks rs = (rs.map (·.l)).flatten := by simp [marks, List.flatMap_def]

theorem len_le_marks {rs : List BlkR} {r : BlkR} (h : r ∈ rs) : r.l.length ≤ (marks rs).length := by
  induction rs with
  | nil => simp at h
  | cons s rs ih =>
    rw [marks_cons, List.length_append]
    rcases List.mem_cons.1 h with rfl | h
    · omega
    · have := ih h; omega

theorem IdxAt.block {w : World} {F : Nat → Prop} {x : Nat} {lv : Value} {rs : List BlkR} (h : IdxAt w F x lv rs) {j : Nat} {r : BlkR} (hr : rs[j]? = some r) :
    ∃ g cap, lv = .slice (some ⟨g, 0, none⟩) rs.length cap ∧ w.cell? ⟨g, j, none⟩ = some (.pointer (some ⟨r.a, 0, none⟩)) ∧ w.cell? ⟨r.a, 0, none⟩ = some r.v ∧ w.cell? ⟨r.a, 1, none⟩ = some (.int .i64 (cnt r.l)) ∧ rs.length ≤ cap ∧ cap ≤ maxLen := by
  have hlt : j < rs.length := (List.getElem?_eq_some_iff.1 hr).1
  obtain ⟨hcb, hob⟩ := h.blk r (List.mem_of_getElem? hr)
  obtain ⟨g, cap, hA, _, e1, e2, hcells, _⟩ := (h.row.form).resolve_left (fun e => by have := e.2.1; omega)
  exact ⟨g, cap, hA, by rw [hcells j (by omega)]; simp [hr], hcb.cell 0, hcb.cell 1, e1, e2⟩

/-- A row of bools that is owned. -/
theorem own_bools {w : World} {e : TypeId} {v : Value} {l : List Bool} (h : Row w e 1 v l.length (l.map Value.bool)) :
    ∃ A c, v = .slice A l.length c ∧ l.length ≤ c ∧ c ≤ 9223372036854775807 ∧ (0 < l.length → ∃ g, A = some ⟨g, 0, none⟩ ∧ ∀ q, q < l.length → w.cell? ⟨g, q, none⟩ = some (.bool (l.getD q false))) := by
  rcases h.form with ⟨rfl, e, _⟩ | ⟨g, cap, rfl, _, e1, e2, hc, _⟩
  · exact ⟨_, _, by rw [e], by omega, by omega, fun h => by omega⟩
  · refine ⟨_, _, rfl, e1, by simp only [maxLen] at e2; omega, fun _ => ⟨g, rfl, fun q hq => ?_⟩⟩
    rw [hc q (by omega)]
    simp [List.getD, hq]

theorem cnt_take_succ (l : List Bool) (k : Nat) (h : k < l.length) : cnt (l.take (k + 1)) = cnt (l.take k) + if l.getD k false then 1 else 0 := by
  rw [List.take_succ_eq_append_getElem h, cnt_append]
  simp only [List.getD, List.getElem?_eq_getElem h, Option.getD_some]
  cases l[k] <;> simp [cnt]

def intPost (w : World) (p : Int) (e : Ending) (w' : World) : Prop := ∃ n, w' = w.drewN n ∧ e = .returned (.int .i64 p)

set_option maxHeartbeats 1600000 in
theorem rank_mid (w : World) (F : Nat → Prop) (x : Nat) (lv : Value) (rs : List BlkR) (h : IdxAt w F x lv rs) (at_ : Int) (ha1 : 0 ≤ at_) (ha2 : at_ < (marks rs).length) :
    Calls Try.prog 48 #[.pointer (some ⟨x, 0, none⟩), .int .i64 at_] w (intPost w (cnt ((marks rs).take at_.toNat))) := by
  have hsm := h.small
  have c0 : w.cell? ⟨x, 0, none⟩ = some (.int .i64 (marks rs).length) := h.head.cell 0
  have c1 : w.cell? ⟨x, 1, none⟩ = some (.int .i64 (cnt (marks rs))) := h.head.cell 1
  have c2 : w.cell? ⟨x, 2, none⟩ = some lv := h.head.cell 2
  have hfl : (rs.map (·.l)).flatten.length = (marks rs).length := by rw [marks_eq]
  obtain ⟨j, k, b, e1, e2, e3, e4⟩ := findF_spec false (rs.map (·.l)) 0 at_ 0 ha1 (.inl (by omega))
  have hfind := find_any w F x lv rs h at_ false (by omega) (by omega)
  rw [e1] at hfind
  rw [List.getElem?_map, Option.map_eq_some_iff] at e2
  obtain ⟨r, hr, rfl⟩ := e2
  have hjl : j < rs.length := (List.getElem?_eq_some_iff.1 hr).1
  have hkl : k < r.l.length := by simpa using e4
  obtain ⟨g, cap, rfl, hp, b0, b1, hcap, hcm⟩ := h.block hr
  obtain ⟨Ar, cr, hv, hc1, hc2, hcells⟩ := own_bools (h.blk r (List.mem_of_getElem? hr)).2
  obtain ⟨gr, rfl, hq⟩ := hcells (by omega)
  rw [hv] at b0
  have hres : cnt ((marks rs).take at_.toNat) = cnt ((rs.map (·.l)).take j).flatten + cnt (r.l.take k) := by
    have hs := flatten_split (rs.map (·.l)) j r.l (by simp [hr])
    rw [marks_eq, hs, List.append_assoc, List.take_append, List.take_of_length_le (by omega), cnt_append, List.take_append_of_le_length (by omega)]
    congr 2
    congr 1
    omega
  have hbound : cnt ((rs.map (·.l)).take j).flatten + cnt (r.l.take k) ≤ 1099511627776 := by
    rw [← hres]; have := cnt_le ((marks rs).take at_.toNat); have h2 := List.length_take_le at_.toNat (marks rs); have h3 : ((marks rs).take at_.toNat).length ≤ (marks rs).length := List.length_take_le' _ _; omega
  rw [hres]
  generalize hs0 : cnt ((rs.map (·.l)).take j).flatten = s0 at *
  have hrl : r.l.length ≤ 1099511627776 := Nat.le_trans (len_le_marks (List.mem_of_getElem? hr)) hsm
  clear hfl e1 e3 hs0 hres hr hv hcells e4
  have hmn : rs.length ≤ 9223372036854775807 := by simp only [maxLen] at hcm; omega
  have hne : (at_ == ((marks rs).length : Int)) = false := by simpa using (by omega : at_ ≠ ((marks rs).length : Int))
  have hkb := cnt_le (r.l.take k)
  go_enter Try.func48, Try.ntmps48
  go_wp2_with (go_at_call 59; refine hfind.mono ?_; rintro e w' ⟨m, rfl, rfl⟩)
  go_loop [7, 50] (fun t7 t50 => ∃ q : Nat, q ≤ k ∧ t50 = .int .i64 q ∧ t7 = .int .i64 ((s0 + cnt (r.l.take q) : Nat) : Int)) (fun _ t50 => k - (intOf t50).toNat)
  case atStart => exact ⟨0, Nat.zero_le _, rfl, by simp [cnt]⟩
  case round =>
    obtain ⟨q, hqk, rfl, rfl⟩ := hrel
    have hqb := cnt_le (r.l.take q)
    have hql : (r.l.take q).length ≤ q := List.length_take_le _ _
    by_cases hlt : q < k
    · have hcq := hq q (by omega)
      have hsuc := cnt_take_succ r.l q (by omega)
      generalize hb : r.l.getD q false = bq at *
      have HS := Lib.hid hsuc
      clear hsuc hb hq
      go_wp2_with (go_at_call 50; refine (one_any _ _).mono ?_; rintro e w' ⟨rfl, rfl⟩)
      go_round
      case rel => exact ⟨q + 1, by omega, by go_num, by rw [HS.out]; cases bq <;> simp <;> omega⟩
      case measure => simp [intOf]; omega
    · obtain rfl : q = k := by omega
      go_wp2
      go_ret
      exact ⟨m, rfl, rfl⟩

theorem count_any (w : World) (F : Nat → Prop) (x : Nat) (lv : Value) (rs : List BlkR) (h : IdxAt w F x lv rs) :
    Calls Try.prog 34 #[.pointer (some ⟨x, 0, none⟩)] w (intPost w (cnt (marks rs))) := by
  have c1 : w.cell? ⟨x, 1, none⟩ = some (.int .i64 (cnt (marks rs))) := h.head.cell 1
  go_enter Try.func34, Try.ntmps34
  go_wp2
  go_ret
  exact ⟨0, rfl, rfl⟩

/-- What Select answers. -/
def selV : Option Nat → Value
  | some i => .tuple #[.int .i64 i, .bool true]
  | none => .tuple #[.int .i64 0, .bool false]
def selPost (w : World) (p : Option Nat) (e : Ending) (w' : World) : Prop := ∃ n, w' = w.drewN n ∧ e = .returned (selV p)

theorem select_out (w : World) (F : Nat → Prop) (x : Nat) (lv : Value) (rs : List BlkR) (h : IdxAt w F x lv rs) (k : Int) (hk : k < 0 ∨ (cnt (marks rs) : Int) ≤ k) :
    Calls Try.prog 35 #[.pointer (some ⟨x, 0, none⟩), .int .i64 k] w (selPost w none) := by
  have hsm := h.small
  have c1 : w.cell? ⟨x, 1, none⟩ = some (.int .i64 (cnt (marks rs))) := h.head.cell 1
  by_cases h0 : k < 0
  · go_enter Try.func35, Try.ntmps35
    go_wp2
    go_ret2
    exact ⟨0, rfl, rfl⟩
  · have h1 : (cnt (marks rs) : Int) ≤ k := by omega
    go_enter Try.func35, Try.ntmps35
    go_wp2
    go_ret2
    exact ⟨0, rfl, rfl⟩

set_option maxHeartbeats 3200000 in
theorem select_in (w : World) (F : Nat → Prop) (x : Nat) (lv : Value) (rs : List BlkR) (h : IdxAt w F x lv rs) (k0 : Nat) (hk : k0 < cnt (marks rs)) :
    Calls Try.prog 35 #[.pointer (some ⟨x, 0, none⟩), .int .i64 k0] w (selPost w (sel (marks rs) k0)) := by
  have hsm := h.small
  have hcm := cnt_le (marks rs)
  have c1 : w.cell? ⟨x, 1, none⟩ = some (.int .i64 (cnt (marks rs))) := h.head.cell 1
  have c2 : w.cell? ⟨x, 2, none⟩ = some lv := h.head.cell 2
  have hn : rs.length ≤ 9223372036854775807 := by
    rcases h.row.form with ⟨_, e, _⟩ | ⟨g, cap, _, _, e1, e2, _⟩
    · omega
    · simp only [maxLen] at e2; omega
  obtain ⟨A, c, rfl⟩ := h.row.slice
  have d1 : decide ((k0 : Int) < 0) = false := by simp
  have d2 : decide (cnt (marks rs) ≤ k0) = false := by simp; omega
  go_enter Try.func35, Try.ntmps35
  go_wp2
  go_loopw [1, 6, 27] (fun t1 t6 t27 wr => ∃ (i k a m : Nat), i ≤ rs.length ∧ t1 = .int .i64 k ∧ t6 = .int .i64 a ∧ t27 = .int .i64 i ∧ wr = w.drewN m ∧ k < cnt (marks (rs.drop i)) ∧ a + (marks (rs.drop i)).length ≤ 1099511627776 ∧
      Hid ((sel (marks (rs.drop i)) k).map (· + a) = sel (marks rs) k0)) (fun _ _ t27 _ => rs.length - (intOf t27).toNat)
  case atStart => exact ⟨0, k0, 0, 0, Nat.zero_le _, rfl, rfl, rfl, rfl, by simpa using hk, by simpa using hsm, Lib.hid (by simp)⟩
  case round =>
    obtain ⟨i, k, a, m, hi, rfl, rfl, rfl, rfl, hkc, ham, HF⟩ := hrel
    by_cases hlt : i < rs.length
    · obtain ⟨r, hr⟩ : ∃ r, rs[i]? = some r := ⟨rs[i], by simp [hlt]⟩
      have hrm : r ∈ rs := List.mem_of_getElem? hr
      have hdrop : rs.drop i = r :: rs.drop (i + 1) := by
        rw [List.drop_eq_getElem_cons hlt]; congr 1; exact (List.getElem?_eq_some_iff.1 hr).2
      obtain ⟨g, cap, hlv, hp, b0, b1, hcap, hcm'⟩ := h.block hr
      injection hlv with hA _ hc'
      subst hA
      subst hc'
      obtain ⟨Ar, cr, hv, hc1, hc2, hcells⟩ := own_bools (h.blk r hrm).2
      rw [hv] at b0
      have hcl := cnt_le r.l
      have HF' := HF.out
      rw [hdrop, marks_cons, cnt_append] at hkc
      rw [hdrop, marks_cons, List.length_append] at ham
      rw [hdrop, marks_cons] at HF'
      have hkb : k ≤ 1099511627776 := by have := cnt_le (marks (rs.drop (i + 1))); omega
      clear HF hdrop hr hv
      by_cases h1 : cnt r.l ≤ k
      · rw [sel_append_far _ _ _ h1, Option.map_map] at HF'
        have HF : Hid ((sel (marks (rs.drop (i + 1))) (k - cnt r.l)).map (· + (a + r.l.length)) = sel (marks rs) k0) := Lib.hid (by
          rw [← HF']; congr 1; funext z; simp; omega)
        clear HF' hcells
        go_wp2
        go_quiet (fail)
        go_wp2
        go_roundw
        case rel =>
          refine ⟨i + 1, k - cnt r.l, a + r.l.length, _, ?_, ?_, ?_, ?_, rfl, ?_, ?_, HF⟩
          · omega
          · congr 1; omega
          · congr 1
          · congr 1
          · omega
          · omega
        case measure => simp [intOf]; omega
      · rw [sel_append_near _ _ _ (by omega)] at HF'
        have HF := Lib.hid HF'
        clear HF'
        have h2 : k < cnt r.l := by omega
        clear h1
        obtain ⟨gr, rfl, hq⟩ := hcells (by omega)
        clear hcells
        go_wp2
        go_loop [1, 55] (fun t1 t55 => ∃ (q k' : Nat), q ≤ r.l.length ∧ t1 = .int .i64 k' ∧ t55 = .int .i64 q ∧ k' ≤ k ∧ k' < cnt (r.l.drop q) ∧ Hid ((sel (r.l.drop q) k').map (· + (a + q)) = sel (marks rs) k0)) (fun _ t55 => r.l.length - (intOf t55).toNat)
        case atStart => exact ⟨0, k, Nat.zero_le _, rfl, rfl, Nat.le_refl _, by simpa using h2, by simpa using HF⟩
        case round =>
          obtain ⟨q, k', hqk, rfl, rfl, hkk, hkd, HG⟩ := hrel
          by_cases hlt' : q < r.l.length
          · have hcq := hq q hlt'
            have hdq : r.l.drop q = r.l.getD q false :: r.l.drop (q + 1) := by
              rw [List.drop_eq_getElem_cons hlt']; simp [List.getD, hlt']
            have HG' := HG.out
            rw [hdq] at HG' hkd
            clear HG HF hdq hq
            generalize r.l.getD q false = bq at *
            cases bq with
            | false =>
              have hkd' : k' < cnt (r.l.drop (q + 1)) := by simpa [cnt] using hkd
              simp only [sel, Option.map_map] at HG'
              have HG : Hid ((sel (r.l.drop (q + 1)) k').map (· + (a + (q + 1))) = sel (marks rs) k0) := Lib.hid (by rw [← HG']; congr 1; funext z; simp; omega)
              clear HG' hkd
              go_wp2_with (go_at_call 50; refine (one_any _ _).mono ?_; rintro e w' ⟨rfl, rfl⟩)
              go_round
              case rel => exact ⟨q + 1, k', by omega, by go_num, by go_num, hkk, hkd', HG⟩
              case measure => simp [intOf]; omega
            | true =>
              cases k' with
              | zero =>
                simp only [sel, Option.map_some] at HG'
                have HG := Lib.hid HG'
                clear HG' hkd
                go_wp2
                go_ret2
                exact ⟨m, rfl, by rw [← HG.out]; simp [selV]⟩
              | succ k' =>
                have hkd' : k' < cnt (r.l.drop (q + 1)) := by simp [cnt] at hkd ⊢; omega
                simp only [sel, Option.map_map] at HG'
                have HG : Hid ((sel (r.l.drop (q + 1)) k').map (· + (a + (q + 1))) = sel (marks rs) k0) := Lib.hid (by rw [← HG']; congr 1; funext z; simp; omega)
                have hne : (((k' + 1 : Nat) : Int) == 0) = false := by simp; omega
                clear HG' hkd
                go_wp2_with (go_at_call 50; refine (one_any _ _).mono ?_; rintro e w' ⟨rfl, rfl⟩)
                go_round
                case rel => exact ⟨q + 1, k', by omega, by simp, by go_num, by omega, hkd', HG⟩
                case measure => simp [intOf]; omega
          · obtain rfl : q = r.l.length := by omega
            simp [cnt] at hkd
    · obtain rfl : i = rs.length := by omega
      simp [marks, cnt] at hkc
end Go.Proofs.Ytoddohhhhnahnaa
