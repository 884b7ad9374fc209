/- The index: Insert. -/
import Derived.Test.YtoddohhhhnahnaaIx5
namespace Go.Proofs.Ytoddohhhhnahnaa
open Go.RowKit

def InsIdxPost (F : Nat → Prop) (w : World) (x : Nat) (rs : List BlkR) (at_ : Nat) (s : Bool) (e : Ending) (w' : World) : Prop :=
  e = .returned (.bool true) ∧ Keeps F w w' ∧ ∃ F' lv' rs', IdxAt w' F' x lv' rs' ∧ marks rs' = (marks rs).take at_ ++ s :: (marks rs).drop at_ ∧ rs'.length ≤ rs.length + 1 ∧ rs' ≠ [] ∧ ∀ g, F' g → F g ∨ w.heap.size ≤ g

theorem cnt_mid (a b : List Bool) (s : Bool) : (cnt (a ++ s :: b) : Int) = cnt (a ++ b) + bi s := by
  rw [cnt_append, cnt_append]
  cases s <;> simp [cnt, bi] <;> omega

theorem ins_put {w W3 w4 : World} {F : Nat → Prop} {x : Nat} {lv : Value} {rs : List BlkR} (h : IdxAt w F x lv rs) {j k at_ : Nat} {r : BlkR} (hr : rs[j]? = some r) {s : Bool} {Ar A4 : Option Addr} {cr c4 : Nat}
    (hv : r.v = .slice Ar r.l.length cr) (hkl : k ≤ r.l.length) (hat : at_ = ((rs.map (·.l)).take j).flatten.length + k) (hroom : (marks rs).length < 1099511627776) (hk3 : Keeps NoB w W3)
    (hrow4 : Row w4 4 1 (.slice A4 (r.l.length + 1) c4) (r.l.length + 1) ((r.l.map Value.bool).take (k * 1) ++ [.bool s] ++ (r.l.map Value.bool).drop (k * 1)))
    (hk4 : Keeps (fun g => (Value.slice Ar r.l.length cr).ownBlock = some g) W3 w4)
    (hown4 : (Value.slice A4 (r.l.length + 1) c4).ownBlock = (Value.slice Ar r.l.length cr).ownBlock ∨ ∃ g, (Value.slice A4 (r.l.length + 1) c4).ownBlock = some g ∧ W3.heap.size ≤ g)
    (hx4 : Cells w4 x 79 [.int .i64 (marks rs).length, .int .i64 (cnt (marks rs)), lv]) (hc4 : Cells w4 r.a 99 [.slice Ar r.l.length cr, .int .i64 (cnt r.l)]) :
    ∃ W, W = ((((w4.setCell ⟨r.a, 0, none⟩ (.slice A4 (r.l.length + 1) c4)).setCell ⟨r.a, 1, none⟩ (.int .i64 ((cnt r.l : Int) + bi s))).setCell ⟨x, 0, none⟩ (.int .i64 (((marks rs).length : Int) + 1))).setCell ⟨x, 1, none⟩ (.int .i64 ((cnt (marks rs) : Int) + bi s))).drew.drew ∧
      Keeps F w W ∧ ∃ F', IdxAt W F' x lv (rs.set j ⟨r.a, .slice A4 (r.l.length + 1) c4, r.l.take k ++ s :: r.l.drop k⟩) ∧
        marks (rs.set j ⟨r.a, .slice A4 (r.l.length + 1) c4, r.l.take k ++ s :: r.l.drop k⟩) = (marks rs).take at_ ++ s :: (marks rs).drop at_ ∧ ∀ g, F' g → F g ∨ w.heap.size ≤ g := by
  obtain ⟨W, hW⟩ : ∃ W, W = ((((w4.setCell ⟨r.a, 0, none⟩ (.slice A4 (r.l.length + 1) c4)).setCell ⟨r.a, 1, none⟩ (.int .i64 ((cnt r.l : Int) + bi s))).setCell ⟨x, 0, none⟩ (.int .i64 (((marks rs).length : Int) + 1))).setCell ⟨x, 1, none⟩ (.int .i64 ((cnt (marks rs) : Int) + bi s))).drew.drew := ⟨_, rfl⟩
  have hrm := List.mem_of_getElem? hr
  obtain ⟨hcb, hob⟩ := h.blk r hrm
  have n1 : r.a ≠ x := hcb.ne h.head (by decide)
  have hs3 := hk3.size
  have hs4 := hk4.size
  have hfs := flatten_split (rs.map (·.l)) j r.l (by simp [hr])
  have hms := marks_set rs j r ⟨r.a, .slice A4 (r.l.length + 1) c4, r.l.take k ++ s :: r.l.drop k⟩ hr
  have hmk : marks rs = ((rs.map (·.l)).take j).flatten ++ r.l ++ ((rs.map (·.l)).drop (j + 1)).flatten := by rw [marks_eq]; exact hfs
  have hmm : marks (rs.set j ⟨r.a, .slice A4 (r.l.length + 1) c4, r.l.take k ++ s :: r.l.drop k⟩) = (marks rs).take at_ ++ s :: (marks rs).drop at_ := by
    rw [hms, hmk, hat]
    generalize ((rs.map (·.l)).take j).flatten = PA
    generalize ((rs.map (·.l)).drop (j + 1)).flatten = PB
    have e1 : k - r.l.length = 0 := by omega
    have e2 : PA.take (PA.length + k) = PA := List.take_of_length_le (by omega)
    have e3 : PA.drop (PA.length + k) = [] := List.drop_eq_nil_of_le (by omega)
    simp [List.take_append, List.drop_append, e1, e2, e3]
  have hlen : (marks (rs.set j ⟨r.a, .slice A4 (r.l.length + 1) c4, r.l.take k ++ s :: r.l.drop k⟩)).length = (marks rs).length + 1 := by
    rw [hmm, List.length_append, List.length_cons, List.length_take, List.length_drop]
    have : at_ ≤ (marks rs).length := by rw [hmk, hat]; simp; omega
    omega
  have hcn : (cnt (marks (rs.set j ⟨r.a, .slice A4 (r.l.length + 1) c4, r.l.take k ++ s :: r.l.drop k⟩)) : Int) = cnt (marks rs) + bi s := by
    rw [hmm, cnt_mid, List.take_append_drop]
  have hcr : (cnt (r.l.take k ++ s :: r.l.drop k) : Int) = cnt r.l + bi s := by rw [cnt_mid, List.take_append_drop]
  have hkW : Keeps (fun g => g = r.a ∨ g = x) w4 W := by
    rw [hW]
    exact (((((Keeps.refl (fun g => g = r.a ∨ g = x) w4).setCell (p := ⟨r.a, 0, none⟩) (.inl (.inl rfl)) _).setCell (p := ⟨r.a, 1, none⟩) (.inl (.inl rfl)) _).setCell (p := ⟨x, 0, none⟩) (.inl (.inr rfl)) _).setCell (p := ⟨x, 1, none⟩) (.inl (.inr rfl)) _).drew.drew
  have hsW := hkW.size
  have hfb := h.fblk r hrm
  have hown : ∀ g, (Value.slice A4 (r.l.length + 1) c4).ownBlock = some g → r.v.ownBlock = some g ∨ w.heap.size ≤ g := by
    intro g hg
    rcases hown4 with e | ⟨g', e, hg'⟩
    · exact .inl (by rw [hv, ← e, hg])
    · rw [hg] at e; cases e; exact .inr (by omega)
  refine ⟨W, hW, ?_, fun g => F g ∨ (Value.slice A4 (r.l.length + 1) c4).ownBlock = some g, ?_, hmm, ?_⟩
  · exact (((hk3.mono (G := F) (fun _ _ e => False.elim e)).then hk4 (fun g e => .inl (hfb.2 g (by rw [hv]; exact e)))).then hkW (fun g e => .inl (by rcases e with rfl | rfl; exact hfb.1; exact h.fx)))
  · have hlt4 : ∀ g, (Value.slice A4 (r.l.length + 1) c4).ownBlock = some g → g ≠ r.a ∧ g ≠ x := fun g hg =>
      ⟨fun e => hc4.ne_row hrow4 (by decide) (by rw [hg, e]), fun e => hx4.ne_row hrow4 (by decide) (by rw [hg, e])⟩
    refine IdxAt.put h hr rfl ?_ ⟨?_, ?_⟩ ?_ hown (fun g hg => .inl hg) (fun g hg => .inr hg) ?_ (by omega)
    · have := (((((hx4.other (a := ⟨r.a, 0, none⟩) (fun e => n1 e.symm) (.slice A4 (r.l.length + 1) c4)).other (a := ⟨r.a, 1, none⟩) (fun e => n1 e.symm) (.int .i64 ((cnt r.l : Int) + bi s))).set 0 (.int .i64 (((marks rs).length : Int) + 1))).set 1 (.int .i64 ((cnt (marks rs) : Int) + bi s))).drew).drew
      rw [← hW] at this
      rw [hcn, hlen]
      simpa using this
    · have := (((((hc4.set 0 (.slice A4 (r.l.length + 1) c4)).set 1 (.int .i64 ((cnt r.l : Int) + bi s))).other (a := ⟨x, 0, none⟩) n1 (.int .i64 (((marks rs).length : Int) + 1))).other (a := ⟨x, 1, none⟩) n1 (.int .i64 ((cnt (marks rs) : Int) + bi s))).drew).drew
      rw [← hW] at this
      show Cells W r.a _ [.slice A4 (r.l.length + 1) c4, .int .i64 (cnt (r.l.take k ++ s :: r.l.drop k) : Nat)]
      rw [hcr]
      simpa using this
    · have e1 : (r.l.take k ++ s :: r.l.drop k).length = r.l.length + 1 := by simp; omega
      have e2 : (r.l.take k ++ s :: r.l.drop k).map Value.bool = (r.l.map Value.bool).take (k * 1) ++ [.bool s] ++ (r.l.map Value.bool).drop (k * 1) := by simp
      show Row W _ 1 (.slice A4 (r.l.length + 1) c4) (r.l.take k ++ s :: r.l.drop k).length ((r.l.take k ++ s :: r.l.drop k).map Value.bool)
      rw [e1, e2]
      exact hrow4.kept fun g hg => hkW.block g (hrow4.lt g hg) (fun e => by have := hlt4 g hg; omega)
    · intro b hb h1 h2 h3
      rw [hkW.block b (by omega) (fun e => by omega), hk4.block b (by omega) (by rw [← hv]; exact h3), hk3.block b hb (fun e => e)]
    · intro g hg
      rcases hg with hg | hg
      · have := h.old g hg; omega
      · have := hrow4.lt g hg; omega
  · intro g hg
    rcases hg with hg | hg
    · exact .inl hg
    · rcases hown g hg with e | e
      · exact .inl (hfb.2 g e)
      · exact .inr e

set_option maxHeartbeats 3200000 in
set_option maxRecDepth 100000 in
theorem insertIdx_any (w : World) (F : Nat → Prop) (x : Nat) (lv : Value) (rs : List BlkR) (h : IdxAt w F x lv rs) (at_ : Nat) (ha2 : at_ ≤ (marks rs).length) (hroom : (marks rs).length < 1099511627776) (hfew : rs.length ≤ (marks rs).length + 1) (hnil : rs ≠ []) (s : Bool) :
    Calls Try.prog 58 #[.pointer (some ⟨x, 0, none⟩), .int .i64 at_, .bool s] w (InsIdxPost F w x rs at_ s) := by
  have hsm := h.small
  have hfl : (rs.map (·.l)).flatten.length = (marks rs).length := by rw [marks_eq]
  obtain ⟨j, k, b, e1, e2, e3, e4⟩ := findF_spec true (rs.map (·.l)) 0 at_ 0 (by omega) (by
    by_cases hlt : at_ < (marks rs).length
    · exact .inl (by omega)
    · exact .inr ⟨rfl, by omega, by simpa using hnil⟩)
  rw [List.getElem?_map, Option.map_eq_some_iff] at e2
  obtain ⟨r, hr, rfl⟩ := e2
  have hfind := find_any w F x lv rs h at_ true (by omega) (by omega)
  rw [e1] at hfind
  have hkl : k ≤ r.l.length := by rcases e4 with e | ⟨_, e⟩ <;> omega
  have c0 : w.cell? ⟨x, 0, none⟩ = some (.int .i64 (marks rs).length) := h.head.cell 0
  have c1 : w.cell? ⟨x, 1, none⟩ = some (.int .i64 (cnt (marks rs))) := h.head.cell 1
  have c2 : w.cell? ⟨x, 2, none⟩ = some lv := h.head.cell 2
  have hrm := List.mem_of_getElem? hr
  have hjl : j < rs.length := (List.getElem?_eq_some_iff.1 hr).1
  obtain ⟨hcb, hob⟩ := h.blk r hrm
  obtain ⟨g, cap, hlv, hp, b0, b1, hcap, hcm⟩ := h.block hr
  have hcl := cnt_le (marks rs)
  have hrl := len_le_marks hrm
  have hcr := cnt_le r.l
  have hmn : rs.length ≤ 9223372036854775807 := by simp only [maxLen] at hcm; omega
  obtain ⟨Ar, cr, hv⟩ := hob.slice
  rw [hv] at b0
  rw [hlv] at c2
  have n1 : r.a ≠ x := hcb.ne h.head (by decide)
  have rlt := hcb.lt
  have xlt := h.head.lt
  obtain ⟨s1, s2⟩ := bi_bd s
  have z0 : (0 : Int) ≤ at_ := by omega
  have z1 : (at_ : Int) ≤ (marks rs).length := by omega
  have hPK := Lib.hid (And.intro h (And.intro hcb (And.intro hob (And.intro hlv hv))))
  have hfind2 := Lib.hid hfind
  have hat : at_ = ((rs.map (·.l)).take j).flatten.length + k := by omega
  have hAT := Lib.hid hat
  clear hfind hcb hob h hlv hv e1 e3 e4 hfl hat
  go_enter Try.func58, Try.ntmps58
  go_wp2_with (first | (go_at_call 59; refine hfind2.out.mono ?_; rintro e w' ⟨m, rfl, rfl⟩))
  obtain ⟨h, hcb, hob, hlv, hv⟩ := hPK.out
  have hk3 : Keeps NoB w ((w.drewN m).alloc (.cells #[.bool s] 4)) := ((Keeps.refl NoB w).drewN m).alloc _
  have hrow3 := hob.keep hk3 (fun _ _ e => e)
  have hcb3 := hcb.keep hk3 (fun e => e)
  have hx3 := h.head.keep hk3 (fun e => e)
  have hnew3 : Cells ((w.drewN m).alloc (.cells #[.bool s] 4)) w.heap.size 4 [.bool s] := Cells.new (w.drewN m) [.bool s] _
  obtain ⟨W3, hW3⟩ : ∃ W3, W3 = (w.drewN m).alloc (.cells #[.bool s] 4) := ⟨_, rfl⟩
  rw [← hW3] at hk3 hrow3 hcb3 hx3 hnew3 ⊢
  clear hW3
  rw [hv] at hrow3 hcb3
  go_at_call 72
  refine (insB_any W3 _ r.l.length k (r.l.map Value.bool) [.bool s] hrow3 (oneCell_bools _) hkl w.heap.size hnew3 rfl ?_ ?_ ?_).mono ?_
  · intro v hv'
    obtain rfl : v = _ := by simpa using hv'
    rfl
  · intro e
    have := hob.lt w.heap.size (by rw [hv]; exact e)
    omega
  · omega
  rintro e w4 ⟨v4, rfl, hrow4, hk4, hown4⟩
  obtain ⟨A4, c4, rfl⟩ := hrow4.slice
  have hx4 := hx3.keep hk4 (fun e => h.head.ne_row hob (by decide) (by rw [hv]; exact e))
  have hc4 := hcb3.keep hk4 (fun e => hcb.ne_row hob (by decide) (by rw [hv]; exact e))
  have x0 := hx4.cell 0
  have x1 := hx4.cell 1
  have y0 := hc4.cell 0
  have y1 := hc4.cell 1
  have fx0 := hx4.frozen 0
  have fx1 := hx4.frozen 1
  have fy0 := hc4.frozen 0
  have fy1 := hc4.frozen 1
  simp only [List.getElem?_cons_zero, List.getElem?_cons_succ] at x0 x1 y0 y1
  have hw1 : IntKind.i64.wrap ((cnt r.l : Int) + bi s) = (cnt r.l : Int) + bi s := by rw [IntKind.wrap_i64]; omega
  have hw2 : IntKind.i64.wrap (((marks rs).length : Int) + 1) = ((marks rs).length : Int) + 1 := by rw [IntKind.wrap_i64]; omega
  have hw3 : IntKind.i64.wrap ((cnt (marks rs) : Int) + bi s) = (cnt (marks rs) : Int) + bi s := by rw [IntKind.wrap_i64]; omega
  have PACK := Lib.hid (And.intro hx4 (And.intro hc4 (And.intro hrow4 (And.intro hk4 (And.intro hown4 (And.intro hk3 (And.intro hnew3 hfew)))))))
  have PK2 := Lib.hid (And.intro h (And.intro hlv hv))
  clear hx4 hc4 hrow4 hk4 hown4 hk3 hnew3 hcb3 hx3 hrow3 hcb hob h hlv hv c0 c1 c2 b0 b1 hp hfew
  go_wp2_with fail
  refine wpD_begin (n := 10) (l := [false, false, false, false, false, false, false, false, false, false].toArray) [6, 7, 8, 9] (fun w' => w'.cell? ⟨r.a, 1, none⟩ = some (.int .i64 (cnt r.l))) (by kernel_rfl) (by kernel_rfl) (by kernel_rfl) ?_ (fun hS => ?_)
  · first | (go_keep; done) | go_simp
  try dsimp only at hS
  refine wpD_takeL (i := 0) (v := ?v0) rfl (by kernel_rfl) (by kernel_rfl) (by kernel_rfl) (fun _ _ _ h => h) (Or.inl ⟨by rfl, ?hy0⟩) ?_
  case hy0 => (intro w; go_simp; try with_reducible rfl)
  simp only [Act.put, List.setIfInBounds_toArray, List.set_cons_zero, List.set_cons_succ]
  refine wpD_takeL (i := 1) (v := ?v1) rfl (by kernel_rfl) (by kernel_rfl) (by kernel_rfl) (fun _ _ _ h => h) (Or.inl ⟨by rfl, ?hy1⟩) ?_
  case hy1 => (intro w; go_simp; try with_reducible rfl)
  simp only [Act.put, List.setIfInBounds_toArray, List.set_cons_zero, List.set_cons_succ]
  refine wpD_takeL (i := 2) (v := ?v2) rfl (by kernel_rfl) (by kernel_rfl) (by kernel_rfl) (fun _ _ _ h => h) (Or.inl ⟨by rfl, ?hy2⟩) ?_
  case hy2 => (intro w; go_simp; try with_reducible rfl)
  simp only [Act.put, List.setIfInBounds_toArray, List.set_cons_zero, List.set_cons_succ]
  refine wpD_takeL (i := 4) (v := ?v4) rfl (by kernel_rfl) (by kernel_rfl) (by kernel_rfl) (fun _ _ _ h => h) (Or.inl ⟨by rfl, ?hy4⟩) ?_
  case hy4 => (intro w; go_simp; try with_reducible rfl)
  simp only [Act.put, List.setIfInBounds_toArray, List.set_cons_zero, List.set_cons_succ]
  refine wpD_loadL (i := 3) (v := ?v3) rfl (by kernel_rfl) (by kernel_rfl) (by kernel_rfl) (by kernel_rfl) (fun _ _ _ h => h) (Or.inl ⟨by rfl, ?hy3⟩) hS ?_
  case hy3 => (intro w hSw; (try dsimp only at hSw); go_simp; try with_reducible rfl)
  simp only [Act.put, List.setIfInBounds_toArray, List.set_cons_zero, List.set_cons_succ]
  -- MID 5: F50 index.one(t51)
  refine wpD_mid (i := 5) (by kernel_rfl) rfl (fun K hK => ?_)
  go_simp
  go_at_call 50
  refine (one_bi _ _).mono ?_
  rintro e w' ⟨rfl, rfl⟩
  refine hK.out _ _ (fun hSw => hSw) ?_
  clear hK K
  simp only [List.setIfInBounds_toArray, List.set_cons_zero, List.set_cons_succ]
  refine wpD_tail 6 [6, 7, 8, 9] (by kernel_rfl) (by kernel_rfl) ?_
  simp only [List.drop_succ_cons, List.drop_zero]
  clear hS
  go_wp2_with fail
  refine wpD_begin (n := 24) (l := [false, false, false, false, false, false, false, false, false, false, false, false, false, false, false, false, false, false, false, false, false, false, false, false].toArray) [16, 17, 18, 19, 20, 21, 22, 23] (fun w' => w'.cell? ⟨x, 0, none⟩ = some (.int .i64 (marks rs).length) ∧ w'.cell? ⟨x, 1, none⟩ = some (.int .i64 (cnt (marks rs)))) (by kernel_rfl) (by kernel_rfl) (by kernel_rfl) ?_ (fun hS => ?_)
  · first | (go_keep; done) | go_simp
  try dsimp only at hS
  refine wpD_takeL (i := 0) (v := ?v7_0) rfl (by kernel_rfl) (by kernel_rfl) (by kernel_rfl) (fun _ _ _ h => h) (Or.inl ⟨by rfl, ?hy7_0⟩) ?_
  case hy7_0 => (intro w; go_simp; try with_reducible rfl)
  simp only [Act.put, List.setIfInBounds_toArray, List.set_cons_zero, List.set_cons_succ]
  refine wpD_takeL (i := 1) (v := ?v7_1) rfl (by kernel_rfl) (by kernel_rfl) (by kernel_rfl) (fun _ _ _ h => h) (Or.inl ⟨by rfl, ?hy7_1⟩) ?_
  case hy7_1 => (intro w; go_simp; try with_reducible rfl)
  simp only [Act.put, List.setIfInBounds_toArray, List.set_cons_zero, List.set_cons_succ]
  refine wpD_takeL (i := 2) (v := ?v7_2) rfl (by kernel_rfl) (by kernel_rfl) (by kernel_rfl) (fun _ _ _ h => h) (Or.inl ⟨by rfl, ?hy7_2⟩) ?_
  case hy7_2 => (intro w; go_simp; try with_reducible rfl)
  simp only [Act.put, List.setIfInBounds_toArray, List.set_cons_zero, List.set_cons_succ]
  refine wpD_takeL (i := 3) (v := ?v7_3) rfl (by kernel_rfl) (by kernel_rfl) (by kernel_rfl) (fun _ _ _ h => h) (Or.inl ⟨by rfl, ?hy7_3⟩) ?_
  case hy7_3 => (intro w; go_simp; try with_reducible rfl)
  simp only [Act.put, List.setIfInBounds_toArray, List.set_cons_zero, List.set_cons_succ]
  refine wpD_takeL (i := 4) (v := ?v7_4) rfl (by kernel_rfl) (by kernel_rfl) (by kernel_rfl) (fun _ _ _ h => h) (Or.inl ⟨by rfl, ?hy7_4⟩) ?_
  case hy7_4 => (intro w; go_simp; try with_reducible rfl)
  simp only [Act.put, List.setIfInBounds_toArray, List.set_cons_zero, List.set_cons_succ]
  refine wpD_takeL (i := 5) (v := ?v7_5) rfl (by kernel_rfl) (by kernel_rfl) (by kernel_rfl) (fun _ _ _ h => h) (Or.inl ⟨by rfl, ?hy7_5⟩) ?_
  case hy7_5 => (intro w; go_simp; try with_reducible rfl)
  simp only [Act.put, List.setIfInBounds_toArray, List.set_cons_zero, List.set_cons_succ]
  refine wpD_takeL (i := 8) (v := ?v7_8) rfl (by kernel_rfl) (by kernel_rfl) (by kernel_rfl) (fun _ _ _ h => h) (Or.inl ⟨by rfl, ?hy7_8⟩) ?_
  case hy7_8 => (intro w; go_simp; try with_reducible rfl)
  simp only [Act.put, List.setIfInBounds_toArray, List.set_cons_zero, List.set_cons_succ]
  refine wpD_takeL (i := 9) (v := ?v7_9) rfl (by kernel_rfl) (by kernel_rfl) (by kernel_rfl) (fun _ _ _ h => h) (Or.inl ⟨by rfl, ?hy7_9⟩) ?_
  case hy7_9 => (intro w; go_simp; try with_reducible rfl)
  simp only [Act.put, List.setIfInBounds_toArray, List.set_cons_zero, List.set_cons_succ]
  refine wpD_takeL (i := 10) (v := ?v7_10) rfl (by kernel_rfl) (by kernel_rfl) (by kernel_rfl) (fun _ _ _ h => h) (Or.inl ⟨by rfl, ?hy7_10⟩) ?_
  case hy7_10 => (intro w; go_simp; try with_reducible rfl)
  simp only [Act.put, List.setIfInBounds_toArray, List.set_cons_zero, List.set_cons_succ]
  refine wpD_takeL (i := 11) (v := ?v7_11) rfl (by kernel_rfl) (by kernel_rfl) (by kernel_rfl) (fun _ _ _ h => h) (Or.inl ⟨by rfl, ?hy7_11⟩) ?_
  case hy7_11 => (intro w; go_simp; try with_reducible rfl)
  simp only [Act.put, List.setIfInBounds_toArray, List.set_cons_zero, List.set_cons_succ]
  refine wpD_takeL (i := 13) (v := ?v7_13) rfl (by kernel_rfl) (by kernel_rfl) (by kernel_rfl) (fun _ _ _ h => h) (Or.inl ⟨by rfl, ?hy7_13⟩) ?_
  case hy7_13 => (intro w; go_simp; try with_reducible rfl)
  simp only [Act.put, List.setIfInBounds_toArray, List.set_cons_zero, List.set_cons_succ]
  refine wpD_loadL (i := 6) (v := ?v7_6) rfl (by kernel_rfl) (by kernel_rfl) (by kernel_rfl) (by kernel_rfl) (fun _ _ _ h => h) (Or.inl ⟨by rfl, ?hy7_6⟩) hS ?_
  case hy7_6 => (intro w hSw; (try dsimp only at hSw); go_simp; try with_reducible rfl)
  simp only [Act.put, List.setIfInBounds_toArray, List.set_cons_zero, List.set_cons_succ]
  refine wpD_takeL (i := 7) (v := ?v7_7) rfl (by kernel_rfl) (by kernel_rfl) (by kernel_rfl) (fun _ _ _ h => h) (Or.inl ⟨by rfl, ?hy7_7⟩) ?_
  case hy7_7 => (intro w; go_simp; try with_reducible rfl)
  simp only [Act.put, List.setIfInBounds_toArray, List.set_cons_zero, List.set_cons_succ]
  refine wpD_loadL (i := 12) (v := ?v7_12) rfl (by kernel_rfl) (by kernel_rfl) (by kernel_rfl) (by kernel_rfl) (fun _ _ _ h => h) (Or.inl ⟨by rfl, ?hy7_12⟩) hS ?_
  case hy7_12 => (intro w hSw; (try dsimp only at hSw); go_simp; try with_reducible rfl)
  simp only [Act.put, List.setIfInBounds_toArray, List.set_cons_zero, List.set_cons_succ]
  -- MID 14: F50 index.one(t69)
  refine wpD_mid (i := 14) (by kernel_rfl) rfl (fun K hK => ?_)
  go_simp
  go_at_call 50
  refine (one_bi _ _).mono ?_
  rintro e w' ⟨rfl, rfl⟩
  refine hK.out _ _ (fun hSw => hSw) ?_
  clear hK K
  simp only [List.setIfInBounds_toArray, List.set_cons_zero, List.set_cons_succ]
  refine wpD_takeL (i := 15) (v := ?v7_15) rfl (by kernel_rfl) (by kernel_rfl) (by kernel_rfl) (fun _ _ _ h => h) (Or.inl ⟨by rfl, ?hy7_15⟩) ?_
  case hy7_15 => (intro w; go_simp; try with_reducible rfl)
  simp only [Act.put, List.setIfInBounds_toArray, List.set_cons_zero, List.set_cons_succ]
  refine wpD_tail 16 [16, 17, 18, 19, 20, 21, 22, 23] (by kernel_rfl) (by kernel_rfl) ?_
  simp only [List.drop_succ_cons, List.drop_zero]
  clear hS
  go_wp2_with fail
  all_goals obtain ⟨hx4, hc4, hrow4, hk4, hown4, hk3, hnew3, hfew⟩ := PACK.out
  all_goals obtain ⟨h, hlv, hv⟩ := PK2.out
  all_goals obtain ⟨W, hW, hKW, F', hI, hM, hF'⟩ := ins_put h hr (s := s) hv hkl hAT.out hroom hk3 hrow4 hk4 hown4 hx4 hc4
  all_goals have hlM : (marks (rs.set j ⟨r.a, .slice A4 (r.l.length + 1) c4, r.l.take k ++ s :: r.l.drop k⟩)).length = (marks rs).length + 1 := by rw [hM]; simp; omega
  · rw [← hW]
    go_at_call 73
    refine (split_any W F' x lv _ hI j ⟨r.a, .slice A4 (r.l.length + 1) c4, r.l.take k ++ s :: r.l.drop k⟩ (by simp [hjl]) ?_ ?_).mono ?_
    · simp; omega
    · rw [hlM, List.length_set]; omega
    rintro e w' ⟨rfl, hk5, F5, lv5, rs5, hI5, hM5, hL5, hF5⟩
    clear hx4 hc4 hrow4 hk4 hown4 hk3 hnew3 hW
    have PK3 := Lib.hid (And.intro hk5 (And.intro hI5 (And.intro hM5 (And.intro hL5 (And.intro hF5 (And.intro hKW (And.intro hM (And.intro hF' (And.intro hlM hI)))))))))
    clear hk5 hI5 hM5 hL5 hF5 hKW hM hF' hlM hI
    go_wp2_with fail
    go_ret
    obtain ⟨hk5, hI5, hM5, hL5, hF5, hKW, hM, hF', hlM, hI⟩ := PK3.out
    refine ⟨rfl, hKW.then hk5 hF', F5, lv5, rs5, hI5, by rw [hM5, hM], by rw [hL5, List.length_set]; omega, by intro e; rw [e] at hL5; simp at hL5, ?_⟩
    intro g hg
    rcases hF5 g hg with e | e
    · exact hF' g e
    · have := hKW.size; exact .inr (by omega)
  · go_ret
    rw [← hW]
    exact ⟨rfl, hKW, F', lv, _, hI, hM, by rw [List.length_set]; omega, by simpa using hnil, hF'⟩
end Go.Proofs.Ytoddohhhhnahnaa
