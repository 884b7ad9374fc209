/- The index: a block is cut in two, the walk. -/
import Derived.Test.YtoddohhhhnahnaaIx5c
namespace Go.Proofs.Ytoddohhhhnahnaa
open Go.RowKit

def SplitPost (F : Nat → Prop) (w : World) (x : Nat) (rs : List BlkR) (e : Ending) (w' : World) : Prop :=
  e = .returned (.tuple #[]) ∧ Keeps F w w' ∧ ∃ F' lv' rs', IdxAt w' F' x lv' rs' ∧ marks rs' = marks rs ∧ rs'.length = rs.length + 1 ∧ ∀ g, F' g → F g ∨ w.heap.size ≤ g

set_option maxHeartbeats 3200000 in
set_option maxRecDepth 100000 in
theorem split_any (w : World) (F : Nat → Prop) (x : Nat) (lv : Value) (rs : List BlkR) (h : IdxAt w F x lv rs) (i : Nat) (r : BlkR) (hr : rs[i]? = some r) (hrl : 24 < r.l.length) (hfew : rs.length ≤ (marks rs).length) :
    Calls Try.prog 73 #[.pointer (some ⟨x, 0, none⟩), .int .i64 i] w (SplitPost F w x rs) := by
  have hsm := h.small
  have hrm := List.mem_of_getElem? hr
  have hil : i < rs.length := (List.getElem?_eq_some_iff.1 hr).1
  have hlr := len_le_marks hrm
  obtain ⟨hcb, hob⟩ := h.blk r hrm
  have c2 : w.cell? ⟨x, 2, none⟩ = some lv := h.head.cell 2
  obtain ⟨g, cap, hlv, hp, b0, b1, hcap, hcm⟩ := h.block hr
  obtain ⟨gr, cr, cur, hv, hgr, hn1, hn2, hn3, hn4⟩ := hob.row (by omega)
  have hmn : rs.length ≤ 9223372036854775807 := by simp only [maxLen] at hcm; omega
  have hcr : cr ≤ 9223372036854775807 := by simp only [maxLen] at hn2; omega
  have hcl : ∀ j u, ((r.l.drop 24).map Value.bool)[j]? = some u → w.cell? ((⟨gr, 24, none⟩ : Addr).add j) = some u := fun j u hu => by
    rw [addr_add, cell_of_row w gr _ _ _ (0, 0) hgr]
    rw [List.map_drop, List.getElem?_drop, ← hn4, List.getElem?_take] at hu
    split at hu
    · simpa using hu
    · cases hu
  subst hlv
  rw [hv] at b0
  have z1 : ¬ (cr = 24) := by omega
  have hclone := cloneB_some w ⟨gr, 24, none⟩ (r.l.length - 24) (cr - 24) ((r.l.drop 24).map Value.bool) (by simp) hcl (oneCell_bools _) (by omega)
  go_enter Try.func73, Try.ntmps73
  go_wp2_with fail
  refine hclone.mono ?_
  rintro e w2 ⟨v2, rfl, hrow2, hk2, hnew2⟩
  have hys : (r.l.drop 24).length = r.l.length - 24 := by simp
  obtain ⟨A2, cc2, hv2⟩ := hrow2.slice
  have hel : ∀ q, q < r.l.length - 24 → ∃ g2, A2 = some ⟨g2, 0, none⟩ ∧ g2 < w2.heap.size ∧ w2.cell? ⟨g2, q, none⟩ = some (.bool ((r.l.drop 24).getD q false)) := by
    intro q hq
    rcases hrow2.form with ⟨_, e, _⟩ | ⟨g2, cap2, e, hlt, _, _, hc2, _⟩
    · omega
    · rw [hv2] at e; cases e
      refine ⟨g2, rfl, hlt, ?_⟩
      rw [hc2 q (by omega), List.map_drop, List.getElem?_drop]
      simp [List.getD, show 24 + q < r.l.length by omega]
  subst hv2
  obtain ⟨HB, hHB⟩ : ∃ HB, HB = w2.heap.size := ⟨_, rfl⟩
  have hnew : Cells (w2.alloc (.cells #[.slice A2 (r.l.length - 24) cc2, .int .i64 0] 99)) HB 99 [.slice A2 (r.l.length - 24) cc2, .int .i64 0] := by
    rw [hHB]; exact Cells.new w2 [_, _] _
  rw [hHB] at hnew
  go_wp2_with fail
  go_loopw [28] (fun t28 wr => ∃ q : Nat, q ≤ r.l.length - 24 ∧ t28 = .int .i64 q ∧ Cells wr w2.heap.size 99 [.slice A2 (r.l.length - 24) cc2, .int .i64 ((cnt ((r.l.drop 24).take q) : Nat) : Int)] ∧ Keeps NoB w2 wr) (fun t28 _ => (r.l.length - 24) - (intOf t28).toNat)
  case atStart => exact ⟨0, Nat.zero_le _, rfl, by simpa [cnt] using hnew, (Keeps.refl _ _).alloc _⟩
  case round =>
    obtain ⟨q, hq, rfl, hcell, hkr⟩ := hrel
    have k0 := hcell.cell 0
    have k1 := hcell.cell 1
    have f1 := hcell.frozen 1
    simp only [List.getElem?_cons_zero, List.getElem?_cons_succ] at k0 k1
    by_cases hlt : q < r.l.length - 24
    · obtain ⟨g2, rfl, hg2, he⟩ := hel q hlt
      have he' : wr.cell? ⟨g2, q, none⟩ = some (.bool ((r.l.drop 24).getD q false)) := by rw [hkr.cell hg2 (fun e => e)]; exact he
      have hs := cnt_take_succ (r.l.drop 24) q (by omega)
      have hqb := cnt_le ((r.l.drop 24).take q)
      have hql : ((r.l.drop 24).take q).length ≤ q := List.length_take_le _ _
      generalize hbq : (r.l.drop 24).getD q false = bq at *
      obtain ⟨s3, s4⟩ := bi_bd bq
      have hsum : (cnt ((r.l.drop 24).take q) : Int) + bi bq = ((cnt ((r.l.drop 24).take (q + 1)) : Nat) : Int) := by rw [hs]; cases bq <;> simp [bi]
      have HS := Lib.hid hsum
      have hwr : IntKind.i64.wrap ((cnt ((r.l.drop 24).take q) : Int) + bi bq) = (cnt ((r.l.drop 24).take q) : Int) + bi bq := by rw [IntKind.wrap_i64]; omega
      clear hs hbq he hel hsum
      go_wp2
      go_region_with (go_at_call 50; refine (one_bi _ _).mono ?_; rintro e w' ⟨rfl, rfl⟩)
      all_goals
        clear hwr
        go_wp2
        go_roundw
        case rel =>
          refine ⟨q + 1, by omega, by go_num, ?_, ((hkr.setCell (p := ⟨w2.heap.size, 1, none⟩) (.inr (Nat.le_refl _)) _)).drew⟩
          have := (hcell.set 1 (.int .i64 ((cnt ((r.l.drop 24).take q) : Int) + bi bq))).drew
          rw [HS.out] at this
          simpa [HS.out] using this
        case measure => simp [intOf]; omega
    · obtain rfl : q = r.l.length - 24 := by omega
      have hfull : (r.l.drop 24).take (r.l.length - 24) = r.l.drop 24 := List.take_of_length_le (by simp)
      rw [hfull] at k1 hcell
      have hkw : Keeps NoB w wr := hk2.trans ⟨hkr.os, hkr.tape, hkr.output, hkr.size, fun k hk hf => hkr.block k hk hf⟩
      have hcbw := hcb.keep hkw (fun e => e)
      have b0w := hcbw.cell 0
      have b1w := hcbw.cell 1
      have f0w := hcbw.frozen 0
      have f1w := hcbw.frozen 1
      simp only [List.getElem?_cons_zero, List.getElem?_cons_succ] at b0w b1w
      rw [hv] at b0w
      have hne : r.a ≠ w2.heap.size := by have := hcb.lt; have := hk2.size; omega
      have hcd : cnt r.l = cnt (r.l.take 24) + cnt (r.l.drop 24) := by rw [← cnt_append, List.take_append_drop]
      have hcl2 := cnt_le r.l
      have hwr : IntKind.i64.wrap ((cnt r.l : Int) - (cnt (r.l.drop 24) : Int)) = (cnt r.l : Int) - (cnt (r.l.drop 24) : Int) := by rw [IntKind.wrap_i64]; omega
      have y1 : (0 : Int) ≤ 24 := by omega
      have y2 : (24 : Int) ≤ (cr : Int) := by omega
      have y3 : 24 ≤ cr := by omega
      have c2w : wr.cell? ⟨x, 2, none⟩ = some (.slice (some ⟨g, 0, none⟩) rs.length cap) := by rw [hkw.cell h.head.lt (fun e => e)]; exact c2
      have f2w : wr.frozen? ⟨x, 2, none⟩ = false := by rw [hkw.frozen h.head.lt (fun e => e)]; exact h.head.frozen 2
      have hxr : r.a ≠ x := fun e => hcb.ne h.head (by decide) e
      have hxh : w2.heap.size ≠ x := by have := h.head.lt; have := hk2.size; omega
      have hil2 : (i : Int) + 1 ≤ 9223372036854775807 := by omega
      have PACK := Lib.hid (And.intro hv (And.intro h (And.intro hr (And.intro hkw (And.intro hcell (And.intro hrow2 (And.intro hcbw (And.intro hob (And.intro hcd (And.intro hnew2 (And.intro hgr (And.intro hn3 (And.intro hn4 (And.intro hk2 hkr))))))))))))))
      clear hcd hel hcl hfull hclone hp b0 b1 c2 hys h hr hkw hcell hrow2 hcbw hob hnew2 hnew hk2 hkr hcb hrm hlr hsm hv hgr hn2 hn3 hn4 hHB hcap hcm hil hmn k0 f1 hlt hq
      go_wp2
      refine wpD_begin (n := 23) (l := [false, false, false, false, false, false, false, false, false, false, false, false, false, false, false, false, false, false, false, false, false, false, false].toArray) [17, 18, 19, 20, 21, 22] (fun w' => w'.cell? ⟨r.a, 0, none⟩ = some (.slice (some ⟨gr, 0, none⟩) r.l.length cr) ∧ w'.cell? ⟨r.a, 1, none⟩ = some (.int .i64 (cnt r.l)) ∧ w'.cell? ⟨w2.heap.size, 1, none⟩ = some (.int .i64 (cnt (r.l.drop 24)))) (by kernel_rfl) (by kernel_rfl) (by kernel_rfl) ?_ (fun hS => ?_)
      · go_keep
      try dsimp only at hS
      refine wpD_takeL (i := 0) (v := ?v0) rfl (by kernel_rfl) (by kernel_rfl) (by kernel_rfl) (fun _ _ _ h => h) (Or.inl ⟨by rfl, ?hy0⟩) ?_
      case hy0 => (intro w; go_simp; try with_reducible rfl)
      simp only [Act.put, List.setIfInBounds_toArray, List.set_cons_zero, List.set_cons_succ]
      refine wpD_takeL (i := 1) (v := ?v1) rfl (by kernel_rfl) (by kernel_rfl) (by kernel_rfl) (fun _ _ _ h => h) (Or.inl ⟨by rfl, ?hy1⟩) ?_
      case hy1 => (intro w; go_simp; try with_reducible rfl)
      simp only [Act.put, List.setIfInBounds_toArray, List.set_cons_zero, List.set_cons_succ]
      refine wpD_takeL (i := 2) (v := ?v2) rfl (by kernel_rfl) (by kernel_rfl) (by kernel_rfl) (fun _ _ _ h => h) (Or.inl ⟨by rfl, ?hy2⟩) ?_
      case hy2 => (intro w; go_simp; try with_reducible rfl)
      simp only [Act.put, List.setIfInBounds_toArray, List.set_cons_zero, List.set_cons_succ]
      refine wpD_takeL (i := 3) (v := ?v3) rfl (by kernel_rfl) (by kernel_rfl) (by kernel_rfl) (fun _ _ _ h => h) (Or.inl ⟨by rfl, ?hy3⟩) ?_
      case hy3 => (intro w; go_simp; try with_reducible rfl)
      simp only [Act.put, List.setIfInBounds_toArray, List.set_cons_zero, List.set_cons_succ]
      refine wpD_takeL (i := 4) (v := ?v4) rfl (by kernel_rfl) (by kernel_rfl) (by kernel_rfl) (fun _ _ _ h => h) (Or.inl ⟨by rfl, ?hy4⟩) ?_
      case hy4 => (intro w; go_simp; try with_reducible rfl)
      simp only [Act.put, List.setIfInBounds_toArray, List.set_cons_zero, List.set_cons_succ]
      refine wpD_takeL (i := 8) (v := ?v8) rfl (by kernel_rfl) (by kernel_rfl) (by kernel_rfl) (fun _ _ _ h => h) (Or.inl ⟨by rfl, ?hy8⟩) ?_
      case hy8 => (intro w; go_simp; try with_reducible rfl)
      simp only [Act.put, List.setIfInBounds_toArray, List.set_cons_zero, List.set_cons_succ]
      refine wpD_takeL (i := 9) (v := ?v9) rfl (by kernel_rfl) (by kernel_rfl) (by kernel_rfl) (fun _ _ _ h => h) (Or.inl ⟨by rfl, ?hy9⟩) ?_
      case hy9 => (intro w; go_simp; try with_reducible rfl)
      simp only [Act.put, List.setIfInBounds_toArray, List.set_cons_zero, List.set_cons_succ]
      refine wpD_takeL (i := 10) (v := ?v10) rfl (by kernel_rfl) (by kernel_rfl) (by kernel_rfl) (fun _ _ _ h => h) (Or.inl ⟨by rfl, ?hy10⟩) ?_
      case hy10 => (intro w; go_simp; try with_reducible rfl)
      simp only [Act.put, List.setIfInBounds_toArray, List.set_cons_zero, List.set_cons_succ]
      refine wpD_takeL (i := 12) (v := ?v12) rfl (by kernel_rfl) (by kernel_rfl) (by kernel_rfl) (fun _ _ _ h => h) (Or.inl ⟨by rfl, ?hy12⟩) ?_
      case hy12 => (intro w; go_simp; try with_reducible rfl)
      simp only [Act.put, List.setIfInBounds_toArray, List.set_cons_zero, List.set_cons_succ]
      refine wpD_takeL (i := 13) (v := ?v13) rfl (by kernel_rfl) (by kernel_rfl) (by kernel_rfl) (fun _ _ _ h => h) (Or.inl ⟨by rfl, ?hy13⟩) ?_
      case hy13 => (intro w; go_simp; try with_reducible rfl)
      simp only [Act.put, List.setIfInBounds_toArray, List.set_cons_zero, List.set_cons_succ]
      refine wpD_takeL (i := 14) (v := ?v14) rfl (by kernel_rfl) (by kernel_rfl) (by kernel_rfl) (fun _ _ _ h => h) (Or.inl ⟨by rfl, ?hy14⟩) ?_
      case hy14 => (intro w; go_simp; try with_reducible rfl)
      simp only [Act.put, List.setIfInBounds_toArray, List.set_cons_zero, List.set_cons_succ]
      refine wpD_loadL (i := 5) (v := ?v5) rfl (by kernel_rfl) (by kernel_rfl) (by kernel_rfl) (by kernel_rfl) (fun _ _ _ h => h) (Or.inl ⟨by rfl, ?hy5⟩) hS ?_
      case hy5 => (intro w hSw; (try dsimp only at hSw); go_simp; try with_reducible rfl)
      simp only [Act.put, List.setIfInBounds_toArray, List.set_cons_zero, List.set_cons_succ]
      refine wpD_takeL (i := 6) (v := ?v6) rfl (by kernel_rfl) (by kernel_rfl) (by kernel_rfl) (fun _ _ _ h => h) (Or.inl ⟨by rfl, ?hy6⟩) ?_
      case hy6 => (intro w; go_simp; try with_reducible rfl)
      simp only [Act.put, List.setIfInBounds_toArray, List.set_cons_zero, List.set_cons_succ]
      refine wpD_loadL (i := 11) (v := ?v11) rfl (by kernel_rfl) (by kernel_rfl) (by kernel_rfl) (by kernel_rfl) (fun _ _ _ h => h) (Or.inl ⟨by rfl, ?hy11⟩) hS ?_
      case hy11 => (intro w hSw; (try dsimp only at hSw); go_simp; try with_reducible rfl)
      simp only [Act.put, List.setIfInBounds_toArray, List.set_cons_zero, List.set_cons_succ]
      refine wpD_loadL (i := 15) (v := ?v15) rfl (by kernel_rfl) (by kernel_rfl) (by kernel_rfl) (by kernel_rfl) (fun _ _ _ h => h) (Or.inl ⟨by rfl, ?hy15⟩) hS ?_
      case hy15 => (intro w hSw; (try dsimp only at hSw); go_simp; try with_reducible rfl)
      simp only [Act.put, List.setIfInBounds_toArray, List.set_cons_zero, List.set_cons_succ]
      refine wpD_takeL (i := 16) (v := ?v16) rfl (by kernel_rfl) (by kernel_rfl) (by kernel_rfl) (fun _ _ _ h => h) (Or.inl ⟨by rfl, ?hy16⟩) ?_
      case hy16 => (intro w; go_simp; try with_reducible rfl)
      simp only [Act.put, List.setIfInBounds_toArray, List.set_cons_zero, List.set_cons_succ]
      -- MID 7: F82 slices.Clip[[]bool,bool](t48)
      refine wpD_mid (i := 7) (by kernel_rfl) rfl (fun K hK => ?_)
      go_simp
      go_at_call 82
      refine (clipB_any _ _ _ _ (by omega)).mono ?_
      rintro e w' ⟨rfl, rfl⟩
      refine hK.out _ _ (fun hSw => hSw) ?_
      clear hK K
      simp only [List.setIfInBounds_toArray, List.set_cons_zero, List.set_cons_succ]
      refine wpD_tail 17 [17, 18, 19, 20, 21, 22] (by kernel_rfl) (by kernel_rfl) ?_
      simp only [List.drop_succ_cons, List.drop_zero]
      go_wp2_with fail
      obtain ⟨hv, h, hr, hkw, hcell, hrow2, hcbw, hob, hcd, hnew2, hgr, hn3, hn4, hk2, hkr⟩ := PACK.out
      clear PACK
      have hil := (List.getElem?_eq_some_iff.1 hr).1
      have hrm := List.mem_of_getElem? hr
      have hsm := h.small
      have hle : rs.length ≤ 9223372036854775807 := h.row.small
      have e0 : (i : Int) + 1 = ((i + 1 : Nat) : Int) := by omega
      have hcnt : (cnt r.l : Int) - (cnt (r.l.drop 24) : Int) = ((cnt (r.l.take 24) : Nat) : Int) := by omega
      have hgx : g ≠ x := fun e => h.head.ne_row h.row (by decide) (by simp [Value.ownBlock, e])
      have hgr' : g ≠ r.a := fun e => (h.blk r hrm).1.ne_row h.row (by decide) (by simp [Value.ownBlock, e])
      have hglt : g < w.heap.size := h.row.lt g (by simp [Value.ownBlock])
      have hsz1 := hkw.size
      have hk3 : Keeps (fun b => b = r.a) wr ((((wr.setCell ⟨r.a, 0, none⟩ (.slice (some ⟨gr, 0, none⟩) 24 24)).setCell ⟨r.a, 1, none⟩ (.int .i64 ((cnt r.l : Int) - (cnt (r.l.drop 24) : Int)))).alloc (.cells #[.pointer (some ⟨w2.heap.size, 0, none⟩)] 97)).drew) :=
        ((((Keeps.refl (fun b => b = r.a) wr).setCell (p := ⟨r.a, 0, none⟩) (.inl rfl) _).setCell (p := ⟨r.a, 1, none⟩) (.inl rfl) _).alloc _).drew
      have hrow3 := (h.row.keep hkw (fun _ _ e => e)).keep hk3 (fun g' hg' e => by simp [Value.ownBlock] at hg'; omega)
      have hcell3 := hcell.keep hk3 (fun e => hne e.symm)
      have hc3 := ((((hcbw.set 0 (.slice (some ⟨gr, 0, none⟩) 24 24)).set 1 (.int .i64 ((cnt r.l : Int) - (cnt (r.l.drop 24) : Int)))).alloc (.cells #[.pointer (some ⟨w2.heap.size, 0, none⟩)] 97))).drew
      have hx3 := (h.head.keep hkw (fun e => e)).keep hk3 (fun e => hxr e.symm)
      have hnew3 : Cells ((((wr.setCell ⟨r.a, 0, none⟩ (.slice (some ⟨gr, 0, none⟩) 24 24)).setCell ⟨r.a, 1, none⟩ (.int .i64 ((cnt r.l : Int) - (cnt (r.l.drop 24) : Int)))).alloc (.cells #[.pointer (some ⟨w2.heap.size, 0, none⟩)] 97)).drew) wr.heap.size 97 [.pointer (some ⟨w2.heap.size, 0, none⟩)] := by
        have := (Cells.new ((wr.setCell ⟨r.a, 0, none⟩ (.slice (some ⟨gr, 0, none⟩) 24 24)).setCell ⟨r.a, 1, none⟩ (.int .i64 ((cnt r.l : Int) - (cnt (r.l.drop 24) : Int)))) [.pointer (some ⟨w2.heap.size, 0, none⟩)] 97).drew
        simpa [World.setCell] using this
      rw [e0]
      obtain ⟨W3, hW3⟩ : ∃ W3, W3 = ((((wr.setCell ⟨r.a, 0, none⟩ (.slice (some ⟨gr, 0, none⟩) 24 24)).setCell ⟨r.a, 1, none⟩ (.int .i64 ((cnt r.l : Int) - (cnt (r.l.drop 24) : Int)))).alloc (.cells #[.pointer (some ⟨w2.heap.size, 0, none⟩)] 97)).drew) := ⟨_, rfl⟩
      rw [← hW3] at hk3 hrow3 hcell3 hc3 hx3 hnew3 ⊢
      clear hW3
      go_at_call 83
      refine (insP_any W3 _ rs.length (i + 1) (rs.map fun r => .pointer (some ⟨r.a, 0, none⟩)) [.pointer (some ⟨w2.heap.size, 0, none⟩)] hrow3 ?_ (by omega) wr.heap.size hnew3 rfl ?_ ?_ ?_).mono ?_
      · intro v hv'
        obtain ⟨b, _, rfl⟩ := List.mem_map.1 hv'
        rfl
      · intro v hv'
        obtain rfl : v = _ := by simpa using hv'
        rfl
      · simp [Value.ownBlock]; omega
      · omega
      rintro e w4 ⟨v4, rfl, hrow4, hk4, hown4⟩
      obtain ⟨A4, c4, rfl⟩ := hrow4.slice
      have hx4 := hx3.keep hk4 (fun e => by simp [Value.ownBlock] at e; omega)
      have hc4 := hc3.keep hk4 (fun e => by simp [Value.ownBlock] at e; omega)
      have hcell4 := hcell3.keep hk4 (fun e => by simp [Value.ownBlock] at e; have := hk2.size; omega)
      have x2 := hx4.cell 2
      have x2f := hx4.frozen 2
      simp only [List.getElem?_cons_zero, List.getElem?_cons_succ] at x2
      have PACK := Lib.hid (And.intro hx4 (And.intro hc4 (And.intro hcell4 (And.intro hrow4 (And.intro hk4 (And.intro hown4 (And.intro hk3 (And.intro h (And.intro hr (And.intro hkw (And.intro hrow2 (And.intro hkr (And.intro hob (And.intro hv (And.intro hcnt hnew2)))))))))))))))
      clear hsm hle hS c2w f2w k1 b0w b1w f0w f1w hwr e0 hx4 hc4 hcell4 hrow4 hk4 hown4 hk3 h hr hkw hrow2 hkr hob hv hcnt hcell hcbw hcd hnew2 hx3 hc3 hcell3 hrow3 hnew3
      go_wp2_with fail
      go_end0
      obtain ⟨hx4, hc4, hcell4, hrow4, hk4, hown4, hk3, h, hr, hkw, hrow2, hkr, hob, hv, hcnt, hnew2⟩ := PACK.out
      have hii : rs = rs.take i ++ r :: rs.drop (i + 1) := by
        have e := List.drop_eq_getElem_cons hil
        rw [(List.getElem?_eq_some_iff.1 hr).2] at e
        rw [← e, List.take_append_drop]
      obtain ⟨LA, hLA⟩ : ∃ LA, LA = rs.take i := ⟨_, rfl⟩
      obtain ⟨LB, hLB⟩ : ∃ LB, LB = rs.drop (i + 1) := ⟨_, rfl⟩
      have hlenA : LA.length = i := by rw [hLA, List.length_take]; omega
      have hlenB : LA.length + 1 + LB.length = rs.length := by rw [hlenA, hLB, List.length_drop]; omega
      rw [← hLA, ← hLB] at hii
      clear hLA hLB
      subst hii
      subst hlenA
      have hsz4 := hk4.size
      have hsz3 := hk3.size
      have hsz2 := hk2.size
      have hcbx := (h.blk r (by simp)).1
      have hrlt := hcbx.lt
      have hxlt := h.head.lt
      have hgrlt : gr < w.heap.size := (Array.getElem?_eq_some_iff.1 hgr).1
      have hgrx : gr ≠ x := fun e => h.head.ne_row hob (by decide) (by rw [hv]; simp [Value.ownBlock, e])
      have hgrr : gr ≠ r.a := fun e => hcbx.ne_row hob (by decide) (by rw [hv]; simp [Value.ownBlock, e])
      have hgrg : gr ≠ g := fun e => hob.ne_row h.row (by decide) gr (by rw [hv]; simp [Value.ownBlock]) (by simp [Value.ownBlock, e])
      have hkx : Keeps (fun k => k = x) w4 (w4.setCell ⟨x, 2, none⟩ (.slice A4 ((LA ++ r :: LB).length + 1) c4)) := (Keeps.refl (fun k => k = x) w4).setCell (.inl rfl) _
      have hkS : w.heap.size ≤ (w4.setCell ⟨x, 2, none⟩ (.slice A4 ((LA ++ r :: LB).length + 1) c4)).heap.size := by have := hkx.size; omega
      have hoth : ∀ k, k < w.heap.size → k ≠ x → k ≠ r.a → k ≠ g → (w4.setCell ⟨x, 2, none⟩ (.slice A4 ((LA ++ r :: LB).length + 1) c4)).heap[k]? = w.heap[k]? := fun k h1 h2 h3 h4 => by
        rw [hkx.block k (by omega) h2, hk4.block k (by omega) (fun e => by simp [Value.ownBlock] at e; omega), hk3.block k (by omega) h3, hkw.block k h1 (fun e => e)]
      have hoth2 : ∀ k, k < w2.heap.size → k ≠ x → k ≠ r.a → k ≠ g → (w4.setCell ⟨x, 2, none⟩ (.slice A4 ((LA ++ r :: LB).length + 1) c4)).heap[k]? = w2.heap[k]? := fun k h1 h2 h3 h4 => by
        have := hkr.size
        rw [hkx.block k (by omega) h2, hk4.block k (by omega) (fun e => by simp [Value.ownBlock] at e; omega), hk3.block k (by omega) h3, hkr.block k h1 (fun e => e)]
      have hl24 : (r.l.take 24).length = 24 := by simp; omega
      have hc := IdxAt.cut (W := w4.setCell ⟨x, 2, none⟩ (.slice A4 ((LA ++ r :: LB).length + 1) c4)) (lv' := .slice A4 ((LA ++ r :: LB).length + 1) c4) (v1 := .slice (some ⟨gr, 0, none⟩) 24 24) (v2 := .slice A2 (r.l.length - 24) cc2) (HB := w2.heap.size) (l1 := r.l.take 24) (l2 := r.l.drop 24)
        h (List.take_append_drop 24 r.l) ?_ ?_ ?_ ?_ ?_ hnew2 ?_ ?_ hkS ?_
      · exact ⟨rfl, ((((hkw.mono (G := F) (fun _ _ e => False.elim e)).then hk3 (fun k e => .inl (e ▸ (h.fblk r (by simp)).1))).then hk4 (fun k e => .inl (h.frow k e))).setCell (p := ⟨x, 2, none⟩) (.inl h.fx) _), _, _, _, hc.1, hc.2.1, by simp; omega, hc.2.2⟩
      · exact hx4.set 2 _
      · have hr5 := hrow4.kept (w' := w4.setCell ⟨x, 2, none⟩ (.slice A4 ((LA ++ r :: LB).length + 1) c4)) (fun k hk => hkx.block k (hrow4.lt k hk) (fun e => hx4.ne_row hrow4 (by decide) (by rw [hk, e])))
        have e1 : (LA ++ r :: LB).length + 1 = LA.length + 2 + LB.length := by simp; omega
        rw [e1] at hr5 ⊢
        have e2 : (((LA ++ r :: LB).map fun r => Value.pointer (some ⟨r.a, 0, none⟩)).take ((LA.length + 1) * 1) ++ [Value.pointer (some ⟨w2.heap.size, 0, none⟩)] ++ ((LA ++ r :: LB).map fun r => Value.pointer (some ⟨r.a, 0, none⟩)).drop ((LA.length + 1) * 1)) =
            (LA.map fun r => Value.pointer (some ⟨r.a, 0, none⟩)) ++ Value.pointer (some ⟨r.a, 0, none⟩) :: Value.pointer (some ⟨w2.heap.size, 0, none⟩) :: (LB.map fun r => Value.pointer (some ⟨r.a, 0, none⟩)) := by
          simp [List.take_append, List.drop_append, List.take_of_length_le, List.drop_eq_nil_of_le]
        rw [e2] at hr5
        exact hr5
      · refine ⟨?_, ?_⟩
        · have := hc4.other (a := ⟨x, 2, none⟩) hxr (.slice A4 ((LA ++ r :: LB).length + 1) c4)
          rw [hcnt] at this
          exact this
        · rw [hl24]
          have := Row.mk (w := w4.setCell ⟨x, 2, none⟩ (.slice A4 ((LA ++ r :: LB).length + 1) c4)) (e := 4) (size := 1) (n := 24) (cap := 24) (g := gr) (cur := cur) (by rw [hoth gr hgrlt hgrx hgrr hgrg]; exact hgr) (Nat.le_refl _) (by decide) (by omega)
          have e2 : cur.take (24 * 1) = (r.l.take 24).map Value.bool := by
            rw [List.map_take, ← hn4, List.take_take]
            congr 1; omega
          rw [e2] at this
          exact this
      · refine ⟨hcell4.other (a := ⟨x, 2, none⟩) hxh _, ?_⟩
        rw [List.length_drop]
        exact hrow2.kept fun k hk => hoth2 k (hrow2.lt k hk) (by have := hnew2 k hk; omega) (by have := hnew2 k hk; omega) (by have := hnew2 k hk; omega)
      · rw [hv]; rfl
      · exact hsz2
      · rcases hown4 with e | ⟨k, e, hk⟩
        · exact .inl e
        · exact .inr ⟨k, e, by omega⟩
      · intro k h1 h2 h3 h4
        exact hoth k h1 h2 h3 (fun e => h4 (by simp [Value.ownBlock, e]))
end Go.Proofs.Ytoddohhhhnahnaa
