/- slices.Insert of one value into a slice of one's own: the four ways that the library takes. -/
import Derived.Test.YtoddohhhhnahnaaRows
import Derived.Test.YtoddohhhhnahnaaK2
namespace Go.Proofs.Ytoddohhhhnahnaa
open Go.RowKit

theorem insE_info : (Try.prog.info? 83).map (fun i => (i.zero, i.size, i.bytes)) = some (some (.agg #[.int .i64 0, .int .i64 0, .int .i32 0, .bool false]), 4, 24) := by kernel_rfl

/-- What comes back: a slice of one's own, in the old row or a new one. -/
def InsEPost (w : World) (sv : Value) (n : Nat) (ys : List Value) (e : Ending) (w' : World) : Prop :=
  ∃ v', e = .returned v' ∧ Row w' 83 4 v' (n + 1) ys ∧ Keeps (fun g => sv.ownBlock = some g) w w' ∧ (v'.ownBlock = sv.ownBlock ∨ ∃ g, v'.ownBlock = some g ∧ w.heap.size ≤ g)

set_option maxHeartbeats 1600000 in
set_option maxRecDepth 100000 in
theorem insE_end (w : World) (sv : Value) (n : Nat) (xs news : List Value) (h : Row w 83 4 sv n xs) (vb : Nat) (hv : Cells w vb 83 news) (hnl : news.length = 4) (h1v : ∀ v ∈ news, v.oneCell' = true) (hbig : (n + 1) * 24 ≤ 140737488355328) :
    Calls Try.prog 57 #[sv, .int .i64 n, .slice (some ⟨vb, 0, none⟩) 1 1] w (InsEPost w sv n (xs ++ news)) := by
  obtain ⟨i0, hi, hz0, hz1, hz2⟩ := info_parts insE_info
  have hnews : ∀ j u, news[j]? = some u → w.cell? ((⟨vb, 0, none⟩ : Addr).add j) = some u := fun j u hu => by
    rw [addr_add0, hv.cell, hu]
  have hn63 : n ≤ 140737488355328 := by omega
  obtain ⟨A, c, hsv⟩ := h.slice
  have hcn : c = n ∨ ¬ c = n := by omega
  have hnc : n ≤ c ∧ (A = none → n = 0) := by
    rcases h.form with ⟨e, e2, _⟩ | ⟨g, cap, e, _, e2, _⟩
    · rw [hsv] at e; cases e; exact ⟨by omega, fun _ => rfl⟩
    · rw [hsv] at e; cases e; exact ⟨e2, fun h => by cases h⟩
  obtain ⟨hnc, hA⟩ := hnc
  subst hsv
  rcases hcn with hcn | hcn
  all_goals
    have Hc := Lib.hid hcn
    have HA := Lib.hid hA
    clear hA
    go_enter Try.func57, Try.ntmps57
    go_wp2_with (at_builtin; refine wpList_append_row rfl (.tmp 23) (.tmp 24) 69 rfl 83 i0 (.agg #[.int .i64 0, .int .i64 0, .int .i32 0, .bool false]) 4 24 Try.underlying69 hi hz0 hz1 hz2 rfl (by decide) _ n xs rfl h ⟨vb, 0, none⟩ 1 1 news rfl (by rw [hnl]) hnews h1v hbig (by decide) ?_; intro v' w1 hown hkeep hat)
    all_goals
      go_ret
      refine ⟨v', rfl, hown, hkeep, ?_⟩
      rcases hat with e | e
      · exact .inl e
      · exact .inr ⟨_, e, Nat.le_refl _⟩

set_option maxHeartbeats 3200000 in
set_option maxRecDepth 100000 in
/-- There is room. -/
theorem insE_shift (w : World) (g n c i : Nat) (xs news cur : List Value) (hcur : w.heap[g]? = some (.cells cur.toArray 83 (0, 0))) (hnc : n + 1 ≤ c) (hc : c ≤ maxLen) (hcl : c * 4 ≤ cur.length) (hx : cur.take (n * 4) = xs) (h1c : ∀ v ∈ xs, v.oneCell' = true) (hi : i < n)
    (vb : Nat) (hv : Cells w vb 83 news) (hnl : news.length = 4) (h1v : ∀ v ∈ news, v.oneCell' = true) (hne : vb ≠ g) :
    Calls Try.prog 57 #[.slice (some ⟨g, 0, none⟩) n c, .int .i64 i, .slice (some ⟨vb, 0, none⟩) 1 1] w (InsEPost w (.slice (some ⟨g, 0, none⟩) n c) n (xs.take (i * 4) ++ news ++ xs.drop (i * 4))) := by
  have hxl : xs.length = n * 4 := by rw [← hx, List.length_take]; omega
  have hnews : ∀ j u, news[j]? = some u → w.cell? ((⟨vb, 0, none⟩ : Addr).add j) = some u := fun j u hu => by
    rw [addr_add0, hv.cell, hu]
  have hc63 : c ≤ 9223372036854775807 := by simp only [maxLen] at hc; omega
  have hsz : (Try.prog.info? 83).map (·.size) = some 4 := by kernel_rfl
  have hov : ∀ (of lb cb : Nat), (callFunc 70 #[.slice (some ⟨vb, 0, none⟩) 1 1, .slice (some ⟨g, of, none⟩) lb cb]).run Try.prog w = .ok (.value (.bool false)) w := fun of lb cb => by
    rw [run_callFunc_extern Try.func70 (by kernel_rfl) (by kernel_rfl) (by kernel_rfl) (e := Extern.SlicesOverlaps.overlaps #[69, 69] #[4]) (by kernel_rfl),
      Lib.run_overlaps_apart w 69 4 83 Try.underlying69 4 (fun _ => by kernel_rfl) ⟨vb, 0, none⟩ ⟨g, of, none⟩ 1 1 lb cb hne 83 83 news.length cur.length (by unfold Cells at hv; simp [World.shape?, hv]) (by simp [World.shape?, hcur]) (by omega) (hv.frozen 0) (hv.frozen _)]
    rfl
  have z1 : ¬ (c = i) := by omega
  have z2 : ¬ (c = i + 1) := by omega
  have z3 : (i : Int) ≤ n := by omega
  have z4 : ((i : Int) == n) = false := by simp; omega
  have z5 : (i : Int) + 1 ≤ (n : Int) + 1 := by omega
  have z6 : ((i : Int) + 1).toNat = i + 1 := by omega
  have z7 : ((n : Int) + 1).toNat = n + 1 := by omega
  have z8 : IntKind.i64.wrap ((i : Int) + 1) = (i : Int) + 1 := by rw [IntKind.wrap_i64]; omega
  have z9 : (0 : Int) ≤ (i : Int) + 1 := by omega
  have za : (i : Int) ≤ (n : Int) + 1 := by omega
  have zb : i ≤ n := by omega
  have q1 : n - i = Nat.min (n + 1 - i) (n - i) := (Nat.min_eq_right (by omega)).symm
  have q2 : (xs.drop (i * 4)).length = (n - i) * 4 := by rw [List.length_drop, hxl]; omega
  have q3 : ∀ j v, (xs.drop (i * 4))[j]? = some v → w.drew.cell? ((⟨g, i * 4, none⟩ : Addr).add j) = some v := fun j v hj => by
    rw [addr_add]
    rw [List.getElem?_drop, ← hx, List.getElem?_take] at hj
    split at hj
    · exact (cell_of_row w g _ cur.toArray _ (0, 0) hcur).trans (by simpa using hj)
    · cases hj
  have q4 : (i + 1) * 4 + (xs.drop (i * 4)).length ≤ cur.length := by rw [q2]; omega
  have q5 : ∀ v ∈ xs.drop (i * 4), v.oneCell' = true := fun v hv => h1c v (List.mem_of_mem_drop hv)
  have HCL := Lib.hid hcl
  have HX0 := Lib.hid hx
  have HNL := Lib.hid hnl
  obtain ⟨X, hX⟩ : ∃ X, X = xs.drop (i * 4) := ⟨_, rfl⟩
  obtain ⟨YS, hYS⟩ : ∃ YS, YS = xs.take (i * 4) ++ news ++ X := ⟨_, rfl⟩
  rw [← hX] at q2 q3 q4 q5
  rw [← hX, ← hYS]
  have HX := Lib.hid hX
  have HYS := Lib.hid hYS
  have HQ2 := Lib.hid q2
  have HQ1 := Lib.hid q1
  clear hX hYS q1 q2 hxl hx hnl hcl
  go_enter Try.func57, Try.ntmps57
  go_wp2_with (simp only [hov])
  go_region_law (refine step_copy_k rfl (.tmp 73) (.tmp 76) 69 69 rfl 83 Try.underlying69 4 hsz (some ⟨g, (i + 1) * 4, none⟩) (some ⟨g, i * 4, none⟩) (n - i) (c - (i + 1)) (n + 1 - i) (c - i) (by simp [Act.eval, Act.put]) (by simp [Act.eval, Act.put]) g ((i + 1) * 4) cur 83 hcur (n - i) HQ1.out X HQ2.out (fun _ => ⟨rfl, _, rfl, q3⟩) q4 q5 ?_; intro w1 HG1 HK1)
  have hg1 := HG1.out
  have hv1 : Cells w1 vb 83 news := hv.kept (HK1.block vb hv.lt hne)
  have r1 : ∀ j v, news[j]? = some v → w1.cell? ((⟨vb, 0, none⟩ : Addr).add j) = some v := fun j v hj => by rw [addr_add0, hv1.cell]; exact hj
  have hsl : (splice cur ((i + 1) * 4) X).length = cur.length := length_splice _ _ _ q4
  have r2 : i * 4 + news.length ≤ (splice cur ((i + 1) * 4) X).length := by rw [hsl, HNL.out]; have := HCL.out; omega
  have HR2 := Lib.hid r2
  have hm : (1 : Nat) = Nat.min 1 (n + 1 - i) := (Nat.min_eq_left (by omega)).symm
  have HM := Lib.hid hm
  obtain ⟨CUR1, hC1⟩ : ∃ CUR1, CUR1 = splice cur ((i + 1) * 4) X := ⟨_, rfl⟩
  rw [← hC1] at hg1 HR2
  have HC1 := Lib.hid hC1
  clear hC1 HG1 q4 q5 hsl r2 hm
  go_wp2_with (with_reducible refine wpList_copy_k rfl (.tmp 80) (.tmp 81) 69 69 rfl 83 Try.underlying69 4 hsz (some ⟨g, i * 4, none⟩) (some ⟨vb, 0, none⟩) (n + 1 - i) (c - i) 1 1 (by simp [Act.eval]) rfl g (i * 4) CUR1 83 hg1 1 HM.out news (by rw [HNL.out]) (fun _ => ⟨rfl, _, rfl, r1⟩) HR2.out h1v ?_; intro w2 HG2 HK2)
  go_ret
  have hsz2 : news.length = 4 := HNL.out
  have hX : X = xs.drop (i * 4) := HX.out
  have hcurl : c * 4 ≤ cur.length := HCL.out
  have hg2 : w2.heap[g]? = some (.cells (splice (splice cur (i * 4 + news.length) (xs.drop (i * 4))) (i * 4) news).toArray 83 (0, 0)) := by
    have h := HG2.out
    rw [HC1.out, hX] at h
    rw [hsz2, ← Nat.succ_mul]; exact h
  have hlen : c * 4 ≤ (splice (splice cur (i * 4 + news.length) (xs.drop (i * 4))) (i * 4) news).length := by
    have hXl : (xs.drop (i * 4)).length = (n - i) * 4 := by rw [← hX]; exact HQ2.out
    have e1 : (splice cur (i * 4 + news.length) (xs.drop (i * 4))).length = cur.length := length_splice _ _ _ (by rw [hsz2, hXl]; omega)
    rw [length_splice _ _ _ (by rw [e1, hsz2]; omega), e1]; exact hcurl
  have hown := Row.mk (n := n + 1) hg2 hnc hc hlen
  have hput := splice_put cur xs news (i * 4) (n * 4) HX0.out (by omega) (by rw [hsz2]; omega)
  have hnk : (n + 1) * 4 = n * 4 + news.length := by rw [hsz2]; omega
  rw [hnk, hput] at hown
  refine ⟨_, rfl, ?_, ?_, .inl rfl⟩
  · rw [HYS.out, hX]; exact hown
  · refine (Keeps.refl _ w).trans (Keeps.trans (b := w1) ?_ ?_)
    · exact ⟨HK1.os, HK1.tape, HK1.output, HK1.size, fun k hk hf => HK1.block k hk (fun e => hf (by simp [Value.ownBlock, e]))⟩
    · exact HK2.mono fun k _ e => by simp [Value.ownBlock, e]

set_option maxHeartbeats 3200000 in
set_option maxRecDepth 100000 in
/-- There is none: a new row. -/
theorem insE_grow (w : World) (g n c i : Nat) (xs news cur : List Value) (hcur : w.heap[g]? = some (.cells cur.toArray 83 (0, 0))) (hnc : n ≤ c) (hroom : c < n + 1) (hcl : c * 4 ≤ cur.length) (hx : cur.take (n * 4) = xs) (h1c : ∀ v ∈ xs, v.oneCell' = true) (hi : i < n)
    (vb : Nat) (hv : Cells w vb 83 news) (hnl : news.length = 4) (h1v : ∀ v ∈ news, v.oneCell' = true) (hbig : (n + 1) * 24 ≤ 140737488355328) :
    Calls Try.prog 57 #[.slice (some ⟨g, 0, none⟩) n c, .int .i64 i, .slice (some ⟨vb, 0, none⟩) 1 1] w (InsEPost w (.slice (some ⟨g, 0, none⟩) n c) n (xs.take (i * 4) ++ news ++ xs.drop (i * 4))) := by
  obtain ⟨i0, hi0, hz0, hzs, hzb⟩ := info_parts insE_info
  have hxl : xs.length = n * 4 := by rw [← hx, List.length_take]; omega
  have hsz : (Try.prog.info? 83).map (·.size) = some 4 := by kernel_rfl
  have hn63 : n + 1 ≤ 140737488355328 := by omega
  obtain rfl : c = n := by omega
  have hkk : (c : Int) + 1 - (i : Int) = ((c + 1 - i : Nat) : Int) := by omega
  have hik : i + (c + 1 - i) = c + 1 := by omega
  have hglt : g < w.heap.size := (Array.getElem?_eq_some_iff.1 hcur).1
  have holdc : ∀ j v, (xs.take (i * 4))[j]? = some v → w.drew.cell? ((⟨g, 0, none⟩ : Addr).add j) = some v := fun j v hj => by
    rw [addr_add0]
    rw [List.getElem?_take] at hj
    split at hj
    · rw [← hx, List.getElem?_take] at hj
      split at hj
      · exact (cell_of_row w g _ cur.toArray _ (0, 0) hcur).trans (by simpa using hj)
      · cases hj
    · cases hj
  have hold : (Builtin.firstCells i0.size i (.slice (some ⟨g, 0, none⟩) i c)).run Try.prog w.drew = .ok (xs.take (i * 4)).toArray w.drew := by
    rw [hzs]
    exact run_firstCells_some w.drew 4 i ⟨g, 0, none⟩ i c _ (by rw [List.length_take, hxl]; omega) holdc
  obtain ⟨G, hG⟩ : ∃ G, G = grownCap w (c + 1) c 83 := ⟨_, rfl⟩
  obtain ⟨ROW, hROW⟩ : ∃ ROW : List Value, ROW = xs.take (i * 4) ++ (Builtin.zeroCells (Value.cells (.agg #[.int .i64 0, .int .i64 0, .int .i32 0, .bool false])) (c + 1 - i)).toList ++ (Builtin.zeroCells (Value.cells (.agg #[.int .i64 0, .int .i64 0, .int .i32 0, .bool false])) (G - (c + 1))).toList := ⟨_, rfl⟩
  have hrz : ∀ ty, (Builtin.append_ #[69, 3] ty #[.slice (some ⟨g, 0, none⟩) i c, .int .i64 ((c : Int) + 1 - (i : Int))]).run Try.prog w =
      .ok (.slice (some ⟨w.heap.size, 0, none⟩) (c + 1) G) (w.drew.alloc (.cells ROW.toArray 83)) := fun ty => by
    have h := Lib.run_append_grow_zeros w 69 3 ty 83 i0 (.agg #[.int .i64 0, .int .i64 0, .int .i32 0, .bool false]) .i64 .i64 Try.underlying69 Try.underlying3 hi0 hz0 (some ⟨g, 0, none⟩) i c (xs.take (i * 4)) hold (c + 1 - i) (by omega) (by omega) (by omega) (by omega) (by rw [hzb]; omega) (by rw [hzb, hik]; exact growslice_fits hroom hbig)
    rw [hik] at h
    rw [hkk, h, toArray3, hROW, hG]
  have hGn : c + 1 ≤ G := by rw [hG]; exact grownCap_ge w _ _ _
  have hG63 : G ≤ maxLen := by rw [hG]; exact grownCap_le_maxLen w (c + 1) c 83 (by unfold maxLen; omega)
  have hG64 : G ≤ 9223372036854775807 := by simp only [maxLen] at hG63; omega
  have hzc : (Value.cells (.agg #[.int .i64 0, .int .i64 0, .int .i32 0, .bool false])).size = 4 := by rfl
  have hRl : ROW.length = G * 4 := by
    rw [hROW]
    simp only [List.length_append, List.length_take, Array.length_toList, size_zeroCells, hxl, hzc]
    omega
  have hRt : ROW.take (i * 4) = xs.take (i * 4) := by
    rw [hROW, List.append_assoc]; exact List.take_left' (by rw [List.length_take, hxl]; omega)
  have q2 : (xs.drop (i * 4)).length = (c - i) * 4 := by rw [List.length_drop, hxl]; omega
  have q3 : ∀ j v, (xs.drop (i * 4))[j]? = some v → w.cell? ((⟨g, i * 4, none⟩ : Addr).add j) = some v := fun j v hj => by
    rw [addr_add]
    rw [List.getElem?_drop, ← hx, List.getElem?_take] at hj
    split at hj
    · exact (cell_of_row w g _ cur.toArray _ (0, 0) hcur).trans (by simpa using hj)
    · cases hj
  have q5 : ∀ v ∈ xs.drop (i * 4), v.oneCell' = true := fun v hv => h1c v (List.mem_of_mem_drop hv)
  obtain ⟨X, hX⟩ : ∃ X, X = xs.drop (i * 4) := ⟨_, rfl⟩
  obtain ⟨YS, hYS⟩ : ∃ YS, YS = xs.take (i * 4) ++ news ++ X := ⟨_, rfl⟩
  rw [← hX] at q2 q3 q5
  rw [← hX, ← hYS]
  obtain ⟨W1, hW1⟩ : ∃ W1, W1 = w.drew.alloc (.cells ROW.toArray 83) := ⟨_, rfl⟩
  have hg1 : W1.heap[w.heap.size]? = some (.cells ROW.toArray 83 (0, 0)) := by rw [hW1]; exact heap_alloc_new w.drew _
  have hk1 : Keeps NoB w W1 := by rw [hW1]; exact ((Keeps.refl NoB w).drew).alloc _
  have hv1 : Cells W1 vb 83 news := hv.keep hk1 (fun e => e)
  have r1 : ∀ j v, news[j]? = some v → W1.cell? ((⟨vb, 0, none⟩ : Addr).add j) = some v := fun j v hj => by rw [addr_add0, hv1.cell]; exact hj
  have r2 : i * 4 + news.length ≤ ROW.length := by rw [hRl, hnl]; omega
  have hm : (1 : Nat) = Nat.min 1 (c + 1 - i) := (Nat.min_eq_left (by omega)).symm
  have hm2 : c - i = Nat.min (c - i) (c - i) := (Nat.min_self _).symm
  rw [← hW1] at hrz
  have HX := Lib.hid hX
  have HYS := Lib.hid hYS
  have HQ2 := Lib.hid q2
  have HNL := Lib.hid hnl
  have HRL := Lib.hid hRl
  have HRT := Lib.hid hRt
  have HM := Lib.hid hm
  have HM2 := Lib.hid hm2
  have HR2 := Lib.hid r2
  have z0 : (c : Int) < (c : Int) + 1 := by omega
  have z1 : ¬ (c = i) := by omega
  have z1' : ¬ (G = i) := by omega
  have z2 : ¬ (G = i + 1) := by omega
  have z4 : ((i : Int) == c) = false := by simp; omega
  have z6 : ((i : Int) + 1).toNat = i + 1 := by omega
  have z8 : IntKind.i64.wrap ((i : Int) + 1) = (i : Int) + 1 := by rw [IntKind.wrap_i64]; omega
  have z9 : (0 : Int) ≤ (i : Int) + 1 := by omega
  have za : (i : Int) ≤ (c : Int) + 1 := by omega
  have zb : i ≤ c := by omega
  have zc : (i : Int) ≤ c := by omega
  clear hkk hik hold holdc hG hROW hzc hX hYS hW1 q2 hxl hx hnl hcl hRl hRt hm hm2 r2
  go_enter Try.func57, Try.ntmps57
  go_wp2_with (first
    | (at_builtin; refine Lib.wpList_append_run _ rfl (.tmp 34) (.tmp 39) 69 3 rfl _ _ rfl rfl _ _ (hrz _) ?_)
    | (with_reducible refine wpList_copy_k rfl (.tmp 43) (.tmp 44) 69 69 rfl 83 Try.underlying69 4 hsz (some ⟨w.heap.size, i * 4, none⟩) (some ⟨vb, 0, none⟩) (c + 1 - i) (G - i) 1 1 (by simp [Act.eval]) rfl w.heap.size (i * 4) ROW 83 hg1 1 HM.out news (by rw [HNL.out]) (fun _ => ⟨rfl, _, rfl, r1⟩) HR2.out h1v ?_; intro w2 HG2 HK2))
  have hg2 := HG2.out
  have q4 : (i + 1) * 4 + X.length ≤ (splice ROW (i * 4) news).length := by rw [length_splice _ _ _ HR2.out, HRL.out, HQ2.out]; omega
  have q3' : ∀ j v, X[j]? = some v → w2.drew.cell? ((⟨g, i * 4, none⟩ : Addr).add j) = some v := fun j v hj => by
    have h1 := q3 j v hj
    rw [addr_add] at h1 ⊢
    have e1 : W1.cell? ⟨g, i * 4 + j, none⟩ = some v := by rw [hk1.cell hglt (fun e => e)]; exact h1
    have e2 : w2.cell? ⟨g, i * 4 + j, none⟩ = some v := by rw [HK2.cell (Nat.lt_of_lt_of_le hglt hk1.size) (by omega)]; exact e1
    exact e2
  have HQ4 := Lib.hid q4
  obtain ⟨CUR1, hC1⟩ : ∃ CUR1, CUR1 = splice ROW (i * 4) news := ⟨_, rfl⟩
  rw [← hC1] at hg2 HQ4
  have HC1 := Lib.hid hC1
  clear hC1 HG2 q4 q3
  go_region_law (refine step_copy_k rfl (.tmp 50) (.tmp 53) 69 69 rfl 83 Try.underlying69 4 hsz (some ⟨w.heap.size, (i + 1) * 4, none⟩) (some ⟨g, i * 4, none⟩) (c - i) (G - (i + 1)) (c - i) (c - i) (by simp [Act.eval, Act.put]) (by simp [Act.eval, Act.put]) w.heap.size ((i + 1) * 4) CUR1 83 hg2 (c - i) HM2.out X HQ2.out (fun _ => ⟨rfl, _, rfl, q3'⟩) HQ4.out q5 ?_; intro w3 HG3 HK3)
  go_wp2
  go_ret
  have hsz2 : news.length = 4 := HNL.out
  have hX : X = xs.drop (i * 4) := HX.out
  have hXl : X.length = (c - i) * 4 := HQ2.out
  have hRl : ROW.length = G * 4 := HRL.out
  have hg3 : w3.heap[w.heap.size]? = some (.cells (splice (splice ROW (i * 4) news) (i * 4 + news.length) X).toArray 83 (0, 0)) := by
    have h := HG3.out
    rw [HC1.out] at h
    rw [hsz2, ← Nat.succ_mul]; exact h
  have hlen : (splice (splice ROW (i * 4) news) (i * 4 + news.length) X).length = G * 4 := by
    have e1 : (splice ROW (i * 4) news).length = ROW.length := length_splice _ _ _ HR2.out
    rw [length_splice _ _ _ (by rw [e1, hsz2, hXl, hRl]; omega), e1, hRl]
  have hown := Row.mk (n := c + 1) hg3 hGn hG63 (Nat.le_of_eq hlen.symm)
  have hput := splice_fill ROW (xs.take (i * 4)) news X (i * 4) HRT.out (by rw [hsz2, hXl, hRl]; omega)
  have hnk : (c + 1) * 4 = i * 4 + news.length + X.length := by rw [hsz2, hXl]; omega
  rw [hnk, hput] at hown
  refine ⟨_, rfl, ?_, ?_, .inr ⟨_, rfl, Nat.le_refl _⟩⟩
  · rw [HYS.out]; exact hown
  · have k2 : Keeps NoB w w2 := ⟨HK2.os.trans hk1.os, HK2.tape.trans hk1.tape, HK2.output.trans hk1.output, Nat.le_trans hk1.size HK2.size, fun b hb _ => (HK2.block b (Nat.lt_of_lt_of_le hb hk1.size) (by omega)).trans (hk1.block b hb (fun e => e))⟩
    have k3 : Keeps NoB w w3 := ⟨HK3.os.trans k2.os, HK3.tape.trans k2.tape, HK3.output.trans k2.output, Nat.le_trans k2.size HK3.size, fun b hb _ => (HK3.block b (Nat.lt_of_lt_of_le hb k2.size) (by omega)).trans (k2.block b hb (fun e => e))⟩
    exact k3.mono fun _ _ e => e.elim

/-- slices.Insert of one value. -/
theorem insE_any (w : World) (sv : Value) (n i : Nat) (xs news : List Value) (h : Row w 83 4 sv n xs) (h1c : ∀ v ∈ xs, v.oneCell' = true) (hi : i ≤ n) (vb : Nat) (hv : Cells w vb 83 news) (hnl : news.length = 4) (h1v : ∀ v ∈ news, v.oneCell' = true) (hne : sv.ownBlock ≠ some vb) (hbig : (n + 1) * 24 ≤ 140737488355328) :
    Calls Try.prog 57 #[sv, .int .i64 i, .slice (some ⟨vb, 0, none⟩) 1 1] w (InsEPost w sv n (xs.take (i * 4) ++ news ++ xs.drop (i * 4))) := by
  by_cases e : i = n
  · subst e
    have := insE_end w sv i xs news h vb hv hnl h1v hbig
    rw [List.take_of_length_le (by rw [h.1]; omega), List.drop_eq_nil_of_le (by rw [h.1]; omega), List.append_nil]
    exact this
  · obtain ⟨g, cap, cur, rfl, hg, h1, h2, h3, h4⟩ := h.row (by omega)
    by_cases hr : n + 1 ≤ cap
    · exact insE_shift w g n cap i xs news cur hg hr h2 h3 h4 h1c (by omega) vb hv hnl h1v (fun e => hne (by simp [Value.ownBlock, e]))
    · exact insE_grow w g n cap i xs news cur hg h1 (by omega) h3 h4 h1c (by omega) vb hv hnl h1v hbig

end Go.Proofs.Ytoddohhhhnahnaa
