/- The document's text: Put. -/
import Derived.Test.YtoddohhhhnahnaaRh
import Derived.Test.YtoddohhhhnahnaaRf1
import Derived.Test.YtoddohhhhnahnaaDr2
namespace Go.Proofs.Ytoddohhhhnahnaa
open Go.RowKit

/-- The document's text of these operations lies at y. -/
def RTx (w : World) (F : Nat → Prop) (y : Nat) (ops : List Rga.Opn) : Prop :=
  ∃ lv, Cells w y 59 [lv] ∧ Row w 49 7 lv ops.length (opsV ops) ∧ (ops = [] → lv = .slice none 0 0) ∧ (ops ≠ [] → lv ≠ .slice none 0 0) ∧ F y ∧ (∀ g, lv.ownBlock = some g → F g) ∧ ∀ g, F g → g < w.heap.size

def RPutPost (w : World) (F : Nat → Prop) (y : Nat) (ops : List Rga.Opn) (o : Rga.Opn) (e : Ending) (w' : World) : Prop :=
  e = .returned (.tuple #[.bool (Rga.puts ops o).1, .int .i64 (Rga.puts ops o).2]) ∧ ∃ F', RTx w' F' y (Rga.put ops o) ∧ Keeps F w w' ∧ ∀ g, F' g → F g ∨ w.heap.size ≤ g

set_option maxHeartbeats 6400000 in
set_option maxRecDepth 100000 in
theorem rput_any (w : World) (F : Nat → Prop) (y : Nat) (ops : List Rga.Opn) (h : RTx w F y ops) (hwf : Rga.WF ops) (hnb : ops.length < 1099511627776) (o : Rga.Opn) :
    Calls Try.prog 28 #[.pointer (some ⟨y, 0, none⟩), .agg #[.int .i64 o.id.ctr, .int .i64 o.id.author, .int .i64 o.seq, .bool o.ins, .int .i64 o.ref.ctr, .int .i64 o.ref.author, .int .i32 o.rune]] w (RPutPost w F y ops o) := by
  obtain ⟨lv, hy, hrow, hnil, hnn, hFy, hFl, hold⟩ := h
  obtain ⟨R, hR⟩ : ∃ R, R = RPutPost w F y ops o := ⟨_, rfl⟩
  rw [← hR]
  have hlow := hwf.low o.id.author
  have hk1 : Keeps NoB w (w.alloc (.cells #[.int .i64 o.id.ctr, .int .i64 o.id.author, .int .i64 o.seq, .bool o.ins, .int .i64 o.ref.ctr, .int .i64 o.ref.author, .int .i32 o.rune] 49)) := (Keeps.refl NoB w).alloc _
  have hob := Cells.new w (opL o) 49
  have ylt := hy.lt
  have HR := Lib.hid hR
  have HT := Lib.hid (And.intro hy (And.intro hrow (And.intro hnil (And.intro hnn (And.intro hFy (And.intro hFl hold))))))
  have HO := Lib.hid hob
  have HK1 := Lib.hid hk1
  have H12 := Lib.hid (rright12_any o)
  -- what is refused leaves all as it was
  have hno : (Rga.puts ops o).1 = false → ∀ n w', (Rga.puts ops o).2 = n → Keeps NoB w w' → R (.returned (.tuple #[.bool false, .int .i64 n])) w' := by
    rintro hp n w' rfl hk
    rw [hR]
    refine ⟨by rw [hp], F, ?_, hk.mono (fun _ _ e => False.elim e), fun g hg => .inl hg⟩
    have : Rga.put ops o = ops := by unfold Rga.put; rw [if_neg (by rw [hp]; decide)]
    rw [this]
    exact ⟨lv, hy.keep hk (fun e => e), hrow.keep hk (fun _ _ e => e), hnil, hnn, hFy, hFl, fun g hg => Nat.lt_of_lt_of_le (hold g hg) hk.size⟩
  have HNO := Lib.hid hno
  clear hno hR hk1 hob hrow hy
  have hps : Rga.puts ops o = if Rga.right o = false then (false, 1) else if o.seq ≤ (Rga.known ops o.id.author).1 then (false, 0) else if (Rga.known ops o.id.author).1 ≠ o.seq - 1 ∨ (Rga.has ops o.ref = false ∧ o.ref ≠ Rga.Id.zero) then (false, 6) else if o.id.ctr ≤ (Rga.known ops o.id.author).2 then (false, 1) else (true, 0) := rfl
  rcases hr : Rga.right o with _ | _
  · rw [hr] at H12
    rw [if_pos hr] at hps
    have HN := Lib.hid (fun w' hk => HNO.out (by rw [hps]) 1 w' (by rw [hps]) hk)
    clear hps hr
    go_enter Try.func28, Try.ntmps28
    go_wp2_with (first | (go_at_call 45; refine (H12.out _).mono ?_; rintro e w1 ⟨rfl, hk1⟩; have hk1 := Lib.hid hk1))
    all_goals first | exact HN.out _ (HK1.out.trans hk1.out) | (go_ret2; exact HN.out _ (HK1.out.trans hk1.out))
  rw [hr] at H12
  rw [if_neg (by rw [hr]; decide)] at hps
  have hseq := Rga.right_seq hr
  have HRT := Lib.hid hr
  have HPS := Lib.hid hps
  clear hr hps
  have HKN : Hid (∀ w1, Keeps NoB w w1 → Calls Try.prog 46 #[.pointer (some ⟨y, 0, none⟩), .int .i64 o.id.author] w1 (fun e w' => e = .returned (.tuple #[.int .i64 (Rga.known ops o.id.author).1, .int .i64 (Rga.known ops o.id.author).2]) ∧ w1 = w')) :=
    Lib.hid (fun w1 hk => rknown_any w1 y lv ops (HT.out.1.keep hk (fun e => e)) (HT.out.2.1.keep hk (fun _ _ e => e)) o.id.author)
  have HHS : Hid (∀ w1, Keeps NoB w w1 → Calls Try.prog 47 #[.pointer (some ⟨y, 0, none⟩), .agg #[.int .i64 o.ref.ctr, .int .i64 o.ref.author]] w1 (boolKeeps w1 (Rga.has ops o.ref))) :=
    Lib.hid (fun w1 hk => rhas_any w1 y lv ops (HT.out.1.keep hk (fun e => e)) (HT.out.2.1.keep hk (fun _ _ e => e)) o.ref)
  obtain ⟨sq, hsq⟩ : ∃ sq, sq = (Rga.known ops o.id.author).1 := ⟨_, rfl⟩
  obtain ⟨cq, hcq⟩ : ∃ cq, cq = (Rga.known ops o.id.author).2 := ⟨_, rfl⟩
  rw [← hsq, ← hcq] at HPS
  rw [← hsq, ← hcq] at HKN hlow
  have hsq0 := hlow.1
  have HSQ := Lib.hid (And.intro hsq hcq)
  clear hsq hcq hlow
  have hcase : o.seq ≤ sq ∨ (sq < o.seq ∧ ¬ sq = o.seq - 1) ∨ (sq < o.seq ∧ sq = o.seq - 1) := by omega
  go_enter Try.func28, Try.ntmps28
  go_wp2_with fail
  go_at_call 45
  refine (H12.out _).mono ?_
  rintro e w1 ⟨rfl, hk1⟩
  have HK := Lib.hid (HK1.out.trans hk1)
  have HC := Lib.hid (HO.out.keep hk1 (fun e => e))
  have HKN1 := Lib.hid (HKN.out w1 (HK1.out.trans hk1))
  have HHS1 := Lib.hid (HHS.out w1 (HK1.out.trans hk1))
  obtain ⟨o0, o1, o2, o3, o4, o5, o6⟩ := op_cells HC.out
  clear hk1
  go_wp2_with fail
  go_at_call 46
  refine HKN1.out.mono ?_
  rintro e w' ⟨rfl, rfl⟩
  rcases hcase with hc | ⟨hc, hc2⟩ | ⟨hc, hc2⟩
  · have HN := Lib.hid (fun w' hk => HNO.out (by rw [HPS.out, if_pos hc]) 0 w' (by rw [HPS.out, if_pos hc]) hk)
    go_wp2_with fail
    all_goals first | exact HN.out _ HK.out | (go_ret2; exact HN.out _ HK.out)
  · have hps := HPS.out
    rw [if_neg (by omega), if_pos (.inl hc2)] at hps
    have HN := Lib.hid (fun w' hk => HNO.out (by rw [hps]) 6 w' (by rw [hps]) hk)
    clear hps
    rcases hh : Rga.has ops o.ref with _ | _
    all_goals
      rw [hh] at HHS1
      clear hh
      go_wp2_with fail
      go_at_call 47
      refine HHS1.out.mono ?_
      rintro e w2 ⟨rfl, hk2⟩
      have HK2 := Lib.hid (HK.out.trans hk2)
      have HC2 := Lib.hid (HC.out.keep hk2 (fun e => e))
      clear o0 o1 o2 o3 o4 o5 o6 hk2
      obtain ⟨o0, o1, o2, o3, o4, o5, o6⟩ := op_cells HC2.out
      go_wp2_with fail
      all_goals first | exact HN.out _ HK2.out | (go_ret2; exact HN.out _ HK2.out)
  · rcases hh : Rga.has ops o.ref with _ | _
    · have hz : o.ref = Rga.Id.zero ∨ ¬ o.ref.ctr = 0 ∨ (o.ref.ctr = 0 ∧ ¬ o.ref.author = 0) := by
        by_cases e1 : o.ref.ctr = 0
        · by_cases e2 : o.ref.author = 0
          · exact .inl (by cases h1 : o.ref; rw [h1] at e1 e2; simp at e1 e2; rw [e1, e2]; rfl)
          · exact .inr (.inr ⟨e1, e2⟩)
        · exact .inr (.inl e1)
      rcases hz with hz | hz
      · have hps := HPS.out
        rw [if_neg (by omega), if_neg (by rintro (e | e); exact e hc2; exact e.2 hz)] at hps
        have HPA := Lib.hid hps
        have hz1 : o.ref.ctr = 0 := by rw [hz]; rfl
        have hz2 : o.ref.author = 0 := by rw [hz]; rfl
        rw [hh] at HHS1
        clear hps hh hz
        rw [hz1, hz2] at HHS1
        go_wp2_with fail
        go_at_call 47
        refine HHS1.out.mono ?_
        rintro e w2 ⟨rfl, hk2⟩
        have HK2 := Lib.hid (HK.out.trans hk2)
        have HC2 := Lib.hid (HC.out.keep hk2 (fun e => e))
        clear o0 o1 o2 o3 o4 o5 o6 hk2
        obtain ⟨o0, o1, o2, o3, o4, o5, o6⟩ := op_cells HC2.out
        by_cases hcl : o.id.ctr ≤ cq
        · have HN := Lib.hid (fun w' hk => HNO.out (by rw [HPA.out, if_pos hcl]) 1 w' (by rw [HPA.out, if_pos hcl]) hk)
          go_wp2_with fail
          all_goals first | exact HN.out _ HK2.out | (go_ret2; exact HN.out _ HK2.out)
        · have hps := HPA.out
          rw [if_neg hcl] at hps
          have HPT := Lib.hid hps
          clear hps
          have HY2 := Lib.hid (HT.out.1.keep HK2.out (fun e => e))
          have HW2 := Lib.hid (HT.out.2.1.keep HK2.out (fun _ _ e => e))
          obtain ⟨i0, hi0, hz0, hzs, hzb⟩ := info_parts op_info
          have hput : Rga.put ops o = ops ++ [o] := by unfold Rga.put; rw [if_pos (by rw [HPT.out])]
          have HFIN : Hid (∀ (v9 : Value) (w9 : World) (n : Nat) (xs : List Value), n = ops.length + 1 → xs = opsV ops ++ opL o → Row w9 49 7 v9 n xs → Keeps NoB w2 w9 → (∀ g, v9.ownBlock = some g → w.heap.size ≤ g) → R (.returned (.tuple #[.bool true, .int .i64 0])) (w9.setCell ⟨y, 0, none⟩ v9)) := Lib.hid (by
            rintro v9 w9 n xs rfl rfl hrow9 hk9 hown9
            rw [HR.out]
            have hkw9 := HK2.out.trans hk9
            have hy9 := HY2.out.keep hk9 (fun e => e)
            have hys := hy9.set 0 v9
            have hk10 : Keeps (fun b => b = y) w9 (w9.setCell ⟨y, 0, none⟩ v9) := (Keeps.refl (fun b => b = y) w9).setCell (p := ⟨y, 0, none⟩) (.inl rfl) _
            have hr10 := hrow9.keep hk10 (fun b hb e => hy9.ne_row hrow9 (by decide) (e ▸ hb))
            refine ⟨by rw [HPT.out], fun b => F b ∨ v9.ownBlock = some b, ⟨v9, hys, ?_, ?_, ?_, .inl hFy, fun g hg => .inr hg, ?_⟩, ?_, ?_⟩
            · rw [hput, opsV_append, opsV_one, List.length_append]
              exact hr10
            · intro e; rw [hput] at e; simp at e
            · intro _ e
              rcases hrow9.form with ⟨_, e1, _⟩ | ⟨g', c', e1, _⟩
              · omega
              · rw [e] at e1; cases e1
            · rintro g (hg | hg)
              · have := hold g hg; have := hkw9.size; have := hk10.size; omega
              · exact hr10.lt g hg
            · exact (hkw9.mono (fun _ _ e => False.elim e)).then (hk10.mono (G := F) (fun b _ e => e ▸ hFy)) (fun b e => .inl e)
            · rintro g (hg | hg)
              · exact .inl hg
              · exact .inr (hown9 g hg))
          by_cases hops : ops = []
          · have hlv := HT.out.2.2.1 hops
            have y0 : w2.cell? ⟨y, 0, none⟩ = some (.slice none 0 0) := by rw [← hlv]; exact HY2.out.cell 0
            have fy0 := HY2.out.frozen 0
            go_wp2_with fail
            have HZ12 := Lib.hid (And.intro hz1 hz2)
            clear hz1 hz2
            refine wpD_begin (n := 13) (l := [false, false, false, false, false, false, false, false, false, false, false, false, false].toArray) [9, 10, 11, 12] (fun w' => w'.cell? ⟨y, 0, none⟩ = some (.slice none 0 0) ∧ w'.cell? ⟨w.heap.size, 0, none⟩ = some (.int .i64 o.id.ctr) ∧ w'.cell? ⟨w.heap.size, 1, none⟩ = some (.int .i64 o.id.author) ∧ w'.cell? ⟨w.heap.size, 2, none⟩ = some (.int .i64 o.seq) ∧ w'.cell? ⟨w.heap.size, 3, none⟩ = some (.bool o.ins) ∧ w'.cell? ⟨w.heap.size, 4, none⟩ = some (.int .i64 o.ref.ctr) ∧ w'.cell? ⟨w.heap.size, 5, none⟩ = some (.int .i64 o.ref.author) ∧ w'.cell? ⟨w.heap.size, 6, none⟩ = some (.int .i32 o.rune)) (by kernel_rfl) (by kernel_rfl) (by kernel_rfl) ?_ (fun hS => ?_)
            · first | (go_keep; done) | go_simp
            try dsimp only at hS
            refine wpD_takeL (i := 0) (v := ?vuz_0) rfl (by kernel_rfl) (by kernel_rfl) (by kernel_rfl) (fun _ _ _ h => h) (Or.inl ⟨by rfl, ?hyuz_0⟩) ?_
            case hyuz_0 => (intro w; go_simp; try with_reducible rfl)
            simp only [Act.put, List.setIfInBounds_toArray, List.set_cons_zero, List.set_cons_succ]
            refine wpD_takeL (i := 2) (v := ?vuz_2) rfl (by kernel_rfl) (by kernel_rfl) (by kernel_rfl) (fun _ _ _ h => h) (Or.inl ⟨by rfl, ?hyuz_2⟩) ?_
            case hyuz_2 => (intro w; go_simp; try with_reducible rfl)
            simp only [Act.put, List.setIfInBounds_toArray, List.set_cons_zero, List.set_cons_succ]
            refine wpD_takeL (i := 3) (v := ?vuz_3) rfl (by kernel_rfl) (by kernel_rfl) (by kernel_rfl) (fun _ _ _ h => h) (Or.inl ⟨by rfl, ?hyuz_3⟩) ?_
            case hyuz_3 => (intro w; go_simp; try with_reducible rfl)
            simp only [Act.put, List.setIfInBounds_toArray, List.set_cons_zero, List.set_cons_succ]
            refine wpD_takeL (i := 4) (v := ?vuz_4) rfl (by kernel_rfl) (by kernel_rfl) (by kernel_rfl) (fun _ _ _ h => h) (Or.inl ⟨by rfl, ?hyuz_4⟩) ?_
            case hyuz_4 => (intro w; go_simp; try with_reducible rfl)
            simp only [Act.put, List.setIfInBounds_toArray, List.set_cons_zero, List.set_cons_succ]
            refine wpD_loadL (i := 5) (v := ?vuz_5) rfl (by kernel_rfl) (by kernel_rfl) (by kernel_rfl) (by kernel_rfl) (fun _ _ _ h => h) (Or.inl ⟨by rfl, ?hyuz_5⟩) hS ?_
            case hyuz_5 => (intro w hSw; (try dsimp only at hSw); go_simp; try with_reducible rfl)
            simp only [Act.put, List.setIfInBounds_toArray, List.set_cons_zero, List.set_cons_succ]
            refine wpD_loadL (i := 7) (v := ?vuz_7) rfl (by kernel_rfl) (by kernel_rfl) (by kernel_rfl) (by kernel_rfl) (fun _ _ _ h => h) (Or.inl ⟨by rfl, ?hyuz_7⟩) hS ?_
            case hyuz_7 => (intro w hSw; (try dsimp only at hSw); go_simp; try with_reducible rfl)
            simp only [Act.put, List.setIfInBounds_toArray, List.set_cons_zero, List.set_cons_succ]
            refine wpD_mid2 (i := 1) (j := 8) (by kernel_rfl) rfl rfl (fun K hK => ?_) (fun K hK => ?_)
            · go_simp
              refine hK.out _ _ (fun hSw => ?_) ?_
              · first | exact hSw | (go_keep; done) | go_simp
              clear hK K
              simp only [List.setIfInBounds_toArray, List.set_cons_zero, List.set_cons_succ]
              refine wpD_mid2 (i := 6) (j := 8) (by kernel_rfl) rfl rfl (fun K hK => ?_) (fun K hK => ?_)
              · refine step_append_none rfl (.tmp 51) (.tmp 55) 22 rfl 49 i0 Try.underlying22 hi0 (some ⟨w2.heap.size, 0, none⟩) 0 0 (Nat.le_refl _) rfl rfl ?_
                refine hK.out _ _ (fun hSw => ?_) ?_
                · exact hSw
                clear hK K
                simp only [Act.put, List.setIfInBounds_toArray, List.set_cons_zero, List.set_cons_succ]
                refine wpD_mid (i := 8) (by kernel_rfl) rfl (fun K hK => ?_)
                go_simp
                refine hK.out _ _ (fun hSw => ?_) ?_
                · first | exact hSw | (go_keep; done) | go_simp
                clear hK K
                simp only [List.setIfInBounds_toArray, List.set_cons_zero, List.set_cons_succ]
                refine wpD_mid (i := 9) (by kernel_rfl) rfl (fun K hK => ?_)
                refine step_append_fresh rfl (.tmp 56) (.tmp 58) 22 rfl 49 i0 _ 7 56 Try.underlying22 hi0 hz0 hzs hzb rfl (w2.heap.size) rfl ⟨w2.heap.size + 1, 0, none⟩ 1 1 (opL o) rfl (by decide) rfl ?_ (by decide) (by decide) ?_
                · intro j u hu
                  rw [addr_add0, ← hu]
                  have := (Cells.drew (Cells.new (w2.alloc (.cells #[] 49)) (opL o) 49)).cell j
                  simp [opL]
                intro v9 w9 hrow9 hk9 hown9
                refine hK.out _ _ (fun hSw => ?_) ?_
                · exact ⟨hk9.some hSw.1, hk9.some hSw.2.1, hk9.some hSw.2.2.1, hk9.some hSw.2.2.2.1, hk9.some hSw.2.2.2.2.1, hk9.some hSw.2.2.2.2.2.1, hk9.some hSw.2.2.2.2.2.2.1, hk9.some hSw.2.2.2.2.2.2.2⟩
                clear hK K
                simp only [Act.put, List.setIfInBounds_toArray, List.set_cons_zero, List.set_cons_succ]
                refine wpD_tail 10 [10, 11, 12] (by kernel_rfl) (by kernel_rfl) ?_
                simp only [List.drop_succ_cons, List.drop_zero]
                clear hS
                have hkw9 : Keeps NoB w2 w9 := (((Keeps.refl NoB w2).alloc _).alloc _).drew.trans hk9
                have y9 := (HY2.out.keep hkw9 (fun e => e)).cell 0
                have fy9 := (HY2.out.keep hkw9 (fun e => e)).frozen 0
                have HG := Lib.hid (HFIN.out _ w9 _ _ (by rw [hops]; rfl) (by rw [hops]; rfl) hrow9 hkw9 (fun g hg => by have h1 := hown9.symm.trans hg; have h2 := HK2.out.size; simp at h1; omega))
                obtain ⟨A9, c9, rfl⟩ := hrow9.slice
                clear hrow9 hk9 hown9 hkw9
                go_wp2_with fail
                first | exact HG.out | (go_ret2; exact HG.out)
              · go_simp
                refine hK.out _ _ (fun hSw => ?_) ?_
                · first | exact hSw | (go_keep; done) | go_simp
                clear hK K
                simp only [List.setIfInBounds_toArray, List.set_cons_zero, List.set_cons_succ]
                refine wpD_mid (i := 6) (by kernel_rfl) rfl (fun K hK => ?_)
                refine step_append_none rfl (.tmp 51) (.tmp 55) 22 rfl 49 i0 Try.underlying22 hi0 (some ⟨w2.heap.size, 0, none⟩) 0 0 (Nat.le_refl _) rfl rfl ?_
                refine hK.out _ _ (fun hSw => ?_) ?_
                · exact hSw
                clear hK K
                simp only [Act.put, List.setIfInBounds_toArray, List.set_cons_zero, List.set_cons_succ]
                refine wpD_mid (i := 9) (by kernel_rfl) rfl (fun K hK => ?_)
                refine step_append_fresh rfl (.tmp 56) (.tmp 58) 22 rfl 49 i0 _ 7 56 Try.underlying22 hi0 hz0 hzs hzb rfl (w2.heap.size) rfl ⟨w2.heap.size + 1, 0, none⟩ 1 1 (opL o) rfl (by decide) rfl ?_ (by decide) (by decide) ?_
                · intro j u hu
                  rw [addr_add0, ← hu]
                  have := (Cells.drew (Cells.new (w2.alloc (.cells #[] 49)) (opL o) 49)).cell j
                  simp [opL]
                intro v9 w9 hrow9 hk9 hown9
                refine hK.out _ _ (fun hSw => ?_) ?_
                · exact ⟨hk9.some hSw.1, hk9.some hSw.2.1, hk9.some hSw.2.2.1, hk9.some hSw.2.2.2.1, hk9.some hSw.2.2.2.2.1, hk9.some hSw.2.2.2.2.2.1, hk9.some hSw.2.2.2.2.2.2.1, hk9.some hSw.2.2.2.2.2.2.2⟩
                clear hK K
                simp only [Act.put, List.setIfInBounds_toArray, List.set_cons_zero, List.set_cons_succ]
                refine wpD_tail 10 [10, 11, 12] (by kernel_rfl) (by kernel_rfl) ?_
                simp only [List.drop_succ_cons, List.drop_zero]
                clear hS
                have hkw9 : Keeps NoB w2 w9 := (((Keeps.refl NoB w2).alloc _).alloc _).drew.trans hk9
                have y9 := (HY2.out.keep hkw9 (fun e => e)).cell 0
                have fy9 := (HY2.out.keep hkw9 (fun e => e)).frozen 0
                have HG := Lib.hid (HFIN.out _ w9 _ _ (by rw [hops]; rfl) (by rw [hops]; rfl) hrow9 hkw9 (fun g hg => by have h1 := hown9.symm.trans hg; have h2 := HK2.out.size; simp at h1; omega))
                obtain ⟨A9, c9, rfl⟩ := hrow9.slice
                clear hrow9 hk9 hown9 hkw9
                go_wp2_with fail
                first | exact HG.out | (go_ret2; exact HG.out)
            · go_simp
              refine hK.out _ _ (fun hSw => ?_) ?_
              · first | exact hSw | (go_keep; done) | go_simp
              clear hK K
              simp only [List.setIfInBounds_toArray, List.set_cons_zero, List.set_cons_succ]
              refine wpD_mid (i := 1) (by kernel_rfl) rfl (fun K hK => ?_)
              go_simp
              refine hK.out _ _ (fun hSw => ?_) ?_
              · first | exact hSw | (go_keep; done) | go_simp
              clear hK K
              simp only [List.setIfInBounds_toArray, List.set_cons_zero, List.set_cons_succ]
              refine wpD_mid (i := 6) (by kernel_rfl) rfl (fun K hK => ?_)
              refine step_append_none rfl (.tmp 51) (.tmp 55) 22 rfl 49 i0 Try.underlying22 hi0 (some ⟨w2.heap.size + 1, 0, none⟩) 0 0 (Nat.le_refl _) rfl rfl ?_
              refine hK.out _ _ (fun hSw => ?_) ?_
              · exact hSw
              clear hK K
              simp only [Act.put, List.setIfInBounds_toArray, List.set_cons_zero, List.set_cons_succ]
              refine wpD_mid (i := 9) (by kernel_rfl) rfl (fun K hK => ?_)
              refine step_append_fresh rfl (.tmp 56) (.tmp 58) 22 rfl 49 i0 _ 7 56 Try.underlying22 hi0 hz0 hzs hzb rfl (w2.heap.size + 1) rfl ⟨w2.heap.size, 0, none⟩ 1 1 (opL o) rfl (by decide) rfl ?_ (by decide) (by decide) ?_
              · intro j u hu
                rw [addr_add0, ← hu]
                have := (Cells.drew ((Cells.new w2 (opL o) 49).alloc (.cells #[] 49))).cell j
                simp [opL]
              intro v9 w9 hrow9 hk9 hown9
              refine hK.out _ _ (fun hSw => ?_) ?_
              · exact ⟨hk9.some hSw.1, hk9.some hSw.2.1, hk9.some hSw.2.2.1, hk9.some hSw.2.2.2.1, hk9.some hSw.2.2.2.2.1, hk9.some hSw.2.2.2.2.2.1, hk9.some hSw.2.2.2.2.2.2.1, hk9.some hSw.2.2.2.2.2.2.2⟩
              clear hK K
              simp only [Act.put, List.setIfInBounds_toArray, List.set_cons_zero, List.set_cons_succ]
              refine wpD_tail 10 [10, 11, 12] (by kernel_rfl) (by kernel_rfl) ?_
              simp only [List.drop_succ_cons, List.drop_zero]
              clear hS
              have hkw9 : Keeps NoB w2 w9 := (((Keeps.refl NoB w2).alloc _).alloc _).drew.trans hk9
              have y9 := (HY2.out.keep hkw9 (fun e => e)).cell 0
              have fy9 := (HY2.out.keep hkw9 (fun e => e)).frozen 0
              have HG := Lib.hid (HFIN.out _ w9 _ _ (by rw [hops]; rfl) (by rw [hops]; rfl) hrow9 hkw9 (fun g hg => by have h1 := hown9.symm.trans hg; have h2 := HK2.out.size; simp at h1; omega))
              obtain ⟨A9, c9, rfl⟩ := hrow9.slice
              clear hrow9 hk9 hown9 hkw9
              go_wp2_with fail
              first | exact HG.out | (go_ret2; exact HG.out)

          · have hnp : 0 < ops.length := by
              rcases hl : ops with _ | _
              · exact absurd hl hops
              · simp
            obtain ⟨gl, cl, hlv, HLC0⟩ : ∃ gl cl, lv = .slice (some ⟨gl, 0, none⟩) ops.length cl ∧ ∀ j, j < (opsV ops).length → w2.cell? ⟨gl, j, none⟩ = (opsV ops)[j]? := by
              rcases HW2.out.form with ⟨_, e, _⟩ | ⟨g', c', e, _, _, _, hc', _⟩
              · omega
              · exact ⟨g', c', e, fun j hj => hc' j (by have := HW2.out.1; omega)⟩
            have HLC := Lib.hid HLC0
            have y0 : w2.cell? ⟨y, 0, none⟩ = some (.slice (some ⟨gl, 0, none⟩) ops.length cl) := by rw [← hlv]; exact HY2.out.cell 0
            have fy0 := HY2.out.frozen 0
            clear hlv HLC0
            go_wp2_with fail
            have HZ12 := Lib.hid (And.intro hz1 hz2)
            clear hz1 hz2
            refine wpD_begin (n := 13) (l := [false, false, false, false, false, false, false, false, false, false, false, false, false].toArray) [9, 10, 11, 12] (fun w' => w'.cell? ⟨y, 0, none⟩ = some (.slice (some ⟨gl, 0, none⟩) ops.length cl) ∧ w'.cell? ⟨w.heap.size, 0, none⟩ = some (.int .i64 o.id.ctr) ∧ w'.cell? ⟨w.heap.size, 1, none⟩ = some (.int .i64 o.id.author) ∧ w'.cell? ⟨w.heap.size, 2, none⟩ = some (.int .i64 o.seq) ∧ w'.cell? ⟨w.heap.size, 3, none⟩ = some (.bool o.ins) ∧ w'.cell? ⟨w.heap.size, 4, none⟩ = some (.int .i64 o.ref.ctr) ∧ w'.cell? ⟨w.heap.size, 5, none⟩ = some (.int .i64 o.ref.author) ∧ w'.cell? ⟨w.heap.size, 6, none⟩ = some (.int .i32 o.rune)) (by kernel_rfl) (by kernel_rfl) (by kernel_rfl) ?_ (fun hS => ?_)
            · first | (go_keep; done) | go_simp
            try dsimp only at hS
            refine wpD_takeL (i := 0) (v := ?vvz_0) rfl (by kernel_rfl) (by kernel_rfl) (by kernel_rfl) (fun _ _ _ h => h) (Or.inl ⟨by rfl, ?hyvz_0⟩) ?_
            case hyvz_0 => (intro w; go_simp; try with_reducible rfl)
            simp only [Act.put, List.setIfInBounds_toArray, List.set_cons_zero, List.set_cons_succ]
            refine wpD_takeL (i := 2) (v := ?vvz_2) rfl (by kernel_rfl) (by kernel_rfl) (by kernel_rfl) (fun _ _ _ h => h) (Or.inl ⟨by rfl, ?hyvz_2⟩) ?_
            case hyvz_2 => (intro w; go_simp; try with_reducible rfl)
            simp only [Act.put, List.setIfInBounds_toArray, List.set_cons_zero, List.set_cons_succ]
            refine wpD_takeL (i := 3) (v := ?vvz_3) rfl (by kernel_rfl) (by kernel_rfl) (by kernel_rfl) (fun _ _ _ h => h) (Or.inl ⟨by rfl, ?hyvz_3⟩) ?_
            case hyvz_3 => (intro w; go_simp; try with_reducible rfl)
            simp only [Act.put, List.setIfInBounds_toArray, List.set_cons_zero, List.set_cons_succ]
            refine wpD_takeL (i := 4) (v := ?vvz_4) rfl (by kernel_rfl) (by kernel_rfl) (by kernel_rfl) (fun _ _ _ h => h) (Or.inl ⟨by rfl, ?hyvz_4⟩) ?_
            case hyvz_4 => (intro w; go_simp; try with_reducible rfl)
            simp only [Act.put, List.setIfInBounds_toArray, List.set_cons_zero, List.set_cons_succ]
            refine wpD_loadL (i := 5) (v := ?vvz_5) rfl (by kernel_rfl) (by kernel_rfl) (by kernel_rfl) (by kernel_rfl) (fun _ _ _ h => h) (Or.inl ⟨by rfl, ?hyvz_5⟩) hS ?_
            case hyvz_5 => (intro w hSw; (try dsimp only at hSw); go_simp; try with_reducible rfl)
            simp only [Act.put, List.setIfInBounds_toArray, List.set_cons_zero, List.set_cons_succ]
            refine wpD_loadL (i := 7) (v := ?vvz_7) rfl (by kernel_rfl) (by kernel_rfl) (by kernel_rfl) (by kernel_rfl) (fun _ _ _ h => h) (Or.inl ⟨by rfl, ?hyvz_7⟩) hS ?_
            case hyvz_7 => (intro w hSw; (try dsimp only at hSw); go_simp; try with_reducible rfl)
            simp only [Act.put, List.setIfInBounds_toArray, List.set_cons_zero, List.set_cons_succ]
            refine wpD_mid2 (i := 1) (j := 8) (by kernel_rfl) rfl rfl (fun K hK => ?_) (fun K hK => ?_)
            · go_simp
              refine hK.out _ _ (fun hSw => ?_) ?_
              · first | exact hSw | (go_keep; done) | go_simp
              clear hK K
              simp only [List.setIfInBounds_toArray, List.set_cons_zero, List.set_cons_succ]
              refine wpD_mid2 (i := 6) (j := 8) (by kernel_rfl) rfl rfl (fun K hK => ?_) (fun K hK => ?_)
              · refine step_append_fresh rfl (.tmp 51) (.tmp 55) 22 rfl 49 i0 _ 7 56 Try.underlying22 hi0 hz0 hzs hzb rfl (w2.heap.size) rfl ⟨gl, 0, none⟩ ops.length cl (opsV ops) rfl hnp HW2.out.1 ?_ (by omega) (by decide) ?_
                · intro j u hu
                  rw [addr_add0, ← hu]
                  have hjl := (List.getElem?_eq_some_iff.1 hu).1
                  have h0 := HLC.out j hjl
                  rw [hu] at h0
                  have h1 := (((Keeps.refl NoB w2).alloc (.cells #[] 49)).drew).some h0
                  rw [hu]
                  exact h1
                intro v6 w6 hrow6 hk6 hown6
                refine hK.out _ _ (fun hSw => ?_) ?_
                · exact ⟨hk6.some hSw.1, hk6.some hSw.2.1, hk6.some hSw.2.2.1, hk6.some hSw.2.2.2.1, hk6.some hSw.2.2.2.2.1, hk6.some hSw.2.2.2.2.2.1, hk6.some hSw.2.2.2.2.2.2.1, hk6.some hSw.2.2.2.2.2.2.2⟩
                clear hK K
                simp only [Act.put, List.setIfInBounds_toArray, List.set_cons_zero, List.set_cons_succ]
                have hkw6 : Keeps NoB w2 w6 := Keeps.trans (((Keeps.refl NoB w2).alloc (.cells #[] 49)).drew) hk6
                have hl6 : ∀ g, v6.ownBlock = some g → w2.heap.size ≤ g := fun g hg => by have h1 := hown6.symm.trans hg; simp at h1; omega
                have hny : Hid (¬ v6.ownBlock = some y) := Lib.hid (fun e => by have := hl6 _ e; have := HK2.out.size; omega)
                have hnw : Hid (¬ v6.ownBlock = some w.heap.size) := Lib.hid (fun e => by have := hl6 _ e; have := HC2.out.lt; omega)
                have HL6 := Lib.hid hl6
                have HR6 := Lib.hid hrow6
                have HKW6 := Lib.hid hkw6
                clear hl6 hrow6 hkw6
                refine wpD_mid (i := 8) (by kernel_rfl) rfl (fun K hK => ?_)
                go_simp
                refine hK.out _ _ (fun hSw => ?_) ?_
                · first | exact hSw | (go_keep; done) | go_simp
                clear hK K
                simp only [List.setIfInBounds_toArray, List.set_cons_zero, List.set_cons_succ]
                refine wpD_mid (i := 9) (by kernel_rfl) rfl (fun K hK => ?_)
                refine step_append_row rfl (.tmp 56) (.tmp 58) 22 rfl 49 i0 _ 7 56 Try.underlying22 hi0 hz0 hzs hzb rfl (by decide) _ ops.length (opsV ops) rfl (HR6.out.alloc _) ⟨w6.heap.size, 0, none⟩ 1 1 (opL o) rfl rfl ?_ ?_ (by omega) (by decide) ?_
                · intro j u hu
                  rw [addr_add0, ← hu]
                  have := (Cells.new w6 (opL o) 49).cell j
                  simp [opL]
                · intro u hu
                  simp only [opL, List.mem_cons, List.not_mem_nil, or_false] at hu
                  rcases hu with rfl | rfl | rfl | rfl | rfl | rfl | rfl <;> rfl
                intro v9 w9 hrow9 hk9 hown9
                refine hK.out _ _ (fun hSw => ?_) ?_
                · exact ⟨hk9.someF hSw.1 hny.out, hk9.someF hSw.2.1 hnw.out, hk9.someF hSw.2.2.1 hnw.out, hk9.someF hSw.2.2.2.1 hnw.out, hk9.someF hSw.2.2.2.2.1 hnw.out, hk9.someF hSw.2.2.2.2.2.1 hnw.out, hk9.someF hSw.2.2.2.2.2.2.1 hnw.out, hk9.someF hSw.2.2.2.2.2.2.2 hnw.out⟩
                clear hK K
                simp only [Act.put, List.setIfInBounds_toArray, List.set_cons_zero, List.set_cons_succ]
                refine wpD_tail 10 [10, 11, 12] (by kernel_rfl) (by kernel_rfl) ?_
                simp only [List.drop_succ_cons, List.drop_zero]
                clear hS
                have hkw9 : Keeps NoB w2 w9 := (HKW6.out.alloc _).then hk9 (fun g hg => .inr (HL6.out g hg))
                have y9 := (HY2.out.keep hkw9 (fun e => e)).cell 0
                have fy9 := (HY2.out.keep hkw9 (fun e => e)).frozen 0
                have HG := Lib.hid (HFIN.out _ w9 _ _ rfl rfl hrow9 hkw9 (fun g hg => by rcases hown9 with h1 | h1; exact Nat.le_trans HK2.out.size (HL6.out g (h1 ▸ hg)); have h2 := h1.symm.trans hg; have h3 := HK2.out.size; have h4 := HKW6.out.size; simp at h2; omega))
                obtain ⟨A9, c9, rfl⟩ := hrow9.slice
                clear hrow9 hk9 hown9 hkw9
                go_wp2_with fail
                first | exact HG.out | (go_ret2; exact HG.out)
              · go_simp
                refine hK.out _ _ (fun hSw => ?_) ?_
                · first | exact hSw | (go_keep; done) | go_simp
                clear hK K
                simp only [List.setIfInBounds_toArray, List.set_cons_zero, List.set_cons_succ]
                refine wpD_mid (i := 6) (by kernel_rfl) rfl (fun K hK => ?_)
                refine step_append_fresh rfl (.tmp 51) (.tmp 55) 22 rfl 49 i0 _ 7 56 Try.underlying22 hi0 hz0 hzs hzb rfl (w2.heap.size) rfl ⟨gl, 0, none⟩ ops.length cl (opsV ops) rfl hnp HW2.out.1 ?_ (by omega) (by decide) ?_
                · intro j u hu
                  rw [addr_add0, ← hu]
                  have hjl := (List.getElem?_eq_some_iff.1 hu).1
                  have h0 := HLC.out j hjl
                  rw [hu] at h0
                  have h1 := ((((Keeps.refl NoB w2).alloc (.cells #[] 49)).alloc (.cells (opL o).toArray 49)).drew).some h0
                  rw [hu]
                  exact h1
                intro v6 w6 hrow6 hk6 hown6
                refine hK.out _ _ (fun hSw => ?_) ?_
                · exact ⟨hk6.some hSw.1, hk6.some hSw.2.1, hk6.some hSw.2.2.1, hk6.some hSw.2.2.2.1, hk6.some hSw.2.2.2.2.1, hk6.some hSw.2.2.2.2.2.1, hk6.some hSw.2.2.2.2.2.2.1, hk6.some hSw.2.2.2.2.2.2.2⟩
                clear hK K
                simp only [Act.put, List.setIfInBounds_toArray, List.set_cons_zero, List.set_cons_succ]
                have hkw6 : Keeps NoB w2 w6 := Keeps.trans ((((Keeps.refl NoB w2).alloc (.cells #[] 49)).alloc (.cells (opL o).toArray 49)).drew) hk6
                have hl6 : ∀ g, v6.ownBlock = some g → w2.heap.size ≤ g := fun g hg => by have h1 := hown6.symm.trans hg; simp at h1; omega
                have hny : Hid (¬ v6.ownBlock = some y) := Lib.hid (fun e => by have := hl6 _ e; have := HK2.out.size; omega)
                have hnw : Hid (¬ v6.ownBlock = some w.heap.size) := Lib.hid (fun e => by have := hl6 _ e; have := HC2.out.lt; omega)
                have HL6 := Lib.hid hl6
                have HR6 := Lib.hid hrow6
                have HKW6 := Lib.hid hkw6
                clear hl6 hrow6 hkw6
                refine wpD_mid (i := 9) (by kernel_rfl) rfl (fun K hK => ?_)
                refine step_append_row rfl (.tmp 56) (.tmp 58) 22 rfl 49 i0 _ 7 56 Try.underlying22 hi0 hz0 hzs hzb rfl (by decide) _ ops.length (opsV ops) rfl (HR6.out) ⟨w2.heap.size + 1, 0, none⟩ 1 1 (opL o) rfl rfl ?_ ?_ (by omega) (by decide) ?_
                · intro j u hu
                  rw [addr_add0, ← hu]
                  have := (Cells.keep (Cells.drew (Cells.new (w2.alloc (.cells #[] 49)) (opL o) 49)) (w' := w6) hk6 (fun e => e)).cell j
                  simpa [opL] using this
                · intro u hu
                  simp only [opL, List.mem_cons, List.not_mem_nil, or_false] at hu
                  rcases hu with rfl | rfl | rfl | rfl | rfl | rfl | rfl <;> rfl
                intro v9 w9 hrow9 hk9 hown9
                refine hK.out _ _ (fun hSw => ?_) ?_
                · exact ⟨hk9.someF hSw.1 hny.out, hk9.someF hSw.2.1 hnw.out, hk9.someF hSw.2.2.1 hnw.out, hk9.someF hSw.2.2.2.1 hnw.out, hk9.someF hSw.2.2.2.2.1 hnw.out, hk9.someF hSw.2.2.2.2.2.1 hnw.out, hk9.someF hSw.2.2.2.2.2.2.1 hnw.out, hk9.someF hSw.2.2.2.2.2.2.2 hnw.out⟩
                clear hK K
                simp only [Act.put, List.setIfInBounds_toArray, List.set_cons_zero, List.set_cons_succ]
                refine wpD_tail 10 [10, 11, 12] (by kernel_rfl) (by kernel_rfl) ?_
                simp only [List.drop_succ_cons, List.drop_zero]
                clear hS
                have hkw9 : Keeps NoB w2 w9 := (HKW6.out).then hk9 (fun g hg => .inr (HL6.out g hg))
                have y9 := (HY2.out.keep hkw9 (fun e => e)).cell 0
                have fy9 := (HY2.out.keep hkw9 (fun e => e)).frozen 0
                have HG := Lib.hid (HFIN.out _ w9 _ _ rfl rfl hrow9 hkw9 (fun g hg => by rcases hown9 with h1 | h1; exact Nat.le_trans HK2.out.size (HL6.out g (h1 ▸ hg)); have h2 := h1.symm.trans hg; have h3 := HK2.out.size; have h4 := HKW6.out.size; simp at h2; omega))
                obtain ⟨A9, c9, rfl⟩ := hrow9.slice
                clear hrow9 hk9 hown9 hkw9
                go_wp2_with fail
                first | exact HG.out | (go_ret2; exact HG.out)
            · go_simp
              refine hK.out _ _ (fun hSw => ?_) ?_
              · first | exact hSw | (go_keep; done) | go_simp
              clear hK K
              simp only [List.setIfInBounds_toArray, List.set_cons_zero, List.set_cons_succ]
              refine wpD_mid (i := 1) (by kernel_rfl) rfl (fun K hK => ?_)
              go_simp
              refine hK.out _ _ (fun hSw => ?_) ?_
              · first | exact hSw | (go_keep; done) | go_simp
              clear hK K
              simp only [List.setIfInBounds_toArray, List.set_cons_zero, List.set_cons_succ]
              refine wpD_mid (i := 6) (by kernel_rfl) rfl (fun K hK => ?_)
              refine step_append_fresh rfl (.tmp 51) (.tmp 55) 22 rfl 49 i0 _ 7 56 Try.underlying22 hi0 hz0 hzs hzb rfl (w2.heap.size + 1) rfl ⟨gl, 0, none⟩ ops.length cl (opsV ops) rfl hnp HW2.out.1 ?_ (by omega) (by decide) ?_
              · intro j u hu
                rw [addr_add0, ← hu]
                have hjl := (List.getElem?_eq_some_iff.1 hu).1
                have h0 := HLC.out j hjl
                rw [hu] at h0
                have h1 := ((((Keeps.refl NoB w2).alloc (.cells (opL o).toArray 49)).alloc (.cells #[] 49)).drew).some h0
                rw [hu]
                exact h1
              intro v6 w6 hrow6 hk6 hown6
              refine hK.out _ _ (fun hSw => ?_) ?_
              · exact ⟨hk6.some hSw.1, hk6.some hSw.2.1, hk6.some hSw.2.2.1, hk6.some hSw.2.2.2.1, hk6.some hSw.2.2.2.2.1, hk6.some hSw.2.2.2.2.2.1, hk6.some hSw.2.2.2.2.2.2.1, hk6.some hSw.2.2.2.2.2.2.2⟩
              clear hK K
              simp only [Act.put, List.setIfInBounds_toArray, List.set_cons_zero, List.set_cons_succ]
              have hkw6 : Keeps NoB w2 w6 := Keeps.trans ((((Keeps.refl NoB w2).alloc (.cells (opL o).toArray 49)).alloc (.cells #[] 49)).drew) hk6
              have hl6 : ∀ g, v6.ownBlock = some g → w2.heap.size ≤ g := fun g hg => by have h1 := hown6.symm.trans hg; simp at h1; omega
              have hny : Hid (¬ v6.ownBlock = some y) := Lib.hid (fun e => by have := hl6 _ e; have := HK2.out.size; omega)
              have hnw : Hid (¬ v6.ownBlock = some w.heap.size) := Lib.hid (fun e => by have := hl6 _ e; have := HC2.out.lt; omega)
              have HL6 := Lib.hid hl6
              have HR6 := Lib.hid hrow6
              have HKW6 := Lib.hid hkw6
              clear hl6 hrow6 hkw6
              refine wpD_mid (i := 9) (by kernel_rfl) rfl (fun K hK => ?_)
              refine step_append_row rfl (.tmp 56) (.tmp 58) 22 rfl 49 i0 _ 7 56 Try.underlying22 hi0 hz0 hzs hzb rfl (by decide) _ ops.length (opsV ops) rfl (HR6.out) ⟨w2.heap.size, 0, none⟩ 1 1 (opL o) rfl rfl ?_ ?_ (by omega) (by decide) ?_
              · intro j u hu
                rw [addr_add0, ← hu]
                have := (Cells.keep (Cells.drew ((Cells.new w2 (opL o) 49).alloc (.cells #[] 49))) (w' := w6) hk6 (fun e => e)).cell j
                simpa [opL] using this
              · intro u hu
                simp only [opL, List.mem_cons, List.not_mem_nil, or_false] at hu
                rcases hu with rfl | rfl | rfl | rfl | rfl | rfl | rfl <;> rfl
              intro v9 w9 hrow9 hk9 hown9
              refine hK.out _ _ (fun hSw => ?_) ?_
              · exact ⟨hk9.someF hSw.1 hny.out, hk9.someF hSw.2.1 hnw.out, hk9.someF hSw.2.2.1 hnw.out, hk9.someF hSw.2.2.2.1 hnw.out, hk9.someF hSw.2.2.2.2.1 hnw.out, hk9.someF hSw.2.2.2.2.2.1 hnw.out, hk9.someF hSw.2.2.2.2.2.2.1 hnw.out, hk9.someF hSw.2.2.2.2.2.2.2 hnw.out⟩
              clear hK K
              simp only [Act.put, List.setIfInBounds_toArray, List.set_cons_zero, List.set_cons_succ]
              refine wpD_tail 10 [10, 11, 12] (by kernel_rfl) (by kernel_rfl) ?_
              simp only [List.drop_succ_cons, List.drop_zero]
              clear hS
              have hkw9 : Keeps NoB w2 w9 := (HKW6.out).then hk9 (fun g hg => .inr (HL6.out g hg))
              have y9 := (HY2.out.keep hkw9 (fun e => e)).cell 0
              have fy9 := (HY2.out.keep hkw9 (fun e => e)).frozen 0
              have HG := Lib.hid (HFIN.out _ w9 _ _ rfl rfl hrow9 hkw9 (fun g hg => by rcases hown9 with h1 | h1; exact Nat.le_trans HK2.out.size (HL6.out g (h1 ▸ hg)); have h2 := h1.symm.trans hg; have h3 := HK2.out.size; have h4 := HKW6.out.size; simp at h2; omega))
              obtain ⟨A9, c9, rfl⟩ := hrow9.slice
              clear hrow9 hk9 hown9 hkw9
              go_wp2_with fail
              first | exact HG.out | (go_ret2; exact HG.out)
      · have hps := HPS.out
        have hz0 : o.ref ≠ Rga.Id.zero := fun e => by rw [e] at hz; simp [Rga.Id.zero] at hz
        rw [if_neg (by omega), if_pos (.inr ⟨hh, hz0⟩)] at hps
        have HN := Lib.hid (fun w' hk => HNO.out (by rw [hps]) 6 w' (by rw [hps]) hk)
        clear hps hz0
        rw [hh] at HHS1
        clear hh
        have HZ := Lib.hid hz
        clear hz
        go_wp2_with fail
        go_at_call 47
        refine HHS1.out.mono ?_
        rintro e w2 ⟨rfl, hk2⟩
        rcases HZ.out with hz | ⟨hz1, hz⟩
        all_goals
          have HK2 := Lib.hid (HK.out.trans hk2)
          have HC2 := Lib.hid (HC.out.keep hk2 (fun e => e))
          clear o0 o1 o2 o3 o4 o5 o6 hk2
          obtain ⟨o0, o1, o2, o3, o4, o5, o6⟩ := op_cells HC2.out
          go_wp2_with fail
          all_goals first | exact HN.out _ HK2.out | (go_ret2; exact HN.out _ HK2.out)
    · have hps := HPS.out
      rw [if_neg (by omega), if_neg (by rintro (e | e); exact e hc2; rw [hh] at e; exact Bool.noConfusion e.1)] at hps
      have HPA := Lib.hid hps
      rw [hh] at HHS1
      clear hps hh
      go_wp2_with fail
      go_at_call 47
      refine HHS1.out.mono ?_
      rintro e w2 ⟨rfl, hk2⟩
      have HK2 := Lib.hid (HK.out.trans hk2)
      have HC2 := Lib.hid (HC.out.keep hk2 (fun e => e))
      clear o0 o1 o2 o3 o4 o5 o6 hk2
      obtain ⟨o0, o1, o2, o3, o4, o5, o6⟩ := op_cells HC2.out
      by_cases hcl : o.id.ctr ≤ cq
      · have HN := Lib.hid (fun w' hk => HNO.out (by rw [HPA.out, if_pos hcl]) 1 w' (by rw [HPA.out, if_pos hcl]) hk)
        go_wp2_with fail
        all_goals first | exact HN.out _ HK2.out | (go_ret2; exact HN.out _ HK2.out)
      · have hps := HPA.out
        rw [if_neg hcl] at hps
        have HPT := Lib.hid hps
        clear hps
        have HY2 := Lib.hid (HT.out.1.keep HK2.out (fun e => e))
        have HW2 := Lib.hid (HT.out.2.1.keep HK2.out (fun _ _ e => e))
        obtain ⟨i0, hi0, hz0, hzs, hzb⟩ := info_parts op_info
        have hput : Rga.put ops o = ops ++ [o] := by unfold Rga.put; rw [if_pos (by rw [HPT.out])]
        have HFIN : Hid (∀ (v9 : Value) (w9 : World) (n : Nat) (xs : List Value), n = ops.length + 1 → xs = opsV ops ++ opL o → Row w9 49 7 v9 n xs → Keeps NoB w2 w9 → (∀ g, v9.ownBlock = some g → w.heap.size ≤ g) → R (.returned (.tuple #[.bool true, .int .i64 0])) (w9.setCell ⟨y, 0, none⟩ v9)) := Lib.hid (by
          rintro v9 w9 n xs rfl rfl hrow9 hk9 hown9
          rw [HR.out]
          have hkw9 := HK2.out.trans hk9
          have hy9 := HY2.out.keep hk9 (fun e => e)
          have hys := hy9.set 0 v9
          have hk10 : Keeps (fun b => b = y) w9 (w9.setCell ⟨y, 0, none⟩ v9) := (Keeps.refl (fun b => b = y) w9).setCell (p := ⟨y, 0, none⟩) (.inl rfl) _
          have hr10 := hrow9.keep hk10 (fun b hb e => hy9.ne_row hrow9 (by decide) (e ▸ hb))
          refine ⟨by rw [HPT.out], fun b => F b ∨ v9.ownBlock = some b, ⟨v9, hys, ?_, ?_, ?_, .inl hFy, fun g hg => .inr hg, ?_⟩, ?_, ?_⟩
          · rw [hput, opsV_append, opsV_one, List.length_append]
            exact hr10
          · intro e; rw [hput] at e; simp at e
          · intro _ e
            rcases hrow9.form with ⟨_, e1, _⟩ | ⟨g', c', e1, _⟩
            · omega
            · rw [e] at e1; cases e1
          · rintro g (hg | hg)
            · have := hold g hg; have := hkw9.size; have := hk10.size; omega
            · exact hr10.lt g hg
          · exact (hkw9.mono (fun _ _ e => False.elim e)).then (hk10.mono (G := F) (fun b _ e => e ▸ hFy)) (fun b e => .inl e)
          · rintro g (hg | hg)
            · exact .inl hg
            · exact .inr (hown9 g hg))
        by_cases hops : ops = []
        · have hlv := HT.out.2.2.1 hops
          have y0 : w2.cell? ⟨y, 0, none⟩ = some (.slice none 0 0) := by rw [← hlv]; exact HY2.out.cell 0
          have fy0 := HY2.out.frozen 0
          go_wp2_with fail
          refine wpD_begin (n := 13) (l := [false, false, false, false, false, false, false, false, false, false, false, false, false].toArray) [9, 10, 11, 12] (fun w' => w'.cell? ⟨y, 0, none⟩ = some (.slice none 0 0) ∧ w'.cell? ⟨w.heap.size, 0, none⟩ = some (.int .i64 o.id.ctr) ∧ w'.cell? ⟨w.heap.size, 1, none⟩ = some (.int .i64 o.id.author) ∧ w'.cell? ⟨w.heap.size, 2, none⟩ = some (.int .i64 o.seq) ∧ w'.cell? ⟨w.heap.size, 3, none⟩ = some (.bool o.ins) ∧ w'.cell? ⟨w.heap.size, 4, none⟩ = some (.int .i64 o.ref.ctr) ∧ w'.cell? ⟨w.heap.size, 5, none⟩ = some (.int .i64 o.ref.author) ∧ w'.cell? ⟨w.heap.size, 6, none⟩ = some (.int .i32 o.rune)) (by kernel_rfl) (by kernel_rfl) (by kernel_rfl) ?_ (fun hS => ?_)
          · first | (go_keep; done) | go_simp
          try dsimp only at hS
          refine wpD_takeL (i := 0) (v := ?vuh_0) rfl (by kernel_rfl) (by kernel_rfl) (by kernel_rfl) (fun _ _ _ h => h) (Or.inl ⟨by rfl, ?hyuh_0⟩) ?_
          case hyuh_0 => (intro w; go_simp; try with_reducible rfl)
          simp only [Act.put, List.setIfInBounds_toArray, List.set_cons_zero, List.set_cons_succ]
          refine wpD_takeL (i := 2) (v := ?vuh_2) rfl (by kernel_rfl) (by kernel_rfl) (by kernel_rfl) (fun _ _ _ h => h) (Or.inl ⟨by rfl, ?hyuh_2⟩) ?_
          case hyuh_2 => (intro w; go_simp; try with_reducible rfl)
          simp only [Act.put, List.setIfInBounds_toArray, List.set_cons_zero, List.set_cons_succ]
          refine wpD_takeL (i := 3) (v := ?vuh_3) rfl (by kernel_rfl) (by kernel_rfl) (by kernel_rfl) (fun _ _ _ h => h) (Or.inl ⟨by rfl, ?hyuh_3⟩) ?_
          case hyuh_3 => (intro w; go_simp; try with_reducible rfl)
          simp only [Act.put, List.setIfInBounds_toArray, List.set_cons_zero, List.set_cons_succ]
          refine wpD_takeL (i := 4) (v := ?vuh_4) rfl (by kernel_rfl) (by kernel_rfl) (by kernel_rfl) (fun _ _ _ h => h) (Or.inl ⟨by rfl, ?hyuh_4⟩) ?_
          case hyuh_4 => (intro w; go_simp; try with_reducible rfl)
          simp only [Act.put, List.setIfInBounds_toArray, List.set_cons_zero, List.set_cons_succ]
          refine wpD_loadL (i := 5) (v := ?vuh_5) rfl (by kernel_rfl) (by kernel_rfl) (by kernel_rfl) (by kernel_rfl) (fun _ _ _ h => h) (Or.inl ⟨by rfl, ?hyuh_5⟩) hS ?_
          case hyuh_5 => (intro w hSw; (try dsimp only at hSw); go_simp; try with_reducible rfl)
          simp only [Act.put, List.setIfInBounds_toArray, List.set_cons_zero, List.set_cons_succ]
          refine wpD_loadL (i := 7) (v := ?vuh_7) rfl (by kernel_rfl) (by kernel_rfl) (by kernel_rfl) (by kernel_rfl) (fun _ _ _ h => h) (Or.inl ⟨by rfl, ?hyuh_7⟩) hS ?_
          case hyuh_7 => (intro w hSw; (try dsimp only at hSw); go_simp; try with_reducible rfl)
          simp only [Act.put, List.setIfInBounds_toArray, List.set_cons_zero, List.set_cons_succ]
          refine wpD_mid2 (i := 1) (j := 8) (by kernel_rfl) rfl rfl (fun K hK => ?_) (fun K hK => ?_)
          · go_simp
            refine hK.out _ _ (fun hSw => ?_) ?_
            · first | exact hSw | (go_keep; done) | go_simp
            clear hK K
            simp only [List.setIfInBounds_toArray, List.set_cons_zero, List.set_cons_succ]
            refine wpD_mid2 (i := 6) (j := 8) (by kernel_rfl) rfl rfl (fun K hK => ?_) (fun K hK => ?_)
            · refine step_append_none rfl (.tmp 51) (.tmp 55) 22 rfl 49 i0 Try.underlying22 hi0 (some ⟨w2.heap.size, 0, none⟩) 0 0 (Nat.le_refl _) rfl rfl ?_
              refine hK.out _ _ (fun hSw => ?_) ?_
              · exact hSw
              clear hK K
              simp only [Act.put, List.setIfInBounds_toArray, List.set_cons_zero, List.set_cons_succ]
              refine wpD_mid (i := 8) (by kernel_rfl) rfl (fun K hK => ?_)
              go_simp
              refine hK.out _ _ (fun hSw => ?_) ?_
              · first | exact hSw | (go_keep; done) | go_simp
              clear hK K
              simp only [List.setIfInBounds_toArray, List.set_cons_zero, List.set_cons_succ]
              refine wpD_mid (i := 9) (by kernel_rfl) rfl (fun K hK => ?_)
              refine step_append_fresh rfl (.tmp 56) (.tmp 58) 22 rfl 49 i0 _ 7 56 Try.underlying22 hi0 hz0 hzs hzb rfl (w2.heap.size) rfl ⟨w2.heap.size + 1, 0, none⟩ 1 1 (opL o) rfl (by decide) rfl ?_ (by decide) (by decide) ?_
              · intro j u hu
                rw [addr_add0, ← hu]
                have := (Cells.drew (Cells.new (w2.alloc (.cells #[] 49)) (opL o) 49)).cell j
                simp [opL]
              intro v9 w9 hrow9 hk9 hown9
              refine hK.out _ _ (fun hSw => ?_) ?_
              · exact ⟨hk9.some hSw.1, hk9.some hSw.2.1, hk9.some hSw.2.2.1, hk9.some hSw.2.2.2.1, hk9.some hSw.2.2.2.2.1, hk9.some hSw.2.2.2.2.2.1, hk9.some hSw.2.2.2.2.2.2.1, hk9.some hSw.2.2.2.2.2.2.2⟩
              clear hK K
              simp only [Act.put, List.setIfInBounds_toArray, List.set_cons_zero, List.set_cons_succ]
              refine wpD_tail 10 [10, 11, 12] (by kernel_rfl) (by kernel_rfl) ?_
              simp only [List.drop_succ_cons, List.drop_zero]
              clear hS
              have hkw9 : Keeps NoB w2 w9 := (((Keeps.refl NoB w2).alloc _).alloc _).drew.trans hk9
              have y9 := (HY2.out.keep hkw9 (fun e => e)).cell 0
              have fy9 := (HY2.out.keep hkw9 (fun e => e)).frozen 0
              have HG := Lib.hid (HFIN.out _ w9 _ _ (by rw [hops]; rfl) (by rw [hops]; rfl) hrow9 hkw9 (fun g hg => by have h1 := hown9.symm.trans hg; have h2 := HK2.out.size; simp at h1; omega))
              obtain ⟨A9, c9, rfl⟩ := hrow9.slice
              clear hrow9 hk9 hown9 hkw9
              go_wp2_with fail
              first | exact HG.out | (go_ret2; exact HG.out)
            · go_simp
              refine hK.out _ _ (fun hSw => ?_) ?_
              · first | exact hSw | (go_keep; done) | go_simp
              clear hK K
              simp only [List.setIfInBounds_toArray, List.set_cons_zero, List.set_cons_succ]
              refine wpD_mid (i := 6) (by kernel_rfl) rfl (fun K hK => ?_)
              refine step_append_none rfl (.tmp 51) (.tmp 55) 22 rfl 49 i0 Try.underlying22 hi0 (some ⟨w2.heap.size, 0, none⟩) 0 0 (Nat.le_refl _) rfl rfl ?_
              refine hK.out _ _ (fun hSw => ?_) ?_
              · exact hSw
              clear hK K
              simp only [Act.put, List.setIfInBounds_toArray, List.set_cons_zero, List.set_cons_succ]
              refine wpD_mid (i := 9) (by kernel_rfl) rfl (fun K hK => ?_)
              refine step_append_fresh rfl (.tmp 56) (.tmp 58) 22 rfl 49 i0 _ 7 56 Try.underlying22 hi0 hz0 hzs hzb rfl (w2.heap.size) rfl ⟨w2.heap.size + 1, 0, none⟩ 1 1 (opL o) rfl (by decide) rfl ?_ (by decide) (by decide) ?_
              · intro j u hu
                rw [addr_add0, ← hu]
                have := (Cells.drew (Cells.new (w2.alloc (.cells #[] 49)) (opL o) 49)).cell j
                simp [opL]
              intro v9 w9 hrow9 hk9 hown9
              refine hK.out _ _ (fun hSw => ?_) ?_
              · exact ⟨hk9.some hSw.1, hk9.some hSw.2.1, hk9.some hSw.2.2.1, hk9.some hSw.2.2.2.1, hk9.some hSw.2.2.2.2.1, hk9.some hSw.2.2.2.2.2.1, hk9.some hSw.2.2.2.2.2.2.1, hk9.some hSw.2.2.2.2.2.2.2⟩
              clear hK K
              simp only [Act.put, List.setIfInBounds_toArray, List.set_cons_zero, List.set_cons_succ]
              refine wpD_tail 10 [10, 11, 12] (by kernel_rfl) (by kernel_rfl) ?_
              simp only [List.drop_succ_cons, List.drop_zero]
              clear hS
              have hkw9 : Keeps NoB w2 w9 := (((Keeps.refl NoB w2).alloc _).alloc _).drew.trans hk9
              have y9 := (HY2.out.keep hkw9 (fun e => e)).cell 0
              have fy9 := (HY2.out.keep hkw9 (fun e => e)).frozen 0
              have HG := Lib.hid (HFIN.out _ w9 _ _ (by rw [hops]; rfl) (by rw [hops]; rfl) hrow9 hkw9 (fun g hg => by have h1 := hown9.symm.trans hg; have h2 := HK2.out.size; simp at h1; omega))
              obtain ⟨A9, c9, rfl⟩ := hrow9.slice
              clear hrow9 hk9 hown9 hkw9
              go_wp2_with fail
              first | exact HG.out | (go_ret2; exact HG.out)
          · go_simp
            refine hK.out _ _ (fun hSw => ?_) ?_
            · first | exact hSw | (go_keep; done) | go_simp
            clear hK K
            simp only [List.setIfInBounds_toArray, List.set_cons_zero, List.set_cons_succ]
            refine wpD_mid (i := 1) (by kernel_rfl) rfl (fun K hK => ?_)
            go_simp
            refine hK.out _ _ (fun hSw => ?_) ?_
            · first | exact hSw | (go_keep; done) | go_simp
            clear hK K
            simp only [List.setIfInBounds_toArray, List.set_cons_zero, List.set_cons_succ]
            refine wpD_mid (i := 6) (by kernel_rfl) rfl (fun K hK => ?_)
            refine step_append_none rfl (.tmp 51) (.tmp 55) 22 rfl 49 i0 Try.underlying22 hi0 (some ⟨w2.heap.size + 1, 0, none⟩) 0 0 (Nat.le_refl _) rfl rfl ?_
            refine hK.out _ _ (fun hSw => ?_) ?_
            · exact hSw
            clear hK K
            simp only [Act.put, List.setIfInBounds_toArray, List.set_cons_zero, List.set_cons_succ]
            refine wpD_mid (i := 9) (by kernel_rfl) rfl (fun K hK => ?_)
            refine step_append_fresh rfl (.tmp 56) (.tmp 58) 22 rfl 49 i0 _ 7 56 Try.underlying22 hi0 hz0 hzs hzb rfl (w2.heap.size + 1) rfl ⟨w2.heap.size, 0, none⟩ 1 1 (opL o) rfl (by decide) rfl ?_ (by decide) (by decide) ?_
            · intro j u hu
              rw [addr_add0, ← hu]
              have := (Cells.drew ((Cells.new w2 (opL o) 49).alloc (.cells #[] 49))).cell j
              simp [opL]
            intro v9 w9 hrow9 hk9 hown9
            refine hK.out _ _ (fun hSw => ?_) ?_
            · exact ⟨hk9.some hSw.1, hk9.some hSw.2.1, hk9.some hSw.2.2.1, hk9.some hSw.2.2.2.1, hk9.some hSw.2.2.2.2.1, hk9.some hSw.2.2.2.2.2.1, hk9.some hSw.2.2.2.2.2.2.1, hk9.some hSw.2.2.2.2.2.2.2⟩
            clear hK K
            simp only [Act.put, List.setIfInBounds_toArray, List.set_cons_zero, List.set_cons_succ]
            refine wpD_tail 10 [10, 11, 12] (by kernel_rfl) (by kernel_rfl) ?_
            simp only [List.drop_succ_cons, List.drop_zero]
            clear hS
            have hkw9 : Keeps NoB w2 w9 := (((Keeps.refl NoB w2).alloc _).alloc _).drew.trans hk9
            have y9 := (HY2.out.keep hkw9 (fun e => e)).cell 0
            have fy9 := (HY2.out.keep hkw9 (fun e => e)).frozen 0
            have HG := Lib.hid (HFIN.out _ w9 _ _ (by rw [hops]; rfl) (by rw [hops]; rfl) hrow9 hkw9 (fun g hg => by have h1 := hown9.symm.trans hg; have h2 := HK2.out.size; simp at h1; omega))
            obtain ⟨A9, c9, rfl⟩ := hrow9.slice
            clear hrow9 hk9 hown9 hkw9
            go_wp2_with fail
            first | exact HG.out | (go_ret2; exact HG.out)

        · have hnp : 0 < ops.length := by
            rcases hl : ops with _ | _
            · exact absurd hl hops
            · simp
          obtain ⟨gl, cl, hlv, HLC0⟩ : ∃ gl cl, lv = .slice (some ⟨gl, 0, none⟩) ops.length cl ∧ ∀ j, j < (opsV ops).length → w2.cell? ⟨gl, j, none⟩ = (opsV ops)[j]? := by
            rcases HW2.out.form with ⟨_, e, _⟩ | ⟨g', c', e, _, _, _, hc', _⟩
            · omega
            · exact ⟨g', c', e, fun j hj => hc' j (by have := HW2.out.1; omega)⟩
          have HLC := Lib.hid HLC0
          have y0 : w2.cell? ⟨y, 0, none⟩ = some (.slice (some ⟨gl, 0, none⟩) ops.length cl) := by rw [← hlv]; exact HY2.out.cell 0
          have fy0 := HY2.out.frozen 0
          clear hlv HLC0
          go_wp2_with fail
          refine wpD_begin (n := 13) (l := [false, false, false, false, false, false, false, false, false, false, false, false, false].toArray) [9, 10, 11, 12] (fun w' => w'.cell? ⟨y, 0, none⟩ = some (.slice (some ⟨gl, 0, none⟩) ops.length cl) ∧ w'.cell? ⟨w.heap.size, 0, none⟩ = some (.int .i64 o.id.ctr) ∧ w'.cell? ⟨w.heap.size, 1, none⟩ = some (.int .i64 o.id.author) ∧ w'.cell? ⟨w.heap.size, 2, none⟩ = some (.int .i64 o.seq) ∧ w'.cell? ⟨w.heap.size, 3, none⟩ = some (.bool o.ins) ∧ w'.cell? ⟨w.heap.size, 4, none⟩ = some (.int .i64 o.ref.ctr) ∧ w'.cell? ⟨w.heap.size, 5, none⟩ = some (.int .i64 o.ref.author) ∧ w'.cell? ⟨w.heap.size, 6, none⟩ = some (.int .i32 o.rune)) (by kernel_rfl) (by kernel_rfl) (by kernel_rfl) ?_ (fun hS => ?_)
          · first | (go_keep; done) | go_simp
          try dsimp only at hS
          refine wpD_takeL (i := 0) (v := ?vvh_0) rfl (by kernel_rfl) (by kernel_rfl) (by kernel_rfl) (fun _ _ _ h => h) (Or.inl ⟨by rfl, ?hyvh_0⟩) ?_
          case hyvh_0 => (intro w; go_simp; try with_reducible rfl)
          simp only [Act.put, List.setIfInBounds_toArray, List.set_cons_zero, List.set_cons_succ]
          refine wpD_takeL (i := 2) (v := ?vvh_2) rfl (by kernel_rfl) (by kernel_rfl) (by kernel_rfl) (fun _ _ _ h => h) (Or.inl ⟨by rfl, ?hyvh_2⟩) ?_
          case hyvh_2 => (intro w; go_simp; try with_reducible rfl)
          simp only [Act.put, List.setIfInBounds_toArray, List.set_cons_zero, List.set_cons_succ]
          refine wpD_takeL (i := 3) (v := ?vvh_3) rfl (by kernel_rfl) (by kernel_rfl) (by kernel_rfl) (fun _ _ _ h => h) (Or.inl ⟨by rfl, ?hyvh_3⟩) ?_
          case hyvh_3 => (intro w; go_simp; try with_reducible rfl)
          simp only [Act.put, List.setIfInBounds_toArray, List.set_cons_zero, List.set_cons_succ]
          refine wpD_takeL (i := 4) (v := ?vvh_4) rfl (by kernel_rfl) (by kernel_rfl) (by kernel_rfl) (fun _ _ _ h => h) (Or.inl ⟨by rfl, ?hyvh_4⟩) ?_
          case hyvh_4 => (intro w; go_simp; try with_reducible rfl)
          simp only [Act.put, List.setIfInBounds_toArray, List.set_cons_zero, List.set_cons_succ]
          refine wpD_loadL (i := 5) (v := ?vvh_5) rfl (by kernel_rfl) (by kernel_rfl) (by kernel_rfl) (by kernel_rfl) (fun _ _ _ h => h) (Or.inl ⟨by rfl, ?hyvh_5⟩) hS ?_
          case hyvh_5 => (intro w hSw; (try dsimp only at hSw); go_simp; try with_reducible rfl)
          simp only [Act.put, List.setIfInBounds_toArray, List.set_cons_zero, List.set_cons_succ]
          refine wpD_loadL (i := 7) (v := ?vvh_7) rfl (by kernel_rfl) (by kernel_rfl) (by kernel_rfl) (by kernel_rfl) (fun _ _ _ h => h) (Or.inl ⟨by rfl, ?hyvh_7⟩) hS ?_
          case hyvh_7 => (intro w hSw; (try dsimp only at hSw); go_simp; try with_reducible rfl)
          simp only [Act.put, List.setIfInBounds_toArray, List.set_cons_zero, List.set_cons_succ]
          refine wpD_mid2 (i := 1) (j := 8) (by kernel_rfl) rfl rfl (fun K hK => ?_) (fun K hK => ?_)
          · go_simp
            refine hK.out _ _ (fun hSw => ?_) ?_
            · first | exact hSw | (go_keep; done) | go_simp
            clear hK K
            simp only [List.setIfInBounds_toArray, List.set_cons_zero, List.set_cons_succ]
            refine wpD_mid2 (i := 6) (j := 8) (by kernel_rfl) rfl rfl (fun K hK => ?_) (fun K hK => ?_)
            · refine step_append_fresh rfl (.tmp 51) (.tmp 55) 22 rfl 49 i0 _ 7 56 Try.underlying22 hi0 hz0 hzs hzb rfl (w2.heap.size) rfl ⟨gl, 0, none⟩ ops.length cl (opsV ops) rfl hnp HW2.out.1 ?_ (by omega) (by decide) ?_
              · intro j u hu
                rw [addr_add0, ← hu]
                have hjl := (List.getElem?_eq_some_iff.1 hu).1
                have h0 := HLC.out j hjl
                rw [hu] at h0
                have h1 := (((Keeps.refl NoB w2).alloc (.cells #[] 49)).drew).some h0
                rw [hu]
                exact h1
              intro v6 w6 hrow6 hk6 hown6
              refine hK.out _ _ (fun hSw => ?_) ?_
              · exact ⟨hk6.some hSw.1, hk6.some hSw.2.1, hk6.some hSw.2.2.1, hk6.some hSw.2.2.2.1, hk6.some hSw.2.2.2.2.1, hk6.some hSw.2.2.2.2.2.1, hk6.some hSw.2.2.2.2.2.2.1, hk6.some hSw.2.2.2.2.2.2.2⟩
              clear hK K
              simp only [Act.put, List.setIfInBounds_toArray, List.set_cons_zero, List.set_cons_succ]
              have hkw6 : Keeps NoB w2 w6 := Keeps.trans (((Keeps.refl NoB w2).alloc (.cells #[] 49)).drew) hk6
              have hl6 : ∀ g, v6.ownBlock = some g → w2.heap.size ≤ g := fun g hg => by have h1 := hown6.symm.trans hg; simp at h1; omega
              have hny : Hid (¬ v6.ownBlock = some y) := Lib.hid (fun e => by have := hl6 _ e; have := HK2.out.size; omega)
              have hnw : Hid (¬ v6.ownBlock = some w.heap.size) := Lib.hid (fun e => by have := hl6 _ e; have := HC2.out.lt; omega)
              have HL6 := Lib.hid hl6
              have HR6 := Lib.hid hrow6
              have HKW6 := Lib.hid hkw6
              clear hl6 hrow6 hkw6
              refine wpD_mid (i := 8) (by kernel_rfl) rfl (fun K hK => ?_)
              go_simp
              refine hK.out _ _ (fun hSw => ?_) ?_
              · first | exact hSw | (go_keep; done) | go_simp
              clear hK K
              simp only [List.setIfInBounds_toArray, List.set_cons_zero, List.set_cons_succ]
              refine wpD_mid (i := 9) (by kernel_rfl) rfl (fun K hK => ?_)
              refine step_append_row rfl (.tmp 56) (.tmp 58) 22 rfl 49 i0 _ 7 56 Try.underlying22 hi0 hz0 hzs hzb rfl (by decide) _ ops.length (opsV ops) rfl (HR6.out.alloc _) ⟨w6.heap.size, 0, none⟩ 1 1 (opL o) rfl rfl ?_ ?_ (by omega) (by decide) ?_
              · intro j u hu
                rw [addr_add0, ← hu]
                have := (Cells.new w6 (opL o) 49).cell j
                simp [opL]
              · intro u hu
                simp only [opL, List.mem_cons, List.not_mem_nil, or_false] at hu
                rcases hu with rfl | rfl | rfl | rfl | rfl | rfl | rfl <;> rfl
              intro v9 w9 hrow9 hk9 hown9
              refine hK.out _ _ (fun hSw => ?_) ?_
              · exact ⟨hk9.someF hSw.1 hny.out, hk9.someF hSw.2.1 hnw.out, hk9.someF hSw.2.2.1 hnw.out, hk9.someF hSw.2.2.2.1 hnw.out, hk9.someF hSw.2.2.2.2.1 hnw.out, hk9.someF hSw.2.2.2.2.2.1 hnw.out, hk9.someF hSw.2.2.2.2.2.2.1 hnw.out, hk9.someF hSw.2.2.2.2.2.2.2 hnw.out⟩
              clear hK K
              simp only [Act.put, List.setIfInBounds_toArray, List.set_cons_zero, List.set_cons_succ]
              refine wpD_tail 10 [10, 11, 12] (by kernel_rfl) (by kernel_rfl) ?_
              simp only [List.drop_succ_cons, List.drop_zero]
              clear hS
              have hkw9 : Keeps NoB w2 w9 := (HKW6.out.alloc _).then hk9 (fun g hg => .inr (HL6.out g hg))
              have y9 := (HY2.out.keep hkw9 (fun e => e)).cell 0
              have fy9 := (HY2.out.keep hkw9 (fun e => e)).frozen 0
              have HG := Lib.hid (HFIN.out _ w9 _ _ rfl rfl hrow9 hkw9 (fun g hg => by rcases hown9 with h1 | h1; exact Nat.le_trans HK2.out.size (HL6.out g (h1 ▸ hg)); have h2 := h1.symm.trans hg; have h3 := HK2.out.size; have h4 := HKW6.out.size; simp at h2; omega))
              obtain ⟨A9, c9, rfl⟩ := hrow9.slice
              clear hrow9 hk9 hown9 hkw9
              go_wp2_with fail
              first | exact HG.out | (go_ret2; exact HG.out)
            · go_simp
              refine hK.out _ _ (fun hSw => ?_) ?_
              · first | exact hSw | (go_keep; done) | go_simp
              clear hK K
              simp only [List.setIfInBounds_toArray, List.set_cons_zero, List.set_cons_succ]
              refine wpD_mid (i := 6) (by kernel_rfl) rfl (fun K hK => ?_)
              refine step_append_fresh rfl (.tmp 51) (.tmp 55) 22 rfl 49 i0 _ 7 56 Try.underlying22 hi0 hz0 hzs hzb rfl (w2.heap.size) rfl ⟨gl, 0, none⟩ ops.length cl (opsV ops) rfl hnp HW2.out.1 ?_ (by omega) (by decide) ?_
              · intro j u hu
                rw [addr_add0, ← hu]
                have hjl := (List.getElem?_eq_some_iff.1 hu).1
                have h0 := HLC.out j hjl
                rw [hu] at h0
                have h1 := ((((Keeps.refl NoB w2).alloc (.cells #[] 49)).alloc (.cells (opL o).toArray 49)).drew).some h0
                rw [hu]
                exact h1
              intro v6 w6 hrow6 hk6 hown6
              refine hK.out _ _ (fun hSw => ?_) ?_
              · exact ⟨hk6.some hSw.1, hk6.some hSw.2.1, hk6.some hSw.2.2.1, hk6.some hSw.2.2.2.1, hk6.some hSw.2.2.2.2.1, hk6.some hSw.2.2.2.2.2.1, hk6.some hSw.2.2.2.2.2.2.1, hk6.some hSw.2.2.2.2.2.2.2⟩
              clear hK K
              simp only [Act.put, List.setIfInBounds_toArray, List.set_cons_zero, List.set_cons_succ]
              have hkw6 : Keeps NoB w2 w6 := Keeps.trans ((((Keeps.refl NoB w2).alloc (.cells #[] 49)).alloc (.cells (opL o).toArray 49)).drew) hk6
              have hl6 : ∀ g, v6.ownBlock = some g → w2.heap.size ≤ g := fun g hg => by have h1 := hown6.symm.trans hg; simp at h1; omega
              have hny : Hid (¬ v6.ownBlock = some y) := Lib.hid (fun e => by have := hl6 _ e; have := HK2.out.size; omega)
              have hnw : Hid (¬ v6.ownBlock = some w.heap.size) := Lib.hid (fun e => by have := hl6 _ e; have := HC2.out.lt; omega)
              have HL6 := Lib.hid hl6
              have HR6 := Lib.hid hrow6
              have HKW6 := Lib.hid hkw6
              clear hl6 hrow6 hkw6
              refine wpD_mid (i := 9) (by kernel_rfl) rfl (fun K hK => ?_)
              refine step_append_row rfl (.tmp 56) (.tmp 58) 22 rfl 49 i0 _ 7 56 Try.underlying22 hi0 hz0 hzs hzb rfl (by decide) _ ops.length (opsV ops) rfl (HR6.out) ⟨w2.heap.size + 1, 0, none⟩ 1 1 (opL o) rfl rfl ?_ ?_ (by omega) (by decide) ?_
              · intro j u hu
                rw [addr_add0, ← hu]
                have := (Cells.keep (Cells.drew (Cells.new (w2.alloc (.cells #[] 49)) (opL o) 49)) (w' := w6) hk6 (fun e => e)).cell j
                simpa [opL] using this
              · intro u hu
                simp only [opL, List.mem_cons, List.not_mem_nil, or_false] at hu
                rcases hu with rfl | rfl | rfl | rfl | rfl | rfl | rfl <;> rfl
              intro v9 w9 hrow9 hk9 hown9
              refine hK.out _ _ (fun hSw => ?_) ?_
              · exact ⟨hk9.someF hSw.1 hny.out, hk9.someF hSw.2.1 hnw.out, hk9.someF hSw.2.2.1 hnw.out, hk9.someF hSw.2.2.2.1 hnw.out, hk9.someF hSw.2.2.2.2.1 hnw.out, hk9.someF hSw.2.2.2.2.2.1 hnw.out, hk9.someF hSw.2.2.2.2.2.2.1 hnw.out, hk9.someF hSw.2.2.2.2.2.2.2 hnw.out⟩
              clear hK K
              simp only [Act.put, List.setIfInBounds_toArray, List.set_cons_zero, List.set_cons_succ]
              refine wpD_tail 10 [10, 11, 12] (by kernel_rfl) (by kernel_rfl) ?_
              simp only [List.drop_succ_cons, List.drop_zero]
              clear hS
              have hkw9 : Keeps NoB w2 w9 := (HKW6.out).then hk9 (fun g hg => .inr (HL6.out g hg))
              have y9 := (HY2.out.keep hkw9 (fun e => e)).cell 0
              have fy9 := (HY2.out.keep hkw9 (fun e => e)).frozen 0
              have HG := Lib.hid (HFIN.out _ w9 _ _ rfl rfl hrow9 hkw9 (fun g hg => by rcases hown9 with h1 | h1; exact Nat.le_trans HK2.out.size (HL6.out g (h1 ▸ hg)); have h2 := h1.symm.trans hg; have h3 := HK2.out.size; have h4 := HKW6.out.size; simp at h2; omega))
              obtain ⟨A9, c9, rfl⟩ := hrow9.slice
              clear hrow9 hk9 hown9 hkw9
              go_wp2_with fail
              first | exact HG.out | (go_ret2; exact HG.out)
          · go_simp
            refine hK.out _ _ (fun hSw => ?_) ?_
            · first | exact hSw | (go_keep; done) | go_simp
            clear hK K
            simp only [List.setIfInBounds_toArray, List.set_cons_zero, List.set_cons_succ]
            refine wpD_mid (i := 1) (by kernel_rfl) rfl (fun K hK => ?_)
            go_simp
            refine hK.out _ _ (fun hSw => ?_) ?_
            · first | exact hSw | (go_keep; done) | go_simp
            clear hK K
            simp only [List.setIfInBounds_toArray, List.set_cons_zero, List.set_cons_succ]
            refine wpD_mid (i := 6) (by kernel_rfl) rfl (fun K hK => ?_)
            refine step_append_fresh rfl (.tmp 51) (.tmp 55) 22 rfl 49 i0 _ 7 56 Try.underlying22 hi0 hz0 hzs hzb rfl (w2.heap.size + 1) rfl ⟨gl, 0, none⟩ ops.length cl (opsV ops) rfl hnp HW2.out.1 ?_ (by omega) (by decide) ?_
            · intro j u hu
              rw [addr_add0, ← hu]
              have hjl := (List.getElem?_eq_some_iff.1 hu).1
              have h0 := HLC.out j hjl
              rw [hu] at h0
              have h1 := ((((Keeps.refl NoB w2).alloc (.cells (opL o).toArray 49)).alloc (.cells #[] 49)).drew).some h0
              rw [hu]
              exact h1
            intro v6 w6 hrow6 hk6 hown6
            refine hK.out _ _ (fun hSw => ?_) ?_
            · exact ⟨hk6.some hSw.1, hk6.some hSw.2.1, hk6.some hSw.2.2.1, hk6.some hSw.2.2.2.1, hk6.some hSw.2.2.2.2.1, hk6.some hSw.2.2.2.2.2.1, hk6.some hSw.2.2.2.2.2.2.1, hk6.some hSw.2.2.2.2.2.2.2⟩
            clear hK K
            simp only [Act.put, List.setIfInBounds_toArray, List.set_cons_zero, List.set_cons_succ]
            have hkw6 : Keeps NoB w2 w6 := Keeps.trans ((((Keeps.refl NoB w2).alloc (.cells (opL o).toArray 49)).alloc (.cells #[] 49)).drew) hk6
            have hl6 : ∀ g, v6.ownBlock = some g → w2.heap.size ≤ g := fun g hg => by have h1 := hown6.symm.trans hg; simp at h1; omega
            have hny : Hid (¬ v6.ownBlock = some y) := Lib.hid (fun e => by have := hl6 _ e; have := HK2.out.size; omega)
            have hnw : Hid (¬ v6.ownBlock = some w.heap.size) := Lib.hid (fun e => by have := hl6 _ e; have := HC2.out.lt; omega)
            have HL6 := Lib.hid hl6
            have HR6 := Lib.hid hrow6
            have HKW6 := Lib.hid hkw6
            clear hl6 hrow6 hkw6
            refine wpD_mid (i := 9) (by kernel_rfl) rfl (fun K hK => ?_)
            refine step_append_row rfl (.tmp 56) (.tmp 58) 22 rfl 49 i0 _ 7 56 Try.underlying22 hi0 hz0 hzs hzb rfl (by decide) _ ops.length (opsV ops) rfl (HR6.out) ⟨w2.heap.size, 0, none⟩ 1 1 (opL o) rfl rfl ?_ ?_ (by omega) (by decide) ?_
            · intro j u hu
              rw [addr_add0, ← hu]
              have := (Cells.keep (Cells.drew ((Cells.new w2 (opL o) 49).alloc (.cells #[] 49))) (w' := w6) hk6 (fun e => e)).cell j
              simpa [opL] using this
            · intro u hu
              simp only [opL, List.mem_cons, List.not_mem_nil, or_false] at hu
              rcases hu with rfl | rfl | rfl | rfl | rfl | rfl | rfl <;> rfl
            intro v9 w9 hrow9 hk9 hown9
            refine hK.out _ _ (fun hSw => ?_) ?_
            · exact ⟨hk9.someF hSw.1 hny.out, hk9.someF hSw.2.1 hnw.out, hk9.someF hSw.2.2.1 hnw.out, hk9.someF hSw.2.2.2.1 hnw.out, hk9.someF hSw.2.2.2.2.1 hnw.out, hk9.someF hSw.2.2.2.2.2.1 hnw.out, hk9.someF hSw.2.2.2.2.2.2.1 hnw.out, hk9.someF hSw.2.2.2.2.2.2.2 hnw.out⟩
            clear hK K
            simp only [Act.put, List.setIfInBounds_toArray, List.set_cons_zero, List.set_cons_succ]
            refine wpD_tail 10 [10, 11, 12] (by kernel_rfl) (by kernel_rfl) ?_
            simp only [List.drop_succ_cons, List.drop_zero]
            clear hS
            have hkw9 : Keeps NoB w2 w9 := (HKW6.out).then hk9 (fun g hg => .inr (HL6.out g hg))
            have y9 := (HY2.out.keep hkw9 (fun e => e)).cell 0
            have fy9 := (HY2.out.keep hkw9 (fun e => e)).frozen 0
            have HG := Lib.hid (HFIN.out _ w9 _ _ rfl rfl hrow9 hkw9 (fun g hg => by rcases hown9 with h1 | h1; exact Nat.le_trans HK2.out.size (HL6.out g (h1 ▸ hg)); have h2 := h1.symm.trans hg; have h3 := HK2.out.size; have h4 := HKW6.out.size; simp at h2; omega))
            obtain ⟨A9, c9, rfl⟩ := hrow9.slice
            clear hrow9 hk9 hown9 hkw9
            go_wp2_with fail
            first | exact HG.out | (go_ret2; exact HG.out)
end Go.Proofs.Ytoddohhhhnahnaa
