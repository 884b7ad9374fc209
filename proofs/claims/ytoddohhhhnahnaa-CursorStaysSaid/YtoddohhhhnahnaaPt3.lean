/- The sequence: Put where it takes a removal. -/
import Derived.Test.YtoddohhhhnahnaaPt2
namespace Go.Proofs.Ytoddohhhhnahnaa
open Go.RowKit

def killEl (es : List Rga.El) (K : Nat) : List Rga.El := es.modify K fun e => ⟨e.id, e.rune, false⟩
theorem killEl_length (es : List Rga.El) (K : Nat) : (killEl es K).length = es.length := by simp [killEl]
theorem elV_kill : ∀ (es : List Rga.El) (K : Nat), K < es.length → elV (killEl es K) = (elV es).set (K * 4 + 3) (.bool false)
  | [], K, h => by simp at h
  | e :: es, 0, _ => by simp [killEl, elV]
  | e :: es, K + 1, h => by
    have := elV_kill es K (by simpa using h)
    have e1 : (K + 1) * 4 + 3 = K * 4 + 3 + 1 + 1 + 1 + 1 := by omega
    rw [e1]
    simpa [killEl, elV] using this
theorem kill_alive : ∀ (es : List Rga.El) (K : Nat), (killEl es K).map (·.alive) = (es.map (·.alive)).set K false
  | [], K => by simp [killEl]
  | e :: es, 0 => by simp [killEl]
  | e :: es, K + 1 => by
    have := kill_alive es K
    simpa [killEl] using this

set_option maxHeartbeats 6400000 in
set_option maxRecDepth 100000 in
theorem put_del (w : World) (F : Nat → Prop) (x : Nat) (S : TxS) (es : List Rga.El) (os : List Rga.Opn) (vec : List (Int × Int)) (f : Int → Int) (top : Int) (h : TxR w F x S es os vec f top) (hvb : vec.length < 1099511627776) (hnb : os.length < 1099511627776) (_ : es.length < 1099511627776) (o : Rga.Opn) (hoi : o.ins = false) (hs1 : 0 ≤ seqV vec o.id.author) (hs2 : seqV vec o.id.author ≤ 4294967295)
    (hr : Rga.right o = true) (hq : o.seq = seqV vec o.id.author + 1) (K0 : Nat) (hK0 : posI es o.ref = (K0 : Int)) (hKl : K0 < es.length) (hc : f o.id.author < o.id.ctr) :
    Calls Try.prog 24 #[.pointer (some ⟨x, 0, none⟩), .agg #[.int .i64 o.id.ctr, .int .i64 o.id.author, .int .i64 o.seq, .bool false, .int .i64 o.ref.ctr, .int .i64 o.ref.author, .int .i32 o.rune]] w (PutPost w F x (killEl es K0) (os ++ [o]) (withV vec o.id.author o.seq) (fun y => if y = o.id.author then o.id.ctr else f y) (max top o.id.ctr)) := by
  obtain ⟨R, hR⟩ : ∃ R, R = PutPost w F x (killEl es K0) (os ++ [o]) (withV vec o.id.author o.seq) (fun y => if y = o.id.author then o.id.ctr else f y) (max top o.id.ctr) := ⟨_, rfl⟩
  rw [← hR]
  have HPOST := Lib.hid hR
  clear hR
  have x3 : w.cell? ⟨x, 3, none⟩ = some S.vv := h.head.cell 3
  have x4 : w.cell? ⟨x, 4, none⟩ = some (.map (some S.mb)) := h.head.cell 4
  have xlt := h.head.lt
  have hob : Cells (w.alloc (.cells #[.int .i64 o.id.ctr, .int .i64 o.id.author, .int .i64 o.seq, .bool false, .int .i64 o.ref.ctr, .int .i64 o.ref.author, .int .i32 o.rune] 49)) w.heap.size 49 (opL o) := by
    have := Cells.new w (opL o) 49
    simpa [opL, hoi] using this
  have HR : Hid (∀ w, Calls Try.prog 36 #[.agg #[.int .i64 o.id.ctr, .int .i64 o.id.author, .int .i64 o.seq, .bool false, .int .i64 o.ref.ctr, .int .i64 o.ref.author, .int .i32 o.rune]] w (boolKeeps w (Rga.right o))) := Lib.hid (fun w => by rw [← hoi]; exact right_any o w)
  have HO := Lib.hid hob
  have HT := Lib.hid h
  clear h hob
  rw [hr] at HR
  clear hr
  have HH := Lib.hid (And.intro hq (And.intro hK0 hc))
  clear hq hK0 hc
  go_enter Try.func24, Try.ntmps24
  go_wp2_with (first | (go_at_call 36; refine (HR.out _).mono ?_; rintro e w1 ⟨rfl, hk1⟩; have hk1 := Lib.hid hk1))
  obtain ⟨Av, cv, hvv⟩ := HT.out.vrow.slice
  have hco : Cells w1 w.heap.size 49 (opL o) := Cells.keep (F := NoB) (w' := w1) HO.out hk1.out (fun e => e)
  have hkw : Keeps NoB w w1 := ((Keeps.refl NoB w).alloc _).trans hk1.out
  have HT1 := Lib.hid (HT.out.keep hkw (fun _ _ e => e))
  have HS := Lib.hid (seq_any w1.drew (.slice Av vec.length cv) vec (by rw [← hvv]; exact HT1.out.vrow.drew) HT.out.rise (by omega) o.id.author)
  have x3a : w1.cell? ⟨x, 3, none⟩ = some (.slice Av vec.length cv) := by rw [← hvv]; exact hkw.some x3
  obtain ⟨o0, o1, o2, o3, o4, o5, o6⟩ := op_cells hco
  have PK := Lib.hid (And.intro hco hkw)
  have HVV := Lib.hid hvv
  clear hco hkw hvv x3
  refine wpD_begin (n := 9) (l := [false, false, false, false, false, false, false, false, false].toArray) [7, 8] (fun w' => w'.cell? ⟨x, 3, none⟩ = some (.slice Av vec.length cv) ∧ w'.cell? ⟨w.heap.size, 1, none⟩ = some (.int .i64 o.id.author)) (by kernel_rfl) (by kernel_rfl) (by kernel_rfl) ?_ (fun hS => ?_)
  · first | (go_keep; done) | go_simp
  try dsimp only at hS
  refine wpD_takeL (i := 0) (v := ?vpz_0) rfl (by kernel_rfl) (by kernel_rfl) (by kernel_rfl) (fun _ _ _ h => h) (Or.inl ⟨by rfl, ?hypz_0⟩) ?_
  case hypz_0 => (intro w; go_simp; try with_reducible rfl)
  simp only [Act.put, List.setIfInBounds_toArray, List.set_cons_zero, List.set_cons_succ]
  refine wpD_takeL (i := 1) (v := ?vpz_1) rfl (by kernel_rfl) (by kernel_rfl) (by kernel_rfl) (fun _ _ _ h => h) (Or.inl ⟨by rfl, ?hypz_1⟩) ?_
  case hypz_1 => (intro w; go_simp; try with_reducible rfl)
  simp only [Act.put, List.setIfInBounds_toArray, List.set_cons_zero, List.set_cons_succ]
  refine wpD_takeL (i := 2) (v := ?vpz_2) rfl (by kernel_rfl) (by kernel_rfl) (by kernel_rfl) (fun _ _ _ h => h) (Or.inl ⟨by rfl, ?hypz_2⟩) ?_
  case hypz_2 => (intro w; go_simp; try with_reducible rfl)
  simp only [Act.put, List.setIfInBounds_toArray, List.set_cons_zero, List.set_cons_succ]
  refine wpD_takeL (i := 4) (v := ?vpz_4) rfl (by kernel_rfl) (by kernel_rfl) (by kernel_rfl) (fun _ _ _ h => h) (Or.inl ⟨by rfl, ?hypz_4⟩) ?_
  case hypz_4 => (intro w; go_simp; try with_reducible rfl)
  simp only [Act.put, List.setIfInBounds_toArray, List.set_cons_zero, List.set_cons_succ]
  refine wpD_takeL (i := 5) (v := ?vpz_5) rfl (by kernel_rfl) (by kernel_rfl) (by kernel_rfl) (fun _ _ _ h => h) (Or.inl ⟨by rfl, ?hypz_5⟩) ?_
  case hypz_5 => (intro w; go_simp; try with_reducible rfl)
  simp only [Act.put, List.setIfInBounds_toArray, List.set_cons_zero, List.set_cons_succ]
  refine wpD_loadL (i := 3) (v := ?vpz_3) rfl (by kernel_rfl) (by kernel_rfl) (by kernel_rfl) (by kernel_rfl) (fun _ _ _ h => h) (Or.inl ⟨by rfl, ?hypz_3⟩) hS ?_
  case hypz_3 => (intro w hSw; (try dsimp only at hSw); go_simp; try with_reducible rfl)
  simp only [Act.put, List.setIfInBounds_toArray, List.set_cons_zero, List.set_cons_succ]
  refine wpD_loadL (i := 6) (v := ?vpz_6) rfl (by kernel_rfl) (by kernel_rfl) (by kernel_rfl) (by kernel_rfl) (fun _ _ _ h => h) (Or.inl ⟨by rfl, ?hypz_6⟩) hS ?_
  case hypz_6 => (intro w hSw; (try dsimp only at hSw); go_simp; try with_reducible rfl)
  simp only [Act.put, List.setIfInBounds_toArray, List.set_cons_zero, List.set_cons_succ]
  refine wpD_tail 7 [7, 8] (by kernel_rfl) (by kernel_rfl) ?_
  simp only [List.drop_succ_cons, List.drop_zero]
  clear hS
  go_wp2_with fail
  go_at_call 37
  refine HS.out.mono ?_
  rintro e w2 ⟨rfl, hk2⟩
  have hkw2 : Keeps NoB w w2 := PK.out.2.trans (Keeps.trans (b := w1.drew) ⟨rfl, rfl, rfl, Nat.le_refl _, fun _ _ _ => rfl⟩ hk2)
  have hco2 : Cells w2 w.heap.size 49 (opL o) := Cells.keep (F := NoB) (w' := w2) PK.out.1 (Keeps.trans (b := w1.drew) ⟨rfl, rfl, rfl, Nat.le_refl _, fun _ _ _ => rfl⟩ hk2) (fun e => e)
  clear o0 o1 o2 o3 o4 o5 o6 x3a HS
  obtain ⟨o0, o1, o2, o3, o4, o5, o6⟩ := op_cells hco2
  have HT2 := Lib.hid (HT.out.keep hkw2 (fun _ _ e => e))
  have HP := Lib.hid (rplace_any w2 x S.ev S.ix S.ov S.vv (.map (some S.mb)) top es HT2.out.head HT2.out.els o.ref)
  have PK2 := Lib.hid (And.intro hco2 hkw2)
  clear hkw2 hco2 hk2 PK HT1
  generalize seqV vec o.id.author = sq at *
  generalize posI es o.ref = ps at *
  go_wp2_with fail
  go_at_call 38
  refine HP.out.mono ?_
  rintro e w3 ⟨rfl, hk3⟩
  have hco3 : Cells w3 w.heap.size 49 (opL o) := Cells.keep (F := NoB) (w' := w3) PK2.out.1 hk3 (fun e => e)
  have hkw3 : Keeps NoB w w3 := PK2.out.2.trans hk3
  clear o0 o1 o2 o3 o4 o5 o6 HP PK2 HT2 hk3
  obtain ⟨o0, o1, o2, o3, o4, o5, o6⟩ := op_cells hco3
  have x4a : w3.cell? ⟨x, 4, none⟩ = some (.map (some S.mb)) := hkw3.some x4
  have HT3 := Lib.hid (HT.out.keep hkw3 (fun _ _ e => e))
  have PK3 := Lib.hid (And.intro hco3 hkw3)
  clear hco3 hkw3 x4
  obtain ⟨hq, hK0, hc⟩ := HH.out
  have hn1 : sq < o.seq := by omega
  have hgt : ¬ sq + 1 < o.seq := by omega
  have HL : (Instr.lookup 72 (.map (some S.mb)) (.int .i64 o.id.author) false).run Try.prog w3.drew = .ok (.int .i64 (f o.id.author)) w3.drew :=
    (HT3.out.map.kept (w' := w3.drew) rfl).lookup Try.underlying72 Try.underlying3 (by kernel_rfl) o.id.author
  have hcn : ¬ o.id.ctr ≤ f o.id.author := by omega
  clear hc HH
  subst hK0
  go_wp2_with fail
  refine wpD_begin (n := 13) (l := [false, false, false, false, false, false, false, false, false, false, false, false, false].toArray) [11, 12] (fun w' => w'.cell? ⟨x, 4, none⟩ = some (.map (some S.mb)) ∧ w'.cell? ⟨w.heap.size, 0, none⟩ = some (.int .i64 o.id.ctr) ∧ w'.cell? ⟨w.heap.size, 1, none⟩ = some (.int .i64 o.id.author)) (by kernel_rfl) (by kernel_rfl) (by kernel_rfl) ?_ (fun hS => ?_)
  · first | (go_keep; done) | go_simp
  try dsimp only at hS
  refine wpD_takeL (i := 0) (v := ?vqd_0) rfl (by kernel_rfl) (by kernel_rfl) (by kernel_rfl) (fun _ _ _ h => h) (Or.inl ⟨by rfl, ?hyqd_0⟩) ?_
  case hyqd_0 => (intro w; go_simp; try with_reducible rfl)
  simp only [Act.put, List.setIfInBounds_toArray, List.set_cons_zero, List.set_cons_succ]
  refine wpD_takeL (i := 1) (v := ?vqd_1) rfl (by kernel_rfl) (by kernel_rfl) (by kernel_rfl) (fun _ _ _ h => h) (Or.inl ⟨by rfl, ?hyqd_1⟩) ?_
  case hyqd_1 => (intro w; go_simp; try with_reducible rfl)
  simp only [Act.put, List.setIfInBounds_toArray, List.set_cons_zero, List.set_cons_succ]
  refine wpD_takeL (i := 3) (v := ?vqd_3) rfl (by kernel_rfl) (by kernel_rfl) (by kernel_rfl) (fun _ _ _ h => h) (Or.inl ⟨by rfl, ?hyqd_3⟩) ?_
  case hyqd_3 => (intro w; go_simp; try with_reducible rfl)
  simp only [Act.put, List.setIfInBounds_toArray, List.set_cons_zero, List.set_cons_succ]
  refine wpD_takeL (i := 4) (v := ?vqd_4) rfl (by kernel_rfl) (by kernel_rfl) (by kernel_rfl) (fun _ _ _ h => h) (Or.inl ⟨by rfl, ?hyqd_4⟩) ?_
  case hyqd_4 => (intro w; go_simp; try with_reducible rfl)
  simp only [Act.put, List.setIfInBounds_toArray, List.set_cons_zero, List.set_cons_succ]
  refine wpD_takeL (i := 5) (v := ?vqd_5) rfl (by kernel_rfl) (by kernel_rfl) (by kernel_rfl) (fun _ _ _ h => h) (Or.inl ⟨by rfl, ?hyqd_5⟩) ?_
  case hyqd_5 => (intro w; go_simp; try with_reducible rfl)
  simp only [Act.put, List.setIfInBounds_toArray, List.set_cons_zero, List.set_cons_succ]
  refine wpD_takeL (i := 7) (v := ?vqd_7) rfl (by kernel_rfl) (by kernel_rfl) (by kernel_rfl) (fun _ _ _ h => h) (Or.inl ⟨by rfl, ?hyqd_7⟩) ?_
  case hyqd_7 => (intro w; go_simp; try with_reducible rfl)
  simp only [Act.put, List.setIfInBounds_toArray, List.set_cons_zero, List.set_cons_succ]
  refine wpD_takeL (i := 8) (v := ?vqd_8) rfl (by kernel_rfl) (by kernel_rfl) (by kernel_rfl) (fun _ _ _ h => h) (Or.inl ⟨by rfl, ?hyqd_8⟩) ?_
  case hyqd_8 => (intro w; go_simp; try with_reducible rfl)
  simp only [Act.put, List.setIfInBounds_toArray, List.set_cons_zero, List.set_cons_succ]
  refine wpD_loadL (i := 2) (v := ?vqd_2) rfl (by kernel_rfl) (by kernel_rfl) (by kernel_rfl) (by kernel_rfl) (fun _ _ _ h => h) (Or.inl ⟨by rfl, ?hyqd_2⟩) hS ?_
  case hyqd_2 => (intro w hSw; (try dsimp only at hSw); go_simp; try with_reducible rfl)
  simp only [Act.put, List.setIfInBounds_toArray, List.set_cons_zero, List.set_cons_succ]
  refine wpD_loadL (i := 6) (v := ?vqd_6) rfl (by kernel_rfl) (by kernel_rfl) (by kernel_rfl) (by kernel_rfl) (fun _ _ _ h => h) (Or.inl ⟨by rfl, ?hyqd_6⟩) hS ?_
  case hyqd_6 => (intro w hSw; (try dsimp only at hSw); go_simp; try with_reducible rfl)
  simp only [Act.put, List.setIfInBounds_toArray, List.set_cons_zero, List.set_cons_succ]
  refine wpD_loadL (i := 9) (v := ?vqd_9) rfl (by kernel_rfl) (by kernel_rfl) (by kernel_rfl) (by kernel_rfl) (fun _ _ _ h => h) (Or.inl ⟨by rfl, ?hyqd_9⟩) hS ?_
  case hyqd_9 => (intro w hSw; (try dsimp only at hSw); go_simp; try with_reducible rfl)
  simp only [Act.put, List.setIfInBounds_toArray, List.set_cons_zero, List.set_cons_succ]
  -- MID 10: lookup 72 t49 t52 false
  refine wpD_mid (i := 10) (by kernel_rfl) rfl (fun K hK => ?_)
  go_simp
  refine hK.out _ _ (fun hSw => ?_) ?_
  · exact hSw
  clear hK K
  simp only [List.setIfInBounds_toArray, List.set_cons_zero, List.set_cons_succ]
  refine wpD_tail 11 [11, 12] (by kernel_rfl) (by kernel_rfl) ?_
  simp only [List.drop_succ_cons, List.drop_zero]
  clear hS HL
  have HQ := Lib.hid (And.intro hq (And.intro hn1 hgt))
  clear hq hn1 hgt
  have H3 := HT3.out
  obtain ⟨e0, he0⟩ : ∃ e0, es[K0]? = some e0 := ⟨_, List.getElem?_eq_getElem hKl⟩
  obtain ⟨g, cE, hev, hg, hcE, _, _, _, q3⟩ := row_el H3.els K0 e0 he0
  have hrS := H3.els
  rw [hev] at hrS
  have f3 : w3.frozen? ⟨g, K0 * 4 + 3, none⟩ = false := by
    rcases hrS.form with ⟨e, _⟩ | ⟨g', c', e, _, _, _, _, hf⟩
    · cases e
    · cases e; exact hf _
  have hgx : ¬ x = g := fun e => H3.head.ne_row hrS (by decide) (by rw [e]; rfl)
  have x0a : w3.cell? ⟨x, 0, none⟩ = some (.slice (some ⟨g, 0, none⟩) es.length cE) := by rw [← hev]; exact H3.head.cell 0
  have x1a : w3.cell? ⟨x, 1, none⟩ = some (.pointer (some ⟨S.ix, 0, none⟩)) := H3.head.cell 1
  have HEV := Lib.hid (And.intro hev (And.intro hrS hgx))
  have H3 := Lib.hid H3
  clear hev hrS
  go_wp2_with fail
  go_at_call 40
  have hI0 : IdxAt (w3.drew.setCell ⟨g, K0 * 4 + 3, none⟩ (.bool false)) S.Fi S.ix S.lv S.rs := by
    refine H3.out.idx.kept ((Keeps.refl (fun _ => True) w3).drew.setCell (p := ⟨g, K0 * 4 + 3, none⟩) (.inl trivial) (.bool false)).size (fun b cs t hb ht => ?_)
    refine (Below.heap_setCell _ _ _ _ ?_)
    rintro rfl
    obtain ⟨cur, hc⟩ := HEV.out.2.1.typed _ rfl
    rw [hc] at hb
    injection hb with hb
    injection hb with _ e _
    subst e
    revert ht; decide
  have hmS : (marks S.rs).length = es.length := by rw [H3.out.mks, List.length_map]
  refine (set_any _ S.Fi S.ix S.lv S.rs hI0 K0 (by omega) false).mono ?_
  rintro e w4 ⟨rfl, hkS, rs4, hI4, hM0, hL0⟩
  obtain ⟨ev4, hev4⟩ : ∃ v, v = S.ev := ⟨_, rfl⟩
  have hsD : Keeps (fun b => S.ev.ownBlock = some b) w3.drew (w3.drew.setCell ⟨g, K0 * 4 + 3, none⟩ (.bool false)) := (Keeps.refl _ w3.drew).setCell (p := ⟨g, K0 * 4 + 3, none⟩) (.inl (by rw [HEV.out.1]; rfl)) _
  have hk4 : Keeps (fun b => b = x ∨ S.ev.ownBlock = some b ∨ S.Fi b) w3.drew w4 := (hsD.mono (fun _ _ e => .inr (.inl e))).then hkS (fun b e => .inl (.inr (.inr e)))
  have hx4 : Cells w4 x 74 (txL ev4 S.ix S.ov S.vv (.map (some S.mb)) top) := by
    rw [hev4]
    exact (H3.out.head.drew.keep hsD (fun e => H3.out.head.ne_row H3.out.els (by decide) e)).keep hkS (H3.out.dx)
  have hrow4 : Row w4 83 4 ev4 (killEl es K0).length (elV (killEl es K0)) := by
    have h1 := HEV.out.2.1.drew.set (K0 * 4 + 3) (.bool false)
    rw [← elV_kill es K0 hKl] at h1
    have h2 := h1.keep hkS (fun b hb hc => H3.out.dev b (by rw [HEV.out.1]; exact hb) hc)
    rw [hev4, HEV.out.1, killEl_length]
    exact h2
  have hM4 : marks rs4 = (killEl es K0).map (·.alive) := by rw [hM0, H3.out.mks, kill_alive]
  have hN4 : rs4 ≠ [] := by
    intro e
    rw [e] at hL0
    exact H3.out.nil (List.length_eq_zero_iff.1 hL0.symm)
  have hF4 : ∀ b, S.Fi b → S.Fi b ∨ w3.drew.heap.size ≤ b := fun b e => .inl e
  have hown4 : ev4.ownBlock = S.ev.ownBlock ∨ ∃ b, ev4.ownBlock = some b ∧ w3.drew.heap.size ≤ b := .inl (by rw [hev4])
  have H3 := H3.out
  have hL4 := hL0
  have hobF : ∀ b, (b = x ∨ S.ev.ownBlock = some b ∨ S.Fi b) → b < w.heap.size := by
    rintro b (rfl | hb | hb)
    · exact HT.out.head.lt
    · exact HT.out.els.lt b hb
    · exact HT.out.idx.old b hb
  have hco4 : Cells w4 w.heap.size 49 (opL o) := Cells.keep (w' := w4) PK3.out.1.drew hk4 (fun hb => Nat.lt_irrefl _ (hobF _ hb))
  clear o0 o1 o2 o3 o4 o5 o6 x4a HEV hgx x0a x1a q3 f3 hcE hI0 hmS hkS hM0 hL0 hsD he0 hev4 hg
  obtain ⟨o0, o1, o2, o3, o4, o5, o6⟩ := op_cells hco4
  rw [hoi] at o3
  have P4 := Lib.hid (And.intro hx4 (And.intro hrow4 (And.intro hI4 (And.intro hM4 (And.intro hL4 (And.intro hN4 (And.intro hk4 (And.intro hF4 (And.intro hown4 (And.intro hobF (And.intro hco4 H3)))))))))))
  clear hx4 hrow4 hI4 hM4 hL4 hN4 hk4 hF4 hown4 hobF hco4 H3
  obtain ⟨i0, hi0, hz0, hzs, hzb⟩ := info_parts op_info
  have hovR := Lib.hid ((P4.out.2.2.2.2.2.2.2.2.2.2.2.ops.drew.keep P4.out.2.2.2.2.2.2.1 (fun b hb hc => by
    rcases hc with rfl | hc | hc
    · exact HT.out.head.ne_row HT.out.ops (by decide) hb
    · exact HT.out.els.ne_row HT.out.ops (by decide) b hc hb
    · exact HT.out.dov b hb hc)))
  have hvvR := Lib.hid ((P4.out.2.2.2.2.2.2.2.2.2.2.2.vrow.drew.keep P4.out.2.2.2.2.2.2.1 (fun b hb hc => by
    rcases hc with rfl | hc | hc
    · exact HT.out.head.ne_row HT.out.vrow (by decide) hb
    · exact HT.out.els.ne_row HT.out.vrow (by decide) b hc hb
    · exact HT.out.dvv b hb hc)))
  rw [HVV.out] at hvvR
  obtain ⟨Ao, co, hov⟩ := HT.out.ops.slice
  have x2a : w4.cell? ⟨x, 2, none⟩ = some (.slice Ao os.length co) := by rw [← hov]; exact P4.out.1.cell 2
  have x3b : w4.cell? ⟨x, 3, none⟩ = some (.slice Av vec.length cv) := by rw [← HVV.out]; exact P4.out.1.cell 3
  rw [hov] at hovR
  have HOV := Lib.hid hov
  have hnx5 : Hid (¬ (Value.slice Ao os.length co).ownBlock = some x) := Lib.hid (fun hb => HT.out.head.ne_row HT.out.ops (by decide) (by rw [hov]; exact hb))
  have hno5 : Hid (¬ (Value.slice Ao os.length co).ownBlock = some w.heap.size) := Lib.hid (fun hb => Nat.lt_irrefl _ (HT.out.ops.lt _ (by rw [hov]; exact hb)))
  clear hov
  go_wp2_with fail
  refine wpD_begin (n := 25) (l := [false, false, false, false, false, false, false, false, false, false, false, false, false, false, false, false, false, false, false, false, false, false, false, false, false].toArray) [18, 19, 20, 21, 22, 23, 24] (fun w' => w'.cell? ⟨x, 2, none⟩ = some (.slice Ao os.length co) ∧ w'.cell? ⟨x, 3, none⟩ = some (.slice Av vec.length cv) ∧ w'.cell? ⟨w.heap.size, 0, none⟩ = some (.int .i64 o.id.ctr) ∧ w'.cell? ⟨w.heap.size, 1, none⟩ = some (.int .i64 o.id.author) ∧ w'.cell? ⟨w.heap.size, 2, none⟩ = some (.int .i64 o.seq) ∧ w'.cell? ⟨w.heap.size, 3, none⟩ = some (.bool false) ∧ w'.cell? ⟨w.heap.size, 4, none⟩ = some (.int .i64 o.ref.ctr) ∧ w'.cell? ⟨w.heap.size, 5, none⟩ = some (.int .i64 o.ref.author) ∧ w'.cell? ⟨w.heap.size, 6, none⟩ = some (.int .i32 o.rune)) (by kernel_rfl) (by kernel_rfl) (by kernel_rfl) ?_ (fun hS => ?_)
  · first | (go_keep; done) | go_simp
  try dsimp only at hS
  refine wpD_takeL (i := 0) (v := ?vsd_0) rfl (by kernel_rfl) (by kernel_rfl) (by kernel_rfl) (fun _ _ _ h => h) (Or.inl ⟨by rfl, ?hysd_0⟩) ?_
  case hysd_0 => (intro w; go_simp; try with_reducible rfl)
  simp only [Act.put, List.setIfInBounds_toArray, List.set_cons_zero, List.set_cons_succ]
  refine wpD_takeL (i := 1) (v := ?vsd_1) rfl (by kernel_rfl) (by kernel_rfl) (by kernel_rfl) (fun _ _ _ h => h) (Or.inl ⟨by rfl, ?hysd_1⟩) ?_
  case hysd_1 => (intro w; go_simp; try with_reducible rfl)
  simp only [Act.put, List.setIfInBounds_toArray, List.set_cons_zero, List.set_cons_succ]
  refine wpD_takeL (i := 2) (v := ?vsd_2) rfl (by kernel_rfl) (by kernel_rfl) (by kernel_rfl) (fun _ _ _ h => h) (Or.inl ⟨by rfl, ?hysd_2⟩) ?_
  case hysd_2 => (intro w; go_simp; try with_reducible rfl)
  simp only [Act.put, List.setIfInBounds_toArray, List.set_cons_zero, List.set_cons_succ]
  refine wpD_takeL (i := 3) (v := ?vsd_3) rfl (by kernel_rfl) (by kernel_rfl) (by kernel_rfl) (fun _ _ _ h => h) (Or.inl ⟨by rfl, ?hysd_3⟩) ?_
  case hysd_3 => (intro w; go_simp; try with_reducible rfl)
  simp only [Act.put, List.setIfInBounds_toArray, List.set_cons_zero, List.set_cons_succ]
  refine wpD_takeL (i := 4) (v := ?vsd_4) rfl (by kernel_rfl) (by kernel_rfl) (by kernel_rfl) (fun _ _ _ h => h) (Or.inl ⟨by rfl, ?hysd_4⟩) ?_
  case hysd_4 => (intro w; go_simp; try with_reducible rfl)
  simp only [Act.put, List.setIfInBounds_toArray, List.set_cons_zero, List.set_cons_succ]
  refine wpD_takeL (i := 9) (v := ?vsd_9) rfl (by kernel_rfl) (by kernel_rfl) (by kernel_rfl) (fun _ _ _ h => h) (Or.inl ⟨by rfl, ?hysd_9⟩) ?_
  case hysd_9 => (intro w; go_simp; try with_reducible rfl)
  simp only [Act.put, List.setIfInBounds_toArray, List.set_cons_zero, List.set_cons_succ]
  refine wpD_takeL (i := 10) (v := ?vsd_10) rfl (by kernel_rfl) (by kernel_rfl) (by kernel_rfl) (fun _ _ _ h => h) (Or.inl ⟨by rfl, ?hysd_10⟩) ?_
  case hysd_10 => (intro w; go_simp; try with_reducible rfl)
  simp only [Act.put, List.setIfInBounds_toArray, List.set_cons_zero, List.set_cons_succ]
  refine wpD_takeL (i := 11) (v := ?vsd_11) rfl (by kernel_rfl) (by kernel_rfl) (by kernel_rfl) (fun _ _ _ h => h) (Or.inl ⟨by rfl, ?hysd_11⟩) ?_
  case hysd_11 => (intro w; go_simp; try with_reducible rfl)
  simp only [Act.put, List.setIfInBounds_toArray, List.set_cons_zero, List.set_cons_succ]
  refine wpD_takeL (i := 13) (v := ?vsd_13) rfl (by kernel_rfl) (by kernel_rfl) (by kernel_rfl) (fun _ _ _ h => h) (Or.inl ⟨by rfl, ?hysd_13⟩) ?_
  case hysd_13 => (intro w; go_simp; try with_reducible rfl)
  simp only [Act.put, List.setIfInBounds_toArray, List.set_cons_zero, List.set_cons_succ]
  refine wpD_takeL (i := 14) (v := ?vsd_14) rfl (by kernel_rfl) (by kernel_rfl) (by kernel_rfl) (fun _ _ _ h => h) (Or.inl ⟨by rfl, ?hysd_14⟩) ?_
  case hysd_14 => (intro w; go_simp; try with_reducible rfl)
  simp only [Act.put, List.setIfInBounds_toArray, List.set_cons_zero, List.set_cons_succ]
  refine wpD_takeL (i := 16) (v := ?vsd_16) rfl (by kernel_rfl) (by kernel_rfl) (by kernel_rfl) (fun _ _ _ h => h) (Or.inl ⟨by rfl, ?hysd_16⟩) ?_
  case hysd_16 => (intro w; go_simp; try with_reducible rfl)
  simp only [Act.put, List.setIfInBounds_toArray, List.set_cons_zero, List.set_cons_succ]
  refine wpD_loadL (i := 5) (v := ?vsd_5) rfl (by kernel_rfl) (by kernel_rfl) (by kernel_rfl) (by kernel_rfl) (fun _ _ _ h => h) (Or.inl ⟨by rfl, ?hysd_5⟩) hS ?_
  case hysd_5 => (intro w hSw; (try dsimp only at hSw); go_simp; try with_reducible rfl)
  simp only [Act.put, List.setIfInBounds_toArray, List.set_cons_zero, List.set_cons_succ]
  refine wpD_loadL (i := 6) (v := ?vsd_6) rfl (by kernel_rfl) (by kernel_rfl) (by kernel_rfl) (by kernel_rfl) (fun _ _ _ h => h) (Or.inl ⟨by rfl, ?hysd_6⟩) hS ?_
  case hysd_6 => (intro w hSw; (try dsimp only at hSw); go_simp; try with_reducible rfl)
  simp only [Act.put, List.setIfInBounds_toArray, List.set_cons_zero, List.set_cons_succ]
  refine wpD_loadL (i := 12) (v := ?vsd_12) rfl (by kernel_rfl) (by kernel_rfl) (by kernel_rfl) (by kernel_rfl) (fun _ _ _ h => h) (Or.inl ⟨by rfl, ?hysd_12⟩) hS ?_
  case hysd_12 => (intro w hSw; (try dsimp only at hSw); go_simp; try with_reducible rfl)
  simp only [Act.put, List.setIfInBounds_toArray, List.set_cons_zero, List.set_cons_succ]
  refine wpD_loadL (i := 15) (v := ?vsd_15) rfl (by kernel_rfl) (by kernel_rfl) (by kernel_rfl) (by kernel_rfl) (fun _ _ _ h => h) (Or.inl ⟨by rfl, ?hysd_15⟩) hS ?_
  case hysd_15 => (intro w hSw; (try dsimp only at hSw); go_simp; try with_reducible rfl)
  simp only [Act.put, List.setIfInBounds_toArray, List.set_cons_zero, List.set_cons_succ]
  refine wpD_loadL (i := 17) (v := ?vsd_17) rfl (by kernel_rfl) (by kernel_rfl) (by kernel_rfl) (by kernel_rfl) (fun _ _ _ h => h) (Or.inl ⟨by rfl, ?hysd_17⟩) hS ?_
  case hysd_17 => (intro w hSw; (try dsimp only at hSw); go_simp; try with_reducible rfl)
  simp only [Act.put, List.setIfInBounds_toArray, List.set_cons_zero, List.set_cons_succ]
  -- MID 7: buildSlice 22 1 [(0, t81)]
  refine wpD_mid (i := 7) (by kernel_rfl) rfl (fun K hK => ?_)
  go_simp
  refine hK.out _ _ (fun hSw => ?_) ?_
  · first | (go_keep; done) | go_simp
  clear hK K
  simp only [List.setIfInBounds_toArray, List.set_cons_zero, List.set_cons_succ]
  -- MID 8: builtin append(t80, t82) types [22, 22]
  refine wpD_mid (i := 8) (by kernel_rfl) rfl (fun K hK => ?_)
  refine step_append_row rfl (.tmp 80) (.tmp 82) 22 rfl 49 i0 _ 7 56 Try.underlying22 hi0 hz0 hzs hzb rfl (by decide) _ os.length (opsV os) rfl (hovR.out.drew.alloc _) ⟨w4.heap.size, 0, none⟩ 1 1 (opL o) rfl rfl ?_ ?_ (by omega) (by decide) ?_
  · intro j u hu
    rw [addr_add0, ← hu]
    have := (Cells.new w4.drew (opL o) 49).cell j
    simp [opL, hoi]
  · intro u hu
    simp only [opL, List.mem_cons, List.not_mem_nil, or_false] at hu
    rcases hu with rfl | rfl | rfl | rfl | rfl | rfl | rfl <;> rfl
  intro v5 w5 hrow5 hk5 hown5
  refine hK.out _ _ (fun hSw => ?_) ?_
  · exact ⟨hk5.someF hSw.1 hnx5.out, hk5.someF hSw.2.1 hnx5.out, hk5.someF hSw.2.2.1 hno5.out, hk5.someF hSw.2.2.2.1 hno5.out, hk5.someF hSw.2.2.2.2.1 hno5.out, hk5.someF hSw.2.2.2.2.2.1 hno5.out, hk5.someF hSw.2.2.2.2.2.2.1 hno5.out, hk5.someF hSw.2.2.2.2.2.2.2.1 hno5.out, hk5.someF hSw.2.2.2.2.2.2.2.2 hno5.out⟩
  clear hK K
  simp only [Act.put, List.setIfInBounds_toArray, List.set_cons_zero, List.set_cons_succ]
  refine wpD_tail 18 [18, 19, 20, 21, 22, 23, 24] (by kernel_rfl) (by kernel_rfl) ?_
  simp only [List.drop_succ_cons, List.drop_zero]
  clear hS
  go_wp2_with fail
  go_at_call 41
  refine (with_any w5 _ vec ((hvvR.out.drew.alloc _).keep hk5 (fun b hb hc => hovR.out.ne_row hvvR.out (by decide) b hc hb)) HT.out.rise (by omega) o.id.author o.seq).mono ?_
  rintro e w6 ⟨v6, rfl, hrow6, hk6, hown6⟩
  have hx6 := ((P4.out.1.drew.alloc _).keep hk5 hnx5.out).keep hk6 (fun e => e)
  have y2 := hx6.cell 2
  have y3 := hx6.cell 3
  have fy2 := hx6.frozen 2
  have fy3 := hx6.frozen 3
  simp only [txL, List.getElem?_cons_zero, List.getElem?_cons_succ] at y2 y3
  have P6 := Lib.hid (And.intro hrow6 (And.intro hk6 (And.intro hown6 (And.intro hx6 (And.intro hrow5 (And.intro hk5 hown5))))))
  obtain ⟨A6, c6, rfl⟩ := hrow6.slice
  obtain ⟨A5, c5, rfl⟩ := hrow5.slice
  clear hrow6 hk6 hown6 hx6 hrow5 hk5 hown5
  go_wp2_with fail
  obtain ⟨W7, hW7⟩ : ∃ W7, W7 = (w6.setCell ⟨x, 2, none⟩ (.slice A5 (os.length + 1) c5)).setCell ⟨x, 3, none⟩ (.slice A6 (withV vec o.id.author o.seq).length c6) := ⟨_, rfl⟩
  rw [← hW7]
  have hx7 := (P6.out.2.2.2.1.set 2 (.slice A5 (os.length + 1) c5)).set 3 (.slice A6 (withV vec o.id.author o.seq).length c6)
  rw [← hW7] at hx7
  have hkA : Keeps (fun b => b = x ∨ S.ev.ownBlock = some b ∨ S.Fi b) w w4 := (PK3.out.2.drew.mono (G := fun b => b = x ∨ S.ev.ownBlock = some b ∨ S.Fi b) (fun _ _ e => False.elim e)).then P4.out.2.2.2.2.2.2.1 (fun _ e => .inl e)
  have hkB : Keeps (fun b => b = x ∨ S.ev.ownBlock = some b ∨ S.Fi b ∨ S.ov.ownBlock = some b) w w6 := by
    refine (((hkA.mono (G := fun b => b = x ∨ S.ev.ownBlock = some b ∨ S.Fi b ∨ S.ov.ownBlock = some b) (fun b _ e => by rcases e with e | e | e; exact .inl e; exact .inr (.inl e); exact .inr (.inr (.inl e)))).drew.alloc _).then P6.out.2.2.2.2.2.1 (fun b e => .inl (.inr (.inr (.inr (by rw [HOV.out]; exact e)))))).then P6.out.2.1 (fun b e => False.elim e)
  have hkC : Keeps (fun b => b = x ∨ S.ev.ownBlock = some b ∨ S.Fi b ∨ S.ov.ownBlock = some b) w W7 := by
    rw [hW7]
    exact (hkB.setCell (p := ⟨x, 2, none⟩) (.inl (.inl rfl)) _).setCell (p := ⟨x, 3, none⟩) (.inl (.inl rfl)) _
  have hmap7 : MapF W7 S.mb f := HT.out.map.kept (hkC.block _ HT.out.map.lt (by
    rintro (e | e | e | e)
    · exact HT.out.map.ne_cells HT.out.head e
    · obtain ⟨cur, hc⟩ := HT.out.els.typed _ e
      obtain ⟨ms, ck, h1, _⟩ := HT.out.map
      rw [hc] at h1; cases h1
    · exact HT.out.dmb e
    · obtain ⟨cur, hc⟩ := HT.out.ops.typed _ e
      obtain ⟨ms, ck, h1, _⟩ := HT.out.map
      rw [hc] at h1; cases h1))
  have hco7 : Cells W7 w.heap.size 49 (opL o) := by
    have h1 := ((P4.out.2.2.2.2.2.2.2.2.2.2.1.drew.alloc (.cells #[.int .i64 o.id.ctr, .int .i64 o.id.author, .int .i64 o.seq, .bool false, .int .i64 o.ref.ctr, .int .i64 o.ref.author, .int .i32 o.rune] 49)).keep (w' := w5) P6.out.2.2.2.2.2.1 hno5.out).keep (w' := w6) P6.out.2.1 (fun e => e)
    have hne : w.heap.size ≠ x := by have := HT.out.head.lt; omega
    have h2 := (h1.other (a := ⟨x, 2, none⟩) hne (.slice A5 (os.length + 1) c5)).other (a := ⟨x, 3, none⟩) hne (.slice A6 (withV vec o.id.author o.seq).length c6)
    rw [← hW7] at h2
    exact h2
  obtain ⟨wm, vold, stamp, hE, hmid, hkm⟩ := (hmap7.kept (w' := W7.drew) rfl).entry Try.underlying72 Try.underlying3 (by kernel_rfl) o.id.author
  obtain ⟨wn, hE2, hmap8, hkn⟩ := hmid.store (P := Try.prog) (t := 72) o.id.ctr
  have hmx : Hid (¬ x = S.mb) := Lib.hid (fun e => hmap7.ne_cells hx7 e.symm)
  have hmo : Hid (¬ w.heap.size = S.mb) := Lib.hid (fun e => hmap7.ne_cells hco7 e.symm)
  have y4 := hx7.cell 4
  have y5 := hx7.cell 5
  simp only [txL, List.getElem?_cons_zero, List.getElem?_cons_succ, List.set_cons_succ, List.set_cons_zero] at y4 y5
  obtain ⟨p0, p1, _⟩ := op_cells hco7
  have hxn := (hx7.drew.keep hkm hmx.out).keep hkn hmx.out
  have yn5 := hxn.cell 5
  have fn5 := hxn.frozen 5
  simp only [txL, List.getElem?_cons_zero, List.getElem?_cons_succ, List.set_cons_succ, List.set_cons_zero] at yn5
  have P7 := Lib.hid (And.intro hx7 (And.intro hmap7 (And.intro hco7 (And.intro hmid (And.intro hkm (And.intro hmap8 (And.intro hkn (And.intro hxn hW7))))))))
  clear hx7 hmap7 hco7 hmid hmap8 hxn hW7 y2 y3 fy2 fy3 o0 o1 o2 o3 o4 o5 o6
  have HEND : ∀ t, t = max top o.id.ctr → R (.returned (.tuple #[.bool true, .int .i64 0])) (wn.setCell ⟨x, 5, none⟩ (.int .i64 t)) := by
    rintro t rfl
    rw [HPOST.out]
    obtain ⟨hx7, hmap7, hco7, hmid, _, hmap8, _, hxn, hW7⟩ := P7.out
    obtain ⟨hrow6, hk6, hown6, hx6, hrow5, hk5, hown5⟩ := P6.out
    obtain ⟨hx4, hrow4, hI4, hM4, hL4, hN4, hk4, hF4, hown4, hobF, hco4, H3⟩ := P4.out
    have hsz3 : w.heap.size ≤ w3.heap.size := PK3.out.2.size
    have hsz4 : w3.heap.size ≤ w4.heap.size := hk4.size
    have hsz5 : w4.heap.size ≤ w5.heap.size := Nat.le_trans (((Keeps.refl NoB w4).alloc _).drew.size) hk5.size
    have h6 : Keeps (fun g => g = x ∨ S.ov.ownBlock = some g ∨ g = S.mb) w4 w6 := (((Keeps.refl _ w4).alloc _).drew.then hk5 (fun b e => .inl (.inr (.inl (by rw [HOV.out]; exact e))))).then hk6 (fun _ e => False.elim e)
    have h67 : Keeps (fun g => g = x) w6 W7 := by
      rw [hW7]
      exact ((Keeps.refl (fun g => g = x) w6).setCell (p := ⟨x, 2, none⟩) (.inl rfl) _).setCell (p := ⟨x, 3, none⟩) (.inl rfl) _
    have h7F : Keeps (fun g => g = x ∨ g = S.mb) W7 (wn.setCell ⟨x, 5, none⟩ (.int .i64 (max top o.id.ctr))) :=
      (((Keeps.refl _ W7).drew.then hkm (fun g e => .inl (.inr e))).then hkn (fun g e => .inl (.inr e))).setCell (p := ⟨x, 5, none⟩) (.inl (.inl rfl)) _
    have hkF := (h6.then h67 (fun g e => .inl (.inl e))).then h7F (fun g e => by rcases e with e | e; exact .inl (.inl e); exact .inl (.inr (.inr e)))
    have hr57 := (hrow5.keep hk6 (fun _ _ e => e)).keep h67 (fun b hb e => hx6.ne_row (hrow5.keep hk6 (fun _ _ e => e)) (by decide) (e ▸ hb))
    have hr67 := hrow6.keep h67 (fun b hb e => hx6.ne_row hrow6 (by decide) (e ▸ hb))
    have hne : ∀ {e : TypeId} {size n : Nat} {v : Value} {xs : List Value}, Row W7 e size v n xs → 74 ≠ e → ∀ b, v.ownBlock = some b → ¬ (b = x ∨ b = S.mb) := by
      rintro e size n v xs hr ht b hb (rfl | rfl)
      · exact hx7.ne_row hr ht hb
      · obtain ⟨cur, hc⟩ := hr.typed _ hb
        obtain ⟨ms, ck, h1, _⟩ := hmap7
        rw [hc] at h1; cases h1
    refine ⟨rfl, put_laid HT.out hx4 (hxn.set 5 (.int .i64 (max top o.id.ctr))) hrow4 hI4 hM4 ?_ hN4 hkA (fun g hg => ?_) ?_ hkF (os' := os ++ [o]) ?_ ?_ (hr67.keep h7F (hne hr67 (by decide))) (fun g hg => ?_) (withV_rising HT.out.rise _ _) (hmap8.kept (Below.heap_setCell _ _ _ _ (fun e => hmx.out e.symm)))⟩
    · have h1 := H3.few
      rw [H3.mks] at h1
      rw [hM4]
      simp only [List.length_map, killEl_length] at h1 ⊢
      omega
    · rcases hF4 g hg with e | e
      · exact .inl e
      · exact .inr (Nat.le_trans hsz3 e)
    · rcases hown4 with e | ⟨g, e, hg⟩
      · exact .inl e
      · exact .inr ⟨g, e, Nat.le_trans hsz3 hg⟩
    · have h1 := hr57.keep h7F (hne hr57 (by decide))
      rw [opsV_append, opsV_one, List.length_append]
      exact h1
    · rcases hown5 with e | e
      · exact .inl (by rw [HOV.out]; exact e)
      · exact .inr ⟨_, e, Nat.le_trans (Nat.le_trans hsz3 hsz4) (((Keeps.refl NoB w4).alloc _).drew.size)⟩
    · have := hown6 g hg; omega
  have HEND := Lib.hid HEND
  refine wpD_begin (n := 25) (l := [false, false, false, false, false, false, false, false, false, false, false, false, false, false, false, false, false, false, false, false, false, false, false, false, false].toArray) [22, 23, 24] (fun w' => w'.cell? ⟨x, 4, none⟩ = some (.map (some S.mb)) ∧ w'.cell? ⟨x, 5, none⟩ = some (.int .i64 top) ∧ w'.cell? ⟨w.heap.size, 0, none⟩ = some (.int .i64 o.id.ctr) ∧ w'.cell? ⟨w.heap.size, 1, none⟩ = some (.int .i64 o.id.author)) (by kernel_rfl) (by kernel_rfl) (by kernel_rfl) ?_ (fun hS => ?_)
  · first | (go_keep; done) | go_simp
  try dsimp only at hS
  refine wpD_takeL (i := 0) (v := ?vtd_0) rfl (by kernel_rfl) (by kernel_rfl) (by kernel_rfl) (fun _ _ _ h => h) (Or.inl ⟨by rfl, ?hytd_0⟩) ?_
  case hytd_0 => (intro w; go_simp; try with_reducible rfl)
  simp only [Act.put, List.setIfInBounds_toArray, List.set_cons_zero, List.set_cons_succ]
  refine wpD_takeL (i := 1) (v := ?vtd_1) rfl (by kernel_rfl) (by kernel_rfl) (by kernel_rfl) (fun _ _ _ h => h) (Or.inl ⟨by rfl, ?hytd_1⟩) ?_
  case hytd_1 => (intro w; go_simp; try with_reducible rfl)
  simp only [Act.put, List.setIfInBounds_toArray, List.set_cons_zero, List.set_cons_succ]
  refine wpD_takeL (i := 2) (v := ?vtd_2) rfl (by kernel_rfl) (by kernel_rfl) (by kernel_rfl) (fun _ _ _ h => h) (Or.inl ⟨by rfl, ?hytd_2⟩) ?_
  case hytd_2 => (intro w; go_simp; try with_reducible rfl)
  simp only [Act.put, List.setIfInBounds_toArray, List.set_cons_zero, List.set_cons_succ]
  refine wpD_takeL (i := 4) (v := ?vtd_4) rfl (by kernel_rfl) (by kernel_rfl) (by kernel_rfl) (fun _ _ _ h => h) (Or.inl ⟨by rfl, ?hytd_4⟩) ?_
  case hytd_4 => (intro w; go_simp; try with_reducible rfl)
  simp only [Act.put, List.setIfInBounds_toArray, List.set_cons_zero, List.set_cons_succ]
  refine wpD_takeL (i := 5) (v := ?vtd_5) rfl (by kernel_rfl) (by kernel_rfl) (by kernel_rfl) (fun _ _ _ h => h) (Or.inl ⟨by rfl, ?hytd_5⟩) ?_
  case hytd_5 => (intro w; go_simp; try with_reducible rfl)
  simp only [Act.put, List.setIfInBounds_toArray, List.set_cons_zero, List.set_cons_succ]
  refine wpD_takeL (i := 7) (v := ?vtd_7) rfl (by kernel_rfl) (by kernel_rfl) (by kernel_rfl) (fun _ _ _ h => h) (Or.inl ⟨by rfl, ?hytd_7⟩) ?_
  case hytd_7 => (intro w; go_simp; try with_reducible rfl)
  simp only [Act.put, List.setIfInBounds_toArray, List.set_cons_zero, List.set_cons_succ]
  refine wpD_takeL (i := 8) (v := ?vtd_8) rfl (by kernel_rfl) (by kernel_rfl) (by kernel_rfl) (fun _ _ _ h => h) (Or.inl ⟨by rfl, ?hytd_8⟩) ?_
  case hytd_8 => (intro w; go_simp; try with_reducible rfl)
  simp only [Act.put, List.setIfInBounds_toArray, List.set_cons_zero, List.set_cons_succ]
  refine wpD_takeL (i := 9) (v := ?vtd_9) rfl (by kernel_rfl) (by kernel_rfl) (by kernel_rfl) (fun _ _ _ h => h) (Or.inl ⟨by rfl, ?hytd_9⟩) ?_
  case hytd_9 => (intro w; go_simp; try with_reducible rfl)
  simp only [Act.put, List.setIfInBounds_toArray, List.set_cons_zero, List.set_cons_succ]
  refine wpD_takeL (i := 11) (v := ?vtd_11) rfl (by kernel_rfl) (by kernel_rfl) (by kernel_rfl) (fun _ _ _ h => h) (Or.inl ⟨by rfl, ?hytd_11⟩) ?_
  case hytd_11 => (intro w; go_simp; try with_reducible rfl)
  simp only [Act.put, List.setIfInBounds_toArray, List.set_cons_zero, List.set_cons_succ]
  refine wpD_takeL (i := 12) (v := ?vtd_12) rfl (by kernel_rfl) (by kernel_rfl) (by kernel_rfl) (fun _ _ _ h => h) (Or.inl ⟨by rfl, ?hytd_12⟩) ?_
  case hytd_12 => (intro w; go_simp; try with_reducible rfl)
  simp only [Act.put, List.setIfInBounds_toArray, List.set_cons_zero, List.set_cons_succ]
  refine wpD_takeL (i := 13) (v := ?vtd_13) rfl (by kernel_rfl) (by kernel_rfl) (by kernel_rfl) (fun _ _ _ h => h) (Or.inl ⟨by rfl, ?hytd_13⟩) ?_
  case hytd_13 => (intro w; go_simp; try with_reducible rfl)
  simp only [Act.put, List.setIfInBounds_toArray, List.set_cons_zero, List.set_cons_succ]
  refine wpD_takeL (i := 15) (v := ?vtd_15) rfl (by kernel_rfl) (by kernel_rfl) (by kernel_rfl) (fun _ _ _ h => h) (Or.inl ⟨by rfl, ?hytd_15⟩) ?_
  case hytd_15 => (intro w; go_simp; try with_reducible rfl)
  simp only [Act.put, List.setIfInBounds_toArray, List.set_cons_zero, List.set_cons_succ]
  refine wpD_takeL (i := 16) (v := ?vtd_16) rfl (by kernel_rfl) (by kernel_rfl) (by kernel_rfl) (fun _ _ _ h => h) (Or.inl ⟨by rfl, ?hytd_16⟩) ?_
  case hytd_16 => (intro w; go_simp; try with_reducible rfl)
  simp only [Act.put, List.setIfInBounds_toArray, List.set_cons_zero, List.set_cons_succ]
  refine wpD_loadL (i := 3) (v := ?vtd_3) rfl (by kernel_rfl) (by kernel_rfl) (by kernel_rfl) (by kernel_rfl) (fun _ _ _ h => h) (Or.inl ⟨by rfl, ?hytd_3⟩) hS ?_
  case hytd_3 => (intro w hSw; (try dsimp only at hSw); go_simp; try with_reducible rfl)
  simp only [Act.put, List.setIfInBounds_toArray, List.set_cons_zero, List.set_cons_succ]
  refine wpD_loadL (i := 6) (v := ?vtd_6) rfl (by kernel_rfl) (by kernel_rfl) (by kernel_rfl) (by kernel_rfl) (fun _ _ _ h => h) (Or.inl ⟨by rfl, ?hytd_6⟩) hS ?_
  case hytd_6 => (intro w hSw; (try dsimp only at hSw); go_simp; try with_reducible rfl)
  simp only [Act.put, List.setIfInBounds_toArray, List.set_cons_zero, List.set_cons_succ]
  refine wpD_loadL (i := 10) (v := ?vtd_10) rfl (by kernel_rfl) (by kernel_rfl) (by kernel_rfl) (by kernel_rfl) (fun _ _ _ h => h) (Or.inl ⟨by rfl, ?hytd_10⟩) hS ?_
  case hytd_10 => (intro w hSw; (try dsimp only at hSw); go_simp; try with_reducible rfl)
  simp only [Act.put, List.setIfInBounds_toArray, List.set_cons_zero, List.set_cons_succ]
  refine wpD_loadL (i := 14) (v := ?vtd_14) rfl (by kernel_rfl) (by kernel_rfl) (by kernel_rfl) (by kernel_rfl) (fun _ _ _ h => h) (Or.inl ⟨by rfl, ?hytd_14⟩) hS ?_
  case hytd_14 => (intro w hSw; (try dsimp only at hSw); go_simp; try with_reducible rfl)
  simp only [Act.put, List.setIfInBounds_toArray, List.set_cons_zero, List.set_cons_succ]
  refine wpD_loadL (i := 17) (v := ?vtd_17) rfl (by kernel_rfl) (by kernel_rfl) (by kernel_rfl) (by kernel_rfl) (fun _ _ _ h => h) (Or.inl ⟨by rfl, ?hytd_17⟩) hS ?_
  case hytd_17 => (intro w hSw; (try dsimp only at hSw); go_simp; try with_reducible rfl)
  simp only [Act.put, List.setIfInBounds_toArray, List.set_cons_zero, List.set_cons_succ]
  refine wpD_takeL (i := 18) (v := ?vtd_18) rfl (by kernel_rfl) (by kernel_rfl) (by kernel_rfl) (fun _ _ _ h => h) (Or.inl ⟨by rfl, ?hytd_18⟩) ?_
  case hytd_18 => (intro w; go_simp; try with_reducible rfl)
  simp only [Act.put, List.setIfInBounds_toArray, List.set_cons_zero, List.set_cons_succ]
  -- MID 19: mapEntry 72 t101 t104
  refine wpD_mid (i := 19) (by kernel_rfl) rfl (fun K hK => ?_)
  go_simp
  refine hK.out _ _ (fun hSw => ?_) ?_
  · exact ⟨hkm.someF hSw.1 hmx.out, hkm.someF hSw.2.1 hmx.out, hkm.someF hSw.2.2.1 hmo.out, hkm.someF hSw.2.2.2 hmo.out⟩
  clear hK K
  simp only [List.setIfInBounds_toArray, List.set_cons_zero, List.set_cons_succ]
  refine wpD_takeL (i := 20) (v := ?vtd_20) rfl (by kernel_rfl) (by kernel_rfl) (by kernel_rfl) (fun _ _ _ h => h) (Or.inl ⟨by rfl, ?hytd_20⟩) ?_
  case hytd_20 => (intro w; go_simp; try with_reducible rfl)
  simp only [Act.put, List.setIfInBounds_toArray, List.set_cons_zero, List.set_cons_succ]
  -- MID 21: entryStore 72 t101 t118 t108
  refine wpD_mid (i := 21) (by kernel_rfl) rfl (fun K hK => ?_)
  go_simp
  refine hK.out _ _ (fun hSw => ?_) ?_
  · exact ⟨hkn.someF hSw.1 hmx.out, hkn.someF hSw.2.1 hmx.out, hkn.someF hSw.2.2.1 hmo.out, hkn.someF hSw.2.2.2 hmo.out⟩
  clear hK K
  simp only [List.setIfInBounds_toArray, List.set_cons_zero, List.set_cons_succ]
  refine wpD_tail 22 [22, 23, 24] (by kernel_rfl) (by kernel_rfl) ?_
  simp only [List.drop_succ_cons, List.drop_zero]
  clear hS
  go_wp2_with fail
  all_goals first | omega | (refine HEND.out _ ?_; omega)
end Go.Proofs.Ytoddohhhhnahnaa
