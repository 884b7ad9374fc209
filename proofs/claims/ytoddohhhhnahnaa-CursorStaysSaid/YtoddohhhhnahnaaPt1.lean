/- The sequence: Put: a text as it lies in the world; what is refused. -/
import Derived.Test.YtoddohhhhnahnaaRg2
import Derived.Test.YtoddohhhhnahnaaMp
namespace Go.Proofs.Ytoddohhhhnahnaa
open Go.RowKit

def opsV (os : List Rga.Opn) : List Value := os.flatMap opL

/-- A text in the world: its slots. -/
structure TxS where
  ev : Value
  ix : Nat
  ov : Value
  vv : Value
  mb : Nat
  Fi : Nat → Prop
  lv : Value
  rs : List BlkR

/-- A text lies at x: elements, operations, vector, last counters, the greatest counter. -/
structure TxR (w : World) (F : Nat → Prop) (x : Nat) (S : TxS) (es : List Rga.El) (os : List Rga.Opn) (vec : List (Int × Int)) (f : Int → Int) (top : Int) : Prop where
  head : Cells w x 74 (txL S.ev S.ix S.ov S.vv (.map (some S.mb)) top)
  els : Row w 83 4 S.ev es.length (elV es)
  idx : IdxAt w S.Fi S.ix S.lv S.rs
  mks : marks S.rs = es.map (·.alive)
  few : S.rs.length ≤ (marks S.rs).length + 1
  nil : S.rs ≠ []
  ops : Row w 49 7 S.ov os.length (opsV os)
  vrow : Row w 104 2 S.vv vec.length (entV vec)
  rise : Rising vec
  map : MapF w S.mb f
  fx : F x
  fev : ∀ g, S.ev.ownBlock = some g → F g
  fi : ∀ g, S.Fi g → F g
  fov : ∀ g, S.ov.ownBlock = some g → F g
  fvv : ∀ g, S.vv.ownBlock = some g → F g
  fmb : F S.mb
  old : ∀ g, F g → g < w.heap.size
  dx : ¬ S.Fi x
  dev : ∀ g, S.ev.ownBlock = some g → ¬ S.Fi g
  dov : ∀ g, S.ov.ownBlock = some g → ¬ S.Fi g
  dvv : ∀ g, S.vv.ownBlock = some g → ¬ S.Fi g
  dmb : ¬ S.Fi S.mb

theorem TxR.keep {w w' : World} {F G : Nat → Prop} {x : Nat} {S : TxS} {es : List Rga.El} {os : List Rga.Opn} {vec : List (Int × Int)} {f : Int → Int} {top : Int} (h : TxR w F x S es os vec f top) (k : Keeps G w w') (hd : ∀ g, F g → ¬ G g) : TxR w' F x S es os vec f top := by
  have hidx : IdxAt w' S.Fi S.ix S.lv S.rs := by
    have hr : ∀ {e : TypeId} {size n : Nat} {v : Value} {xs : List Value}, Row w e size v n xs → (∀ g, v.ownBlock = some g → S.Fi g) → Row w' e size v n xs := fun hr hf =>
      hr.keep k (fun g hg => hd g (h.fi g (hf g hg)))
    exact ⟨h.idx.head.keep k (hd _ (h.fi _ h.idx.fx)), hr h.idx.row h.idx.frow, fun r hrm => ⟨(h.idx.blk r hrm).1.keep k (hd _ (h.fi _ (h.idx.fblk r hrm).1)), hr (h.idx.blk r hrm).2 (h.idx.fblk r hrm).2⟩,
      h.idx.fx, h.idx.frow, h.idx.fblk, h.idx.apart, fun g hg => Nat.lt_of_lt_of_le (h.idx.old g hg) k.size, h.idx.small⟩
  exact ⟨h.head.keep k (hd _ h.fx), h.els.keep k (fun g hg => hd g (h.fev g hg)), hidx, h.mks, h.few, h.nil, h.ops.keep k (fun g hg => hd g (h.fov g hg)), h.vrow.keep k (fun g hg => hd g (h.fvv g hg)), h.rise,
    h.map.kept (k.block _ h.map.lt (hd _ h.fmb)), h.fx, h.fev, h.fi, h.fov, h.fvv, h.fmb, fun g hg => Nat.lt_of_lt_of_le (h.old g hg) k.size, h.dx, h.dev, h.dov, h.dvv, h.dmb⟩

def putKeeps (w : World) (b : Bool) (n : Int) (e : Ending) (w' : World) : Prop := e = .returned (.tuple #[.bool b, .int .i64 n]) ∧ Keeps NoB w w'

set_option maxHeartbeats 3200000 in
set_option maxRecDepth 100000 in
theorem put_refused_false (w : World) (F : Nat → Prop) (x : Nat) (S : TxS) (es : List Rga.El) (os : List Rga.Opn) (vec : List (Int × Int)) (f : Int → Int) (top : Int) (h : TxR w F x S es os vec f top) (hvb : vec.length < 1099511627776) (o : Rga.Opn) (hoi : o.ins = false) (hs1 : 0 ≤ seqV vec o.id.author) (hs2 : seqV vec o.id.author ≤ 4294967295) (n : Int)
    (hn : (Rga.right o = false ∧ n = 1) ∨ (Rga.right o = true ∧ ((o.seq ≤ seqV vec o.id.author ∧ n = 0) ∨ (seqV vec o.id.author < o.seq ∧ (((seqV vec o.id.author + 1 < o.seq ∨ (posI es o.ref < 0 ∧ o.ref ≠ Rga.Id.zero)) ∧ n = 6) ∨
      (o.seq = seqV vec o.id.author + 1 ∧ (0 ≤ posI es o.ref ∨ o.ref = Rga.Id.zero) ∧ o.id.ctr ≤ f o.id.author ∧ n = 1)))))) :
    Calls Try.prog 24 #[.pointer (some ⟨x, 0, none⟩), .agg #[.int .i64 o.id.ctr, .int .i64 o.id.author, .int .i64 o.seq, .bool false, .int .i64 o.ref.ctr, .int .i64 o.ref.author, .int .i32 o.rune]] w (putKeeps w false n) := by
  have x3 : w.cell? ⟨x, 3, none⟩ = some S.vv := h.head.cell 3
  have x4 : w.cell? ⟨x, 4, none⟩ = some (.map (some S.mb)) := h.head.cell 4
  have xlt := h.head.lt
  have hob : Cells (w.alloc (.cells #[.int .i64 o.id.ctr, .int .i64 o.id.author, .int .i64 o.seq, .bool false, .int .i64 o.ref.ctr, .int .i64 o.ref.author, .int .i32 o.rune] 49)) w.heap.size 49 (opL o) := by
    have := Cells.new w (opL o) 49
    simpa [opL, hoi] using this
  have HR : Hid (∀ w, Calls Try.prog 36 #[.agg #[.int .i64 o.id.ctr, .int .i64 o.id.author, .int .i64 o.seq, .bool false, .int .i64 o.ref.ctr, .int .i64 o.ref.author, .int .i32 o.rune]] w (boolKeeps w (Rga.right o))) := Lib.hid (fun w => by rw [← hoi]; exact right_any o w)
  have HO := Lib.hid hob
  have HT := Lib.hid h
  clear h hob
  rcases hn with ⟨hr, rfl⟩ | ⟨hr, hn⟩
  · rw [hr] at HR
    go_enter Try.func24, Try.ntmps24
    go_wp2_with (first | (go_at_call 36; refine (HR.out _).mono ?_; rintro e w1 ⟨rfl, hk1⟩; have hk1 := Lib.hid hk1))
    go_ret2
    exact ⟨rfl, ((Keeps.refl NoB w).alloc _).trans hk1.out⟩
  rw [hr] at HR
  clear hr
  go_enter Try.func24, Try.ntmps24
  go_wp2_with (first | (go_at_call 36; refine (HR.out _).mono ?_; rintro e w1 ⟨rfl, hk1⟩; have hk1 := Lib.hid hk1))
  obtain ⟨Av, cv, hvv⟩ := HT.out.vrow.slice
  have hco : Cells w1 w.heap.size 49 (opL o) := Cells.keep (F := NoB) (w' := w1) HO.out hk1.out (fun e => e)
  have hkw : Keeps NoB w w1 := ((Keeps.refl NoB w).alloc _).trans hk1.out
  have HT1 := Lib.hid (HT.out.keep hkw (fun _ _ e => e))
  have HS := Lib.hid (seq_any w1.drew (.slice Av vec.length cv) vec (by rw [← hvv]; exact HT1.out.vrow.drew) HT.out.rise (by omega) o.id.author)
  have x3a : w1.cell? ⟨x, 3, none⟩ = some (.slice Av vec.length cv) := by rw [← hvv]; exact hkw.some x3
  obtain ⟨o0, o1, o2, o3, o4, o5, o6⟩ := op_cells hco
  have PK := Lib.hid (And.intro hco hkw)
  clear hco hkw hvv x3
  refine wpD_begin (n := 9) (l := [false, false, false, false, false, false, false, false, false].toArray) [7, 8] (fun w' => w'.cell? ⟨x, 3, none⟩ = some (.slice Av vec.length cv) ∧ w'.cell? ⟨w.heap.size, 1, none⟩ = some (.int .i64 o.id.author)) (by kernel_rfl) (by kernel_rfl) (by kernel_rfl) ?_ (fun hS => ?_)
  · first | (go_keep; done) | go_simp
  try dsimp only at hS
  refine wpD_takeL (i := 0) (v := ?vpf_0) rfl (by kernel_rfl) (by kernel_rfl) (by kernel_rfl) (fun _ _ _ h => h) (Or.inl ⟨by rfl, ?hypf_0⟩) ?_
  case hypf_0 => (intro w; go_simp; try with_reducible rfl)
  simp only [Act.put, List.setIfInBounds_toArray, List.set_cons_zero, List.set_cons_succ]
  refine wpD_takeL (i := 1) (v := ?vpf_1) rfl (by kernel_rfl) (by kernel_rfl) (by kernel_rfl) (fun _ _ _ h => h) (Or.inl ⟨by rfl, ?hypf_1⟩) ?_
  case hypf_1 => (intro w; go_simp; try with_reducible rfl)
  simp only [Act.put, List.setIfInBounds_toArray, List.set_cons_zero, List.set_cons_succ]
  refine wpD_takeL (i := 2) (v := ?vpf_2) rfl (by kernel_rfl) (by kernel_rfl) (by kernel_rfl) (fun _ _ _ h => h) (Or.inl ⟨by rfl, ?hypf_2⟩) ?_
  case hypf_2 => (intro w; go_simp; try with_reducible rfl)
  simp only [Act.put, List.setIfInBounds_toArray, List.set_cons_zero, List.set_cons_succ]
  refine wpD_takeL (i := 4) (v := ?vpf_4) rfl (by kernel_rfl) (by kernel_rfl) (by kernel_rfl) (fun _ _ _ h => h) (Or.inl ⟨by rfl, ?hypf_4⟩) ?_
  case hypf_4 => (intro w; go_simp; try with_reducible rfl)
  simp only [Act.put, List.setIfInBounds_toArray, List.set_cons_zero, List.set_cons_succ]
  refine wpD_takeL (i := 5) (v := ?vpf_5) rfl (by kernel_rfl) (by kernel_rfl) (by kernel_rfl) (fun _ _ _ h => h) (Or.inl ⟨by rfl, ?hypf_5⟩) ?_
  case hypf_5 => (intro w; go_simp; try with_reducible rfl)
  simp only [Act.put, List.setIfInBounds_toArray, List.set_cons_zero, List.set_cons_succ]
  refine wpD_loadL (i := 3) (v := ?vpf_3) rfl (by kernel_rfl) (by kernel_rfl) (by kernel_rfl) (by kernel_rfl) (fun _ _ _ h => h) (Or.inl ⟨by rfl, ?hypf_3⟩) hS ?_
  case hypf_3 => (intro w hSw; (try dsimp only at hSw); go_simp; try with_reducible rfl)
  simp only [Act.put, List.setIfInBounds_toArray, List.set_cons_zero, List.set_cons_succ]
  refine wpD_loadL (i := 6) (v := ?vpf_6) rfl (by kernel_rfl) (by kernel_rfl) (by kernel_rfl) (by kernel_rfl) (fun _ _ _ h => h) (Or.inl ⟨by rfl, ?hypf_6⟩) hS ?_
  case hypf_6 => (intro w hSw; (try dsimp only at hSw); go_simp; try with_reducible rfl)
  simp only [Act.put, List.setIfInBounds_toArray, List.set_cons_zero, List.set_cons_succ]
  refine wpD_tail 7 [7, 8] (by kernel_rfl) (by kernel_rfl) ?_
  simp only [List.drop_succ_cons, List.drop_zero]
  clear hS
  go_wp2_with fail
  go_at_call 37
  refine HS.out.mono ?_
  rintro e w2 ⟨rfl, hk2⟩
  have hkw2 : Keeps NoB w w2 := PK.out.2.trans (Keeps.trans (b := w1.drew) ⟨rfl, rfl, rfl, Nat.le_refl _, fun _ _ _ => rfl⟩ hk2)
  have hco2 : Cells w2 w.heap.size 49 (opL o) := Cells.keep (F := NoB) (w' := w2) PK.out.1 (Keeps.trans (b := w1.drew) ⟨rfl, rfl, rfl, Nat.le_refl _, fun _ _ _ => rfl⟩ hk2) (fun e => e)
  clear o0 o1 o2 o3 o4 o5 o6 x3a HS
  obtain ⟨o0, o1, o2, o3, o4, o5, o6⟩ := op_cells hco2
  have HT2 := Lib.hid (HT.out.keep hkw2 (fun _ _ e => e))
  have HP := Lib.hid (rplace_any w2 x S.ev S.ix S.ov S.vv (.map (some S.mb)) top es HT2.out.head HT2.out.els o.ref)
  have PK2 := Lib.hid (And.intro hco2 hkw2)
  clear hkw2 hco2 hk2 PK HT1
  generalize seqV vec o.id.author = sq at *
  generalize posI es o.ref = ps at *
  go_wp2_with fail
  go_at_call 38
  refine HP.out.mono ?_
  rintro e w3 ⟨rfl, hk3⟩
  have hco3 : Cells w3 w.heap.size 49 (opL o) := Cells.keep (F := NoB) (w' := w3) PK2.out.1 hk3 (fun e => e)
  have hkw3 : Keeps NoB w w3 := PK2.out.2.trans hk3
  clear o0 o1 o2 o3 o4 o5 o6 HP PK2 HT2 hk3
  obtain ⟨o0, o1, o2, o3, o4, o5, o6⟩ := op_cells hco3
  have x4a : w3.cell? ⟨x, 4, none⟩ = some (.map (some S.mb)) := hkw3.some x4
  have HT3 := Lib.hid (HT.out.keep hkw3 (fun _ _ e => e))
  have PK3 := Lib.hid (And.intro hco3 hkw3)
  clear hco3 hkw3 x4
  rcases hn with ⟨hn, rfl⟩ | ⟨hn1, ⟨hn, rfl⟩ | ⟨hq, hn2, hn3, rfl⟩⟩
  · go_wp2_with fail
    go_ret2
    exact ⟨rfl, PK3.out.2⟩
  · by_cases hgt : sq + 1 < o.seq
    · clear hn
      go_wp2_with fail
      go_ret2
      exact ⟨rfl, PK3.out.2⟩
    · obtain ⟨hp, hz⟩ : ps < 0 ∧ o.ref ≠ Rga.Id.zero := by rcases hn with hn | hn; exact absurd hn hgt; exact hn
      have hz' : ¬ (o.ref.ctr = 0 ∧ o.ref.author = 0) := fun e => hz (by cases hr : o.ref; rw [hr] at e; simp at e; rw [e.1, e.2]; rfl)
      clear hn hz
      go_wp2_with fail
      all_goals go_ret2
      all_goals exact ⟨rfl, PK3.out.2⟩
  · have hd : ¬ ps < 0 ∨ (ps < 0 ∧ o.ref.ctr = 0 ∧ o.ref.author = 0) := by
      rcases hn2 with h | h
      · exact .inl (by omega)
      · by_cases hp : ps < 0
        · exact .inr ⟨hp, by rw [h]; rfl, by rw [h]; rfl⟩
        · exact .inl hp
    have HL : (Instr.lookup 72 (.map (some S.mb)) (.int .i64 o.id.author) false).run Try.prog w3.drew = .ok (.int .i64 (f o.id.author)) w3.drew :=
      (HT3.out.map.kept (w' := w3.drew) rfl).lookup Try.underlying72 Try.underlying3 (by kernel_rfl) o.id.author
    clear hn2
    generalize f o.id.author = fa at *
    rcases hd with hd | ⟨hd, hd1, hd2⟩
    · go_wp2_with fail
      refine wpD_begin (n := 13) (l := [false, false, false, false, false, false, false, false, false, false, false, false, false].toArray) [11, 12] (fun w' => w'.cell? ⟨x, 4, none⟩ = some (.map (some S.mb)) ∧ w'.cell? ⟨w.heap.size, 0, none⟩ = some (.int .i64 o.id.ctr) ∧ w'.cell? ⟨w.heap.size, 1, none⟩ = some (.int .i64 o.id.author)) (by kernel_rfl) (by kernel_rfl) (by kernel_rfl) ?_ (fun hS => ?_)
      · first | (go_keep; done) | go_simp
      try dsimp only at hS
      refine wpD_takeL (i := 0) (v := ?vqf_0) rfl (by kernel_rfl) (by kernel_rfl) (by kernel_rfl) (fun _ _ _ h => h) (Or.inl ⟨by rfl, ?hyqf_0⟩) ?_
      case hyqf_0 => (intro w; go_simp; try with_reducible rfl)
      simp only [Act.put, List.setIfInBounds_toArray, List.set_cons_zero, List.set_cons_succ]
      refine wpD_takeL (i := 1) (v := ?vqf_1) rfl (by kernel_rfl) (by kernel_rfl) (by kernel_rfl) (fun _ _ _ h => h) (Or.inl ⟨by rfl, ?hyqf_1⟩) ?_
      case hyqf_1 => (intro w; go_simp; try with_reducible rfl)
      simp only [Act.put, List.setIfInBounds_toArray, List.set_cons_zero, List.set_cons_succ]
      refine wpD_takeL (i := 3) (v := ?vqf_3) rfl (by kernel_rfl) (by kernel_rfl) (by kernel_rfl) (fun _ _ _ h => h) (Or.inl ⟨by rfl, ?hyqf_3⟩) ?_
      case hyqf_3 => (intro w; go_simp; try with_reducible rfl)
      simp only [Act.put, List.setIfInBounds_toArray, List.set_cons_zero, List.set_cons_succ]
      refine wpD_takeL (i := 4) (v := ?vqf_4) rfl (by kernel_rfl) (by kernel_rfl) (by kernel_rfl) (fun _ _ _ h => h) (Or.inl ⟨by rfl, ?hyqf_4⟩) ?_
      case hyqf_4 => (intro w; go_simp; try with_reducible rfl)
      simp only [Act.put, List.setIfInBounds_toArray, List.set_cons_zero, List.set_cons_succ]
      refine wpD_takeL (i := 5) (v := ?vqf_5) rfl (by kernel_rfl) (by kernel_rfl) (by kernel_rfl) (fun _ _ _ h => h) (Or.inl ⟨by rfl, ?hyqf_5⟩) ?_
      case hyqf_5 => (intro w; go_simp; try with_reducible rfl)
      simp only [Act.put, List.setIfInBounds_toArray, List.set_cons_zero, List.set_cons_succ]
      refine wpD_takeL (i := 7) (v := ?vqf_7) rfl (by kernel_rfl) (by kernel_rfl) (by kernel_rfl) (fun _ _ _ h => h) (Or.inl ⟨by rfl, ?hyqf_7⟩) ?_
      case hyqf_7 => (intro w; go_simp; try with_reducible rfl)
      simp only [Act.put, List.setIfInBounds_toArray, List.set_cons_zero, List.set_cons_succ]
      refine wpD_takeL (i := 8) (v := ?vqf_8) rfl (by kernel_rfl) (by kernel_rfl) (by kernel_rfl) (fun _ _ _ h => h) (Or.inl ⟨by rfl, ?hyqf_8⟩) ?_
      case hyqf_8 => (intro w; go_simp; try with_reducible rfl)
      simp only [Act.put, List.setIfInBounds_toArray, List.set_cons_zero, List.set_cons_succ]
      refine wpD_loadL (i := 2) (v := ?vqf_2) rfl (by kernel_rfl) (by kernel_rfl) (by kernel_rfl) (by kernel_rfl) (fun _ _ _ h => h) (Or.inl ⟨by rfl, ?hyqf_2⟩) hS ?_
      case hyqf_2 => (intro w hSw; (try dsimp only at hSw); go_simp; try with_reducible rfl)
      simp only [Act.put, List.setIfInBounds_toArray, List.set_cons_zero, List.set_cons_succ]
      refine wpD_loadL (i := 6) (v := ?vqf_6) rfl (by kernel_rfl) (by kernel_rfl) (by kernel_rfl) (by kernel_rfl) (fun _ _ _ h => h) (Or.inl ⟨by rfl, ?hyqf_6⟩) hS ?_
      case hyqf_6 => (intro w hSw; (try dsimp only at hSw); go_simp; try with_reducible rfl)
      simp only [Act.put, List.setIfInBounds_toArray, List.set_cons_zero, List.set_cons_succ]
      refine wpD_loadL (i := 9) (v := ?vqf_9) rfl (by kernel_rfl) (by kernel_rfl) (by kernel_rfl) (by kernel_rfl) (fun _ _ _ h => h) (Or.inl ⟨by rfl, ?hyqf_9⟩) hS ?_
      case hyqf_9 => (intro w hSw; (try dsimp only at hSw); go_simp; try with_reducible rfl)
      simp only [Act.put, List.setIfInBounds_toArray, List.set_cons_zero, List.set_cons_succ]
      -- MID 10: lookup 72 t49 t52 false
      refine wpD_mid (i := 10) (by kernel_rfl) rfl (fun K hK => ?_)
      go_simp
      refine hK.out _ _ (fun hSw => ?_) ?_
      · exact hSw
      clear hK K
      simp only [List.setIfInBounds_toArray, List.set_cons_zero, List.set_cons_succ]
      refine wpD_tail 11 [11, 12] (by kernel_rfl) (by kernel_rfl) ?_
      simp only [List.drop_succ_cons, List.drop_zero]
      clear hS
      go_wp2_with fail
      go_ret2
      exact ⟨rfl, PK3.out.2.drew⟩
    · go_wp2_with fail
      refine wpD_begin (n := 13) (l := [false, false, false, false, false, false, false, false, false, false, false, false, false].toArray) [11, 12] (fun w' => w'.cell? ⟨x, 4, none⟩ = some (.map (some S.mb)) ∧ w'.cell? ⟨w.heap.size, 0, none⟩ = some (.int .i64 o.id.ctr) ∧ w'.cell? ⟨w.heap.size, 1, none⟩ = some (.int .i64 o.id.author)) (by kernel_rfl) (by kernel_rfl) (by kernel_rfl) ?_ (fun hS => ?_)
      · first | (go_keep; done) | go_simp
      try dsimp only at hS
      refine wpD_takeL (i := 0) (v := ?vrf_0) rfl (by kernel_rfl) (by kernel_rfl) (by kernel_rfl) (fun _ _ _ h => h) (Or.inl ⟨by rfl, ?hyrf_0⟩) ?_
      case hyrf_0 => (intro w; go_simp; try with_reducible rfl)
      simp only [Act.put, List.setIfInBounds_toArray, List.set_cons_zero, List.set_cons_succ]
      refine wpD_takeL (i := 1) (v := ?vrf_1) rfl (by kernel_rfl) (by kernel_rfl) (by kernel_rfl) (fun _ _ _ h => h) (Or.inl ⟨by rfl, ?hyrf_1⟩) ?_
      case hyrf_1 => (intro w; go_simp; try with_reducible rfl)
      simp only [Act.put, List.setIfInBounds_toArray, List.set_cons_zero, List.set_cons_succ]
      refine wpD_takeL (i := 3) (v := ?vrf_3) rfl (by kernel_rfl) (by kernel_rfl) (by kernel_rfl) (fun _ _ _ h => h) (Or.inl ⟨by rfl, ?hyrf_3⟩) ?_
      case hyrf_3 => (intro w; go_simp; try with_reducible rfl)
      simp only [Act.put, List.setIfInBounds_toArray, List.set_cons_zero, List.set_cons_succ]
      refine wpD_takeL (i := 4) (v := ?vrf_4) rfl (by kernel_rfl) (by kernel_rfl) (by kernel_rfl) (fun _ _ _ h => h) (Or.inl ⟨by rfl, ?hyrf_4⟩) ?_
      case hyrf_4 => (intro w; go_simp; try with_reducible rfl)
      simp only [Act.put, List.setIfInBounds_toArray, List.set_cons_zero, List.set_cons_succ]
      refine wpD_takeL (i := 5) (v := ?vrf_5) rfl (by kernel_rfl) (by kernel_rfl) (by kernel_rfl) (fun _ _ _ h => h) (Or.inl ⟨by rfl, ?hyrf_5⟩) ?_
      case hyrf_5 => (intro w; go_simp; try with_reducible rfl)
      simp only [Act.put, List.setIfInBounds_toArray, List.set_cons_zero, List.set_cons_succ]
      refine wpD_takeL (i := 7) (v := ?vrf_7) rfl (by kernel_rfl) (by kernel_rfl) (by kernel_rfl) (fun _ _ _ h => h) (Or.inl ⟨by rfl, ?hyrf_7⟩) ?_
      case hyrf_7 => (intro w; go_simp; try with_reducible rfl)
      simp only [Act.put, List.setIfInBounds_toArray, List.set_cons_zero, List.set_cons_succ]
      refine wpD_takeL (i := 8) (v := ?vrf_8) rfl (by kernel_rfl) (by kernel_rfl) (by kernel_rfl) (fun _ _ _ h => h) (Or.inl ⟨by rfl, ?hyrf_8⟩) ?_
      case hyrf_8 => (intro w; go_simp; try with_reducible rfl)
      simp only [Act.put, List.setIfInBounds_toArray, List.set_cons_zero, List.set_cons_succ]
      refine wpD_loadL (i := 2) (v := ?vrf_2) rfl (by kernel_rfl) (by kernel_rfl) (by kernel_rfl) (by kernel_rfl) (fun _ _ _ h => h) (Or.inl ⟨by rfl, ?hyrf_2⟩) hS ?_
      case hyrf_2 => (intro w hSw; (try dsimp only at hSw); go_simp; try with_reducible rfl)
      simp only [Act.put, List.setIfInBounds_toArray, List.set_cons_zero, List.set_cons_succ]
      refine wpD_loadL (i := 6) (v := ?vrf_6) rfl (by kernel_rfl) (by kernel_rfl) (by kernel_rfl) (by kernel_rfl) (fun _ _ _ h => h) (Or.inl ⟨by rfl, ?hyrf_6⟩) hS ?_
      case hyrf_6 => (intro w hSw; (try dsimp only at hSw); go_simp; try with_reducible rfl)
      simp only [Act.put, List.setIfInBounds_toArray, List.set_cons_zero, List.set_cons_succ]
      refine wpD_loadL (i := 9) (v := ?vrf_9) rfl (by kernel_rfl) (by kernel_rfl) (by kernel_rfl) (by kernel_rfl) (fun _ _ _ h => h) (Or.inl ⟨by rfl, ?hyrf_9⟩) hS ?_
      case hyrf_9 => (intro w hSw; (try dsimp only at hSw); go_simp; try with_reducible rfl)
      simp only [Act.put, List.setIfInBounds_toArray, List.set_cons_zero, List.set_cons_succ]
      -- MID 10: lookup 72 t49 t52 false
      refine wpD_mid (i := 10) (by kernel_rfl) rfl (fun K hK => ?_)
      go_simp
      refine hK.out _ _ (fun hSw => ?_) ?_
      · exact hSw
      clear hK K
      simp only [List.setIfInBounds_toArray, List.set_cons_zero, List.set_cons_succ]
      refine wpD_tail 11 [11, 12] (by kernel_rfl) (by kernel_rfl) ?_
      simp only [List.drop_succ_cons, List.drop_zero]
      clear hS
      go_wp2_with fail
      go_ret2
      exact ⟨rfl, PK3.out.2.drew⟩

set_option maxHeartbeats 3200000 in
set_option maxRecDepth 100000 in
theorem put_refused_true (w : World) (F : Nat → Prop) (x : Nat) (S : TxS) (es : List Rga.El) (os : List Rga.Opn) (vec : List (Int × Int)) (f : Int → Int) (top : Int) (h : TxR w F x S es os vec f top) (hvb : vec.length < 1099511627776) (o : Rga.Opn) (hoi : o.ins = true) (hs1 : 0 ≤ seqV vec o.id.author) (hs2 : seqV vec o.id.author ≤ 4294967295) (n : Int)
    (hn : (Rga.right o = false ∧ n = 1) ∨ (Rga.right o = true ∧ ((o.seq ≤ seqV vec o.id.author ∧ n = 0) ∨ (seqV vec o.id.author < o.seq ∧ (((seqV vec o.id.author + 1 < o.seq ∨ (posI es o.ref < 0 ∧ o.ref ≠ Rga.Id.zero)) ∧ n = 6) ∨
      (o.seq = seqV vec o.id.author + 1 ∧ (0 ≤ posI es o.ref ∨ o.ref = Rga.Id.zero) ∧ o.id.ctr ≤ f o.id.author ∧ n = 1)))))) :
    Calls Try.prog 24 #[.pointer (some ⟨x, 0, none⟩), .agg #[.int .i64 o.id.ctr, .int .i64 o.id.author, .int .i64 o.seq, .bool true, .int .i64 o.ref.ctr, .int .i64 o.ref.author, .int .i32 o.rune]] w (putKeeps w false n) := by
  have x3 : w.cell? ⟨x, 3, none⟩ = some S.vv := h.head.cell 3
  have x4 : w.cell? ⟨x, 4, none⟩ = some (.map (some S.mb)) := h.head.cell 4
  have xlt := h.head.lt
  have hob : Cells (w.alloc (.cells #[.int .i64 o.id.ctr, .int .i64 o.id.author, .int .i64 o.seq, .bool true, .int .i64 o.ref.ctr, .int .i64 o.ref.author, .int .i32 o.rune] 49)) w.heap.size 49 (opL o) := by
    have := Cells.new w (opL o) 49
    simpa [opL, hoi] using this
  have HR : Hid (∀ w, Calls Try.prog 36 #[.agg #[.int .i64 o.id.ctr, .int .i64 o.id.author, .int .i64 o.seq, .bool true, .int .i64 o.ref.ctr, .int .i64 o.ref.author, .int .i32 o.rune]] w (boolKeeps w (Rga.right o))) := Lib.hid (fun w => by rw [← hoi]; exact right_any o w)
  have HO := Lib.hid hob
  have HT := Lib.hid h
  clear h hob
  rcases hn with ⟨hr, rfl⟩ | ⟨hr, hn⟩
  · rw [hr] at HR
    go_enter Try.func24, Try.ntmps24
    go_wp2_with (first | (go_at_call 36; refine (HR.out _).mono ?_; rintro e w1 ⟨rfl, hk1⟩; have hk1 := Lib.hid hk1))
    go_ret2
    exact ⟨rfl, ((Keeps.refl NoB w).alloc _).trans hk1.out⟩
  rw [hr] at HR
  clear hr
  go_enter Try.func24, Try.ntmps24
  go_wp2_with (first | (go_at_call 36; refine (HR.out _).mono ?_; rintro e w1 ⟨rfl, hk1⟩; have hk1 := Lib.hid hk1))
  obtain ⟨Av, cv, hvv⟩ := HT.out.vrow.slice
  have hco : Cells w1 w.heap.size 49 (opL o) := Cells.keep (F := NoB) (w' := w1) HO.out hk1.out (fun e => e)
  have hkw : Keeps NoB w w1 := ((Keeps.refl NoB w).alloc _).trans hk1.out
  have HT1 := Lib.hid (HT.out.keep hkw (fun _ _ e => e))
  have HS := Lib.hid (seq_any w1.drew (.slice Av vec.length cv) vec (by rw [← hvv]; exact HT1.out.vrow.drew) HT.out.rise (by omega) o.id.author)
  have x3a : w1.cell? ⟨x, 3, none⟩ = some (.slice Av vec.length cv) := by rw [← hvv]; exact hkw.some x3
  obtain ⟨o0, o1, o2, o3, o4, o5, o6⟩ := op_cells hco
  have PK := Lib.hid (And.intro hco hkw)
  clear hco hkw hvv x3
  refine wpD_begin (n := 9) (l := [false, false, false, false, false, false, false, false, false].toArray) [7, 8] (fun w' => w'.cell? ⟨x, 3, none⟩ = some (.slice Av vec.length cv) ∧ w'.cell? ⟨w.heap.size, 1, none⟩ = some (.int .i64 o.id.author)) (by kernel_rfl) (by kernel_rfl) (by kernel_rfl) ?_ (fun hS => ?_)
  · first | (go_keep; done) | go_simp
  try dsimp only at hS
  refine wpD_takeL (i := 0) (v := ?vpt_0) rfl (by kernel_rfl) (by kernel_rfl) (by kernel_rfl) (fun _ _ _ h => h) (Or.inl ⟨by rfl, ?hypt_0⟩) ?_
  case hypt_0 => (intro w; go_simp; try with_reducible rfl)
  simp only [Act.put, List.setIfInBounds_toArray, List.set_cons_zero, List.set_cons_succ]
  refine wpD_takeL (i := 1) (v := ?vpt_1) rfl (by kernel_rfl) (by kernel_rfl) (by kernel_rfl) (fun _ _ _ h => h) (Or.inl ⟨by rfl, ?hypt_1⟩) ?_
  case hypt_1 => (intro w; go_simp; try with_reducible rfl)
  simp only [Act.put, List.setIfInBounds_toArray, List.set_cons_zero, List.set_cons_succ]
  refine wpD_takeL (i := 2) (v := ?vpt_2) rfl (by kernel_rfl) (by kernel_rfl) (by kernel_rfl) (fun _ _ _ h => h) (Or.inl ⟨by rfl, ?hypt_2⟩) ?_
  case hypt_2 => (intro w; go_simp; try with_reducible rfl)
  simp only [Act.put, List.setIfInBounds_toArray, List.set_cons_zero, List.set_cons_succ]
  refine wpD_takeL (i := 4) (v := ?vpt_4) rfl (by kernel_rfl) (by kernel_rfl) (by kernel_rfl) (fun _ _ _ h => h) (Or.inl ⟨by rfl, ?hypt_4⟩) ?_
  case hypt_4 => (intro w; go_simp; try with_reducible rfl)
  simp only [Act.put, List.setIfInBounds_toArray, List.set_cons_zero, List.set_cons_succ]
  refine wpD_takeL (i := 5) (v := ?vpt_5) rfl (by kernel_rfl) (by kernel_rfl) (by kernel_rfl) (fun _ _ _ h => h) (Or.inl ⟨by rfl, ?hypt_5⟩) ?_
  case hypt_5 => (intro w; go_simp; try with_reducible rfl)
  simp only [Act.put, List.setIfInBounds_toArray, List.set_cons_zero, List.set_cons_succ]
  refine wpD_loadL (i := 3) (v := ?vpt_3) rfl (by kernel_rfl) (by kernel_rfl) (by kernel_rfl) (by kernel_rfl) (fun _ _ _ h => h) (Or.inl ⟨by rfl, ?hypt_3⟩) hS ?_
  case hypt_3 => (intro w hSw; (try dsimp only at hSw); go_simp; try with_reducible rfl)
  simp only [Act.put, List.setIfInBounds_toArray, List.set_cons_zero, List.set_cons_succ]
  refine wpD_loadL (i := 6) (v := ?vpt_6) rfl (by kernel_rfl) (by kernel_rfl) (by kernel_rfl) (by kernel_rfl) (fun _ _ _ h => h) (Or.inl ⟨by rfl, ?hypt_6⟩) hS ?_
  case hypt_6 => (intro w hSw; (try dsimp only at hSw); go_simp; try with_reducible rfl)
  simp only [Act.put, List.setIfInBounds_toArray, List.set_cons_zero, List.set_cons_succ]
  refine wpD_tail 7 [7, 8] (by kernel_rfl) (by kernel_rfl) ?_
  simp only [List.drop_succ_cons, List.drop_zero]
  clear hS
  go_wp2_with fail
  go_at_call 37
  refine HS.out.mono ?_
  rintro e w2 ⟨rfl, hk2⟩
  have hkw2 : Keeps NoB w w2 := PK.out.2.trans (Keeps.trans (b := w1.drew) ⟨rfl, rfl, rfl, Nat.le_refl _, fun _ _ _ => rfl⟩ hk2)
  have hco2 : Cells w2 w.heap.size 49 (opL o) := Cells.keep (F := NoB) (w' := w2) PK.out.1 (Keeps.trans (b := w1.drew) ⟨rfl, rfl, rfl, Nat.le_refl _, fun _ _ _ => rfl⟩ hk2) (fun e => e)
  clear o0 o1 o2 o3 o4 o5 o6 x3a HS
  obtain ⟨o0, o1, o2, o3, o4, o5, o6⟩ := op_cells hco2
  have HT2 := Lib.hid (HT.out.keep hkw2 (fun _ _ e => e))
  have HP := Lib.hid (rplace_any w2 x S.ev S.ix S.ov S.vv (.map (some S.mb)) top es HT2.out.head HT2.out.els o.ref)
  have PK2 := Lib.hid (And.intro hco2 hkw2)
  clear hkw2 hco2 hk2 PK HT1
  generalize seqV vec o.id.author = sq at *
  generalize posI es o.ref = ps at *
  go_wp2_with fail
  go_at_call 38
  refine HP.out.mono ?_
  rintro e w3 ⟨rfl, hk3⟩
  have hco3 : Cells w3 w.heap.size 49 (opL o) := Cells.keep (F := NoB) (w' := w3) PK2.out.1 hk3 (fun e => e)
  have hkw3 : Keeps NoB w w3 := PK2.out.2.trans hk3
  clear o0 o1 o2 o3 o4 o5 o6 HP PK2 HT2 hk3
  obtain ⟨o0, o1, o2, o3, o4, o5, o6⟩ := op_cells hco3
  have x4a : w3.cell? ⟨x, 4, none⟩ = some (.map (some S.mb)) := hkw3.some x4
  have HT3 := Lib.hid (HT.out.keep hkw3 (fun _ _ e => e))
  have PK3 := Lib.hid (And.intro hco3 hkw3)
  clear hco3 hkw3 x4
  rcases hn with ⟨hn, rfl⟩ | ⟨hn1, ⟨hn, rfl⟩ | ⟨hq, hn2, hn3, rfl⟩⟩
  · go_wp2_with fail
    go_ret2
    exact ⟨rfl, PK3.out.2⟩
  · by_cases hgt : sq + 1 < o.seq
    · clear hn
      go_wp2_with fail
      go_ret2
      exact ⟨rfl, PK3.out.2⟩
    · obtain ⟨hp, hz⟩ : ps < 0 ∧ o.ref ≠ Rga.Id.zero := by rcases hn with hn | hn; exact absurd hn hgt; exact hn
      have hz' : ¬ (o.ref.ctr = 0 ∧ o.ref.author = 0) := fun e => hz (by cases hr : o.ref; rw [hr] at e; simp at e; rw [e.1, e.2]; rfl)
      clear hn hz
      go_wp2_with fail
      all_goals go_ret2
      all_goals exact ⟨rfl, PK3.out.2⟩
  · have hd : ¬ ps < 0 ∨ (ps < 0 ∧ o.ref.ctr = 0 ∧ o.ref.author = 0) := by
      rcases hn2 with h | h
      · exact .inl (by omega)
      · by_cases hp : ps < 0
        · exact .inr ⟨hp, by rw [h]; rfl, by rw [h]; rfl⟩
        · exact .inl hp
    have HL : (Instr.lookup 72 (.map (some S.mb)) (.int .i64 o.id.author) false).run Try.prog w3.drew = .ok (.int .i64 (f o.id.author)) w3.drew :=
      (HT3.out.map.kept (w' := w3.drew) rfl).lookup Try.underlying72 Try.underlying3 (by kernel_rfl) o.id.author
    clear hn2
    generalize f o.id.author = fa at *
    rcases hd with hd | ⟨hd, hd1, hd2⟩
    · go_wp2_with fail
      refine wpD_begin (n := 13) (l := [false, false, false, false, false, false, false, false, false, false, false, false, false].toArray) [11, 12] (fun w' => w'.cell? ⟨x, 4, none⟩ = some (.map (some S.mb)) ∧ w'.cell? ⟨w.heap.size, 0, none⟩ = some (.int .i64 o.id.ctr) ∧ w'.cell? ⟨w.heap.size, 1, none⟩ = some (.int .i64 o.id.author)) (by kernel_rfl) (by kernel_rfl) (by kernel_rfl) ?_ (fun hS => ?_)
      · first | (go_keep; done) | go_simp
      try dsimp only at hS
      refine wpD_takeL (i := 0) (v := ?vqt_0) rfl (by kernel_rfl) (by kernel_rfl) (by kernel_rfl) (fun _ _ _ h => h) (Or.inl ⟨by rfl, ?hyqt_0⟩) ?_
      case hyqt_0 => (intro w; go_simp; try with_reducible rfl)
      simp only [Act.put, List.setIfInBounds_toArray, List.set_cons_zero, List.set_cons_succ]
      refine wpD_takeL (i := 1) (v := ?vqt_1) rfl (by kernel_rfl) (by kernel_rfl) (by kernel_rfl) (fun _ _ _ h => h) (Or.inl ⟨by rfl, ?hyqt_1⟩) ?_
      case hyqt_1 => (intro w; go_simp; try with_reducible rfl)
      simp only [Act.put, List.setIfInBounds_toArray, List.set_cons_zero, List.set_cons_succ]
      refine wpD_takeL (i := 3) (v := ?vqt_3) rfl (by kernel_rfl) (by kernel_rfl) (by kernel_rfl) (fun _ _ _ h => h) (Or.inl ⟨by rfl, ?hyqt_3⟩) ?_
      case hyqt_3 => (intro w; go_simp; try with_reducible rfl)
      simp only [Act.put, List.setIfInBounds_toArray, List.set_cons_zero, List.set_cons_succ]
      refine wpD_takeL (i := 4) (v := ?vqt_4) rfl (by kernel_rfl) (by kernel_rfl) (by kernel_rfl) (fun _ _ _ h => h) (Or.inl ⟨by rfl, ?hyqt_4⟩) ?_
      case hyqt_4 => (intro w; go_simp; try with_reducible rfl)
      simp only [Act.put, List.setIfInBounds_toArray, List.set_cons_zero, List.set_cons_succ]
      refine wpD_takeL (i := 5) (v := ?vqt_5) rfl (by kernel_rfl) (by kernel_rfl) (by kernel_rfl) (fun _ _ _ h => h) (Or.inl ⟨by rfl, ?hyqt_5⟩) ?_
      case hyqt_5 => (intro w; go_simp; try with_reducible rfl)
      simp only [Act.put, List.setIfInBounds_toArray, List.set_cons_zero, List.set_cons_succ]
      refine wpD_takeL (i := 7) (v := ?vqt_7) rfl (by kernel_rfl) (by kernel_rfl) (by kernel_rfl) (fun _ _ _ h => h) (Or.inl ⟨by rfl, ?hyqt_7⟩) ?_
      case hyqt_7 => (intro w; go_simp; try with_reducible rfl)
      simp only [Act.put, List.setIfInBounds_toArray, List.set_cons_zero, List.set_cons_succ]
      refine wpD_takeL (i := 8) (v := ?vqt_8) rfl (by kernel_rfl) (by kernel_rfl) (by kernel_rfl) (fun _ _ _ h => h) (Or.inl ⟨by rfl, ?hyqt_8⟩) ?_
      case hyqt_8 => (intro w; go_simp; try with_reducible rfl)
      simp only [Act.put, List.setIfInBounds_toArray, List.set_cons_zero, List.set_cons_succ]
      refine wpD_loadL (i := 2) (v := ?vqt_2) rfl (by kernel_rfl) (by kernel_rfl) (by kernel_rfl) (by kernel_rfl) (fun _ _ _ h => h) (Or.inl ⟨by rfl, ?hyqt_2⟩) hS ?_
      case hyqt_2 => (intro w hSw; (try dsimp only at hSw); go_simp; try with_reducible rfl)
      simp only [Act.put, List.setIfInBounds_toArray, List.set_cons_zero, List.set_cons_succ]
      refine wpD_loadL (i := 6) (v := ?vqt_6) rfl (by kernel_rfl) (by kernel_rfl) (by kernel_rfl) (by kernel_rfl) (fun _ _ _ h => h) (Or.inl ⟨by rfl, ?hyqt_6⟩) hS ?_
      case hyqt_6 => (intro w hSw; (try dsimp only at hSw); go_simp; try with_reducible rfl)
      simp only [Act.put, List.setIfInBounds_toArray, List.set_cons_zero, List.set_cons_succ]
      refine wpD_loadL (i := 9) (v := ?vqt_9) rfl (by kernel_rfl) (by kernel_rfl) (by kernel_rfl) (by kernel_rfl) (fun _ _ _ h => h) (Or.inl ⟨by rfl, ?hyqt_9⟩) hS ?_
      case hyqt_9 => (intro w hSw; (try dsimp only at hSw); go_simp; try with_reducible rfl)
      simp only [Act.put, List.setIfInBounds_toArray, List.set_cons_zero, List.set_cons_succ]
      -- MID 10: lookup 72 t49 t52 false
      refine wpD_mid (i := 10) (by kernel_rfl) rfl (fun K hK => ?_)
      go_simp
      refine hK.out _ _ (fun hSw => ?_) ?_
      · exact hSw
      clear hK K
      simp only [List.setIfInBounds_toArray, List.set_cons_zero, List.set_cons_succ]
      refine wpD_tail 11 [11, 12] (by kernel_rfl) (by kernel_rfl) ?_
      simp only [List.drop_succ_cons, List.drop_zero]
      clear hS
      go_wp2_with fail
      go_ret2
      exact ⟨rfl, PK3.out.2.drew⟩
    · go_wp2_with fail
      refine wpD_begin (n := 13) (l := [false, false, false, false, false, false, false, false, false, false, false, false, false].toArray) [11, 12] (fun w' => w'.cell? ⟨x, 4, none⟩ = some (.map (some S.mb)) ∧ w'.cell? ⟨w.heap.size, 0, none⟩ = some (.int .i64 o.id.ctr) ∧ w'.cell? ⟨w.heap.size, 1, none⟩ = some (.int .i64 o.id.author)) (by kernel_rfl) (by kernel_rfl) (by kernel_rfl) ?_ (fun hS => ?_)
      · first | (go_keep; done) | go_simp
      try dsimp only at hS
      refine wpD_takeL (i := 0) (v := ?vrt_0) rfl (by kernel_rfl) (by kernel_rfl) (by kernel_rfl) (fun _ _ _ h => h) (Or.inl ⟨by rfl, ?hyrt_0⟩) ?_
      case hyrt_0 => (intro w; go_simp; try with_reducible rfl)
      simp only [Act.put, List.setIfInBounds_toArray, List.set_cons_zero, List.set_cons_succ]
      refine wpD_takeL (i := 1) (v := ?vrt_1) rfl (by kernel_rfl) (by kernel_rfl) (by kernel_rfl) (fun _ _ _ h => h) (Or.inl ⟨by rfl, ?hyrt_1⟩) ?_
      case hyrt_1 => (intro w; go_simp; try with_reducible rfl)
      simp only [Act.put, List.setIfInBounds_toArray, List.set_cons_zero, List.set_cons_succ]
      refine wpD_takeL (i := 3) (v := ?vrt_3) rfl (by kernel_rfl) (by kernel_rfl) (by kernel_rfl) (fun _ _ _ h => h) (Or.inl ⟨by rfl, ?hyrt_3⟩) ?_
      case hyrt_3 => (intro w; go_simp; try with_reducible rfl)
      simp only [Act.put, List.setIfInBounds_toArray, List.set_cons_zero, List.set_cons_succ]
      refine wpD_takeL (i := 4) (v := ?vrt_4) rfl (by kernel_rfl) (by kernel_rfl) (by kernel_rfl) (fun _ _ _ h => h) (Or.inl ⟨by rfl, ?hyrt_4⟩) ?_
      case hyrt_4 => (intro w; go_simp; try with_reducible rfl)
      simp only [Act.put, List.setIfInBounds_toArray, List.set_cons_zero, List.set_cons_succ]
      refine wpD_takeL (i := 5) (v := ?vrt_5) rfl (by kernel_rfl) (by kernel_rfl) (by kernel_rfl) (fun _ _ _ h => h) (Or.inl ⟨by rfl, ?hyrt_5⟩) ?_
      case hyrt_5 => (intro w; go_simp; try with_reducible rfl)
      simp only [Act.put, List.setIfInBounds_toArray, List.set_cons_zero, List.set_cons_succ]
      refine wpD_takeL (i := 7) (v := ?vrt_7) rfl (by kernel_rfl) (by kernel_rfl) (by kernel_rfl) (fun _ _ _ h => h) (Or.inl ⟨by rfl, ?hyrt_7⟩) ?_
      case hyrt_7 => (intro w; go_simp; try with_reducible rfl)
      simp only [Act.put, List.setIfInBounds_toArray, List.set_cons_zero, List.set_cons_succ]
      refine wpD_takeL (i := 8) (v := ?vrt_8) rfl (by kernel_rfl) (by kernel_rfl) (by kernel_rfl) (fun _ _ _ h => h) (Or.inl ⟨by rfl, ?hyrt_8⟩) ?_
      case hyrt_8 => (intro w; go_simp; try with_reducible rfl)
      simp only [Act.put, List.setIfInBounds_toArray, List.set_cons_zero, List.set_cons_succ]
      refine wpD_loadL (i := 2) (v := ?vrt_2) rfl (by kernel_rfl) (by kernel_rfl) (by kernel_rfl) (by kernel_rfl) (fun _ _ _ h => h) (Or.inl ⟨by rfl, ?hyrt_2⟩) hS ?_
      case hyrt_2 => (intro w hSw; (try dsimp only at hSw); go_simp; try with_reducible rfl)
      simp only [Act.put, List.setIfInBounds_toArray, List.set_cons_zero, List.set_cons_succ]
      refine wpD_loadL (i := 6) (v := ?vrt_6) rfl (by kernel_rfl) (by kernel_rfl) (by kernel_rfl) (by kernel_rfl) (fun _ _ _ h => h) (Or.inl ⟨by rfl, ?hyrt_6⟩) hS ?_
      case hyrt_6 => (intro w hSw; (try dsimp only at hSw); go_simp; try with_reducible rfl)
      simp only [Act.put, List.setIfInBounds_toArray, List.set_cons_zero, List.set_cons_succ]
      refine wpD_loadL (i := 9) (v := ?vrt_9) rfl (by kernel_rfl) (by kernel_rfl) (by kernel_rfl) (by kernel_rfl) (fun _ _ _ h => h) (Or.inl ⟨by rfl, ?hyrt_9⟩) hS ?_
      case hyrt_9 => (intro w hSw; (try dsimp only at hSw); go_simp; try with_reducible rfl)
      simp only [Act.put, List.setIfInBounds_toArray, List.set_cons_zero, List.set_cons_succ]
      -- MID 10: lookup 72 t49 t52 false
      refine wpD_mid (i := 10) (by kernel_rfl) rfl (fun K hK => ?_)
      go_simp
      refine hK.out _ _ (fun hSw => ?_) ?_
      · exact hSw
      clear hK K
      simp only [List.setIfInBounds_toArray, List.set_cons_zero, List.set_cons_succ]
      refine wpD_tail 11 [11, 12] (by kernel_rfl) (by kernel_rfl) ?_
      simp only [List.drop_succ_cons, List.drop_zero]
      clear hS
      go_wp2_with fail
      go_ret2
      exact ⟨rfl, PK3.out.2.drew⟩
end Go.Proofs.Ytoddohhhhnahnaa
