/- The sequence: an element is put in: the place. -/
import Derived.Test.YtoddohhhhnahnaaRg1
import Derived.Test.YtoddohhhhnahnaaIx6
import Derived.Test.YtoddohhhhnahnaaInsE
namespace Go.Proofs.Ytoddohhhhnahnaa
open Go.RowKit

/-- How many from here on are greater. -/
def runL (i : Rga.Id) (es : List Rga.El) : Nat := (es.takeWhile fun e => Rga.less i e.id).length

theorem Keeps.some {a b : World} (h : Keeps NoB a b) {g o : Nat} {v : Value} (hc : a.cell? ⟨g, o, none⟩ = some v) : b.cell? ⟨g, o, none⟩ = some v := by
  rw [h.cell (World.block_lt_of_cell? a ⟨g, o, none⟩ hc) (fun e => e)]; exact hc

theorem Row.typed {w : World} {e : TypeId} {size n : Nat} {v : Value} {xs : List Value} (h : Row w e size v n xs) (g : Nat) (hg : v.ownBlock = some g) : ∃ cur, w.heap[g]? = some (Obj.cells cur e (0, 0)) := by
  rcases h.2 with ⟨rfl, _⟩ | ⟨g1, cap, cur, rfl, hh, _⟩
  · simp [Value.ownBlock] at hg
  · simp [Value.ownBlock] at hg
    subst hg
    exact ⟨_, hh⟩

def idxTypes : List TypeId := [79, 97, 99, 4]

theorem IdxAt.kept {w w' : World} {F : Nat → Prop} {x : Nat} {lv : Value} {rs : List BlkR} (h : IdxAt w F x lv rs) (hsz : w.heap.size ≤ w'.heap.size)
    (hk : ∀ (g : Nat) (cs : Array Value) (t : TypeId), w.heap[g]? = some (Obj.cells cs t (0, 0)) → t ∈ idxTypes → w'.heap[g]? = w.heap[g]?) : IdxAt w' F x lv rs := by
  have hrow : ∀ {e : TypeId} {size n : Nat} {v : Value} {xs : List Value}, Row w e size v n xs → e ∈ idxTypes → Row w' e size v n xs := fun hr he =>
    hr.kept fun g hg => by obtain ⟨cur, hc⟩ := hr.typed g hg; exact hk g cur _ hc he
  exact ⟨h.head.kept (hk _ _ _ h.head (by simp [idxTypes])), hrow h.row (by simp [idxTypes]), fun r hr => ⟨(h.blk r hr).1.kept (hk _ _ _ (h.blk r hr).1 (by simp [idxTypes])), hrow (h.blk r hr).2 (by simp [idxTypes])⟩,
    h.fx, h.frow, h.fblk, h.apart, fun g hg => Nat.lt_of_lt_of_le (h.old g hg) hsz, h.small⟩

theorem elV_append (a b : List Rga.El) : elV (a ++ b) = elV a ++ elV b := by simp [elV]
theorem elV_take : ∀ (l : List Rga.El) (i : Nat), elV (l.take i) = (elV l).take (i * 4)
  | [], i => by simp [elV]
  | p :: l, 0 => by simp [elV]
  | p :: l, i + 1 => by
    have := elV_take l i
    have e : (i + 1) * 4 = i * 4 + 1 + 1 + 1 + 1 := by omega
    rw [e]
    simpa [elV] using this
theorem elV_drop : ∀ (l : List Rga.El) (i : Nat), elV (l.drop i) = (elV l).drop (i * 4)
  | [], i => by simp [elV]
  | p :: l, 0 => by simp [elV]
  | p :: l, i + 1 => by
    have := elV_drop l i
    have e : (i + 1) * 4 = i * 4 + 1 + 1 + 1 + 1 := by omega
    rw [e]
    simpa [elV] using this
theorem elV_one (l : List Rga.El) : ∀ v ∈ elV l, v.oneCell' = true := by
  intro v hv
  simp only [elV, List.mem_flatMap] at hv
  obtain ⟨p, _, hv⟩ := hv
  simp at hv
  rcases hv with rfl | rfl | rfl | rfl <;> rfl

def insEl (es : List Rga.El) (K : Nat) (o : Rga.Opn) : List Rga.El := es.take K ++ ⟨o.id, o.rune, true⟩ :: es.drop K

def RInsPost (w : World) (x : Nat) (ev : Value) (ix : Nat) (ov vv mv : Value) (top : Int) (es : List Rga.El) (Fi : Nat → Prop) (rs : List BlkR) (o : Rga.Opn) (K : Nat) (e : Ending) (w' : World) : Prop :=
  ∃ ev' Fi' lv' rs', e = .returned (.tuple #[]) ∧ Cells w' x 74 (txL ev' ix ov vv mv top) ∧ Row w' 83 4 ev' (insEl es K o).length (elV (insEl es K o)) ∧
    IdxAt w' Fi' ix lv' rs' ∧ marks rs' = (insEl es K o).map (·.alive) ∧ rs'.length ≤ rs.length + 1 ∧ rs' ≠ [] ∧ Keeps (fun g => g = x ∨ ev.ownBlock = some g ∨ Fi g) w w' ∧ (∀ g, Fi' g → Fi g ∨ w.heap.size ≤ g) ∧
    (ev'.ownBlock = ev.ownBlock ∨ ∃ g, ev'.ownBlock = some g ∧ w.heap.size ≤ g)

set_option maxHeartbeats 3200000 in
set_option maxRecDepth 100000 in
theorem rinsert_any (w : World) (x : Nat) (ev : Value) (ix : Nat) (ov vv mv : Value) (top : Int) (es : List Rga.El) (hx : Cells w x 74 (txL ev ix ov vv mv top)) (h : Row w 83 4 ev es.length (elV es)) (Fi : Nat → Prop) (lv : Value) (rs : List BlkR) (hI : IdxAt w Fi ix lv rs) (hmk : marks rs = es.map (·.alive)) (hfew : rs.length ≤ (marks rs).length + 1) (hnil : rs ≠ []) (hFx : ¬ Fi x) (hFe : ∀ g, ev.ownBlock = some g → ¬ Fi g) (hroom : es.length < 1099511627776) (o : Rga.Opn) (hoi : o.ins = true) (k0 : Nat) (hk0 : k0 ≤ es.length) :
    Calls Try.prog 39 #[.pointer (some ⟨x, 0, none⟩), .int .i64 k0, .agg #[.int .i64 o.id.ctr, .int .i64 o.id.author, .int .i64 o.seq, .bool true, .int .i64 o.ref.ctr, .int .i64 o.ref.author, .int .i32 o.rune]] w (RInsPost w x ev ix ov vv mv top es Fi rs o (k0 + runL o.id (es.drop k0))) := by
  have x0 : w.cell? ⟨x, 0, none⟩ = some ev := hx.cell 0
  have fx0 : w.frozen? ⟨x, 0, none⟩ = false := hx.frozen 0
  have xlt := hx.lt
  have hm := h.small
  obtain ⟨A, c, rfl⟩ := h.slice
  have x1 : w.cell? ⟨x, 1, none⟩ = some (.pointer (some ⟨ix, 0, none⟩)) := hx.cell 1
  have HR := Lib.hid (And.intro h hx)
  have HI := Lib.hid (And.intro hI (And.intro hmk (And.intro hfew hnil)))
  clear hI hmk hfew hnil
  have hob : Cells (w.alloc (.cells #[.int .i64 o.id.ctr, .int .i64 o.id.author, .int .i64 o.seq, .bool true, .int .i64 o.ref.ctr, .int .i64 o.ref.author, .int .i32 o.rune] 49)) w.heap.size 49 (opL o) := by
    have := Cells.new w (opL o) 49
    simpa [opL, hoi] using this
  have HO := Lib.hid hob
  clear h hx hob
  go_enter Try.func39, Try.ntmps39
  go_wp2_with fail
  go_loopw [1] (fun t1 wr => ∃ k : Nat, k0 ≤ k ∧ k ≤ es.length ∧ t1 = .int .i64 k ∧ Keeps NoB w wr ∧ Cells wr w.heap.size 49 (opL o) ∧ k0 + runL o.id (es.drop k0) = k + runL o.id (es.drop k)) (fun t1 _ => es.length - (intOf t1).toNat)
  case atStart => exact ⟨k0, Nat.le_refl _, hk0, rfl, (Keeps.refl _ _).alloc _, HO.out, rfl⟩
  case round =>
    obtain ⟨k, h1, h2, rfl, hkw, hco, hrun⟩ := hrel
    obtain ⟨o0, o1, o2, o3, o4, o5, o6⟩ := op_cells hco
    have x0r : wr.cell? ⟨x, 0, none⟩ = some (.slice A es.length c) := hkw.some x0
    have PK := Lib.hid (And.intro hkw (And.intro hco hrun))
    clear hkw hco hrun
    by_cases hk : k < es.length
    · obtain ⟨e, he⟩ : ∃ e, es[k]? = some e := ⟨es[k], by simp [hk]⟩
      obtain ⟨g, c', e', hg, hc', p0, p1, p2, p3⟩ := row_el HR.out.1 _ _ he
      cases e'
      have q0 : wr.cell? ⟨g, k * 4, none⟩ = some (.int .i64 e.id.ctr) := PK.out.1.some p0
      have q1 : wr.cell? ⟨g, k * 4 + 1, none⟩ = some (.int .i64 e.id.author) := PK.out.1.some p1
      have HE := Lib.hid he
      clear he p0 p1 p2 p3
      have HL : Hid (∀ w, Calls Try.prog 56 #[.agg #[.int .i64 o.id.ctr, .int .i64 o.id.author], .agg #[.int .i64 e.id.ctr, .int .i64 e.id.author]] w fun e' w' => e' = .returned (.bool (Rga.less o.id e.id)) ∧ Keeps NoB w w') := Lib.hid (fun w => less_any _ _ _ _ w)
      have hdk : es.drop k = e :: es.drop (k + 1) := by rw [List.drop_eq_getElem_cons hk]; congr 1; exact (List.getElem?_eq_some_iff.1 HE.out).2
      have hrk : runL o.id (es.drop k) = if Rga.less o.id e.id then 1 + runL o.id (es.drop (k + 1)) else 0 := by
        rw [hdk]; unfold runL; rw [List.takeWhile_cons]; split <;> simp; omega
      have HRK := Lib.hid hrk
      clear hdk hrk
      rcases hb : Rga.less o.id e.id with _ | _
      · rw [hb] at HL HRK
        clear hb
        go_wp2_with fail
        refine wpD_begin (n := 20) (l := [false, false, false, false, false, false, false, false, false, false, false, false, false, false, false, false, false, false, false, false].toArray) [18, 19] (fun w' => w'.cell? ⟨x, 0, none⟩ = some (.slice (some ⟨g, 0, none⟩) es.length c) ∧ w'.cell? ⟨w.heap.size, 0, none⟩ = some (.int .i64 o.id.ctr) ∧ w'.cell? ⟨w.heap.size, 1, none⟩ = some (.int .i64 o.id.author) ∧ w'.cell? ⟨g, k * 4, none⟩ = some (.int .i64 e.id.ctr) ∧ w'.cell? ⟨g, k * 4 + 1, none⟩ = some (.int .i64 e.id.author)) (by kernel_rfl) (by kernel_rfl) (by kernel_rfl) ?_ (fun hS => ?_)
        · first | (go_keep; done) | go_simp
        try dsimp only at hS
        refine wpD_takeL (i := 0) (v := ?va_0) rfl (by kernel_rfl) (by kernel_rfl) (by kernel_rfl) (fun _ _ _ h => h) (Or.inl ⟨by rfl, ?hya_0⟩) ?_
        case hya_0 => (intro w; go_simp; try with_reducible rfl)
        simp only [Act.put, List.setIfInBounds_toArray, List.set_cons_zero, List.set_cons_succ]
        refine wpD_takeL (i := 1) (v := ?va_1) rfl (by kernel_rfl) (by kernel_rfl) (by kernel_rfl) (fun _ _ _ h => h) (Or.inl ⟨by rfl, ?hya_1⟩) ?_
        case hya_1 => (intro w; go_simp; try with_reducible rfl)
        simp only [Act.put, List.setIfInBounds_toArray, List.set_cons_zero, List.set_cons_succ]
        refine wpD_takeL (i := 2) (v := ?va_2) rfl (by kernel_rfl) (by kernel_rfl) (by kernel_rfl) (fun _ _ _ h => h) (Or.inl ⟨by rfl, ?hya_2⟩) ?_
        case hya_2 => (intro w; go_simp; try with_reducible rfl)
        simp only [Act.put, List.setIfInBounds_toArray, List.set_cons_zero, List.set_cons_succ]
        refine wpD_takeL (i := 3) (v := ?va_3) rfl (by kernel_rfl) (by kernel_rfl) (by kernel_rfl) (fun _ _ _ h => h) (Or.inl ⟨by rfl, ?hya_3⟩) ?_
        case hya_3 => (intro w; go_simp; try with_reducible rfl)
        simp only [Act.put, List.setIfInBounds_toArray, List.set_cons_zero, List.set_cons_succ]
        refine wpD_loadL (i := 4) (v := ?va_4) rfl (by kernel_rfl) (by kernel_rfl) (by kernel_rfl) (by kernel_rfl) (fun _ _ _ h => h) (Or.inl ⟨by rfl, ?hya_4⟩) hS ?_
        case hya_4 => (intro w hSw; (try dsimp only at hSw); go_simp; try with_reducible rfl)
        simp only [Act.put, List.setIfInBounds_toArray, List.set_cons_zero, List.set_cons_succ]
        refine wpD_takeL (i := 5) (v := ?va_5) rfl (by kernel_rfl) (by kernel_rfl) (by kernel_rfl) (fun _ _ _ h => h) (Or.inl ⟨by rfl, ?hya_5⟩) ?_
        case hya_5 => (intro w; go_simp; try with_reducible rfl)
        simp only [Act.put, List.setIfInBounds_toArray, List.set_cons_zero, List.set_cons_succ]
        refine wpD_takeL (i := 6) (v := ?va_6) rfl (by kernel_rfl) (by kernel_rfl) (by kernel_rfl) (fun _ _ _ h => h) (Or.inl ⟨by rfl, ?hya_6⟩) ?_
        case hya_6 => (intro w; go_simp; try with_reducible rfl)
        simp only [Act.put, List.setIfInBounds_toArray, List.set_cons_zero, List.set_cons_succ]
        refine wpD_takeL (i := 7) (v := ?va_7) rfl (by kernel_rfl) (by kernel_rfl) (by kernel_rfl) (fun _ _ _ h => h) (Or.inl ⟨by rfl, ?hya_7⟩) ?_
        case hya_7 => (intro w; go_simp; try with_reducible rfl)
        simp only [Act.put, List.setIfInBounds_toArray, List.set_cons_zero, List.set_cons_succ]
        refine wpD_takeL (i := 8) (v := ?va_8) rfl (by kernel_rfl) (by kernel_rfl) (by kernel_rfl) (fun _ _ _ h => h) (Or.inl ⟨by rfl, ?hya_8⟩) ?_
        case hya_8 => (intro w; go_simp; try with_reducible rfl)
        simp only [Act.put, List.setIfInBounds_toArray, List.set_cons_zero, List.set_cons_succ]
        refine wpD_takeL (i := 10) (v := ?va_10) rfl (by kernel_rfl) (by kernel_rfl) (by kernel_rfl) (fun _ _ _ h => h) (Or.inl ⟨by rfl, ?hya_10⟩) ?_
        case hya_10 => (intro w; go_simp; try with_reducible rfl)
        simp only [Act.put, List.setIfInBounds_toArray, List.set_cons_zero, List.set_cons_succ]
        refine wpD_takeL (i := 11) (v := ?va_11) rfl (by kernel_rfl) (by kernel_rfl) (by kernel_rfl) (fun _ _ _ h => h) (Or.inl ⟨by rfl, ?hya_11⟩) ?_
        case hya_11 => (intro w; go_simp; try with_reducible rfl)
        simp only [Act.put, List.setIfInBounds_toArray, List.set_cons_zero, List.set_cons_succ]
        refine wpD_takeL (i := 12) (v := ?va_12) rfl (by kernel_rfl) (by kernel_rfl) (by kernel_rfl) (fun _ _ _ h => h) (Or.inl ⟨by rfl, ?hya_12⟩) ?_
        case hya_12 => (intro w; go_simp; try with_reducible rfl)
        simp only [Act.put, List.setIfInBounds_toArray, List.set_cons_zero, List.set_cons_succ]
        refine wpD_takeL (i := 14) (v := ?va_14) rfl (by kernel_rfl) (by kernel_rfl) (by kernel_rfl) (fun _ _ _ h => h) (Or.inl ⟨by rfl, ?hya_14⟩) ?_
        case hya_14 => (intro w; go_simp; try with_reducible rfl)
        simp only [Act.put, List.setIfInBounds_toArray, List.set_cons_zero, List.set_cons_succ]
        refine wpD_loadL (i := 9) (v := ?va_9) rfl (by kernel_rfl) (by kernel_rfl) (by kernel_rfl) (by kernel_rfl) (fun _ _ _ h => h) (Or.inl ⟨by rfl, ?hya_9⟩) hS ?_
        case hya_9 => (intro w hSw; (try dsimp only at hSw); go_simp; try with_reducible rfl)
        simp only [Act.put, List.setIfInBounds_toArray, List.set_cons_zero, List.set_cons_succ]
        refine wpD_loadL (i := 13) (v := ?va_13) rfl (by kernel_rfl) (by kernel_rfl) (by kernel_rfl) (by kernel_rfl) (fun _ _ _ h => h) (Or.inl ⟨by rfl, ?hya_13⟩) hS ?_
        case hya_13 => (intro w hSw; (try dsimp only at hSw); go_simp; try with_reducible rfl)
        simp only [Act.put, List.setIfInBounds_toArray, List.set_cons_zero, List.set_cons_succ]
        refine wpD_takeL (i := 15) (v := ?va_15) rfl (by kernel_rfl) (by kernel_rfl) (by kernel_rfl) (fun _ _ _ h => h) (Or.inl ⟨by rfl, ?hya_15⟩) ?_
        case hya_15 => (intro w; go_simp; try with_reducible rfl)
        simp only [Act.put, List.setIfInBounds_toArray, List.set_cons_zero, List.set_cons_succ]
        refine wpD_takeL (i := 16) (v := ?va_16) rfl (by kernel_rfl) (by kernel_rfl) (by kernel_rfl) (fun _ _ _ h => h) (Or.inl ⟨by rfl, ?hya_16⟩) ?_
        case hya_16 => (intro w; go_simp; try with_reducible rfl)
        simp only [Act.put, List.setIfInBounds_toArray, List.set_cons_zero, List.set_cons_succ]
        refine wpD_loadL (i := 17) (v := ?va_17) rfl (by kernel_rfl) (by kernel_rfl) (by kernel_rfl) (by kernel_rfl) (fun _ _ _ h => h) (Or.inl ⟨by rfl, ?hya_17⟩) hS ?_
        case hya_17 => (intro w hSw; (try dsimp only at hSw); go_simp; try with_reducible rfl)
        simp only [Act.put, List.setIfInBounds_toArray, List.set_cons_zero, List.set_cons_succ]
        refine wpD_tail 18 [18, 19] (by kernel_rfl) (by kernel_rfl) ?_
        simp only [List.drop_succ_cons, List.drop_zero]
        clear hS
        go_wp2_with (first | (go_at_call 56; refine (HL.out _).mono ?_; rintro e' W ⟨rfl, hk2⟩; have hk2 := Lib.hid hk2))
        have hkW : Keeps NoB w W := PK.out.1.trans (Keeps.trans (b := wr.drew) ⟨rfl, rfl, rfl, Nat.le_refl _, fun _ _ _ => rfl⟩ hk2.out)
        have hcoW := Cells.keep (F := NoB) (w' := W) PK.out.2.1 (Keeps.trans (b := wr.drew) ⟨rfl, rfl, rfl, Nat.le_refl _, fun _ _ _ => rfl⟩ hk2.out) (fun e => e)
        have hK : k0 + runL o.id (es.drop k0) = k := by rw [PK.out.2.2, HRK.out]; rfl
        clear o0 o1 o2 o3 o4 o5 o6 x0r q0 q1
        obtain ⟨o0, o1, o2, o3, o4, o5, o6⟩ := op_cells hcoW
        have x0W : W.cell? ⟨x, 0, none⟩ = some (.slice (some ⟨g, 0, none⟩) es.length c) := hkW.some x0
        have x1W : W.cell? ⟨x, 1, none⟩ = some (.pointer (some ⟨ix, 0, none⟩)) := hkW.some x1
        have PW := Lib.hid (And.intro hkW (And.intro hcoW hK))
        clear hkW hcoW hK
        refine wpD_begin (n := 16) (l := [false, false, false, false, false, false, false, false, false, false, false, false, false, false, false, false].toArray) [12, 13, 14, 15] (fun w' => w'.cell? ⟨x, 0, none⟩ = some (.slice (some ⟨g, 0, none⟩) es.length c) ∧ w'.cell? ⟨w.heap.size, 0, none⟩ = some (.int .i64 o.id.ctr) ∧ w'.cell? ⟨w.heap.size, 1, none⟩ = some (.int .i64 o.id.author) ∧ w'.cell? ⟨w.heap.size, 6, none⟩ = some (.int .i32 o.rune)) (by kernel_rfl) (by kernel_rfl) (by kernel_rfl) ?_ (fun hS => ?_)
        · first | (go_keep; done) | go_simp
        try dsimp only at hS
        refine wpD_takeL (i := 0) (v := ?vc_0) rfl (by kernel_rfl) (by kernel_rfl) (by kernel_rfl) (fun _ _ _ h => h) (Or.inl ⟨by rfl, ?hyc_0⟩) ?_
        case hyc_0 => (intro w; go_simp; try with_reducible rfl)
        simp only [Act.put, List.setIfInBounds_toArray, List.set_cons_zero, List.set_cons_succ]
        refine wpD_takeL (i := 1) (v := ?vc_1) rfl (by kernel_rfl) (by kernel_rfl) (by kernel_rfl) (fun _ _ _ h => h) (Or.inl ⟨by rfl, ?hyc_1⟩) ?_
        case hyc_1 => (intro w; go_simp; try with_reducible rfl)
        simp only [Act.put, List.setIfInBounds_toArray, List.set_cons_zero, List.set_cons_succ]
        refine wpD_takeL (i := 2) (v := ?vc_2) rfl (by kernel_rfl) (by kernel_rfl) (by kernel_rfl) (fun _ _ _ h => h) (Or.inl ⟨by rfl, ?hyc_2⟩) ?_
        case hyc_2 => (intro w; go_simp; try with_reducible rfl)
        simp only [Act.put, List.setIfInBounds_toArray, List.set_cons_zero, List.set_cons_succ]
        refine wpD_takeL (i := 3) (v := ?vc_3) rfl (by kernel_rfl) (by kernel_rfl) (by kernel_rfl) (fun _ _ _ h => h) (Or.inl ⟨by rfl, ?hyc_3⟩) ?_
        case hyc_3 => (intro w; go_simp; try with_reducible rfl)
        simp only [Act.put, List.setIfInBounds_toArray, List.set_cons_zero, List.set_cons_succ]
        refine wpD_takeL (i := 5) (v := ?vc_5) rfl (by kernel_rfl) (by kernel_rfl) (by kernel_rfl) (fun _ _ _ h => h) (Or.inl ⟨by rfl, ?hyc_5⟩) ?_
        case hyc_5 => (intro w; go_simp; try with_reducible rfl)
        simp only [Act.put, List.setIfInBounds_toArray, List.set_cons_zero, List.set_cons_succ]
        refine wpD_takeL (i := 6) (v := ?vc_6) rfl (by kernel_rfl) (by kernel_rfl) (by kernel_rfl) (fun _ _ _ h => h) (Or.inl ⟨by rfl, ?hyc_6⟩) ?_
        case hyc_6 => (intro w; go_simp; try with_reducible rfl)
        simp only [Act.put, List.setIfInBounds_toArray, List.set_cons_zero, List.set_cons_succ]
        refine wpD_takeL (i := 8) (v := ?vc_8) rfl (by kernel_rfl) (by kernel_rfl) (by kernel_rfl) (fun _ _ _ h => h) (Or.inl ⟨by rfl, ?hyc_8⟩) ?_
        case hyc_8 => (intro w; go_simp; try with_reducible rfl)
        simp only [Act.put, List.setIfInBounds_toArray, List.set_cons_zero, List.set_cons_succ]
        refine wpD_loadL (i := 4) (v := ?vc_4) rfl (by kernel_rfl) (by kernel_rfl) (by kernel_rfl) (by kernel_rfl) (fun _ _ _ h => h) (Or.inl ⟨by rfl, ?hyc_4⟩) hS ?_
        case hyc_4 => (intro w hSw; (try dsimp only at hSw); go_simp; try with_reducible rfl)
        simp only [Act.put, List.setIfInBounds_toArray, List.set_cons_zero, List.set_cons_succ]
        refine wpD_loadL (i := 7) (v := ?vc_7) rfl (by kernel_rfl) (by kernel_rfl) (by kernel_rfl) (by kernel_rfl) (fun _ _ _ h => h) (Or.inl ⟨by rfl, ?hyc_7⟩) hS ?_
        case hyc_7 => (intro w hSw; (try dsimp only at hSw); go_simp; try with_reducible rfl)
        simp only [Act.put, List.setIfInBounds_toArray, List.set_cons_zero, List.set_cons_succ]
        refine wpD_loadL (i := 9) (v := ?vc_9) rfl (by kernel_rfl) (by kernel_rfl) (by kernel_rfl) (by kernel_rfl) (fun _ _ _ h => h) (Or.inl ⟨by rfl, ?hyc_9⟩) hS ?_
        case hyc_9 => (intro w hSw; (try dsimp only at hSw); go_simp; try with_reducible rfl)
        simp only [Act.put, List.setIfInBounds_toArray, List.set_cons_zero, List.set_cons_succ]
        refine wpD_takeL (i := 10) (v := ?vc_10) rfl (by kernel_rfl) (by kernel_rfl) (by kernel_rfl) (fun _ _ _ h => h) (Or.inl ⟨by rfl, ?hyc_10⟩) ?_
        case hyc_10 => (intro w; go_simp; try with_reducible rfl)
        simp only [Act.put, List.setIfInBounds_toArray, List.set_cons_zero, List.set_cons_succ]
        -- MID 11: buildSlice 69 1 [(0, t38)]
        refine wpD_mid (i := 11) (by kernel_rfl) rfl (fun K hK => ?_)
        go_simp
        refine hK.out _ _ (fun hSw => ?_) ?_
        · first | exact hSw | (go_keep; done)
        clear hK K
        simp only [List.setIfInBounds_toArray, List.set_cons_zero, List.set_cons_succ]
        refine wpD_tail 12 [12, 13, 14, 15] (by kernel_rfl) (by kernel_rfl) ?_
        simp only [List.drop_succ_cons, List.drop_zero]
        clear hS
        go_wp2_with fail
        obtain ⟨hrE, hxE⟩ := HR.out
        obtain ⟨hkW, hcoW, hK⟩ := PW.out
        obtain ⟨hI, hmk, hfew, hnil⟩ := HI.out
        have hrW0 := hrE.keep hkW (fun _ _ e => e)
        have hrW := (hrW0.alloc (.cells #[.int .i64 o.id.ctr, .int .i64 o.id.author, .int .i32 o.rune, .bool true] 83)).drew
        have hvW := (Cells.new W [.int .i64 o.id.ctr, .int .i64 o.id.author, .int .i32 o.rune, .bool true] 83).drew
        have hxW := ((hxE.keep hkW (fun e => e)).alloc (.cells #[.int .i64 o.id.ctr, .int .i64 o.id.author, .int .i32 o.rune, .bool true] 83)).drew
        have hkA : Keeps NoB w (W.alloc (.cells #[.int .i64 o.id.ctr, .int .i64 o.id.author, .int .i32 o.rune, .bool true] 83)).drew := (hkW.alloc _).drew
        go_at_call 57
        refine (insE_any _ _ es.length k (elV es) [.int .i64 o.id.ctr, .int .i64 o.id.author, .int .i32 o.rune, .bool true] hrW (elV_one es) h2 W.heap.size hvW rfl ?_ (fun e => Nat.lt_irrefl _ (hrW0.lt _ e)) (by omega)).mono ?_
        · intro v hv
          simp at hv
          rcases hv with rfl | rfl | rfl | rfl <;> rfl
        rintro e' w4 ⟨v4, rfl, hrow4, hk4, hown4⟩
        obtain ⟨A4, c4, rfl⟩ := hrow4.slice
        have hnx := hxE.ne_row hrE (by decide)
        have hx4 := hxW.keep hk4 (fun e => hnx e)
        have y0 := hx4.cell 0
        have y1 := hx4.cell 1
        have fy := hx4.frozen 0
        simp only [txL, List.getElem?_cons_zero, List.getElem?_cons_succ] at y0 y1
        have hk5 : Keeps (fun g => g = x) w4 (w4.setCell ⟨x, 0, none⟩ (.slice A4 (es.length + 1) c4)) := (Keeps.refl (fun g => g = x) w4).setCell (.inl rfl) _
        have hka5 : Keeps (fun b => b = x ∨ (Value.slice (some ⟨g, 0, none⟩) es.length c).ownBlock = some b) w (w4.setCell ⟨x, 0, none⟩ (.slice A4 (es.length + 1) c4)) :=
          ((hkA.mono (G := fun b => b = x ∨ (Value.slice (some ⟨g, 0, none⟩) es.length c).ownBlock = some b) (fun _ _ e => False.elim e)).then hk4 (fun g e => .inl (.inr e))).then hk5 (fun g e => .inl (.inl e))
        have hI5 : IdxAt (w4.setCell ⟨x, 0, none⟩ (.slice A4 (es.length + 1) c4)) Fi ix lv rs := hI.kept hka5.size (fun b cs t hg ht => hka5.block b (Array.getElem?_eq_some_iff.1 hg).1 (by
          rintro (rfl | e)
          · have := hxE
            unfold Cells at this
            rw [this] at hg
            simp at hg
            rw [← hg.2] at ht
            revert ht
            decide
          · obtain ⟨cur, hc⟩ := hrE.typed b e
            rw [hc] at hg
            simp at hg
            rw [← hg.2] at ht
            revert ht
            decide))
        have hml : (marks rs).length = es.length := by rw [hmk, List.length_map]
        have HIN := Lib.hid (insertIdx_any _ Fi ix lv rs hI5 k (by omega) (by omega) hfew hnil true)
        have hx5 := hx4.set 0 (.slice A4 (es.length + 1) c4)
        have hrow5 := hrow4.kept (w' := w4.setCell ⟨x, 0, none⟩ (.slice A4 (es.length + 1) c4)) (fun g hg => hk5.block g (hrow4.lt g hg) (fun e => hx4.ne_row hrow4 (by decide) (by rw [hg, e])))
        have PZ := Lib.hid (And.intro hx5 (And.intro hrow5 (And.intro hka5 (And.intro hmk (And.intro hown4 (And.intro hI (And.intro hkA.size (And.intro hK (And.intro hrE hxE)))))))))
        clear hrE hxE hkW hcoW hK hI hmk hfew hnil hrW0 hrW hvW hxW hkA hnx hx4 hk5 hka5 hI5 hx5 hrow5 hrow4 hk4 hown4 x0W x1W PW o0 o1 o2 o3 o4 o5 o6
        go_wp2_with (first | (go_at_call 58; refine HIN.out.mono ?_; rintro e' w6 ⟨rfl, hP6⟩; have hP6 := Lib.hid hP6))
        go_end0
        obtain ⟨hx5, hrow5, hka5, hmk, hown4, hI, hszA, hK, hrE, hxE⟩ := PZ.out
        obtain ⟨hk6, F6, lv6, rs6, hI6, hM6, hL6, hN6, hF6⟩ := hP6.out
        rw [hK]
        have hsz5 := hka5.size
        have hlen : (insEl es k o).length = es.length + 1 := by simp [insEl]; omega
        have hFi : ∀ b, Fi b → b < w.heap.size := hI.old
        refine ⟨.slice A4 (es.length + 1) c4, F6, lv6, rs6, rfl, hx5.keep hk6 hFx, ?_, hI6, ?_, hL6, hN6, (hka5.mono (fun _ _ e => e.elim .inl (fun e => .inr (.inl e)))).then hk6 (fun b hb => .inl (.inr (.inr hb))), fun b hb => (hF6 b hb).imp id (fun e => Nat.le_trans hsz5 e), hown4.imp id (fun ⟨b, e, hb⟩ => ⟨b, e, by omega⟩)⟩
        · rw [hlen]
          have e2 : elV (insEl es k o) = (elV es).take (k * 4) ++ [.int .i64 o.id.ctr, .int .i64 o.id.author, .int .i32 o.rune, .bool true] ++ (elV es).drop (k * 4) := by
            rw [insEl, elV_append, elV_take, List.append_assoc]
            congr 1
            show [Value.int .i64 o.id.ctr, Value.int .i64 o.id.author, Value.int .i32 o.rune, Value.bool true] ++ elV (es.drop k) = _
            rw [elV_drop]
          rw [e2]
          refine hrow5.keep hk6 (fun b hb e => ?_)
          rcases hown4 with e1 | ⟨b', e1, hb'⟩
          · exact hFe b (by rw [← e1]; exact hb) e
          · have e3 : some b = some b' := hb.symm.trans e1
            cases e3
            have := hFi b e
            omega
        · rw [hM6, hmk]
          simp [insEl, List.map_take, List.map_drop]
      · rw [hb] at HL HRK
        clear hb
        go_wp2_with fail
        refine wpD_begin (n := 20) (l := [false, false, false, false, false, false, false, false, false, false, false, false, false, false, false, false, false, false, false, false].toArray) [18, 19] (fun w' => w'.cell? ⟨x, 0, none⟩ = some (.slice (some ⟨g, 0, none⟩) es.length c) ∧ w'.cell? ⟨w.heap.size, 0, none⟩ = some (.int .i64 o.id.ctr) ∧ w'.cell? ⟨w.heap.size, 1, none⟩ = some (.int .i64 o.id.author) ∧ w'.cell? ⟨g, k * 4, none⟩ = some (.int .i64 e.id.ctr) ∧ w'.cell? ⟨g, k * 4 + 1, none⟩ = some (.int .i64 e.id.author)) (by kernel_rfl) (by kernel_rfl) (by kernel_rfl) ?_ (fun hS => ?_)
        · first | (go_keep; done) | go_simp
        try dsimp only at hS
        refine wpD_takeL (i := 0) (v := ?ve_0) rfl (by kernel_rfl) (by kernel_rfl) (by kernel_rfl) (fun _ _ _ h => h) (Or.inl ⟨by rfl, ?hye_0⟩) ?_
        case hye_0 => (intro w; go_simp; try with_reducible rfl)
        simp only [Act.put, List.setIfInBounds_toArray, List.set_cons_zero, List.set_cons_succ]
        refine wpD_takeL (i := 1) (v := ?ve_1) rfl (by kernel_rfl) (by kernel_rfl) (by kernel_rfl) (fun _ _ _ h => h) (Or.inl ⟨by rfl, ?hye_1⟩) ?_
        case hye_1 => (intro w; go_simp; try with_reducible rfl)
        simp only [Act.put, List.setIfInBounds_toArray, List.set_cons_zero, List.set_cons_succ]
        refine wpD_takeL (i := 2) (v := ?ve_2) rfl (by kernel_rfl) (by kernel_rfl) (by kernel_rfl) (fun _ _ _ h => h) (Or.inl ⟨by rfl, ?hye_2⟩) ?_
        case hye_2 => (intro w; go_simp; try with_reducible rfl)
        simp only [Act.put, List.setIfInBounds_toArray, List.set_cons_zero, List.set_cons_succ]
        refine wpD_takeL (i := 3) (v := ?ve_3) rfl (by kernel_rfl) (by kernel_rfl) (by kernel_rfl) (fun _ _ _ h => h) (Or.inl ⟨by rfl, ?hye_3⟩) ?_
        case hye_3 => (intro w; go_simp; try with_reducible rfl)
        simp only [Act.put, List.setIfInBounds_toArray, List.set_cons_zero, List.set_cons_succ]
        refine wpD_loadL (i := 4) (v := ?ve_4) rfl (by kernel_rfl) (by kernel_rfl) (by kernel_rfl) (by kernel_rfl) (fun _ _ _ h => h) (Or.inl ⟨by rfl, ?hye_4⟩) hS ?_
        case hye_4 => (intro w hSw; (try dsimp only at hSw); go_simp; try with_reducible rfl)
        simp only [Act.put, List.setIfInBounds_toArray, List.set_cons_zero, List.set_cons_succ]
        refine wpD_takeL (i := 5) (v := ?ve_5) rfl (by kernel_rfl) (by kernel_rfl) (by kernel_rfl) (fun _ _ _ h => h) (Or.inl ⟨by rfl, ?hye_5⟩) ?_
        case hye_5 => (intro w; go_simp; try with_reducible rfl)
        simp only [Act.put, List.setIfInBounds_toArray, List.set_cons_zero, List.set_cons_succ]
        refine wpD_takeL (i := 6) (v := ?ve_6) rfl (by kernel_rfl) (by kernel_rfl) (by kernel_rfl) (fun _ _ _ h => h) (Or.inl ⟨by rfl, ?hye_6⟩) ?_
        case hye_6 => (intro w; go_simp; try with_reducible rfl)
        simp only [Act.put, List.setIfInBounds_toArray, List.set_cons_zero, List.set_cons_succ]
        refine wpD_takeL (i := 7) (v := ?ve_7) rfl (by kernel_rfl) (by kernel_rfl) (by kernel_rfl) (fun _ _ _ h => h) (Or.inl ⟨by rfl, ?hye_7⟩) ?_
        case hye_7 => (intro w; go_simp; try with_reducible rfl)
        simp only [Act.put, List.setIfInBounds_toArray, List.set_cons_zero, List.set_cons_succ]
        refine wpD_takeL (i := 8) (v := ?ve_8) rfl (by kernel_rfl) (by kernel_rfl) (by kernel_rfl) (fun _ _ _ h => h) (Or.inl ⟨by rfl, ?hye_8⟩) ?_
        case hye_8 => (intro w; go_simp; try with_reducible rfl)
        simp only [Act.put, List.setIfInBounds_toArray, List.set_cons_zero, List.set_cons_succ]
        refine wpD_takeL (i := 10) (v := ?ve_10) rfl (by kernel_rfl) (by kernel_rfl) (by kernel_rfl) (fun _ _ _ h => h) (Or.inl ⟨by rfl, ?hye_10⟩) ?_
        case hye_10 => (intro w; go_simp; try with_reducible rfl)
        simp only [Act.put, List.setIfInBounds_toArray, List.set_cons_zero, List.set_cons_succ]
        refine wpD_takeL (i := 11) (v := ?ve_11) rfl (by kernel_rfl) (by kernel_rfl) (by kernel_rfl) (fun _ _ _ h => h) (Or.inl ⟨by rfl, ?hye_11⟩) ?_
        case hye_11 => (intro w; go_simp; try with_reducible rfl)
        simp only [Act.put, List.setIfInBounds_toArray, List.set_cons_zero, List.set_cons_succ]
        refine wpD_takeL (i := 12) (v := ?ve_12) rfl (by kernel_rfl) (by kernel_rfl) (by kernel_rfl) (fun _ _ _ h => h) (Or.inl ⟨by rfl, ?hye_12⟩) ?_
        case hye_12 => (intro w; go_simp; try with_reducible rfl)
        simp only [Act.put, List.setIfInBounds_toArray, List.set_cons_zero, List.set_cons_succ]
        refine wpD_takeL (i := 14) (v := ?ve_14) rfl (by kernel_rfl) (by kernel_rfl) (by kernel_rfl) (fun _ _ _ h => h) (Or.inl ⟨by rfl, ?hye_14⟩) ?_
        case hye_14 => (intro w; go_simp; try with_reducible rfl)
        simp only [Act.put, List.setIfInBounds_toArray, List.set_cons_zero, List.set_cons_succ]
        refine wpD_loadL (i := 9) (v := ?ve_9) rfl (by kernel_rfl) (by kernel_rfl) (by kernel_rfl) (by kernel_rfl) (fun _ _ _ h => h) (Or.inl ⟨by rfl, ?hye_9⟩) hS ?_
        case hye_9 => (intro w hSw; (try dsimp only at hSw); go_simp; try with_reducible rfl)
        simp only [Act.put, List.setIfInBounds_toArray, List.set_cons_zero, List.set_cons_succ]
        refine wpD_loadL (i := 13) (v := ?ve_13) rfl (by kernel_rfl) (by kernel_rfl) (by kernel_rfl) (by kernel_rfl) (fun _ _ _ h => h) (Or.inl ⟨by rfl, ?hye_13⟩) hS ?_
        case hye_13 => (intro w hSw; (try dsimp only at hSw); go_simp; try with_reducible rfl)
        simp only [Act.put, List.setIfInBounds_toArray, List.set_cons_zero, List.set_cons_succ]
        refine wpD_takeL (i := 15) (v := ?ve_15) rfl (by kernel_rfl) (by kernel_rfl) (by kernel_rfl) (fun _ _ _ h => h) (Or.inl ⟨by rfl, ?hye_15⟩) ?_
        case hye_15 => (intro w; go_simp; try with_reducible rfl)
        simp only [Act.put, List.setIfInBounds_toArray, List.set_cons_zero, List.set_cons_succ]
        refine wpD_takeL (i := 16) (v := ?ve_16) rfl (by kernel_rfl) (by kernel_rfl) (by kernel_rfl) (fun _ _ _ h => h) (Or.inl ⟨by rfl, ?hye_16⟩) ?_
        case hye_16 => (intro w; go_simp; try with_reducible rfl)
        simp only [Act.put, List.setIfInBounds_toArray, List.set_cons_zero, List.set_cons_succ]
        refine wpD_loadL (i := 17) (v := ?ve_17) rfl (by kernel_rfl) (by kernel_rfl) (by kernel_rfl) (by kernel_rfl) (fun _ _ _ h => h) (Or.inl ⟨by rfl, ?hye_17⟩) hS ?_
        case hye_17 => (intro w hSw; (try dsimp only at hSw); go_simp; try with_reducible rfl)
        simp only [Act.put, List.setIfInBounds_toArray, List.set_cons_zero, List.set_cons_succ]
        refine wpD_tail 18 [18, 19] (by kernel_rfl) (by kernel_rfl) ?_
        simp only [List.drop_succ_cons, List.drop_zero]
        clear hS
        go_wp2_with (first | (go_at_call 56; refine (HL.out _).mono ?_; rintro e' W ⟨rfl, hk2⟩; have hk2 := Lib.hid hk2))
        go_roundw
        case rel => exact ⟨k + 1, by omega, by omega, by go_num, PK.out.1.trans (Keeps.trans (b := wr.drew) ⟨rfl, rfl, rfl, Nat.le_refl _, fun _ _ _ => rfl⟩ hk2.out), Cells.keep (F := NoB) (w' := W) PK.out.2.1 (Keeps.trans (b := wr.drew) ⟨rfl, rfl, rfl, Nat.le_refl _, fun _ _ _ => rfl⟩ hk2.out) (fun e => e), by rw [PK.out.2.2, HRK.out]; simp; omega⟩
        case measure => simp [intOf]; omega
    · go_wp2_with fail
      refine wpD_begin (n := 20) (l := [false, false, false, false, false, false, false, false, false, false, false, false, false, false, false, false, false, false, false, false].toArray) [18, 19] (fun w' => w'.cell? ⟨x, 0, none⟩ = some (.slice A es.length c)) (by kernel_rfl) (by kernel_rfl) (by kernel_rfl) ?_ (fun hS => ?_)
      · first | (go_keep; done) | go_simp
      try dsimp only at hS
      refine wpD_takeL (i := 0) (v := ?vb_0) rfl (by kernel_rfl) (by kernel_rfl) (by kernel_rfl) (fun _ _ _ h => h) (Or.inl ⟨by rfl, ?hyb_0⟩) ?_
      case hyb_0 => (intro w; go_simp; try with_reducible rfl)
      simp only [Act.put, List.setIfInBounds_toArray, List.set_cons_zero, List.set_cons_succ]
      refine wpD_takeL (i := 1) (v := ?vb_1) rfl (by kernel_rfl) (by kernel_rfl) (by kernel_rfl) (fun _ _ _ h => h) (Or.inl ⟨by rfl, ?hyb_1⟩) ?_
      case hyb_1 => (intro w; go_simp; try with_reducible rfl)
      simp only [Act.put, List.setIfInBounds_toArray, List.set_cons_zero, List.set_cons_succ]
      refine wpD_takeL (i := 2) (v := ?vb_2) rfl (by kernel_rfl) (by kernel_rfl) (by kernel_rfl) (fun _ _ _ h => h) (Or.inl ⟨by rfl, ?hyb_2⟩) ?_
      case hyb_2 => (intro w; go_simp; try with_reducible rfl)
      simp only [Act.put, List.setIfInBounds_toArray, List.set_cons_zero, List.set_cons_succ]
      refine wpD_takeL (i := 3) (v := ?vb_3) rfl (by kernel_rfl) (by kernel_rfl) (by kernel_rfl) (fun _ _ _ h => h) (Or.inl ⟨by rfl, ?hyb_3⟩) ?_
      case hyb_3 => (intro w; go_simp; try with_reducible rfl)
      simp only [Act.put, List.setIfInBounds_toArray, List.set_cons_zero, List.set_cons_succ]
      refine wpD_loadL (i := 4) (v := ?vb_4) rfl (by kernel_rfl) (by kernel_rfl) (by kernel_rfl) (by kernel_rfl) (fun _ _ _ h => h) (Or.inl ⟨by rfl, ?hyb_4⟩) hS ?_
      case hyb_4 => (intro w hSw; (try dsimp only at hSw); go_simp; try with_reducible rfl)
      simp only [Act.put, List.setIfInBounds_toArray, List.set_cons_zero, List.set_cons_succ]
      refine wpD_takeL (i := 5) (v := ?vb_5) rfl (by kernel_rfl) (by kernel_rfl) (by kernel_rfl) (fun _ _ _ h => h) (Or.inl ⟨by rfl, ?hyb_5⟩) ?_
      case hyb_5 => (intro w; go_simp; try with_reducible rfl)
      simp only [Act.put, List.setIfInBounds_toArray, List.set_cons_zero, List.set_cons_succ]
      refine wpD_takeL (i := 6) (v := ?vb_6) rfl (by kernel_rfl) (by kernel_rfl) (by kernel_rfl) (fun _ _ _ h => h) (Or.inl ⟨by rfl, ?hyb_6⟩) ?_
      case hyb_6 => (intro w; go_simp; try with_reducible rfl)
      simp only [Act.put, List.setIfInBounds_toArray, List.set_cons_zero, List.set_cons_succ]
      refine wpD_takeL (i := 7) (v := ?vb_7) rfl (by kernel_rfl) (by kernel_rfl) (by kernel_rfl) (fun _ _ _ h => h) (Or.inl ⟨by rfl, ?hyb_7⟩) ?_
      case hyb_7 => (intro w; go_simp; try with_reducible rfl)
      simp only [Act.put, List.setIfInBounds_toArray, List.set_cons_zero, List.set_cons_succ]
      refine wpD_takeL (i := 8) (v := undef) rfl (by kernel_rfl) (by kernel_rfl) (by kernel_rfl) (fun _ _ _ h => h) (Or.inr ⟨by rfl, rfl⟩) ?_
      simp only [Act.put, List.setIfInBounds_toArray, List.set_cons_zero, List.set_cons_succ]
      refine wpD_takeL (i := 10) (v := undef) rfl (by kernel_rfl) (by kernel_rfl) (by kernel_rfl) (fun _ _ _ h => h) (Or.inr ⟨by rfl, rfl⟩) ?_
      simp only [Act.put, List.setIfInBounds_toArray, List.set_cons_zero, List.set_cons_succ]
      refine wpD_takeL (i := 11) (v := undef) rfl (by kernel_rfl) (by kernel_rfl) (by kernel_rfl) (fun _ _ _ h => h) (Or.inr ⟨by rfl, rfl⟩) ?_
      simp only [Act.put, List.setIfInBounds_toArray, List.set_cons_zero, List.set_cons_succ]
      refine wpD_takeL (i := 12) (v := undef) rfl (by kernel_rfl) (by kernel_rfl) (by kernel_rfl) (fun _ _ _ h => h) (Or.inr ⟨by rfl, rfl⟩) ?_
      simp only [Act.put, List.setIfInBounds_toArray, List.set_cons_zero, List.set_cons_succ]
      refine wpD_takeL (i := 14) (v := undef) rfl (by kernel_rfl) (by kernel_rfl) (by kernel_rfl) (fun _ _ _ h => h) (Or.inr ⟨by rfl, rfl⟩) ?_
      simp only [Act.put, List.setIfInBounds_toArray, List.set_cons_zero, List.set_cons_succ]
      refine wpD_takeL (i := 9) (v := undef) rfl (by kernel_rfl) (by kernel_rfl) (by kernel_rfl) (fun _ _ _ h => h) (Or.inr ⟨by rfl, rfl⟩) ?_
      simp only [Act.put, List.setIfInBounds_toArray, List.set_cons_zero, List.set_cons_succ]
      refine wpD_takeL (i := 13) (v := undef) rfl (by kernel_rfl) (by kernel_rfl) (by kernel_rfl) (fun _ _ _ h => h) (Or.inr ⟨by rfl, rfl⟩) ?_
      simp only [Act.put, List.setIfInBounds_toArray, List.set_cons_zero, List.set_cons_succ]
      refine wpD_takeL (i := 15) (v := undef) rfl (by kernel_rfl) (by kernel_rfl) (by kernel_rfl) (fun _ _ _ h => h) (Or.inr ⟨by rfl, rfl⟩) ?_
      simp only [Act.put, List.setIfInBounds_toArray, List.set_cons_zero, List.set_cons_succ]
      refine wpD_takeL (i := 16) (v := undef) rfl (by kernel_rfl) (by kernel_rfl) (by kernel_rfl) (fun _ _ _ h => h) (Or.inr ⟨by rfl, rfl⟩) ?_
      simp only [Act.put, List.setIfInBounds_toArray, List.set_cons_zero, List.set_cons_succ]
      refine wpD_takeL (i := 17) (v := undef) rfl (by kernel_rfl) (by kernel_rfl) (by kernel_rfl) (fun _ _ _ h => h) (Or.inr ⟨by rfl, rfl⟩) ?_
      simp only [Act.put, List.setIfInBounds_toArray, List.set_cons_zero, List.set_cons_succ]
      refine wpD_tail 18 [18, 19] (by kernel_rfl) (by kernel_rfl) ?_
      simp only [List.drop_succ_cons, List.drop_zero]
      clear hS
      go_wp2_with fail
      have hkW : Keeps NoB w wr.drew := PK.out.1.drew
      have hcoW := PK.out.2.1.drew
      have hK : k0 + runL o.id (es.drop k0) = k := by rw [PK.out.2.2, List.drop_eq_nil_of_le (by omega)]; rfl
      clear o0 o1 o2 o3 o4 o5 o6 x0r
      obtain ⟨W, hW⟩ : ∃ W, W = wr.drew := ⟨_, rfl⟩
      rw [← hW] at hkW hcoW ⊢
      clear hW
      obtain ⟨o0, o1, o2, o3, o4, o5, o6⟩ := op_cells hcoW
      have x0W : W.cell? ⟨x, 0, none⟩ = some (.slice A es.length c) := hkW.some x0
      have x1W : W.cell? ⟨x, 1, none⟩ = some (.pointer (some ⟨ix, 0, none⟩)) := hkW.some x1
      have PW := Lib.hid (And.intro hkW (And.intro hcoW hK))
      clear hkW hcoW hK
      refine wpD_begin (n := 16) (l := [false, false, false, false, false, false, false, false, false, false, false, false, false, false, false, false].toArray) [12, 13, 14, 15] (fun w' => w'.cell? ⟨x, 0, none⟩ = some (.slice A es.length c) ∧ w'.cell? ⟨w.heap.size, 0, none⟩ = some (.int .i64 o.id.ctr) ∧ w'.cell? ⟨w.heap.size, 1, none⟩ = some (.int .i64 o.id.author) ∧ w'.cell? ⟨w.heap.size, 6, none⟩ = some (.int .i32 o.rune)) (by kernel_rfl) (by kernel_rfl) (by kernel_rfl) ?_ (fun hS => ?_)
      · first | (go_keep; done) | go_simp
      try dsimp only at hS
      refine wpD_takeL (i := 0) (v := ?vd_0) rfl (by kernel_rfl) (by kernel_rfl) (by kernel_rfl) (fun _ _ _ h => h) (Or.inl ⟨by rfl, ?hyd_0⟩) ?_
      case hyd_0 => (intro w; go_simp; try with_reducible rfl)
      simp only [Act.put, List.setIfInBounds_toArray, List.set_cons_zero, List.set_cons_succ]
      refine wpD_takeL (i := 1) (v := ?vd_1) rfl (by kernel_rfl) (by kernel_rfl) (by kernel_rfl) (fun _ _ _ h => h) (Or.inl ⟨by rfl, ?hyd_1⟩) ?_
      case hyd_1 => (intro w; go_simp; try with_reducible rfl)
      simp only [Act.put, List.setIfInBounds_toArray, List.set_cons_zero, List.set_cons_succ]
      refine wpD_takeL (i := 2) (v := ?vd_2) rfl (by kernel_rfl) (by kernel_rfl) (by kernel_rfl) (fun _ _ _ h => h) (Or.inl ⟨by rfl, ?hyd_2⟩) ?_
      case hyd_2 => (intro w; go_simp; try with_reducible rfl)
      simp only [Act.put, List.setIfInBounds_toArray, List.set_cons_zero, List.set_cons_succ]
      refine wpD_takeL (i := 3) (v := ?vd_3) rfl (by kernel_rfl) (by kernel_rfl) (by kernel_rfl) (fun _ _ _ h => h) (Or.inl ⟨by rfl, ?hyd_3⟩) ?_
      case hyd_3 => (intro w; go_simp; try with_reducible rfl)
      simp only [Act.put, List.setIfInBounds_toArray, List.set_cons_zero, List.set_cons_succ]
      refine wpD_takeL (i := 5) (v := ?vd_5) rfl (by kernel_rfl) (by kernel_rfl) (by kernel_rfl) (fun _ _ _ h => h) (Or.inl ⟨by rfl, ?hyd_5⟩) ?_
      case hyd_5 => (intro w; go_simp; try with_reducible rfl)
      simp only [Act.put, List.setIfInBounds_toArray, List.set_cons_zero, List.set_cons_succ]
      refine wpD_takeL (i := 6) (v := ?vd_6) rfl (by kernel_rfl) (by kernel_rfl) (by kernel_rfl) (fun _ _ _ h => h) (Or.inl ⟨by rfl, ?hyd_6⟩) ?_
      case hyd_6 => (intro w; go_simp; try with_reducible rfl)
      simp only [Act.put, List.setIfInBounds_toArray, List.set_cons_zero, List.set_cons_succ]
      refine wpD_takeL (i := 8) (v := ?vd_8) rfl (by kernel_rfl) (by kernel_rfl) (by kernel_rfl) (fun _ _ _ h => h) (Or.inl ⟨by rfl, ?hyd_8⟩) ?_
      case hyd_8 => (intro w; go_simp; try with_reducible rfl)
      simp only [Act.put, List.setIfInBounds_toArray, List.set_cons_zero, List.set_cons_succ]
      refine wpD_loadL (i := 4) (v := ?vd_4) rfl (by kernel_rfl) (by kernel_rfl) (by kernel_rfl) (by kernel_rfl) (fun _ _ _ h => h) (Or.inl ⟨by rfl, ?hyd_4⟩) hS ?_
      case hyd_4 => (intro w hSw; (try dsimp only at hSw); go_simp; try with_reducible rfl)
      simp only [Act.put, List.setIfInBounds_toArray, List.set_cons_zero, List.set_cons_succ]
      refine wpD_loadL (i := 7) (v := ?vd_7) rfl (by kernel_rfl) (by kernel_rfl) (by kernel_rfl) (by kernel_rfl) (fun _ _ _ h => h) (Or.inl ⟨by rfl, ?hyd_7⟩) hS ?_
      case hyd_7 => (intro w hSw; (try dsimp only at hSw); go_simp; try with_reducible rfl)
      simp only [Act.put, List.setIfInBounds_toArray, List.set_cons_zero, List.set_cons_succ]
      refine wpD_loadL (i := 9) (v := ?vd_9) rfl (by kernel_rfl) (by kernel_rfl) (by kernel_rfl) (by kernel_rfl) (fun _ _ _ h => h) (Or.inl ⟨by rfl, ?hyd_9⟩) hS ?_
      case hyd_9 => (intro w hSw; (try dsimp only at hSw); go_simp; try with_reducible rfl)
      simp only [Act.put, List.setIfInBounds_toArray, List.set_cons_zero, List.set_cons_succ]
      refine wpD_takeL (i := 10) (v := ?vd_10) rfl (by kernel_rfl) (by kernel_rfl) (by kernel_rfl) (fun _ _ _ h => h) (Or.inl ⟨by rfl, ?hyd_10⟩) ?_
      case hyd_10 => (intro w; go_simp; try with_reducible rfl)
      simp only [Act.put, List.setIfInBounds_toArray, List.set_cons_zero, List.set_cons_succ]
      -- MID 11: buildSlice 69 1 [(0, t38)]
      refine wpD_mid (i := 11) (by kernel_rfl) rfl (fun K hK => ?_)
      go_simp
      refine hK.out _ _ (fun hSw => ?_) ?_
      · first | exact hSw | (go_keep; done)
      clear hK K
      simp only [List.setIfInBounds_toArray, List.set_cons_zero, List.set_cons_succ]
      refine wpD_tail 12 [12, 13, 14, 15] (by kernel_rfl) (by kernel_rfl) ?_
      simp only [List.drop_succ_cons, List.drop_zero]
      clear hS
      go_wp2_with fail
      obtain ⟨hrE, hxE⟩ := HR.out
      obtain ⟨hkW, hcoW, hK⟩ := PW.out
      obtain ⟨hI, hmk, hfew, hnil⟩ := HI.out
      have hrW0 := hrE.keep hkW (fun _ _ e => e)
      have hrW := (hrW0.alloc (.cells #[.int .i64 o.id.ctr, .int .i64 o.id.author, .int .i32 o.rune, .bool true] 83)).drew
      have hvW := (Cells.new W [.int .i64 o.id.ctr, .int .i64 o.id.author, .int .i32 o.rune, .bool true] 83).drew
      have hxW := ((hxE.keep hkW (fun e => e)).alloc (.cells #[.int .i64 o.id.ctr, .int .i64 o.id.author, .int .i32 o.rune, .bool true] 83)).drew
      have hkA : Keeps NoB w (W.alloc (.cells #[.int .i64 o.id.ctr, .int .i64 o.id.author, .int .i32 o.rune, .bool true] 83)).drew := (hkW.alloc _).drew
      go_at_call 57
      refine (insE_any _ _ es.length k (elV es) [.int .i64 o.id.ctr, .int .i64 o.id.author, .int .i32 o.rune, .bool true] hrW (elV_one es) h2 W.heap.size hvW rfl ?_ (fun e => Nat.lt_irrefl _ (hrW0.lt _ e)) (by omega)).mono ?_
      · intro v hv
        simp at hv
        rcases hv with rfl | rfl | rfl | rfl <;> rfl
      rintro e' w4 ⟨v4, rfl, hrow4, hk4, hown4⟩
      obtain ⟨A4, c4, rfl⟩ := hrow4.slice
      have hnx := hxE.ne_row hrE (by decide)
      have hx4 := hxW.keep hk4 (fun e => hnx e)
      have y0 := hx4.cell 0
      have y1 := hx4.cell 1
      have fy := hx4.frozen 0
      simp only [txL, List.getElem?_cons_zero, List.getElem?_cons_succ] at y0 y1
      have hk5 : Keeps (fun g => g = x) w4 (w4.setCell ⟨x, 0, none⟩ (.slice A4 (es.length + 1) c4)) := (Keeps.refl (fun g => g = x) w4).setCell (.inl rfl) _
      have hka5 : Keeps (fun b => b = x ∨ (Value.slice A es.length c).ownBlock = some b) w (w4.setCell ⟨x, 0, none⟩ (.slice A4 (es.length + 1) c4)) :=
        ((hkA.mono (G := fun b => b = x ∨ (Value.slice A es.length c).ownBlock = some b) (fun _ _ e => False.elim e)).then hk4 (fun g e => .inl (.inr e))).then hk5 (fun g e => .inl (.inl e))
      have hI5 : IdxAt (w4.setCell ⟨x, 0, none⟩ (.slice A4 (es.length + 1) c4)) Fi ix lv rs := hI.kept hka5.size (fun b cs t hg ht => hka5.block b (Array.getElem?_eq_some_iff.1 hg).1 (by
        rintro (rfl | e)
        · have := hxE
          unfold Cells at this
          rw [this] at hg
          simp at hg
          rw [← hg.2] at ht
          revert ht
          decide
        · obtain ⟨cur, hc⟩ := hrE.typed b e
          rw [hc] at hg
          simp at hg
          rw [← hg.2] at ht
          revert ht
          decide))
      have hml : (marks rs).length = es.length := by rw [hmk, List.length_map]
      have HIN := Lib.hid (insertIdx_any _ Fi ix lv rs hI5 k (by omega) (by omega) hfew hnil true)
      have hx5 := hx4.set 0 (.slice A4 (es.length + 1) c4)
      have hrow5 := hrow4.kept (w' := w4.setCell ⟨x, 0, none⟩ (.slice A4 (es.length + 1) c4)) (fun g hg => hk5.block g (hrow4.lt g hg) (fun e => hx4.ne_row hrow4 (by decide) (by rw [hg, e])))
      have PZ := Lib.hid (And.intro hx5 (And.intro hrow5 (And.intro hka5 (And.intro hmk (And.intro hown4 (And.intro hI (And.intro hkA.size (And.intro hK (And.intro hrE hxE)))))))))
      clear hrE hxE hkW hcoW hK hI hmk hfew hnil hrW0 hrW hvW hxW hkA hnx hx4 hk5 hka5 hI5 hx5 hrow5 hrow4 hk4 hown4 x0W x1W PW o0 o1 o2 o3 o4 o5 o6
      go_wp2_with (first | (go_at_call 58; refine HIN.out.mono ?_; rintro e' w6 ⟨rfl, hP6⟩; have hP6 := Lib.hid hP6))
      go_end0
      obtain ⟨hx5, hrow5, hka5, hmk, hown4, hI, hszA, hK, hrE, hxE⟩ := PZ.out
      obtain ⟨hk6, F6, lv6, rs6, hI6, hM6, hL6, hN6, hF6⟩ := hP6.out
      rw [hK]
      have hsz5 := hka5.size
      have hlen : (insEl es k o).length = es.length + 1 := by simp [insEl]; omega
      have hFi : ∀ b, Fi b → b < w.heap.size := hI.old
      refine ⟨.slice A4 (es.length + 1) c4, F6, lv6, rs6, rfl, hx5.keep hk6 hFx, ?_, hI6, ?_, hL6, hN6, (hka5.mono (fun _ _ e => e.elim .inl (fun e => .inr (.inl e)))).then hk6 (fun b hb => .inl (.inr (.inr hb))), fun b hb => (hF6 b hb).imp id (fun e => Nat.le_trans hsz5 e), hown4.imp id (fun ⟨b, e, hb⟩ => ⟨b, e, by omega⟩)⟩
      · rw [hlen]
        have e2 : elV (insEl es k o) = (elV es).take (k * 4) ++ [.int .i64 o.id.ctr, .int .i64 o.id.author, .int .i32 o.rune, .bool true] ++ (elV es).drop (k * 4) := by
          rw [insEl, elV_append, elV_take, List.append_assoc]
          congr 1
          show [Value.int .i64 o.id.ctr, Value.int .i64 o.id.author, Value.int .i32 o.rune, Value.bool true] ++ elV (es.drop k) = _
          rw [elV_drop]
        rw [e2]
        refine hrow5.keep hk6 (fun b hb e => ?_)
        rcases hown4 with e1 | ⟨b', e1, hb'⟩
        · exact hFe b (by rw [← e1]; exact hb) e
        · have e3 : some b = some b' := hb.symm.trans e1
          cases e3
          have := hFi b e
          omega
      · rw [hM6, hmk]
        simp [insEl, List.map_take, List.map_drop]
end Go.Proofs.Ytoddohhhhnahnaa
