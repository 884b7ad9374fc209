/- The sequence: what a text answers: Len, Top, Has, Alive, Ahead, At. -/
import Derived.Test.YtoddohhhhnahnaaNw
import Derived.Laws.ResultCell
import Derived.Laws.Rows
namespace Go.Proofs.Ytoddohhhhnahnaa
open Go.RowKit

/-- A row of elements lies there with its index. -/
def Lies (w : World) (F : Nat → Prop) (x : Nat) (es : List Rga.El) (top : Int) : Prop := ∃ S os vec f, TxR w F x S es os vec f top ∧ es.length < 1099511627776

def lenE (es : List Rga.El) : Nat := cnt (es.map (·.alive))
def aheadE (es : List Rga.El) (i : Rga.Id) : Int := cnt ((es.map (·.alive)).take (posI es i).toNat)
def aliveE (es : List Rga.El) (i : Rga.Id) : Bool := decide (0 ≤ posI es i) && ((es[(posI es i).toNat]?).map (·.alive)).getD false
def atE (es : List Rga.El) (k : Int) : Option Rga.Id := if 0 ≤ k ∧ k < lenE es then (sel (es.map (·.alive)) k.toNat).bind fun j => (es[j]?).map (·.id) else none

theorem ret_cell {P : Program} {fn : Func} {R : Ending → World → Prop} {a : Act} {w : World} {p u : Tmp} {ty : TypeId} (h : fn.results = #[.cell p ty, .tmp u]) (g : Nat) (t : TypeId) (cs : List Value) (d : TypeDesc)
    (hp : a.tmps.getD p undef = .pointer (some ⟨g, 0, none⟩)) (hg : Cells w g t cs) (hu : P.underlying ty = some d) (hd : (match d with | .struct _ | .array _ _ => true | _ => false) = true) (hi : (P.info? ty).map (·.size) = some cs.length)
    (hdf : a.defers = []) (hR : R (.returned (.tuple #[.agg cs.toArray, a.tmps.getD u undef])) w) : bodyPost P fn R .ret a w := by
  refine bodyPost_ret ?_ hdf hR
  have hp' : a.tmps[p]?.getD undef = .pointer (some ⟨g, 0, none⟩) := by simpa using hp
  rw [results_cell_tmp h]
  simp [hp', asAddr, run_loadVar_row w g t ty cs.toArray (0, 0) d hg hu hd (by simpa using hi)]

theorem drew_keeps (w : World) (n : Nat) : Keeps NoB w (w.drewN n) := (Keeps.refl NoB w).drewN n

theorem top_any (w : World) (F : Nat → Prop) (x : Nat) (es : List Rga.El) (top : Int) (h : Lies w F x es top) :
    Calls Try.prog 22 #[.pointer (some ⟨x, 0, none⟩)] w (intKeeps w top) := by
  obtain ⟨S, os, vec, f, h, _⟩ := h
  have c5 : w.cell? ⟨x, 5, none⟩ = some (.int .i64 top) := h.head.cell 5
  clear h
  go_enter Try.func22, Try.ntmps22
  go_wp2
  go_ret
  exact ⟨rfl, Keeps.refl _ _⟩

theorem len_any (w : World) (F : Nat → Prop) (x : Nat) (es : List Rga.El) (top : Int) (h : Lies w F x es top) :
    Calls Try.prog 21 #[.pointer (some ⟨x, 0, none⟩)] w (intKeeps w (lenE es)) := by
  obtain ⟨S, os, vec, f, h, _⟩ := h
  have c1 : w.cell? ⟨x, 1, none⟩ = some (.pointer (some ⟨S.ix, 0, none⟩)) := h.head.cell 1
  have HC := Lib.hid (count_any w S.Fi S.ix S.lv S.rs h.idx)
  rw [h.mks] at HC
  unfold lenE
  clear h
  go_enter Try.func21, Try.ntmps21
  go_wp2_with (first | (go_at_call 34; refine HC.out.mono ?_; rintro e w' ⟨n, rfl, rfl⟩))
  go_ret
  exact ⟨rfl, drew_keeps _ _⟩

theorem has_any (w : World) (F : Nat → Prop) (x : Nat) (es : List Rga.El) (top : Int) (h : Lies w F x es top) (i : Rga.Id) :
    Calls Try.prog 29 #[.pointer (some ⟨x, 0, none⟩), .agg #[.int .i64 i.ctr, .int .i64 i.author]] w (boolKeeps w (decide (0 ≤ posI es i))) := by
  obtain ⟨S, os, vec, f, h, _⟩ := h
  have h' := h.keep ((Keeps.refl NoB w).alloc (.cells #[.int .i64 i.ctr, .int .i64 i.author] 24)) (fun _ _ e => e)
  have HP := Lib.hid (rplace_any _ x S.ev S.ix S.ov S.vv (.map (some S.mb)) top es h'.head h'.els i)
  have xlt := h.head.lt
  clear h h'
  generalize posI es i = p at *
  go_enter Try.func29, Try.ntmps29
  go_wp2_with (first | (go_at_call 38; refine HP.out.mono ?_; rintro e w' ⟨rfl, hk⟩; have hk := Lib.hid hk))
  go_ret
  exact ⟨rfl, ((Keeps.refl NoB w).alloc _).trans hk.out⟩

theorem alive_any (w : World) (F : Nat → Prop) (x : Nat) (es : List Rga.El) (top : Int) (h : Lies w F x es top) (i : Rga.Id) :
    Calls Try.prog 26 #[.pointer (some ⟨x, 0, none⟩), .agg #[.int .i64 i.ctr, .int .i64 i.author]] w (boolKeeps w (aliveE es i)) := by
  obtain ⟨S, os, vec, f, h, hb⟩ := h
  have h' := h.keep ((Keeps.refl NoB w).alloc (.cells #[.int .i64 i.ctr, .int .i64 i.author] 24)) (fun _ _ e => e)
  have HP := Lib.hid (rplace_any _ x S.ev S.ix S.ov S.vv (.map (some S.mb)) top es h'.head h'.els i)
  have xlt := h.head.lt
  rcases posI_range es i with ⟨hp, _⟩ | ⟨k, e, hp, hkl, hke, _⟩
  · have ha : aliveE es i = false := by simp [aliveE, hp]
    rw [ha]
    rw [hp] at HP
    clear h h' ha
    go_enter Try.func26, Try.ntmps26
    go_wp2_with (first | (go_at_call 38; refine HP.out.mono ?_; rintro e w' ⟨rfl, hk⟩; have hk := Lib.hid hk))
    go_ret
    exact ⟨rfl, ((Keeps.refl NoB w).alloc _).trans hk.out⟩
  · have ha : aliveE es i = e.alive := by simp [aliveE, hp, hke]
    rw [ha]
    rw [hp] at HP
    obtain ⟨g, c, hev, hg, hc, _, _, _, q3⟩ := row_el h.els k e hke
    have c0 : w.cell? ⟨x, 0, none⟩ = some (.slice (some ⟨g, 0, none⟩) es.length c) := by rw [← hev]; exact h.head.cell 0
    have Q := Lib.hid (And.intro c0 q3)
    clear h h' ha c0 q3 hev hke
    go_enter Try.func26, Try.ntmps26
    go_wp2_with fail
    go_at_call 38
    refine HP.out.mono ?_
    rintro r w' ⟨rfl, hk⟩
    have hkw := ((Keeps.refl NoB w).alloc (.cells #[.int .i64 i.ctr, .int .i64 i.author] 24)).trans hk
    have c0 := hkw.some Q.out.1
    have q3 := hkw.some Q.out.2
    have hkw := Lib.hid hkw
    clear hk
    go_wp2_with fail
    go_ret
    exact ⟨rfl, hkw.out⟩

theorem at_any (w : World) (F : Nat → Prop) (x : Nat) (es : List Rga.El) (top : Int) (h : Lies w F x es top) (k : Int) :
    Calls Try.prog 23 #[.pointer (some ⟨x, 0, none⟩), .int .i64 k] w (fun e w' => e = .returned (.tuple #[.agg #[.int .i64 (((atE es k).getD Rga.Id.zero).ctr), .int .i64 (((atE es k).getD Rga.Id.zero).author)], .bool (atE es k).isSome]) ∧ Keeps NoB w w') := by
  obtain ⟨S, os, vec, f, h, hb⟩ := h
  have c1 : w.cell? ⟨x, 1, none⟩ = some (.pointer (some ⟨S.ix, 0, none⟩)) := h.head.cell 1
  by_cases hk : 0 ≤ k ∧ k < lenE es
  · obtain ⟨k, rfl⟩ : ∃ k0 : Nat, k = (k0 : Int) := ⟨k.toNat, by omega⟩
    have hk0 : k < cnt (es.map (·.alive)) := by have := hk.2; unfold lenE at this; omega
    have HS := Lib.hid (select_in (w.alloc (.cells #[.int .i64 0, .int .i64 0] 24)) S.Fi S.ix S.lv S.rs (h.idx.kept (by simp) (fun g cs t hg _ => Below.heap_alloc _ _ _ (Array.getElem?_eq_some_iff.1 hg).1)) k (by rw [h.mks]; exact hk0))
    rw [h.mks] at HS
    obtain ⟨j, hj⟩ : ∃ j, sel (es.map (·.alive)) k = some j ∧ j < (es.map (·.alive)).length := sel_some _ _ hk0
    obtain ⟨hj, hjl⟩ := hj
    rw [List.length_map] at hjl
    have ha : atE es k = some es[j].id := by
      unfold atE
      rw [if_pos hk]
      simp [hj, hjl]
    obtain ⟨g, c, hev, hg, hc, q0, q1, _, _⟩ := row_el h.els j es[j] (List.getElem?_eq_getElem hjl)
    have c0 : w.cell? ⟨x, 0, none⟩ = some (.slice (some ⟨g, 0, none⟩) es.length c) := by rw [← hev]; exact h.head.cell 0
    have xlt := h.head.lt
    rw [hj] at HS
    rw [ha]
    simp only [Option.getD_some, Option.isSome_some]
    generalize es[j].id = d at *
    clear h hk hk0 hj ha hev
    go_enter Try.func23, Try.ntmps23
    go_wp2_with (first | (go_at_call 35; refine HS.out.mono ?_; rintro r w' ⟨n, rfl, rfl⟩; unfold selV))
    refine ret_cell rfl w.heap.size _ _ _ rfl ((((Cells.new w [.int .i64 0, .int .i64 0] 24).drewN n).set 0 _).set 1 _) Try.underlying24 rfl (by kernel_rfl) rfl ?_
    exact ⟨rfl, ((((Keeps.refl NoB w).alloc _).drewN _).setCell (.inr (Nat.le_refl _)) _).setCell (.inr (Nat.le_refl _)) _⟩
  · have HS := Lib.hid (select_out (w.alloc (.cells #[.int .i64 0, .int .i64 0] 24)) S.Fi S.ix S.lv S.rs (h.idx.kept (by simp) (fun g cs t hg _ => Below.heap_alloc _ _ _ (Array.getElem?_eq_some_iff.1 hg).1)) k (by rw [h.mks]; unfold lenE at hk; omega))
    have xlt := h.head.lt
    have ha : atE es k = none := by unfold atE; rw [if_neg hk]
    rw [ha]
    simp only [Option.getD_none, Option.isSome_none, Rga.Id.zero]
    clear h hk ha
    go_enter Try.func23, Try.ntmps23
    go_wp2_with (first | (go_at_call 35; refine HS.out.mono ?_; rintro r w' ⟨n, rfl, rfl⟩; unfold selV))
    refine ret_cell rfl w.heap.size _ _ _ rfl ((((Cells.new w [.int .i64 0, .int .i64 0] 24).drewN n).set 0 _).set 1 _) Try.underlying24 rfl (by kernel_rfl) rfl ?_
    exact ⟨rfl, ((((Keeps.refl NoB w).alloc _).drewN _).setCell (.inr (Nat.le_refl _)) _).setCell (.inr (Nat.le_refl _)) _⟩
end Go.Proofs.Ytoddohhhhnahnaa
