/- A map from numbers to numbers, as a function that is nought but at some places: look-up, entry, store. -/
import Derived.Test.YtoddohhhhnahnaaK
import Derived.MapKept
namespace Go.Proofs.Ytoddohhhhnahnaa
open Go.RowKit Go.MapKept

structure MapC (es : Array MapEntry) (clock : Nat) (f : Int → Int) : Prop where
  stamped : Stamped es clock
  reads : ∀ e ∈ es.toList, ∃ a, e.key = .int .i64 a ∧ e.val = .int .i64 (f a)
  holds : ∀ a, f a ≠ 0 → ∃ e ∈ es.toList, e.key = .int .i64 a

def MapF (w : World) (b : Nat) (f : Int → Int) : Prop := ∃ es clock, w.heap[b]? = some (Obj.map es clock) ∧ MapC es clock f
/-- .. and the entry of a has this stamp. -/
def MapMid (w : World) (b : Nat) (f : Int → Int) (a : Int) (s : Nat) : Prop :=
  ∃ es clock, w.heap[b]? = some (Obj.map es clock) ∧ MapC es clock f ∧ ∃ e ∈ es.toList, e.key = .int .i64 a ∧ e.born = s

theorem MapC.keys {es : Array MapEntry} {clock : Nat} {f : Int → Int} (h : MapC es clock f) : ∀ x ∈ es.toList, IsKey (.int .i64) x.key := fun x hx => by
  obtain ⟨a, e, _⟩ := h.reads x hx
  rw [e]; rfl

theorem MapF.made (w : World) : MapF (w.alloc (.map #[] 0)) w.heap.size (fun _ => 0) :=
  ⟨#[], 0, heap_alloc_new w _, stamped_empty 0, by simp, by simp⟩
theorem MapF.kept {w w' : World} {b : Nat} {f : Int → Int} (h : MapF w b f) (e : w'.heap[b]? = w.heap[b]?) : MapF w' b f := by
  obtain ⟨es, c, h1, h2⟩ := h
  exact ⟨es, c, e.trans h1, h2⟩
theorem MapF.lt {w : World} {b : Nat} {f : Int → Int} (h : MapF w b f) : b < w.heap.size := by
  obtain ⟨es, c, h1, h2⟩ := h
  exact (Array.getElem?_eq_some_iff.1 h1).1
theorem MapF.mid {w : World} {b : Nat} {f : Int → Int} {a : Int} {s : Nat} (h : MapMid w b f a s) : MapF w b f := by
  obtain ⟨es, c, h1, h2, _⟩ := h
  exact ⟨es, c, h1, h2⟩
theorem MapF.ne_cells {w : World} {b g : Nat} {f : Int → Int} {t : TypeId} {cs : List Value} (h : MapF w b f) (hc : Cells w g t cs) : b ≠ g := by
  rintro rfl
  obtain ⟨es, c, h1, _⟩ := h
  unfold Cells at hc
  rw [h1] at hc
  cases hc

section
variable {P : Program} {t kt et : TypeId} {w : World} {b : Nat} {f : Int → Int}

theorem MapF.lookup (h : MapF w b f) (hm : P.underlying t = some (.map kt et)) (hd : P.underlying kt = some (.int .i64)) (hz : (zeroValue et).run P w = .ok (.int .i64 0) w) (a : Int) :
    (Instr.lookup t (.map (some b)) (.int .i64 a) false).run P w = .ok (.int .i64 (f a)) w := by
  obtain ⟨es, c, hb, hc⟩ := h
  have hk : IsKey (.int .i64) (.int .i64 a) := rfl
  rcases findNow_spec hk es.toList 0 hc.keys with ⟨h1, h2⟩ | ⟨j, e, h1, h2, h3⟩
  · have h0 : f a = 0 := Classical.byContradiction fun hne => by
      obtain ⟨e, he, hek⟩ := hc.holds a hne
      exact h2 e he hek
    simp [Instr.lookup, run_underlying hm, Go.MapKept.run_getObj_map hb, run_checkKey hd hk, run_findKey hd h1, Result.andThen, hz, h0]
  · obtain ⟨a', e1, e2⟩ := hc.reads e (List.mem_of_getElem? h2)
    rw [h3] at e1
    injection e1 with _ e1
    subst e1
    simp [Instr.lookup, run_underlying hm, Go.MapKept.run_getObj_map hb, run_checkKey hd hk, run_findKey hd h1, Result.andThen, e2]

theorem MapF.entry (h : MapF w b f) (hm : P.underlying t = some (.map kt et)) (hd : P.underlying kt = some (.int .i64)) (hz : (zeroValue et).run P w = .ok (.int .i64 0) w) (a : Int) :
    ∃ (w' : World) (v : Value) (s : Nat), (Instr.mapEntry t (.map (some b)) (.int .i64 a)).run P w = .ok (.tuple #[v, .int .i64 s]) w' ∧ MapMid w' b f a s ∧ Keeps (fun k => k = b) w w' := by
  obtain ⟨es, c, hb, hc⟩ := h
  have hblt : b < w.heap.size := (Array.getElem?_eq_some_iff.1 hb).1
  have hk : IsKey (.int .i64) (.int .i64 a) := rfl
  have hkeep : ∀ o, Keeps (fun k => k = b) w { w with heap := w.heap.setIfInBounds b o } := fun o => ⟨rfl, rfl, rfl, by simp, fun k _ hne => by simp [Ne.symm hne]⟩
  rcases findNow_spec hk es.toList 0 hc.keys with ⟨h1, h2⟩ | ⟨j, e, h1, h2, h3⟩
  · have h0 : f a = 0 := Classical.byContradiction fun hne => by
      obtain ⟨e, he, hek⟩ := hc.holds a hne
      exact h2 e he hek
    refine ⟨{ w with heap := w.heap.setIfInBounds b (.map (es.push { key := .int .i64 a, val := .int .i64 0, born := c }) (c + 1)) }, .int .i64 0, c, ?_, ⟨_, _, (heap_set hb).1, ⟨stamped_push hc.stamped h2, ?_, ?_⟩, ⟨.int .i64 a, .int .i64 0, c⟩, by simp, rfl, rfl⟩, hkeep _⟩
    · simp [Instr.mapEntry, run_underlying hm, Go.MapKept.run_getObj_map hb, run_checkKey hd hk, run_findKey hd h1, Result.andThen, hz, Go.MapKept.run_setObj_map _ hb, goInt]
    · intro e he
      simp only [Array.toList_push, List.mem_append, List.mem_singleton] at he
      rcases he with he | rfl
      · exact hc.reads e he
      · exact ⟨a, rfl, by rw [h0]⟩
    · intro x hx
      obtain ⟨e, he, hek⟩ := hc.holds x hx
      exact ⟨e, by simp [he], hek⟩
  · have hj : es[j]? = some e := by simpa using h2
    have hjl : j < es.size := (Array.getElem?_eq_some_iff.1 hj).1
    have hje : es[j] = e := (Array.getElem?_eq_some_iff.1 hj).2
    have hmod : (es.modify j fun e => { e with key := .int .i64 a }) = es := by
      apply Array.ext
      · simp
      · intro i hi1 hi2
        simp only [Array.getElem_modify]
        split
        · rename_i hij
          subst hij
          rw [hje, ← h3]
        · rfl
    have hid : { w with heap := w.heap.setIfInBounds b (.map es c) } = w := by
      have : w.heap.setIfInBounds b (.map es c) = w.heap := by
        apply Array.ext
        · simp
        · intro i hi1 hi2
          rw [Array.getElem_setIfInBounds]
          split
          · rename_i hij
            subst hij
            exact ((Array.getElem?_eq_some_iff.1 hb).2).symm
          · rfl
      rw [this]
    refine ⟨w, e.val, e.born, ?_, ⟨es, c, hb, hc, e, List.mem_of_getElem? h2, h3, rfl⟩, Keeps.refl _ _⟩
    simp [Instr.mapEntry, run_underlying hm, Go.MapKept.run_getObj_map hb, run_checkKey hd hk, run_findKey hd h1, Result.andThen, hj, h3, run_keyThatStays hk, Go.MapKept.run_setObj_map _ hb, goInt, hmod, hid]

theorem MapMid.store {a : Int} {s : Nat} (h : MapMid w b f a s) (v : Int) :
    ∃ w' : World, (Instr.entryStore t (.map (some b)) (.int .i64 s) (.int .i64 v)).run P w = .ok () w' ∧ MapF w' b (fun x => if x = a then v else f x) ∧ Keeps (fun k => k = b) w w' := by
  obtain ⟨es, c, hb, hc, e, he, hek, hes⟩ := h
  obtain ⟨j, hj⟩ := List.getElem?_of_mem he
  have hj' : es[j]? = some e := by simpa using hj
  have hjl : j < es.size := (Array.getElem?_eq_some_iff.1 hj').1
  have hje : es[j] = e := (Array.getElem?_eq_some_iff.1 hj').2
  have hkeep : ∀ o, Keeps (fun k => k = b) w { w with heap := w.heap.setIfInBounds b o } := fun o => ⟨rfl, rfl, rfl, by simp, fun k _ hne => by simp [Ne.symm hne]⟩
  have hnd := hc.stamped.2.1
  have hnk := hc.stamped.2.2
  have hfind : es.findIdx? (fun x => (x.born : Int) == (s : Int)) = some j := by
    rw [Array.findIdx?_eq_some_iff_getElem]
    refine ⟨hjl, by rw [hje, hes]; simp, fun i hi => ?_⟩
    have hne : es[i].born ≠ es[j].born := by
      have := List.pairwise_iff_getElem.1 hnd i j (by simp; omega) (by simpa using hjl) hi
      simpa using this
    rw [hje, hes] at hne
    simp; omega
  refine ⟨{ w with heap := w.heap.setIfInBounds b (.map (es.modify j fun e => { e with val := .int .i64 v }) c) }, ?_, ⟨_, _, (heap_set hb).1, ⟨?_, ?_, ?_⟩⟩, hkeep _⟩
  · simp [Instr.entryStore, Go.MapKept.run_getObj_map hb, Result.andThen, hfind, Go.MapKept.run_setObj_map _ hb, asInt, asIntOf]
  · exact stamped_modify hc.stamped j _ (fun _ _ => rfl) (fun _ _ _ => rfl)
  · intro x hx
    obtain ⟨i, hi⟩ := List.getElem?_of_mem hx
    have hi' : (es.modify j fun e => { e with val := .int .i64 v })[i]? = some x := by rw [← Array.getElem?_toList]; exact hi
    rw [Array.getElem?_modify] at hi'
    split at hi'
    · rename_i hij
      subst hij
      rw [hj'] at hi'
      simp at hi'
      subst hi'
      exact ⟨a, hek, by simp⟩
    · rename_i hij
      obtain ⟨y, e1, e2⟩ := hc.reads x (by have := List.mem_of_getElem? (l := es.toList) (i := i) (a := x) (by simpa using hi'); exact this)
      refine ⟨y, e1, ?_⟩
      have hya : y ≠ a := by
        rintro rfl
        have h1 : i < es.size := (Array.getElem?_eq_some_iff.1 hi').1
        have h2 : es[i] = x := (Array.getElem?_eq_some_iff.1 hi').2
        have hkk : es[i].key = es[j].key := by rw [h2, hje, e1, hek]
        rcases Nat.lt_or_gt_of_ne hij with hlt | hlt
        · have := List.pairwise_iff_getElem.1 hnk j i (by simpa using hjl) (by simpa using h1) hlt
          simp at this
          exact this hkk.symm
        · have := List.pairwise_iff_getElem.1 hnk i j (by simpa using h1) (by simpa using hjl) hlt
          simp at this
          exact this hkk
      simp [hya, e2]
  · intro x hx
    have hmem : ∀ y ∈ es.toList, ∃ z ∈ (es.modify j fun e => { e with val := .int .i64 v }).toList, z.key = y.key := by
      intro y hy
      obtain ⟨i, hi⟩ := List.getElem?_of_mem hy
      have hi' : es[i]? = some y := by simpa using hi
      have h2 : (es.modify j fun e => { e with val := .int .i64 v })[i]? = some (if j = i then { y with val := .int .i64 v } else y) := by
        rw [Array.getElem?_modify, hi']
        split <;> simp
      refine ⟨_, List.mem_of_getElem? (i := i) (by rw [Array.getElem?_toList]; exact h2), ?_⟩
      split <;> rfl
    by_cases hxa : x = a
    · subst hxa
      obtain ⟨z, hz, hzk⟩ := hmem e he
      exact ⟨z, hz, hzk.trans hek⟩
    · simp [hxa] at hx
      obtain ⟨y, hy, hyk⟩ := hc.holds x hx
      obtain ⟨z, hz, hzk⟩ := hmem y hy
      exact ⟨z, hz, hzk.trans hyk⟩
end
end Go.Proofs.Ytoddohhhhnahnaa
