/- The index: New, Insert (ahead of the cut in two). -/
import Derived.Test.YtoddohhhhnahnaaIx3
import Derived.Test.YtoddohhhhnahnaaInsB
import Derived.Test.YtoddohhhhnahnaaInsP
import Derived.Test.YtoddohhhhnahnaaCloneB
import Derived.Deep.RegionWith
namespace Go.Proofs.Ytoddohhhhnahnaa
open Go.RowKit

def NewIdxPost (w : World) (e : Ending) (w' : World) : Prop :=
  ∃ (F : Nat → Prop) (x : Nat) (lv : Value) (rs : List BlkR), e = .returned (.pointer (some ⟨x, 0, none⟩)) ∧ IdxAt w' F x lv rs ∧ marks rs = [] ∧ Keeps NoB w w' ∧ ∀ g, F g → w.heap.size ≤ g

set_option maxHeartbeats 800000 in
theorem idxNew_any (w : World) : Calls Try.prog 44 #[] w (NewIdxPost w) := by
  go_enter Try.func44, Try.ntmps44
  go_wp2
  go_ret
  refine ⟨fun g => w.heap.size ≤ g ∧ g < w.heap.size + 3, w.heap.size + 2, .slice (some ⟨w.heap.size + 1, 0, none⟩) 1 1, [⟨w.heap.size, .slice none 0 0, []⟩], rfl, ?_, rfl, ((((Keeps.refl _ w).alloc _).alloc _).alloc _), fun g h => h.1⟩
  have h0 : Cells (((w.alloc (.cells #[.slice none 0 0, .int .i64 0] 99)).alloc (.cells #[.pointer (some ⟨w.heap.size, 0, none⟩)] 97)).alloc (.cells #[.int .i64 0, .int .i64 0, .slice (some ⟨w.heap.size + 1, 0, none⟩) 1 1] 79)) w.heap.size 99 [.slice none 0 0, .int .i64 0] :=
    ((Cells.new w [.slice none 0 0, .int .i64 0] _).alloc _).alloc _
  have h1 : Cells (((w.alloc (.cells #[.slice none 0 0, .int .i64 0] 99)).alloc (.cells #[.pointer (some ⟨w.heap.size, 0, none⟩)] 97)).alloc (.cells #[.int .i64 0, .int .i64 0, .slice (some ⟨w.heap.size + 1, 0, none⟩) 1 1] 79)) (w.heap.size + 1) 97 [.pointer (some ⟨w.heap.size, 0, none⟩)] := by
    have := (Cells.new (w.alloc (.cells #[.slice none 0 0, .int .i64 0] 99)) [.pointer (some ⟨w.heap.size, 0, none⟩)] 97).alloc (.cells #[.int .i64 0, .int .i64 0, .slice (some ⟨w.heap.size + 1, 0, none⟩) 1 1] 79)
    simpa using this
  refine ⟨?_, ?_, ?_, ⟨by omega, by omega⟩, ?_, ?_, by simp, ?_, by simp [marks]⟩
  · have := Cells.new ((w.alloc (.cells #[.slice none 0 0, .int .i64 0] 99)).alloc (.cells #[.pointer (some ⟨w.heap.size, 0, none⟩)] 97)) [.int .i64 0, .int .i64 0, .slice (some ⟨w.heap.size + 1, 0, none⟩) 1 1] 79
    simpa [marks, cnt] using this
  · exact ⟨by simp, .inr ⟨_, 1, _, rfl, h1, by simp, by decide, by simp, by simp⟩⟩
  · intro r hr
    obtain rfl : r = _ := by simpa using hr
    exact ⟨by simpa [cnt] using h0, Row.nil _ _ _⟩
  · intro g hg; simp [Value.ownBlock] at hg; omega
  · intro r hr
    obtain rfl : r = _ := by simpa using hr
    exact ⟨⟨by simp, by simp⟩, fun g hg => by simp [Value.ownBlock] at hg⟩
  · intro g hg; simp; omega

/-- One block is another one. -/
theorem IdxAt.put {w W : World} {F F' : Nat → Prop} {x : Nat} {lv : Value} {rs : List BlkR} (h : IdxAt w F x lv rs) {j : Nat} {r r' : BlkR} (hr : rs[j]? = some r) (ha : r'.a = r.a)
    (hhead : Cells W x 79 [.int .i64 (marks (rs.set j r')).length, .int .i64 (cnt (marks (rs.set j r'))), lv])
    (hblk : Cells W r'.a 99 [r'.v, .int .i64 (cnt r'.l)] ∧ Row W 4 1 r'.v r'.l.length (r'.l.map Value.bool))
    (hother : ∀ b, b < w.heap.size → b ≠ x → b ≠ r.a → r.v.ownBlock ≠ some b → W.heap[b]? = w.heap[b]?)
    (hown : ∀ g, r'.v.ownBlock = some g → r.v.ownBlock = some g ∨ w.heap.size ≤ g)
    (hF : ∀ g, F g → F' g) (hF2 : ∀ g, r'.v.ownBlock = some g → F' g) (hF3 : ∀ g, F' g → g < W.heap.size) (hsmall : (marks (rs.set j r')).length ≤ 1099511627776) :
    IdxAt W F' x lv (rs.set j r') := by
  have hrm := List.mem_of_getElem? hr
  obtain ⟨hcb, hob⟩ := h.blk r hrm
  have hjl : j < rs.length := (List.getElem?_eq_some_iff.1 hr).1
  have hjr : rs[j] = r := (List.getElem?_eq_some_iff.1 hr).2
  -- any other block of the row
  have hoth : ∀ (i : Nat) (s : BlkR), rs[i]? = some s → i ≠ j → s.a ≠ r.a ∧ (∀ g, s.v.ownBlock = some g → r.v.ownBlock ≠ some g) := by
    intro i s hs hne
    have hp := List.pairwise_iff_getElem.1 h.apart
    obtain ⟨hi1, hi2⟩ := List.getElem?_eq_some_iff.1 hs
    rcases Nat.lt_or_gt_of_ne hne with hlt | hlt
    · have := hp i j hi1 hjl hlt
      rw [hi2, hjr] at this
      exact ⟨this.1, fun g hg e => by rcases this.2 with h | h; rw [hg] at h; cases h; exact h (hg.trans e.symm)⟩
    · have := hp j i hjl hi1 hlt
      rw [hi2, hjr] at this
      exact ⟨fun e => this.1 e.symm, fun g hg e => by rcases this.2 with h | h; rw [e] at h; cases h; exact h (e.trans hg.symm)⟩
  refine ⟨hhead, ?_, ?_, hF _ h.fx, fun g hg => hF _ (h.frow g hg), ?_, ?_, hF3, hsmall⟩
  · have e1 : (rs.set j r').map (fun r => Value.pointer (some ⟨r.a, 0, none⟩)) = rs.map fun r => Value.pointer (some ⟨r.a, 0, none⟩) := by
      rw [List.map_set]
      apply List.ext_getElem?
      intro i
      rw [List.getElem?_set]
      by_cases e : j = i
      · subst e; simp [hjl, hjr, ha]
      · rw [if_neg e]
    rw [e1, List.length_set]
    refine h.row.kept fun g hg => hother g (h.row.lt g hg) (fun e => h.head.ne_row h.row (by decide) (by rw [hg, e])) (fun e => hcb.ne_row h.row (by decide) (by rw [hg, e])) ?_
    intro e
    exact h.row.ne_row hob (by decide) g hg e
  · intro s hs
    obtain ⟨i, hi⟩ := List.getElem?_of_mem hs
    rw [List.getElem?_set] at hi
    by_cases e : j = i
    · subst e
      rw [if_pos rfl, if_pos hjl] at hi
      injection hi with hi; subst hi
      exact hblk
    · rw [if_neg e] at hi
      obtain ⟨hcb2, hob2⟩ := h.blk s (List.mem_of_getElem? hi)
      obtain ⟨o1, o2⟩ := hoth i s hi (fun c => e c.symm)
      refine ⟨hcb2.kept (hother _ hcb2.lt (hcb2.ne h.head (by decide)) o1 (hcb2.ne_row hob (by decide))), hob2.kept fun g hg => hother g (hob2.lt g hg) (fun e => h.head.ne_row hob2 (by decide) (by rw [hg, e])) (fun e => hcb.ne_row hob2 (by decide) (by rw [hg, e])) (o2 g hg)⟩
  · intro s hs
    obtain ⟨i, hi⟩ := List.getElem?_of_mem hs
    rw [List.getElem?_set] at hi
    by_cases e : j = i
    · subst e
      rw [if_pos rfl, if_pos hjl] at hi
      injection hi with hi; subst hi
      exact ⟨by rw [ha]; exact hF _ (h.fblk r hrm).1, hF2⟩
    · rw [if_neg e] at hi
      have := h.fblk s (List.mem_of_getElem? hi)
      exact ⟨hF _ this.1, fun g hg => hF _ (this.2 g hg)⟩
  · rw [List.pairwise_iff_getElem]
    intro p q hp hq hpq
    rw [List.length_set] at hp hq
    have hap := List.pairwise_iff_getElem.1 h.apart p q hp hq hpq
    rw [List.getElem_set, List.getElem_set]
    by_cases e1 : j = p
    · subst e1
      rw [if_pos rfl, if_neg (by omega)]
      obtain ⟨o1, o2⟩ := hoth q rs[q] (by simp [hq]) (by omega)
      refine ⟨by rw [ha]; exact fun e => o1 e.symm, ?_⟩
      cases hv : r'.v.ownBlock with
      | none => exact .inl rfl
      | some g =>
        right
        intro e
        rcases hown g hv with c | c
        · exact o2 g e.symm c
        · have := (h.blk rs[q] (by simp)).2.lt g e.symm; omega
    · rw [if_neg e1]
      by_cases e2 : j = q
      · subst e2
        rw [if_pos rfl]
        obtain ⟨o1, o2⟩ := hoth p rs[p] (by simp [hp]) (by omega)
        refine ⟨by rw [ha]; exact o1, ?_⟩
        cases hv : rs[p].v.ownBlock with
        | none => exact .inl rfl
        | some g =>
          right
          intro e
          rcases hown g e.symm with c | c
          · exact o2 g hv c
          · have := (h.blk rs[p] (by simp)).2.lt g hv; omega
      · rw [if_neg e2]; exact hap

theorem marks_set (rs : List BlkR) (j : Nat) (r r' : BlkR) (hr : rs[j]? = some r) : marks (rs.set j r') = ((rs.map (·.l)).take j).flatten ++ r'.l ++ ((rs.map (·.l)).drop (j + 1)).flatten := by
  have hjl : j < rs.length := (List.getElem?_eq_some_iff.1 hr).1
  rw [marks_eq, List.map_set]
  have := flatten_split ((rs.map (·.l)).set j r'.l) j r'.l (by simp [hjl])
  rw [this]
  congr 2
  · congr 1
    rw [List.take_set, List.set_eq_of_length_le (by simp; omega)]
  · rw [List.drop_set, if_pos (by omega)]

end Go.Proofs.Ytoddohhhhnahnaa
