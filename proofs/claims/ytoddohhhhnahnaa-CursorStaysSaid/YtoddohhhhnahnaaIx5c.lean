/- The index: a block is cut in two. -/
import Derived.Test.YtoddohhhhnahnaaIx4
import Derived.Test.YtoddohhhhnahnaaDr
namespace Go.Proofs.Ytoddohhhhnahnaa
open Go.RowKit

theorem oneCell_bools (l : List Bool) : ∀ v ∈ l.map Value.bool, v.oneCell' = true := by
  intro v hv
  obtain ⟨b, _, rfl⟩ := List.mem_map.1 hv
  rfl

theorem clipB_any (w : World) (g n c : Nat) (hnc : n ≤ c) :
    Calls Try.prog 82 #[.slice (some ⟨g, 0, none⟩) n c] w fun e w' => e = .returned (.slice (some ⟨g, 0, none⟩) n n) ∧ w = w' := by
  go_enter Try.func82, Try.ntmps82
  go_wp2
  go_ret
  exact ⟨rfl, rfl⟩

/-- One block is two. -/
theorem IdxAt.cut {w W : World} {F : Nat → Prop} {x : Nat} {lv lv' : Value} {A B : List BlkR} {r : BlkR} (h : IdxAt w F x lv (A ++ r :: B)) {v1 v2 : Value} {HB : Nat} {l1 l2 : List Bool} (hl : l1 ++ l2 = r.l)
    (hhead : Cells W x 79 [.int .i64 (marks (A ++ r :: B)).length, .int .i64 (cnt (marks (A ++ r :: B))), lv'])
    (hrow : Row W 97 1 lv' (A.length + 2 + B.length) ((A.map fun r => .pointer (some ⟨r.a, 0, none⟩)) ++ .pointer (some ⟨r.a, 0, none⟩) :: .pointer (some ⟨HB, 0, none⟩) :: (B.map fun r => .pointer (some ⟨r.a, 0, none⟩))))
    (hb1 : Cells W r.a 99 [v1, .int .i64 (cnt l1)] ∧ Row W 4 1 v1 l1.length (l1.map Value.bool))
    (hb2 : Cells W HB 99 [v2, .int .i64 (cnt l2)] ∧ Row W 4 1 v2 l2.length (l2.map Value.bool))
    (hv1 : v1.ownBlock = r.v.ownBlock) (hv2 : ∀ g, v2.ownBlock = some g → w.heap.size ≤ g) (hHB : w.heap.size ≤ HB)
    (hlv : lv'.ownBlock = lv.ownBlock ∨ ∃ g, lv'.ownBlock = some g ∧ w.heap.size ≤ g) (hsz : w.heap.size ≤ W.heap.size)
    (hother : ∀ b, b < w.heap.size → b ≠ x → b ≠ r.a → lv.ownBlock ≠ some b → W.heap[b]? = w.heap[b]?) :
    IdxAt W (fun g => F g ∨ g = HB ∨ v2.ownBlock = some g ∨ lv'.ownBlock = some g) x lv' (A ++ ⟨r.a, v1, l1⟩ :: ⟨HB, v2, l2⟩ :: B) ∧ marks (A ++ ⟨r.a, v1, l1⟩ :: ⟨HB, v2, l2⟩ :: B) = marks (A ++ r :: B) ∧
      (∀ g, (F g ∨ g = HB ∨ v2.ownBlock = some g ∨ lv'.ownBlock = some g) → F g ∨ w.heap.size ≤ g) := by
  have hm : marks (A ++ ⟨r.a, v1, l1⟩ :: ⟨HB, v2, l2⟩ :: B) = marks (A ++ r :: B) := by
    simp [marks, ← hl]
  have hold : ∀ g, lv'.ownBlock = some g → F g ∨ w.heap.size ≤ g := by
    intro g hg
    rcases hlv with e | ⟨g', e1, e2⟩
    · exact .inl (h.frow g (e ▸ hg))
    · rw [hg] at e1; cases e1; exact .inr e2
  have hap := h.apart
  rw [List.pairwise_append, List.pairwise_cons] at hap
  obtain ⟨hA, ⟨hrB, hB⟩, hAB⟩ := hap
  have hother2 : ∀ s, s ∈ A ∨ s ∈ B → s ∈ A ++ r :: B ∧ s.a ≠ r.a := by
    intro s hs
    rcases hs with hs | hs
    · exact ⟨by simp [hs], (hAB s hs r (by simp)).1⟩
    · exact ⟨by simp [hs], fun e => (hrB s hs).1 e.symm⟩
  have hkeep : ∀ s, s ∈ A ∨ s ∈ B → Cells W s.a 99 [s.v, .int .i64 (cnt s.l)] ∧ Row W 4 1 s.v s.l.length (s.l.map Value.bool) := by
    intro s hs
    obtain ⟨hmem, hne⟩ := hother2 s hs
    obtain ⟨c, o⟩ := h.blk s hmem
    have hcb := (h.blk r (by simp)).1
    exact ⟨c.kept (hother _ c.lt (c.ne h.head (by decide)) hne (c.ne_row h.row (by decide))), o.kept fun g hg => hother g (o.lt g hg) (fun e => h.head.ne_row o (by decide) (by rw [hg, e])) (fun e => hcb.ne_row o (by decide) (by rw [hg, e])) (fun e => o.ne_row h.row (by decide) g hg e)⟩
  have hofar : ∀ s, s ∈ A ++ r :: B → (s.a ≠ HB ∧ (s.v.ownBlock = none ∨ s.v.ownBlock ≠ v2.ownBlock)) := by
    intro s hs
    obtain ⟨c, o⟩ := h.blk s hs
    refine ⟨fun e => by have := c.lt; omega, ?_⟩
    cases hv : s.v.ownBlock with
    | none => exact .inl rfl
    | some g =>
      refine .inr fun e => ?_
      have h1 := o.lt g hv
      have h2 := hv2 g e.symm
      omega
  refine ⟨⟨by rw [hm]; exact hhead, ?_, ?_, .inl h.fx, fun g hg => .inr (.inr (.inr hg)), ?_, ?_, ?_, by rw [hm]; exact h.small⟩, hm, ?_⟩
  · have e : (A ++ (⟨r.a, v1, l1⟩ : BlkR) :: ⟨HB, v2, l2⟩ :: B).length = A.length + 2 + B.length := by simp; omega
    rw [e]
    simpa using hrow
  · intro s hs
    simp only [List.mem_append, List.mem_cons] at hs
    rcases hs with hs | rfl | rfl | hs
    · exact hkeep s (.inl hs)
    · exact hb1
    · exact hb2
    · exact hkeep s (.inr hs)
  · intro s hs
    simp only [List.mem_append, List.mem_cons] at hs
    rcases hs with hs | rfl | rfl | hs
    · have := h.fblk s (by simp [hs]); exact ⟨.inl this.1, fun g hg => .inl (this.2 g hg)⟩
    · have := h.fblk r (by simp); exact ⟨.inl this.1, fun g hg => .inl (this.2 g (hv1 ▸ hg))⟩
    · exact ⟨.inr (.inl rfl), fun g hg => .inr (.inr (.inl hg))⟩
    · have := h.fblk s (by simp [hs]); exact ⟨.inl this.1, fun g hg => .inl (this.2 g hg)⟩
  · rw [List.pairwise_append, List.pairwise_cons, List.pairwise_cons]
    refine ⟨hA, ⟨?_, ?_, hB⟩, ?_⟩
    · intro s hs
      rcases List.mem_cons.1 hs with rfl | hs
      · have := hofar r (by simp); exact ⟨this.1, by rw [hv1]; exact this.2⟩
      · have := hrB s hs; exact ⟨this.1, by rw [hv1]; exact this.2⟩
    · intro s hs
      obtain ⟨o1, o2⟩ := hofar s (by simp [hs])
      refine ⟨fun e => o1 e.symm, ?_⟩
      cases hv : v2.ownBlock with
      | none => exact .inl rfl
      | some g => exact .inr fun e => by rcases o2 with c | c; rw [← e] at c; cases c; exact c (by rw [hv, e])
    · intro s hs t ht
      simp only [List.mem_cons] at ht
      rcases ht with rfl | rfl | ht
      · have := hAB s hs r (by simp); exact ⟨this.1, by rw [hv1]; exact this.2⟩
      · exact hofar s (by simp [hs])
      · exact hAB s hs t (by simp [ht])
  · intro g hg
    rcases hg with hg | rfl | hg | hg
    · exact Nat.lt_of_lt_of_le (h.old g hg) hsz
    · exact hb2.1.lt
    · exact hb2.2.lt g hg
    · exact hrow.lt g hg
  · intro g hg
    rcases hg with hg | rfl | hg | hg
    · exact .inl hg
    · exact .inr hHB
    · exact .inr (hv2 g hg)
    · exact hold g hg

end Go.Proofs.Ytoddohhhhnahnaa
