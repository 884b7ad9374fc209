/- The sequence: a new text. -/
import Derived.Test.YtoddohhhhnahnaaMt
namespace Go.Proofs.Ytoddohhhhnahnaa
open Go.RowKit

def IdxNewPost (w : World) (e : Ending) (w' : World) : Prop :=
  ∃ (F : Nat → Prop) (x : Nat) (lv : Value) (rs : List BlkR), e = .returned (.pointer (some ⟨x, 0, none⟩)) ∧ IdxAt w' F x lv rs ∧ marks rs = [] ∧ rs.length = 1 ∧ Keeps NoB w w' ∧ ∀ g, F g → w.heap.size ≤ g

set_option maxHeartbeats 800000 in
theorem idxNew_one (w : World) : Calls Try.prog 44 #[] w (IdxNewPost w) := by
  go_enter Try.func44, Try.ntmps44
  go_wp2
  go_ret
  refine ⟨fun g => w.heap.size ≤ g ∧ g < w.heap.size + 3, w.heap.size + 2, .slice (some ⟨w.heap.size + 1, 0, none⟩) 1 1, [⟨w.heap.size, .slice none 0 0, []⟩], rfl, ?_, rfl, rfl, ((((Keeps.refl _ w).alloc _).alloc _).alloc _), fun g h => h.1⟩
  have h0 : Cells (((w.alloc (.cells #[.slice none 0 0, .int .i64 0] 99)).alloc (.cells #[.pointer (some ⟨w.heap.size, 0, none⟩)] 97)).alloc (.cells #[.int .i64 0, .int .i64 0, .slice (some ⟨w.heap.size + 1, 0, none⟩) 1 1] 79)) w.heap.size 99 [.slice none 0 0, .int .i64 0] :=
    ((Cells.new w [.slice none 0 0, .int .i64 0] _).alloc _).alloc _
  have h1 : Cells (((w.alloc (.cells #[.slice none 0 0, .int .i64 0] 99)).alloc (.cells #[.pointer (some ⟨w.heap.size, 0, none⟩)] 97)).alloc (.cells #[.int .i64 0, .int .i64 0, .slice (some ⟨w.heap.size + 1, 0, none⟩) 1 1] 79)) (w.heap.size + 1) 97 [.pointer (some ⟨w.heap.size, 0, none⟩)] := by
    have := (Cells.new (w.alloc (.cells #[.slice none 0 0, .int .i64 0] 99)) [.pointer (some ⟨w.heap.size, 0, none⟩)] 97).alloc (.cells #[.int .i64 0, .int .i64 0, .slice (some ⟨w.heap.size + 1, 0, none⟩) 1 1] 79)
    simpa using this
  refine ⟨?_, ?_, ?_, ⟨by omega, by omega⟩, ?_, ?_, by simp, ?_, by simp [marks]⟩
  · have := Cells.new ((w.alloc (.cells #[.slice none 0 0, .int .i64 0] 99)).alloc (.cells #[.pointer (some ⟨w.heap.size, 0, none⟩)] 97)) [.int .i64 0, .int .i64 0, .slice (some ⟨w.heap.size + 1, 0, none⟩) 1 1] 79
    simpa [marks, cnt] using this
  · exact ⟨by simp, .inr ⟨_, 1, _, rfl, h1, by simp, by decide, by simp, by simp⟩⟩
  · intro r hr
    obtain rfl : r = _ := by simpa using hr
    exact ⟨by simpa [cnt] using h0, Row.nil _ _ _⟩
  · intro g hg; simp [Value.ownBlock] at hg; omega
  · intro r hr
    obtain rfl : r = _ := by simpa using hr
    exact ⟨⟨by simp, by simp⟩, fun g hg => by simp [Value.ownBlock] at hg⟩
  · intro g hg; simp; omega


def NewPost (w : World) (e : Ending) (w' : World) : Prop :=
  ∃ F x, e = .returned (.pointer (some ⟨x, 0, none⟩)) ∧ Txt w' F x [] ∧ Keeps NoB w w' ∧ ∀ g, F g → w.heap.size ≤ g

theorem new_any (w : World) : Calls Try.prog 27 #[] w (NewPost w) := by
  have hmm := @run_makeMap Try.prog
  go_enter Try.func27, Try.ntmps27
  go_wp2_with fail
  go_at_call 44
  refine (idxNew_one _).mono ?_
  rintro e w1 ⟨F, ix, lv, rs, rfl, hI, hM, hL, hk, hF⟩
  have P1 := Lib.hid (And.intro hI (And.intro hM (And.intro hL (And.intro hk hF))))
  clear hI hM hL hk hF
  go_wp2_with fail
  go_ret
  obtain ⟨hI, hM, hL, hk, hF⟩ := P1.out
  have hk2 : Keeps NoB w1 ((w1.alloc (.map #[] 0)).alloc (.cells #[.slice none 0 0, .pointer (some ⟨ix, 0, none⟩), .slice none 0 0, .slice none 0 0, .map (some w1.heap.size), .int .i64 0] 74)) := ((Keeps.refl NoB w1).alloc _).alloc _
  have hmap := (MapF.made w1)
  have hsz : (w1.alloc (.map #[] 0)).heap.size = w1.heap.size + 1 := by simp
  have hhead := Cells.new (w1.alloc (.map #[] 0)) [.slice none 0 0, .pointer (some ⟨ix, 0, none⟩), .slice none 0 0, .slice none 0 0, .map (some w1.heap.size), .int .i64 0] 74
  rw [hsz] at hhead
  have hmap2 : MapF ((w1.alloc (.map #[] 0)).alloc (.cells #[.slice none 0 0, .pointer (some ⟨ix, 0, none⟩), .slice none 0 0, .slice none 0 0, .map (some w1.heap.size), .int .i64 0] 74)) w1.heap.size (fun _ => 0) :=
    hmap.kept (Below.heap_alloc _ _ _ hmap.lt)
  have hI2 : IdxAt ((w1.alloc (.map #[] 0)).alloc (.cells #[.slice none 0 0, .pointer (some ⟨ix, 0, none⟩), .slice none 0 0, .slice none 0 0, .map (some w1.heap.size), .int .i64 0] 74)) F ix lv rs :=
    hI.kept hk2.size (fun g cs t hg _ => hk2.block g (Array.getElem?_eq_some_iff.1 hg).1 (fun e => e))
  have hT := lay_text (es := []) (os := []) (vec := []) (f := fun _ => 0) (top := 0) hhead (Row.nil _ _ _) hI2 (by rw [hM]; rfl) (by omega) (by intro e; rw [e] at hL; simp at hL) (Row.nil _ _ _) (Row.nil _ _ _) (by simp [Rising]) hmap2
  have hsw := hk.size
  refine ⟨_, _, rfl, ⟨_, [], [], hT, Rga.WF.nil, Rga.Ord.nil, ?_, by simp, by simp⟩, hk.trans hk2, ?_⟩
  · intro a
    simp [seqV, hitB, Rga.known]
  · rintro g (rfl | e | e | e | e | rfl)
    · omega
    · simp [Value.ownBlock] at e
    · exact hF g (hI.sub e)
    · simp [Value.ownBlock] at e
    · simp [Value.ownBlock] at e
    · omega
end Go.Proofs.Ytoddohhhhnahnaa
