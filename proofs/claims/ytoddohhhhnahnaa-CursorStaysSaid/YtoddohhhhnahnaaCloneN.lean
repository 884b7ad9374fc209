/- slices.Clone: the same cells in a row of one's own. -/
import Derived.Test.YtoddohhhhnahnaaRows
import Derived.Test.YtoddohhhhnahnaaK2
namespace Go.Proofs.Ytoddohhhhnahnaa
open Go.RowKit

theorem cloneN_info : (Try.prog.info? 104).map (fun i => (i.zero, i.size, i.bytes)) = some (some (.agg #[.int .i64 0, .int .i64 0]), 2, 16) := by kernel_rfl

def CloneNPost (w : World) (n : Nat) (ys : List Value) (e : Ending) (w' : World) : Prop :=
  ∃ v', e = .returned v' ∧ Row w' 104 2 v' n ys ∧ Keeps NoB w w' ∧ ∀ g, v'.ownBlock = some g → w.heap.size ≤ g

set_option maxHeartbeats 1600000 in
set_option maxRecDepth 100000 in
theorem cloneN_some (w : World) (ad : Addr) (n c : Nat) (xs : List Value) (hl : xs.length = n * 2) (hc : ∀ j u, xs[j]? = some u → w.cell? (ad.add j) = some u) (h1 : ∀ v ∈ xs, v.oneCell' = true) (hbig : n * 16 ≤ 140737488355328) :
    Calls Try.prog 60 #[.slice (some ad) n c] w (CloneNPost w n xs) := by
  obtain ⟨i0, hi, hz0, hz1, hz2⟩ := info_parts cloneN_info
  have hc' : ∀ j u, xs[j]? = some u → (w.alloc (.cells #[] 104)).cell? (ad.add j) = some u := fun j u hu => by
    rw [World.cell?_of_block (w := w) (Below.heap_alloc _ _ _ (World.block_lt_of_cell? w _ (hc j u hu)))]
    exact hc j u hu
  have HL := Lib.hid hl
  have h63 : n ≤ 140737488355328 := by omega
  clear hl
  have heq := fun (W : World) (x : Option Addr) (l c : Nat) => Lib.run_eql_slice_nil (P := Try.prog) W 71 104 x l c 0 0 Try.underlying71
  go_enter Try.func60, Try.ntmps60
  go_wp2_with (at_builtin; refine wpList_append_own_at _ rfl (.tmp 5) (.tmp 6) 71 rfl w.heap.size 104 i0 (.agg #[.int .i64 0, .int .i64 0]) 2 16 Try.underlying71 hi hz0 hz1 hz2 rfl (by decide) _ 0 [] rfl (World.ownsRow_made w #[] 0 (Nat.le_refl _) (by decide) (by simp)) ad n c xs rfl HL.out hc' h1 (by unfold maxLen; omega) (by omega) (by simp) ?_; intro v' w1 hown hgrow _ hat)
  go_ret
  refine ⟨v', rfl, .of_own (by simpa using hown), ?_, fun g hg => (hown.lt g hg).1⟩
  have hk : Keeps NoB w (w.alloc (.cells #[] 104)) := (Keeps.refl _ _).alloc _
  exact hk.grown hgrow (fun b hb => .inr (Nat.le_of_eq (Option.some.inj hb)))

set_option maxRecDepth 100000 in
theorem cloneN_nil (w : World) (n c : Nat) : Calls Try.prog 60 #[.slice none n c] w fun e w' => e = .returned (.slice none 0 0) ∧ w = w' := by
  have heq := fun (W : World) (x : Option Addr) (l c : Nat) => Lib.run_eql_slice_nil (P := Try.prog) W 71 104 x l c 0 0 Try.underlying71
  go_enter Try.func60, Try.ntmps60
  go_wp2
  go_ret
  exact ⟨rfl, rfl⟩

/-- slices.Clone of a slice at the head of a row. -/
theorem cloneN_row (w : World) (sv : Value) (n : Nat) (xs : List Value) (h : Row w 104 2 sv n xs) (h1 : ∀ v ∈ xs, v.oneCell' = true) (hbig : n * 16 ≤ 140737488355328) :
    Calls Try.prog 60 #[sv] w (CloneNPost w n xs) := by
  rcases h.form with ⟨rfl, rfl, rfl⟩ | ⟨g, cap, rfl, _, _, _, hc, _⟩
  · refine (cloneN_nil w 0 0).mono ?_
    rintro e w' ⟨rfl, rfl⟩
    exact ⟨_, rfl, Row.nil _ _ _, Keeps.refl _ _, fun g hg => by cases hg⟩
  · refine cloneN_some w ⟨g, 0, none⟩ n cap xs h.1 (fun j u hu => ?_) h1 hbig
    rw [addr_add0, hc j (by rw [← h.1]; exact (List.getElem?_eq_some_iff.1 hu).1)]
    exact hu

end Go.Proofs.Ytoddohhhhnahnaa
