/- Arguments: a slice of operations, an anchor. -/
import Derived.Test.YtoddohhhhnahnaaLk
import Derived.Deep.Slices
import Derived.ChangeArms
namespace Go.Proofs.Ytoddohhhhnahnaa
open Go.ChangeShapes Go.WideShapes Go.ChangeAt Go.RowKit

theorem cells_id : Try.prog.cellsOf 24 = 2 := by kernel_rfl
theorem cells_int : Try.prog.cellsOf 3 = 1 := by kernel_rfl
theorem cells_rune : Try.prog.cellsOf 21 = 1 := by kernel_rfl
theorem cells_opn : Try.prog.cellsOf 49 = 7 := by kernel_rfl
theorem cells_anchor : Try.prog.cellsOf 26 = 3 := by kernel_rfl

section
variable {H : Type} {enc : TypeId × Value → H} {w : World} {base : Nat} {spare : Nat → Bool} {held : Bool}

set_option maxRecDepth 100000 in
theorem open_id {fuel : Nat} {cs : List Value} {x : DataW H × List MemPlace} (h : DataW.trod enc Try.prog w base spare held fuel 24 cs = some x) :
    ∃ c a : Int, cs = [.int .i64 c, .int .i64 a] := by
  obtain ⟨xs, n, _, _, hl, hxl, hf⟩ := DataW.trod_struct Try.underlying24 h
  rw [cells_id] at hl
  have g0 : DataW.trod enc Try.prog w base spare held n 3 ((cs.drop 0).take (Try.prog.cellsOf 3)) = xs[0]? := hf 0 _ rfl
  have g1 : DataW.trod enc Try.prog w base spare held n 3 ((cs.drop 1).take (Try.prog.cellsOf 3)) = xs[1]? := hf 1 _ rfl
  rw [cells_int] at g0 g1
  match xs, hxl, cs, hl with
  | [y0, y1], _, [v0, v1], _ =>
    obtain ⟨c, e0, _⟩ := DataW.trod_int Try.underlying3 g0
    obtain ⟨a, e1, _⟩ := DataW.trod_int Try.underlying3 g1
    simp at e0 e1
    exact ⟨c, a, by rw [e0, e1]⟩

set_option maxRecDepth 100000 in
theorem open_op {fuel : Nat} {cs : List Value} {x : DataW H × List MemPlace} (h : DataW.trod enc Try.prog w base spare held fuel 49 cs = some x) :
    ∃ o : Rga.Opn, cs = opL o := by
  obtain ⟨xs, n, _, _, hl, hxl, hf⟩ := DataW.trod_struct Try.underlying49 h
  rw [cells_opn] at hl
  have g0 : DataW.trod enc Try.prog w base spare held n 24 ((cs.drop 0).take (Try.prog.cellsOf 24)) = xs[0]? := hf 0 _ rfl
  have g1 : DataW.trod enc Try.prog w base spare held n 3 ((cs.drop 2).take (Try.prog.cellsOf 3)) = xs[1]? := hf 1 _ rfl
  have g2 : DataW.trod enc Try.prog w base spare held n 4 ((cs.drop 3).take (Try.prog.cellsOf 4)) = xs[2]? := hf 2 _ rfl
  have g3 : DataW.trod enc Try.prog w base spare held n 24 ((cs.drop 4).take (Try.prog.cellsOf 24)) = xs[3]? := hf 3 _ rfl
  have g4 : DataW.trod enc Try.prog w base spare held n 21 ((cs.drop 6).take (Try.prog.cellsOf 21)) = xs[4]? := hf 4 _ rfl
  rw [cells_id] at g0 g3
  rw [cells_int] at g1
  rw [cells_bool] at g2
  rw [cells_rune] at g4
  match xs, hxl, cs, hl with
  | [y0, y1, y2, y3, y4], _, [v0, v1, v2, v3, v4, v5, v6], _ =>
    obtain ⟨c, a, e0⟩ := open_id g0
    obtain ⟨s, e1, _⟩ := DataW.trod_int Try.underlying3 g1
    obtain ⟨b, e2, _⟩ := DataW.trod_bool Try.underlying4 g2
    obtain ⟨rc, ra, e3⟩ := open_id g3
    obtain ⟨r, e4, _⟩ := DataW.trod_int Try.underlying21 g4
    simp at e0 e1 e2 e3 e4
    exact ⟨⟨⟨c, a⟩, s, b, ⟨rc, ra⟩, r⟩, by simp [opL, e0.1, e0.2, e1, e2, e3.1, e3.2, e4]⟩

set_option maxRecDepth 100000 in
theorem open_ops {fuel : Nat} {a0 : Option Addr} {len cap : Nat} {x : DataW H × List MemPlace} (h : DataW.trod enc Try.prog w 0 (fun _ => true) true fuel 22 [.slice a0 len cap] = some x) : ∃ l, ROps w a0 len l := by
  rcases Deep.open_slice Try.underlying22 h with ⟨hcs, _⟩ | ⟨a, len', cap', m, n, D, Pl, hcs, _, hl, hm, hmm, _, hx⟩
  · simp at hcs
    obtain ⟨rfl, rfl, rfl⟩ := hcs
    exact ⟨[], rfl, by omega, fun j o hj => by simp at hj⟩
  · simp at hcs
    obtain ⟨rfl, rfl, rfl⟩ := hcs
    simp only [if_true] at hmm
    subst hmm
    have hmx : maxLen ≤ 9223372036854775807 := by decide +kernel
    have each : ∀ i, i < len → ∃ o : Rga.Opn, ∀ (k : Nat) (v : Value), (opL o)[k]? = some v → w.cell? ((a.add (i * 7)).add k) = some v := by
      intro i hi
      obtain ⟨cs', h1, h2⟩ := hx i (by omega)
      rw [cells_opn] at h1
      obtain ⟨o, rfl⟩ := open_op h2
      obtain ⟨_, _, hcell⟩ := World.cells?_some h1
      exact ⟨o, fun k v hv => by
        rw [hcell k (by have := (List.getElem?_eq_some_iff.1 hv).1; exact this)]
        exact hv⟩
    rcases Nat.eq_zero_or_pos len with h0 | h0
    · subst h0
      exact ⟨[], rfl, by omega, fun j o hj => by simp at hj⟩
    · obtain ⟨o0, h00⟩ := each 0 h0
      have hs := World.cell?_spot (h00 0 _ rfl)
      obtain ⟨g, b, sp⟩ := a
      have hs1 : sp = none := by simpa [Addr.add] using hs
      subst hs1
      obtain ⟨f, hf⟩ := Classical.axiomOfChoice (r := fun (i : Fin len) (o : Rga.Opn) => ∀ (k : Nat) (v : Value), (opL o)[k]? = some v → w.cell? (((⟨g, b, none⟩ : Addr).add (i.1 * 7)).add k) = some v) (fun i => each i.1 i.2)
      refine ⟨List.ofFn f, by simp, by omega, fun j o hj => ⟨g, b, rfl, fun k v hv => ?_⟩⟩
      rw [List.getElem?_ofFn] at hj
      split at hj
      · rename_i hjl
        simp at hj
        subst hj
        have := hf ⟨j, hjl⟩ k v hv
        rw [addr_add_add, addr_add] at this
        rw [Nat.add_assoc]
        exact this
      · cases hj
end
end Go.Proofs.Ytoddohhhhnahnaa
