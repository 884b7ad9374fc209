/- Cursors of the program: Hold, Place. -/
import Derived.Test.YtoddohhhhnahnaaAh
namespace Go.Proofs.Ytoddohhhhnahnaa
open Go.RowKit

theorem Lies.keep {w w' : World} {F G : Nat → Prop} {x : Nat} {es : List Rga.El} {top : Int} (h : Lies w F x es top) (k : Keeps G w w') (hd : ∀ g, F g → ¬ G g) : Lies w' F x es top := by
  obtain ⟨S, os, vec, f, h, hb⟩ := h
  exact ⟨S, os, vec, f, h.keep k hd, hb⟩
theorem Lies.keepN {w w' : World} {F : Nat → Prop} {x : Nat} {es : List Rga.El} {top : Int} (h : Lies w F x es top) (k : Keeps NoB w w') : Lies w' F x es top := h.keep k (fun _ _ e => e)

/-- Hold: none is an error. -/
def holdE (es : List Rga.El) (place : Int) (ahead : Bool) : Option Rga.Id :=
  if place < 0 ∨ (lenE es : Int) < place then none else some ((atE es (if ahead then place else place - 1)).getD Rga.Id.zero)
def holdV : Option Rga.Id → Bool → Value
  | none, _ => .tuple #[.agg #[.int .i64 0, .int .i64 0, .bool false], .int .i64 3]
  | some i, a => .tuple #[.agg #[.int .i64 i.ctr, .int .i64 i.author, .bool a], .int .i64 0]
def valKeeps (w : World) (v : Value) (e : Ending) (w' : World) : Prop := e = .returned v ∧ Keeps NoB w w'

theorem lenE_le (es : List Rga.El) : lenE es ≤ es.length := by
  have := cnt_le (es.map (·.alive))
  simpa [lenE] using this

set_option maxHeartbeats 1600000 in
set_option maxRecDepth 100000 in
theorem hold_any (w : World) (F : Nat → Prop) (x : Nat) (es : List Rga.El) (top : Int) (h : Lies w F x es top) (place : Int) (ahead : Bool) :
    Calls Try.prog 13 #[.pointer (some ⟨x, 0, none⟩), .int .i64 place, .bool ahead] w (valKeeps w (holdV (holdE es place ahead) ahead)) := by
  have hlb : (lenE es : Int) ≤ 1099511627776 := by
    obtain ⟨_, _, _, _, _, hb⟩ := h
    have := lenE_le es
    omega
  have hk1 : Keeps NoB w (w.alloc (.cells #[.int .i64 0, .int .i64 0, .bool false] 26)) := (Keeps.refl NoB w).alloc _
  have hc1 := Cells.new w [.int .i64 0, .int .i64 0, .bool false] 26
  have HL := Lib.hid (len_any _ F x es top (h.keepN hk1))
  have HH := Lib.hid h
  by_cases hp0 : place < 0
  · have hv : holdE es place ahead = none := by simp [holdE, hp0]
    rw [hv]
    clear h hv HH hlb hk1
    rcases ahead with _ | _
    all_goals
      go_enter Try.func13, Try.ntmps13
      go_wp2_with fail
      refine ret_cell rfl w.heap.size _ _ _ rfl hc1 Try.underlying26 rfl (by kernel_rfl) rfl ?_
      exact ⟨rfl, (Keeps.refl NoB w).alloc _⟩
  · by_cases hp1 : (lenE es : Int) < place
    · have hv : holdE es place ahead = none := by simp [holdE, hp1]
      rw [hv]
      generalize (lenE es : Int) = ln at *
      clear h hv HH hk1
      have HC1 := Lib.hid hc1
      clear hc1
      go_enter Try.func13, Try.ntmps13
      go_wp2_with fail
      go_at_call 21
      refine HL.out.mono ?_
      rintro e w2 ⟨rfl, hk2⟩
      have hc2 := HC1.out.keep hk2 (fun e => e)
      have c0 := hc2.cell 0
      have c1 := hc2.cell 1
      have c2 := hc2.cell 2
      have f0 := hc2.frozen 0
      have f1 := hc2.frozen 1
      have f2 := hc2.frozen 2
      have hlt := hc2.lt
      have HK2 := Lib.hid hk2
      have HC2 := Lib.hid hc2
      clear hk2 hc2
      go_wp2_with fail
      refine ret_cell rfl w.heap.size _ _ _ rfl (((HC2.out.set 0 _).set 1 _).set 2 _) Try.underlying26 rfl (by kernel_rfl) rfl ?_
      exact ⟨rfl, (((((Keeps.refl NoB w).alloc _).trans HK2.out).setCell (.inr (Nat.le_refl _)) _).setCell (.inr (Nat.le_refl _)) _).setCell (.inr (Nat.le_refl _)) _⟩
    · obtain ⟨q, hq⟩ : ∃ q, q = (if ahead = true then place else place - 1) := ⟨_, rfl⟩
      have hv : holdE es place ahead = some ((atE es q).getD Rga.Id.zero) := by
        unfold holdE
        rw [if_neg (by omega), hq]
      rw [hv]
      have HC1 := Lib.hid hc1
      have HK1 := Lib.hid hk1
      generalize (lenE es : Int) = ln at *
      clear h hv hk1 hc1
      rcases ahead with _ | _
      · skip
        simp only [Bool.false_eq_true, if_false] at hq
        subst hq
        have HT : Hid (∀ w2, Lies w2 F x es top → Calls Try.prog 23 #[.pointer (some ⟨x, 0, none⟩), .int .i64 (place - 1)] w2 (fun e w' => e = .returned (.tuple #[.agg #[.int .i64 (((atE es (place - 1)).getD Rga.Id.zero).ctr), .int .i64 (((atE es (place - 1)).getD Rga.Id.zero).author)], .bool (atE es (place - 1)).isSome]) ∧ Keeps NoB w2 w')) := Lib.hid (fun w2 h => at_any w2 F x es top h _)
        generalize (atE es (place - 1)).getD Rga.Id.zero = d at *
        generalize (atE es (place - 1)).isSome = so at *
        go_enter Try.func13, Try.ntmps13
        go_wp2_with fail
        go_at_call 21
        refine HL.out.mono ?_
        rintro e w2 ⟨rfl, hk2⟩
        have HT2 := Lib.hid (HT.out w2 ((HH.out.keepN HK1.out).keepN hk2))
        have hc2 := HC1.out.keep hk2 (fun e => e)
        have HC2 := Lib.hid hc2
        have HK2 := Lib.hid (HK1.out.trans hk2)
        clear hk2 hc2
        go_wp2_with fail
        go_at_call 23
        refine (HT2.out).mono ?_
        rintro e w3 ⟨rfl, hk3⟩
        have hc3 := HC2.out.keep hk3 (fun e => e)
        have hlt := hc3.lt
        have c0 := hc3.cell 0
        have c1 := hc3.cell 1
        have c2 := hc3.cell 2
        have f0 := hc3.frozen 0
        have f1 := hc3.frozen 1
        have f2 := hc3.frozen 2
        have HK3 := Lib.hid (HK2.out.trans hk3)
        have HC3 := Lib.hid hc3
        clear hk3 hc3
        go_wp2_with fail
        refine ret_cell rfl w.heap.size _ _ _ rfl ((((HC3.out.set 0 _).set 1 _).set 2 _).alloc _) Try.underlying26 rfl (by kernel_rfl) rfl ?_
        exact ⟨rfl, ((((HK3.out).setCell (.inr (Nat.le_refl _)) _).setCell (.inr (Nat.le_refl _)) _).setCell (.inr (Nat.le_refl _)) _).alloc _⟩
      · skip
        simp only [if_true] at hq
        subst hq
        have HT : Hid (∀ w2, Lies w2 F x es top → Calls Try.prog 23 #[.pointer (some ⟨x, 0, none⟩), .int .i64 (q)] w2 (fun e w' => e = .returned (.tuple #[.agg #[.int .i64 (((atE es (q)).getD Rga.Id.zero).ctr), .int .i64 (((atE es (q)).getD Rga.Id.zero).author)], .bool (atE es (q)).isSome]) ∧ Keeps NoB w2 w')) := Lib.hid (fun w2 h => at_any w2 F x es top h _)
        generalize (atE es (q)).getD Rga.Id.zero = d at *
        generalize (atE es (q)).isSome = so at *
        go_enter Try.func13, Try.ntmps13
        go_wp2_with fail
        go_at_call 21
        refine HL.out.mono ?_
        rintro e w2 ⟨rfl, hk2⟩
        have HT2 := Lib.hid (HT.out w2 ((HH.out.keepN HK1.out).keepN hk2))
        have hc2 := HC1.out.keep hk2 (fun e => e)
        have HC2 := Lib.hid hc2
        have HK2 := Lib.hid (HK1.out.trans hk2)
        clear hk2 hc2
        go_wp2_with fail
        go_at_call 23
        refine (HT2.out).mono ?_
        rintro e w3 ⟨rfl, hk3⟩
        have hc3 := HC2.out.keep hk3 (fun e => e)
        have hlt := hc3.lt
        have c0 := hc3.cell 0
        have c1 := hc3.cell 1
        have c2 := hc3.cell 2
        have f0 := hc3.frozen 0
        have f1 := hc3.frozen 1
        have f2 := hc3.frozen 2
        have HK3 := Lib.hid (HK2.out.trans hk3)
        have HC3 := Lib.hid hc3
        clear hk3 hc3
        go_wp2_with fail
        refine ret_cell rfl w.heap.size _ _ _ rfl ((((HC3.out.set 0 _).set 1 _).set 2 _).alloc _) Try.underlying26 rfl (by kernel_rfl) rfl ?_
        exact ⟨rfl, ((((HK3.out).setCell (.inr (Nat.le_refl _)) _).setCell (.inr (Nat.le_refl _)) _).setCell (.inr (Nat.le_refl _)) _).alloc _⟩
end Go.Proofs.Ytoddohhhhnahnaa
