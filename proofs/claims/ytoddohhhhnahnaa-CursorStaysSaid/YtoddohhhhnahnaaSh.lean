/- The law's small case: shown. -/
import Derived.Test.YtoddohhhhnahnaaCp
import Derived.Test.YtoddohhhhnahnaaBr
namespace Go.Proofs.Ytoddohhhhnahnaa
open Go.RowKit

def mEls (ops : List Rga.Opn) : List Rga.El := Rga.els ops (Rga.order ops)

theorem Txt.lies {w : World} {F : Nat → Prop} {x : Nat} {ops : List Rga.Opn} (h : Txt w F x ops) (hn : ops.length < 1099511627776) : Lies w F x (mEls ops) (topC ops) := by
  obtain ⟨S, l, vec, hT, _, ho, _, _, hl⟩ := h
  have e : l = Rga.order ops := ho.is
  subst e
  exact ⟨S, ops, vec, _, hT, by simp [mEls, Rga.els]; omega⟩

theorem RB_new (w : World) (l : List Bool) (hl : l.length ≤ 9223372036854775807) (t : TypeId) : RB (w.alloc (.cells (l.map Value.bool).toArray t)) (some ⟨w.heap.size, 0, none⟩) l.length l.length l := by
  refine ⟨rfl, Nat.le_refl _, hl, fun j b hj => ⟨_, rfl, ?_⟩, fun e => by cases e⟩
  rw [addr_add0, (Cells.new w (l.map Value.bool) t).cell j]
  simp [hj]

def op1 : Rga.Opn := ⟨⟨1, 0⟩, 1, true, ⟨0, 0⟩, 97⟩
def es1 : List Rga.El := [⟨⟨1, 0⟩, 97, true⟩]
theorem put1 : Rga.put [] op1 = [op1] := by decide
theorem puts1 : Rga.puts [] op1 = (true, 0) := by decide
theorem els1 : mEls [op1] = es1 := by decide
theorem hold1 : holdE es1 1 false = some ⟨1, 0⟩ := by decide
theorem hold2 : holdE es1 2 false = none := by decide
theorem place1 : placeE es1 ⟨1, 0⟩ false = (1, 0) := by decide
def b1 : List Bool := [true, false, true, true]
theorem snap1 : snapV b1 1 = 0 := by decide
theorem right1 : rightV b1 0 = 2 := by decide

set_option maxHeartbeats 3200000 in
set_option maxRecDepth 100000 in
theorem shown_any (w : World) : Calls Try.prog 9 #[] w (boolKeeps w true) := by
  go_enter Try.func9, Try.ntmps9
  go_wp2_with fail
  go_at_call 27
  refine (new_any _).mono ?_
  rintro e w1 ⟨F, x, rfl, hT, hk1, hF⟩
  have HP : Hid (Calls Try.prog 24 #[.pointer (some ⟨x, 0, none⟩), .agg #[.int .i64 1, .int .i64 0, .int .i64 1, .bool true, .int .i64 0, .int .i64 0, .int .i32 97]] w1 (TakePost w1 F x [] op1)) := Lib.hid (put_any w1 F x [] hT (by decide) op1)
  have HK1 := Lib.hid (And.intro hk1 hF)
  have hxF := Lib.hid hT
  clear hT hk1 hF
  go_wp2_with fail
  go_at_call 24
  refine HP.out.mono ?_
  rintro e w2 ⟨rfl, F', hT2, hk2, hF'⟩
  rw [puts1, put1] at *
  have hk2' : Keeps NoB w w2 := HK1.out.1.then hk2 (fun g hg => .inr (HK1.out.2 g hg))
  have hL : Lies w2 F' x es1 (topC [op1]) := by
    have := hT2.lies (by decide)
    rw [els1] at this
    exact this
  have HH := Lib.hid (hold_any w2 F' x es1 _ hL 1 false)
  rw [hold1] at HH
  have HL := Lib.hid hL
  have HK2 := Lib.hid hk2'
  clear hk2' hL hT2 hk2 hF' HK1 HP hxF
  generalize topC [op1] = tc at *
  go_wp2_with fail
  go_at_call 13
  refine HH.out.mono ?_
  rintro e w3 ⟨rfl, hk3⟩
  simp only [holdV]
  have hk4 : Keeps NoB w2 (w3.alloc (.cells #[.int .i64 1, .int .i64 0, .bool false] 26)) := hk3.alloc _
  have HC4 := Lib.hid (Cells.new w3 [.int .i64 1, .int .i64 0, .bool false] 26)
  have HPl := Lib.hid (place_cur _ F' x es1 tc (HL.out.keepN hk4) ⟨1, 0⟩ false)
  rw [place1] at HPl
  have HK4 := Lib.hid hk4
  clear hk3 hk4
  go_wp2_with fail
  go_at_call 11
  refine HPl.out.mono ?_
  rintro e w5 ⟨rfl, hk5⟩
  have HC5 := Lib.hid (HC4.out.keep hk5 (fun e => e))
  have HH2 := Lib.hid (hold_any w5 F' x es1 _ (HL.out.keepN (HK4.out.trans hk5)) 2 false)
  rw [hold2] at HH2
  have HK5 := Lib.hid (HK2.out.trans (HK4.out.trans hk5))
  clear hk5
  go_wp2_with fail
  go_at_call 13
  refine HH2.out.mono ?_
  rintro e w6 ⟨rfl, hk6⟩
  simp only [holdV]
  have hc6 := HC5.out.keep hk6 (fun e => e)
  have c0 := hc6.cell 0
  have hlt := hc6.lt
  have HK6 := Lib.hid (HK5.out.trans hk6)
  have hRB : RB ((w6.alloc (.cells #[.int .i64 0, .int .i64 0, .bool false] 26)).alloc (.cells #[.bool true, .bool false, .bool true, .bool true] 4)) (some ⟨w6.heap.size + 1, 0, none⟩) 4 4 b1 := by
    have := RB_new (w6.alloc (.cells #[.int .i64 0, .int .i64 0, .bool false] 26)) b1 (by decide) 4
    simpa [b1] using this
  have HS := Lib.hid (snap_any _ _ 4 4 b1 hRB 1 (by decide))
  have HLf := Lib.hid (left_any _ _ 4 4 b1 hRB 2 (by decide) (by decide))
  have HR := Lib.hid (right_any2 _ _ 4 4 b1 hRB 0 (by decide))
  rw [snap1] at HS
  rw [show (2 : Int) - 1 = 1 from rfl, snap1] at HLf
  rw [right1] at HR
  clear hk6 hc6 hRB
  go_wp2_with (first | (go_at_call 15; refine HS.out.mono ?_; rintro e w' ⟨rfl, rfl⟩) | (go_at_call 17; refine HLf.out.mono ?_; rintro e w' ⟨rfl, rfl⟩) | (go_at_call 19; refine HR.out.mono ?_; rintro e w' ⟨rfl, rfl⟩))
  go_ret
  exact ⟨rfl, (HK6.out.alloc _).alloc _⟩

end Go.Proofs.Ytoddohhhhnahnaa
