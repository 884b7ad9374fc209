/- The law's text: made: a text of the operations, on both. -/
import Derived.Test.YtoddohhhhnahnaaRp
import Derived.Test.YtoddohhhhnahnaaNw
namespace Go.Proofs.Ytoddohhhhnahnaa
open Go.RowKit

/-- A slice of operations that is read. -/
def ROps (w : World) (A : Option Addr) (n : Nat) (l : List Rga.Opn) : Prop :=
  l.length = n ∧ n ≤ 9223372036854775807 ∧ ∀ (j : Nat) (o : Rga.Opn), l[j]? = some o → ∃ g b, A = some ⟨g, b, none⟩ ∧ ∀ (k : Nat) (v : Value), (opL o)[k]? = some v → w.cell? ⟨g, b + j * 7 + k, none⟩ = some v

theorem ROps.keep {w w' : World} {A : Option Addr} {n : Nat} {l : List Rga.Opn} (h : ROps w A n l) (k : Keeps NoB w w') : ROps w' A n l :=
  ⟨h.1, h.2.1, fun j o ho => by
    obtain ⟨g, b, e, hc⟩ := h.2.2 j o ho
    exact ⟨g, b, e, fun i v hv => k.some (hc i v hv)⟩⟩

def opsN (l : List Rga.Opn) (k : Nat) : List Rga.Opn := (l.take k).foldl Rga.put []
theorem opsN_succ {l : List Rga.Opn} {k : Nat} {o : Rga.Opn} (h : l[k]? = some o) : opsN l (k + 1) = Rga.put (opsN l k) o := by
  unfold opsN; rw [take_snoc h, List.foldl_append]; rfl
theorem put_len (ops : List Rga.Opn) (o : Rga.Opn) : (Rga.put ops o).length ≤ ops.length + 1 := by
  unfold Rga.put; split <;> simp
theorem opsN_len (l : List Rga.Opn) : ∀ k : Nat, k ≤ l.length → (opsN l k).length ≤ k
  | 0, _ => by simp [opsN]
  | k + 1, h => by
    obtain ⟨o, ho⟩ : ∃ o, l[k]? = some o := ⟨_, List.getElem?_eq_getElem (by omega)⟩
    rw [opsN_succ ho]
    have := put_len (opsN l k) o
    have := opsN_len l k (by omega)
    omega

def mOps (l : List Rga.Opn) : List Rga.Opn := opsN l (min l.length 30)

/-- Both texts lie there, apart, in blocks from B on. -/
def Both (B : Nat) (w : World) (x y : Nat) (ops : List Rga.Opn) : Prop :=
  ∃ F G, Txt w F x ops ∧ RTx w G y ops ∧ (∀ g, F g → B ≤ g) ∧ (∀ g, G g → B ≤ g) ∧ ∀ g, F g → ¬ G g

theorem RTx.keep {w w' : World} {F G : Nat → Prop} {y : Nat} {ops : List Rga.Opn} (h : RTx w F y ops) (k : Keeps G w w') (hd : ∀ g, F g → ¬ G g) : RTx w' F y ops := by
  obtain ⟨lv, h1, h2, h3, h4, h5, h6, h7⟩ := h
  exact ⟨lv, h1.keep k (hd _ h5), h2.keep k (fun g hg => hd g (h6 g hg)), h3, h4, h5, h6, fun g hg => Nat.lt_of_lt_of_le (h7 g hg) k.size⟩
theorem RTx.old {w : World} {F : Nat → Prop} {y : Nat} {ops : List Rga.Opn} (h : RTx w F y ops) : ∀ g, F g → g < w.heap.size := by obtain ⟨_, _, _, _, _, _, _, h⟩ := h; exact h
theorem Both.keepN {B : Nat} {w w' : World} {x y : Nat} {ops : List Rga.Opn} (h : Both B w x y ops) (k : Keeps NoB w w') : Both B w' x y ops := by
  obtain ⟨F, G, h1, h2, h3, h4, h5⟩ := h
  exact ⟨F, G, h1.keep k (fun _ _ e => e), h2.keep k (fun _ _ e => e), h3, h4, h5⟩

/-- The program's Put between. -/
theorem Both.put1 {B : Nat} {w : World} {x y : Nat} {ops : List Rga.Opn} (h : Both B w x y ops) (hn : ops.length < 1099511627776) (o : Rga.Opn) (hB : B ≤ w.heap.size) :
    Calls Try.prog 24 #[.pointer (some ⟨x, 0, none⟩), .agg #[.int .i64 o.id.ctr, .int .i64 o.id.author, .int .i64 o.seq, .bool o.ins, .int .i64 o.ref.ctr, .int .i64 o.ref.author, .int .i32 o.rune]] w (fun e w' =>
      e = .returned (.tuple #[.bool (Rga.puts ops o).1, .int .i64 (Rga.puts ops o).2]) ∧ (∃ F G, Txt w' F x (Rga.put ops o) ∧ RTx w' G y ops ∧ (∀ g, F g → B ≤ g) ∧ (∀ g, G g → B ≤ g) ∧ ∀ g, F g → ¬ G g) ∧ Keeps (fun g => B ≤ g) w w') := by
  obtain ⟨F, G, h1, h2, h3, h4, h5⟩ := h
  refine (put_any w F x ops h1 hn o).mono ?_
  rintro e w' ⟨rfl, F', hT, hk, hF⟩
  refine ⟨rfl, ⟨F', G, hT, h2.keep hk (fun g hg hf => h5 g hf hg), ?_, h4, ?_⟩, hk.mono (fun g _ hg => h3 g hg)⟩
  · intro g hg
    rcases hF g hg with e | e
    · exact h3 g e
    · omega
  · intro g hg hG
    rcases hF g hg with e | e
    · exact h5 g e hG
    · have := h2.old g hG; omega

/-- The document's Put between. -/
theorem both_put2 {B : Nat} {w : World} {x y : Nat} {ops : List Rga.Opn} {o : Rga.Opn} (hwf : Rga.WF ops) (hn : ops.length < 1099511627776) (hB : B ≤ w.heap.size)
    (h : ∃ F G, Txt w F x (Rga.put ops o) ∧ RTx w G y ops ∧ (∀ g, F g → B ≤ g) ∧ (∀ g, G g → B ≤ g) ∧ ∀ g, F g → ¬ G g) :
    Calls Try.prog 28 #[.pointer (some ⟨y, 0, none⟩), .agg #[.int .i64 o.id.ctr, .int .i64 o.id.author, .int .i64 o.seq, .bool o.ins, .int .i64 o.ref.ctr, .int .i64 o.ref.author, .int .i32 o.rune]] w (fun e w' =>
      e = .returned (.tuple #[.bool (Rga.puts ops o).1, .int .i64 (Rga.puts ops o).2]) ∧ Both B w' x y (Rga.put ops o) ∧ Keeps (fun g => B ≤ g) w w') := by
  obtain ⟨F, G, h1, h2, h3, h4, h5⟩ := h
  refine (rput_any w G y ops h2 hwf hn o).mono ?_
  rintro e w' ⟨rfl, G', hT, hk, hG⟩
  refine ⟨rfl, ⟨F, G', h1.keep hk (fun g hg hf => h5 g hg hf), hT, h3, ?_, ?_⟩, hk.mono (fun g _ hg => h4 g hg)⟩
  · intro g hg
    rcases hG g hg with e | e
    · exact h4 g e
    · omega
  · intro g hg hG'
    rcases hG g hG' with e | e
    · exact h5 g hg e
    · have := h1.old g hg; omega

def MadePost (w : World) (l : List Rga.Opn) (e : Ending) (w' : World) : Prop :=
  ∃ x y, e = .returned (.tuple #[.pointer (some ⟨x, 0, none⟩), .pointer (some ⟨y, 0, none⟩)]) ∧ Both w.heap.size w' x y (mOps l) ∧ Keeps NoB w w'

set_option maxHeartbeats 3200000 in
set_option maxRecDepth 100000 in
theorem made_any (w : World) (A : Option Addr) (n c : Nat) (l : List Rga.Opn) (h : ROps w A n l) : Calls Try.prog 10 #[.slice A n c] w (MadePost w l) := by
  have hl := h.1
  have hn := h.2.1
  have HO := Lib.hid h
  clear h
  go_enter Try.func10, Try.ntmps10
  go_wp2_with fail
  go_at_call 27
  refine (new_any _).mono ?_
  rintro e w1 ⟨F, x, rfl, hT, hk1, hF⟩
  have HB : Hid (Both w.heap.size (w1.alloc (.cells #[.slice none 0 0] 59)) x w1.heap.size []) := Lib.hid (by
    have hk2 : Keeps NoB w1 (w1.alloc (.cells #[.slice none 0 0] 59)) := (Keeps.refl NoB w1).alloc _
    refine ⟨F, fun g => g = w1.heap.size, hT.keep hk2 (fun _ _ e => e), ⟨.slice none 0 0, Cells.new w1 [.slice none 0 0] _, Row.nil _ _ _, fun _ => rfl, fun e => absurd rfl e, rfl, fun g hg => by simp [Value.ownBlock] at hg, ?_⟩, hF, ?_, ?_⟩
    · rintro g rfl; simp
    · rintro g rfl; exact hk1.size
    · rintro g hg rfl; exact Nat.lt_irrefl _ (hT.old _ hg))
  have HK1 := Lib.hid hk1
  clear hT hk1 hF
  go_wp2_with fail
  obtain ⟨w2, hw2⟩ : ∃ w2, w2 = w1.alloc (.cells #[.slice none 0 0] 59) := ⟨_, rfl⟩
  have hk2 : Keeps NoB w w2 := by rw [hw2]; exact HK1.out.alloc _
  have HK2 := Lib.hid hk2
  rw [← hw2] at HB ⊢
  clear hw2 hk2 HK1
  generalize w1.heap.size = y at *
  obtain ⟨M, hM⟩ : ∃ M, M = min l.length 30 := ⟨_, rfl⟩
  have HM := Lib.hid hM
  have hMn : M ≤ n ∧ M ≤ 30 := by omega
  have hMb : n ≤ M ∨ 30 ≤ M := by omega
  clear hM
  go_loopw [6] (fun t6 wr => ∃ k : Nat, k ≤ M ∧ t6 = .int .i64 k ∧ Hid (Both w.heap.size wr x y (opsN l k)) ∧ Hid (Keeps NoB w wr)) (fun t6 _ => M - (intOf t6).toNat)
  case atStart => exact ⟨0, Nat.zero_le _, rfl, HB, HK2⟩
  case round =>
    obtain ⟨k, hk, rfl, HBk, HKk⟩ := hrel
    by_cases hkM : k < M
    · have hkn : k < n := by omega
      have hk30 : k < 30 := by omega
      obtain ⟨o, ho⟩ : ∃ o, l[k]? = some o := ⟨_, List.getElem?_eq_getElem (by omega)⟩
      obtain ⟨g, b, rfl, hc⟩ := HO.out.2.2 k o ho
      have HC := Lib.hid hc
      have hlen := opsN_len l k (by omega)
      have hwf : Rga.WF (opsN l k) := by obtain ⟨F, G, h1, _⟩ := HBk.out; exact h1.wf
      have HW := Lib.hid (And.intro hwf (show (opsN l k).length < 1099511627776 by omega))
      have HOS := Lib.hid (opsN_succ ho)
      have HP := Lib.hid (HBk.out.put1 HW.out.2 o HKk.out.size)
      clear ho hc hlen hwf hMb
      have q0 := HKk.out.some (HC.out 0 _ rfl)
      have q1 := HKk.out.some (HC.out 1 _ rfl)
      have q2 := HKk.out.some (HC.out 2 _ rfl)
      have q3 := HKk.out.some (HC.out 3 _ rfl)
      have q4 := HKk.out.some (HC.out 4 _ rfl)
      have q5 := HKk.out.some (HC.out 5 _ rfl)
      have q6 := HKk.out.some (HC.out 6 _ rfl)
      simp only [Nat.add_zero] at q0
      go_wp2_with fail
      go_at_call 24
      refine HP.out.mono ?_
      rintro e w3 ⟨rfl, hB3, hk3⟩
      have hkw3 : Keeps NoB w w3 := HKk.out.then hk3 (fun i hi => .inr hi)
      have HK3 := Lib.hid hkw3
      have HP3 := Lib.hid (both_put2 HW.out.1 HW.out.2 hkw3.size hB3)
      clear q0 q1 q2 q3 q4 q5 q6 hB3 hk3 hkw3 HP
      have q0 := HK3.out.some (HC.out 0 _ rfl)
      have q1 := HK3.out.some (HC.out 1 _ rfl)
      have q2 := HK3.out.some (HC.out 2 _ rfl)
      have q3 := HK3.out.some (HC.out 3 _ rfl)
      have q4 := HK3.out.some (HC.out 4 _ rfl)
      have q5 := HK3.out.some (HC.out 5 _ rfl)
      have q6 := HK3.out.some (HC.out 6 _ rfl)
      simp only [Nat.add_zero] at q0
      go_wp2_with fail
      go_at_call 28
      refine HP3.out.mono ?_
      rintro e w4 ⟨rfl, hB4, hk4⟩
      have HK4 : Hid (Keeps NoB w w4) := Lib.hid (HK3.out.then hk4 (fun i hi => .inr hi))
      have HB4 := Lib.hid hB4
      clear q0 q1 q2 q3 q4 q5 q6 hB4 hk4 HP3
      go_wp2_with fail
      go_roundw
      case rel => exact ⟨k + 1, by omega, by go_num, Lib.hid (by rw [HOS.out]; exact HB4.out), HK4⟩
      case measure => simp [intOf]; omega
    · obtain rfl : k = M := by omega
      have HE : Hid (Both w.heap.size wr x y (mOps l)) := Lib.hid (by unfold mOps; rw [← HM.out]; exact HBk.out)
      rcases hMb with hMb | hMb
      · have hkn : ¬ k < n := by omega
        clear hMb
        go_wp2_with fail
        go_ret2
        exact ⟨x, y, rfl, HE.out, HKk.out⟩
      · have hk30 : k = 30 := by omega
        clear HM HBk hMb
        subst hk30
        have hn30 : n = 30 ∨ 30 < n := by omega
        rcases hn30 with rfl | hn30
        all_goals
          go_wp2_with fail
          go_ret2
          exact ⟨x, y, rfl, HE.out, HKk.out⟩
end Go.Proofs.Ytoddohhhhnahnaa
