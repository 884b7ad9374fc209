/- Words on worlds: what a call may have turned, what a block holds, how a slice reads. No condition. -/
import Derived.WalkKit
import Derived.Lib.Hide
import Derived.WalkLawsBesides
import Derived.WalkSpells
import Derived.Deep.LoopGhost
import Derived.Deep.QuietTactic
import Derived.BigQuiet
import Derived.Laws.CopyOwn
import Derived.Maps.AppendAt
import Derived.StillTailTactics
import Derived.KernelRfl
namespace Go.Proofs.Ytoddohhhhnahnaa
open Go.RowKit

/-- The blocks of F alone may have turned, and new ones may lie there. -/
structure Keeps (F : Nat → Prop) (w w' : World) : Prop where
  os : w'.os = w.os
  tape : w'.tape = w.tape
  output : w'.output = w.output
  size : w.heap.size ≤ w'.heap.size
  block : ∀ k, k < w.heap.size → ¬ F k → w'.heap[k]? = w.heap[k]?

def NoB : Nat → Prop := fun _ => False

theorem Keeps.refl (F : Nat → Prop) (w : World) : Keeps F w w := ⟨rfl, rfl, rfl, Nat.le_refl _, fun _ _ _ => rfl⟩
theorem Keeps.trans {F : Nat → Prop} {a b c : World} (h : Keeps F a b) (k : Keeps F b c) : Keeps F a c :=
  ⟨k.os.trans h.os, k.tape.trans h.tape, k.output.trans h.output, Nat.le_trans h.size k.size,
    fun i hi hf => (k.block i (Nat.lt_of_lt_of_le hi h.size) hf).trans (h.block i hi hf)⟩
theorem Keeps.mono {F G : Nat → Prop} {a b : World} (h : Keeps F a b) (hG : ∀ k, k < a.heap.size → F k → G k) : Keeps G a b :=
  ⟨h.os, h.tape, h.output, h.size, fun i hi hf => h.block i hi fun e => hf (hG i hi e)⟩
/-- Two steps: what the second one turned either may be turned, or was not there at first. -/
theorem Keeps.then {F G : Nat → Prop} {a b c : World} (h : Keeps F a b) (k : Keeps G b c) (hG : ∀ i, G i → F i ∨ a.heap.size ≤ i) : Keeps F a c :=
  ⟨k.os.trans h.os, k.tape.trans h.tape, k.output.trans h.output, Nat.le_trans h.size k.size,
    fun i hi hf => (k.block i (Nat.lt_of_lt_of_le hi h.size) (fun e => by rcases hG i e with h | h; exact hf h; omega)).trans (h.block i hi hf)⟩
theorem Keeps.drew {F : Nat → Prop} {a b : World} (h : Keeps F a b) : Keeps F a b.drew := ⟨h.os, h.tape, h.output, h.size, h.block⟩
theorem Keeps.drewN {F : Nat → Prop} {a b : World} (h : Keeps F a b) (n : Nat) : Keeps F a (b.drewN n) := ⟨h.os, h.tape, h.output, h.size, h.block⟩
theorem Keeps.alloc {F : Nat → Prop} {a b : World} (h : Keeps F a b) (o : Obj) : Keeps F a (b.alloc o) :=
  h.trans ⟨rfl, rfl, rfl, by simp, fun k hk _ => Below.heap_alloc _ _ _ hk⟩
theorem Keeps.setCell {F : Nat → Prop} {a b : World} (h : Keeps F a b) {p : Addr} (hp : F p.block ∨ a.heap.size ≤ p.block) (u : Value) : Keeps F a (b.setCell p u) :=
  h.then (G := fun k => k = p.block) ⟨rfl, rfl, rfl, by simp [World.setCell], fun k _ hk => Below.heap_setCell _ _ _ _ hk⟩ (fun i e => e ▸ hp)
theorem Keeps.grown {F : Nat → Prop} {a b c : World} {row : Option Nat} (h : Keeps F a b) (hg : b.grownBy c row) (hr : ∀ k, row = some k → F k ∨ a.heap.size ≤ k) : Keeps F a c :=
  h.then (G := fun k => row = some k) ⟨hg.os, hg.tape, hg.output, hg.size, fun k hk hf => hg.block k hk (fun e => hf e.symm)⟩ hr
theorem Keeps.of_below {F : Nat → Prop} {a b : World} (h : Below a.heap.size a b) : Keeps F a b := ⟨h.os, h.tape, h.output, h.size, fun k hk _ => h.block k hk⟩
theorem Keeps.below {F : Nat → Prop} {a b : World} (h : Keeps F a b) (hF : ∀ k, k < a.heap.size → ¬ F k) : Below a.heap.size a b :=
  ⟨h.os, h.tape, h.output, h.size, fun k hk => h.block k hk (hF k hk)⟩
theorem Keeps.grownBy {a b : World} (h : Keeps NoB a b) (row : Option Nat) : a.grownBy b row := ⟨h.os, h.tape, h.output, h.size, fun k hk _ => h.block k hk (fun e => e)⟩
theorem Keeps.cell {F : Nat → Prop} {a b : World} (h : Keeps F a b) {g o : Nat} (hg : g < a.heap.size) (hf : ¬ F g) : b.cell? ⟨g, o, none⟩ = a.cell? ⟨g, o, none⟩ :=
  World.cell?_of_block (w := a) (h.block g hg hf)
theorem Keeps.frozen {F : Nat → Prop} {a b : World} (h : Keeps F a b) {g o : Nat} (hg : g < a.heap.size) (hf : ¬ F g) : b.frozen? ⟨g, o, none⟩ = a.frozen? ⟨g, o, none⟩ :=
  World.frozen?_of_block (w := a) (h.block g hg hf)

theorem addr_add (g o j : Nat) : (⟨g, o, none⟩ : Addr).add j = ⟨g, o + j, none⟩ := by unfold Addr.add; split <;> simp_all
theorem addr_add0 (g j : Nat) : (⟨g, 0, none⟩ : Addr).add j = ⟨g, j, none⟩ := by rw [addr_add, Nat.zero_add]

/-- Block b holds just these cells. -/
def Cells (w : World) (b : Nat) (t : TypeId) (cs : List Value) : Prop := w.heap[b]? = some (.cells cs.toArray t (0, 0))
theorem Cells.lt {w : World} {b : Nat} {t : TypeId} {cs : List Value} (h : Cells w b t cs) : b < w.heap.size := (Array.getElem?_eq_some_iff.1 h).1
theorem Cells.cell {w : World} {b : Nat} {t : TypeId} {cs : List Value} (h : Cells w b t cs) (i : Nat) : w.cell? ⟨b, i, none⟩ = cs[i]? := by
  unfold Cells at h; simp [World.cell?, h]
theorem Cells.frozen {w : World} {b : Nat} {t : TypeId} {cs : List Value} (h : Cells w b t cs) (i : Nat) : w.frozen? ⟨b, i, none⟩ = false := by
  unfold Cells at h; simp [World.frozen?, h]
theorem Cells.kept {w w' : World} {b : Nat} {t : TypeId} {cs : List Value} (h : Cells w b t cs) (e : w'.heap[b]? = w.heap[b]?) : Cells w' b t cs := e.trans h
theorem Cells.keep {F : Nat → Prop} {w w' : World} {b : Nat} {t : TypeId} {cs : List Value} (h : Cells w b t cs) (k : Keeps F w w') (hf : ¬ F b) : Cells w' b t cs := h.kept (k.block b h.lt hf)
theorem Cells.alloc {w : World} {b : Nat} {t : TypeId} {cs : List Value} (h : Cells w b t cs) (o : Obj) : Cells (w.alloc o) b t cs := h.kept (Below.heap_alloc _ _ _ h.lt)
theorem Cells.drew {w : World} {b : Nat} {t : TypeId} {cs : List Value} (h : Cells w b t cs) : Cells w.drew b t cs := h
theorem Cells.drewN {w : World} {b : Nat} {t : TypeId} {cs : List Value} (h : Cells w b t cs) (n : Nat) : Cells (w.drewN n) b t cs := h
theorem Cells.set {w : World} {b : Nat} {t : TypeId} {cs : List Value} (h : Cells w b t cs) (i : Nat) (v : Value) : Cells (w.setCell ⟨b, i, none⟩ v) b t (cs.set i v) := by
  unfold Cells at *
  simp [World.setCell, Array.getElem?_modify, h, List.setIfInBounds_toArray]
theorem Cells.other {w : World} {b : Nat} {t : TypeId} {cs : List Value} (h : Cells w b t cs) {a : Addr} (ha : b ≠ a.block) (v : Value) : Cells (w.setCell a v) b t cs := h.kept (Below.heap_setCell _ _ _ _ ha)
theorem Cells.new (w : World) (cs : List Value) (t : TypeId) : Cells (w.alloc (.cells cs.toArray t)) w.heap.size t cs := heap_alloc_new w _
/-- Blocks of two types are two. -/
theorem Cells.ne {w : World} {b b' : Nat} {t t' : TypeId} {cs cs' : List Value} (h : Cells w b t cs) (h' : Cells w b' t' cs') (hne : t ≠ t') : b ≠ b' := by
  rintro rfl
  unfold Cells at h h'
  rw [h] at h'
  injection h' with h'
  injection h' with _ ht
  exact hne ht
/-- A slice at the head of a row of its type, or nil: it has n elements of size cells each; these are xs. -/
def Row (w : World) (e : TypeId) (size : Nat) (v : Value) (n : Nat) (xs : List Value) : Prop :=
  xs.length = n * size ∧ ((v = .slice none 0 0 ∧ n = 0) ∨
    ∃ g cap cur, v = .slice (some ⟨g, 0, none⟩) n cap ∧ w.heap[g]? = some (.cells (cur : List Value).toArray e (0, 0)) ∧ n ≤ cap ∧ cap ≤ maxLen ∧ cap * size ≤ cur.length ∧ cur.take (n * size) = xs)
theorem Row.nil (w : World) (e : TypeId) (size : Nat) : Row w e size (.slice none 0 0) 0 [] := ⟨by simp, .inl ⟨rfl, rfl⟩⟩
theorem Row.of_own {w : World} {base : Nat} {e : TypeId} {size n : Nat} {v : Value} {xs : List Value} (h : w.ownsRow base e size v n xs) : Row w e size v n xs := by
  refine ⟨h.1, ?_⟩
  rcases h.2 with h | ⟨g, cap, cur, rfl, _, hg, h1, h2, h3, h4⟩
  · exact .inl h
  · exact .inr ⟨g, cap, cur.toList, rfl, by simpa using hg, h1, h2, by simp [h3], h4⟩
theorem Cells.ne_row {w : World} {b : Nat} {t e : TypeId} {size n : Nat} {v : Value} {cs xs : List Value} (h : Cells w b t cs) (h' : Row w e size v n xs) (hne : t ≠ e) : v.ownBlock ≠ some b := by
  rcases h'.2 with ⟨rfl, _⟩ | ⟨g, cap, cur, rfl, hh, _⟩
  · simp [Value.ownBlock]
  · intro e; simp [Value.ownBlock] at e
    subst e
    unfold Cells at h
    rw [h] at hh
    injection hh with hh
    injection hh with _ ht
    exact hne ht
theorem Row.ne_row {w : World} {t e : TypeId} {size n size' n' : Nat} {v v' : Value} {xs xs' : List Value} (h : Row w t size v n xs) (h' : Row w e size' v' n' xs') (hne : t ≠ e) (g : Nat) (hg : v.ownBlock = some g) : v'.ownBlock ≠ some g := by
  rcases h.2 with ⟨rfl, _⟩ | ⟨g1, cap, cur, rfl, hh, _⟩
  · simp [Value.ownBlock] at hg
  · simp [Value.ownBlock] at hg
    subst hg
    rcases h'.2 with ⟨rfl, _⟩ | ⟨g2, cap2, cur2, rfl, hh2, _⟩
    · simp [Value.ownBlock]
    · intro e; simp [Value.ownBlock] at e
      subst e
      rw [hh] at hh2
      injection hh2 with hh2
      injection hh2 with _ ht
      exact hne ht
theorem Row.lt {w : World} {e : TypeId} {size n : Nat} {v : Value} {xs : List Value} (h : Row w e size v n xs) (g : Nat) (hg : v.ownBlock = some g) : g < w.heap.size := by
  rcases h.2 with ⟨rfl, _⟩ | ⟨g', cap, cur, rfl, hh, _⟩
  · simp [Value.ownBlock] at hg
  · simp [Value.ownBlock] at hg
    subst hg
    exact (Array.getElem?_eq_some_iff.1 hh).1
theorem Row.kept {w w' : World} {e : TypeId} {size n : Nat} {v : Value} {xs : List Value} (h : Row w e size v n xs) (hk : ∀ g, v.ownBlock = some g → w'.heap[g]? = w.heap[g]?) : Row w' e size v n xs := by
  refine ⟨h.1, ?_⟩
  rcases h.2 with hn | ⟨g, cap, cur, rfl, hgg, rest⟩
  · exact .inl hn
  · exact .inr ⟨g, cap, cur, rfl, (hk g rfl).trans hgg, rest⟩
theorem Row.keep {F : Nat → Prop} {w w' : World} {e : TypeId} {size n : Nat} {v : Value} {xs : List Value} (h : Row w e size v n xs) (k : Keeps F w w') (hf : ∀ g, v.ownBlock = some g → ¬ F g) : Row w' e size v n xs :=
  h.kept fun g hg => k.block g (h.lt g hg) (hf g hg)
theorem Row.alloc {w : World} {e : TypeId} {size n : Nat} {v : Value} {xs : List Value} (h : Row w e size v n xs) (o : Obj) : Row (w.alloc o) e size v n xs := h.kept fun g hg => Below.heap_alloc _ _ _ (h.lt g hg)
theorem Row.drew {w : World} {e : TypeId} {size n : Nat} {v : Value} {xs : List Value} (h : Row w e size v n xs) : Row w.drew e size v n xs := h
theorem Row.drewN {w : World} {e : TypeId} {size n : Nat} {v : Value} {xs : List Value} (h : Row w e size v n xs) (m : Nat) : Row (w.drewN m) e size v n xs := h
theorem Row.form {w : World} {e : TypeId} {size n : Nat} {v : Value} {xs : List Value} (h : Row w e size v n xs) :
    (v = .slice none 0 0 ∧ n = 0 ∧ xs = []) ∨ ∃ g cap, v = .slice (some ⟨g, 0, none⟩) n cap ∧ g < w.heap.size ∧ n ≤ cap ∧ cap ≤ maxLen ∧ (∀ j, j < n * size → w.cell? ⟨g, j, none⟩ = xs[j]?) ∧ (∀ j, w.frozen? ⟨g, j, none⟩ = false) := by
  rcases h.2 with ⟨h1, h2⟩ | ⟨g, cap, cur, rfl, hgg, h1, h2, h3, h4⟩
  · refine .inl ⟨h1, h2, List.eq_nil_of_length_eq_zero ?_⟩
    rw [h.1, h2]; simp
  · refine .inr ⟨g, cap, rfl, (Array.getElem?_eq_some_iff.1 hgg).1, h1, h2, ?_, fun j => frozen_of_row w g j _ _ hgg⟩
    intro j hj
    rw [cell_of_row w g j _ _ (0, 0) hgg, ← h4, List.getElem?_take, if_pos hj]
    simp
theorem Row.slice {w : World} {e : TypeId} {size n : Nat} {v : Value} {xs : List Value} (h : Row w e size v n xs) : ∃ A c, v = .slice A n c := by
  rcases h.form with ⟨rfl, rfl, _⟩ | ⟨g, cap, rfl, _⟩
  · exact ⟨_, _, rfl⟩
  · exact ⟨_, _, rfl⟩
theorem Row.small {w : World} {e : TypeId} {size n : Nat} {v : Value} {xs : List Value} (h : Row w e size v n xs) : n ≤ 9223372036854775807 := by
  rcases h.form with ⟨_, e, _⟩ | ⟨g, cap, _, _, e1, e2, _⟩
  · omega
  · simp only [maxLen] at e2; omega
/-- The whole row. -/
theorem Row.row {w : World} {e : TypeId} {size n : Nat} {v : Value} {xs : List Value} (h : Row w e size v n xs) (hn : 0 < n) :
    ∃ g cap cur, v = .slice (some ⟨g, 0, none⟩) n cap ∧ w.heap[g]? = some (.cells (cur : List Value).toArray e (0, 0)) ∧ n ≤ cap ∧ cap ≤ maxLen ∧ cap * size ≤ cur.length ∧ cur.take (n * size) = xs := by
  rcases h.2 with ⟨_, h2⟩ | h
  · omega
  · exact h
theorem Row.mk {w : World} {e : TypeId} {size n g cap : Nat} {cur : List Value} (hg : w.heap[g]? = some (.cells cur.toArray e (0, 0))) (h1 : n ≤ cap) (h2 : cap ≤ maxLen) (h3 : cap * size ≤ cur.length) :
    Row w e size (.slice (some ⟨g, 0, none⟩) n cap) n (cur.take (n * size)) :=
  ⟨by rw [List.length_take]; exact Nat.min_eq_left (Nat.le_trans (Nat.mul_le_mul_right _ h1) h3), .inr ⟨g, cap, cur, rfl, hg, h1, h2, h3, rfl⟩⟩
theorem Row.set {w : World} {e : TypeId} {size n g cap : Nat} {xs : List Value} (h : Row w e size (.slice (some ⟨g, 0, none⟩) n cap) n xs) (k : Nat) (v : Value) :
    Row (w.setCell ⟨g, k, none⟩ v) e size (.slice (some ⟨g, 0, none⟩) n cap) n (xs.set k v) := by
  rcases h.2 with ⟨h', _⟩ | ⟨g', cap', cur, h', hg, h1, h2, h3, h4⟩
  · cases h'
  · simp only [Value.slice.injEq, Option.some.injEq, Addr.mk.injEq, and_true, true_and] at h'
    obtain ⟨rfl, rfl⟩ := h'
    refine ⟨by simpa using h.1, .inr ⟨g, cap, cur.set k v, rfl, ?_, h1, h2, by simpa using h3, by rw [← h4, List.take_set]⟩⟩
    have := heap_setCell_same w g k cur.toArray e v hg
    simpa [List.setIfInBounds_toArray] using this

/-- A slice of cells that is read: it has n elements of size cells each; these are xs. -/
def Reads (w : World) (size : Nat) (A : Option Addr) (n : Nat) (xs : List Value) : Prop :=
  xs.length = n * size ∧ n ≤ 140737488355328 ∧ (0 < n → ∃ g o, A = some ⟨g, o, none⟩ ∧ g < w.heap.size ∧ ∀ j, j < n * size → w.cell? ⟨g, o + j, none⟩ = xs[j]?)
theorem Reads.nil (w : World) (size : Nat) (A : Option Addr) : Reads w size A 0 [] := ⟨by simp, by omega, fun h => absurd h (by omega)⟩
theorem Reads.keep {F : Nat → Prop} {w w' : World} {size : Nat} {A : Option Addr} {n : Nat} {xs : List Value} (h : Reads w size A n xs) (k : Keeps F w w') (hf : ∀ a, A = some a → 0 < n → ¬ F a.block) : Reads w' size A n xs := by
  refine ⟨h.1, h.2.1, fun hn => ?_⟩
  obtain ⟨g, o, rfl, hg, hc⟩ := h.2.2 hn
  refine ⟨g, o, rfl, Nat.lt_of_lt_of_le hg k.size, fun j hj => ?_⟩
  rw [k.cell hg (hf _ rfl hn)]
  exact hc j hj

/-- For go_quiet: callees that leave the world alone, and such as draw. -/
theorem qsame {P : Program} {f : FuncId} {args : Array Value} {w : World} {n : Nat} {v : Value}
    (h : Calls P f args (w.drewN n) fun e w' => e = .returned v ∧ w.drewN n = w') : Calls P f args (w.drewN n) fun e w'' => e = .returned v ∧ ∃ m, w'' = w.drewN m :=
  h.mono fun _ _ ⟨he, hm⟩ => ⟨he, n, hm.symm⟩
theorem qdrew {P : Program} {f : FuncId} {args : Array Value} {w : World} {n : Nat} {v : Value}
    (h : Calls P f args (w.drewN n) fun e w' => ∃ m, w' = (w.drewN n).drewN m ∧ e = .returned v) : Calls P f args (w.drewN n) fun e w'' => e = .returned v ∧ ∃ m, w'' = w.drewN m :=
  h.mono fun _ _ ⟨m, hm, he⟩ => ⟨he, n + m, by rw [hm, World.drewN_drewN]⟩

theorem qsame' {P : Program} {f : FuncId} {args : Array Value} {w : World} {a n : Nat} {v : Value}
    (h : Calls P f args (w.drewN (a + n)) fun e w' => e = .returned v ∧ w.drewN (a + n) = w') :
    Calls P f args (w.drewN (a + n)) fun e w'' => e = .returned v ∧ ∃ m, w'' = w.drewN (a + m) :=
  h.mono fun _ _ ⟨he, hm⟩ => ⟨he, n, hm.symm⟩
theorem qdrew' {P : Program} {f : FuncId} {args : Array Value} {w : World} {a n : Nat} {v : Value}
    (h : Calls P f args (w.drewN (a + n)) fun e w' => ∃ m, w' = (w.drewN (a + n)).drewN m ∧ e = .returned v) :
    Calls P f args (w.drewN (a + n)) fun e w'' => e = .returned v ∧ ∃ m, w'' = w.drewN (a + m) :=
  h.mono fun _ _ ⟨m, hm, he⟩ => ⟨he, n + m, by rw [hm, World.drewN_drewN, Nat.add_assoc]⟩

end Go.Proofs.Ytoddohhhhnahnaa
