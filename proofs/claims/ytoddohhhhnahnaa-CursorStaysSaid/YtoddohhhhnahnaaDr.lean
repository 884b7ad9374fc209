/- A region that draws its order, in which the last operations (stores) wait for all loads: one walk. 'D': the operations that wait for every load; 'S': what the loads lean on; whatever does not wait must keep S. -/
import Derived.OrdersHeld
import Derived.Tactics
import Derived.Tactics2
import Derived.KernelRfl
import Derived.RegionTactic
import Derived.Deep.RegionHeld
namespace Go.Proofs.Ytoddohhhhnahnaa
open Go

section
variable {P : Program} {ops : Array Oper} {Q : Exit → Act → World → Prop} {D : List Nat} {S : World → Prop}

/-- Whatever order is picked from here on; what does not wait for the loads keeps S. -/
def wpD (P : Program) (ops : Array Oper) (Q : Exit → Act → World → Prop) (D : List Nat) (S : World → Prop) : Nat → Array Bool → Act → World → Prop
  | 0, l, a, w => Region.ready .any ops l = [] ∧ Q .normal a w
  | n + 1, l, a, w => (Region.ready .any ops l = [] → Q .normal a w) ∧
      ∀ j ∈ Region.ready .any ops l, wpOp P ops Q j (fun a' w' => (D.contains j = false → S w → S w') ∧ wpD P ops Q D S n (l.setIfInBounds j true) a' w') a w

theorem wpAny_of_D : ∀ (n : Nat) (l : Array Bool) (a : Act) (w : World), wpD P ops Q D S n l a w → wpAny P .any ops Q n l a w
  | 0, _, _, _, h => h
  | n + 1, _, _, _, h => ⟨h.1, fun j hj => wpOp_mono (fun a' w' h' => wpAny_of_D n _ a' w' h'.2) (h.2 j hj)⟩

/-- Of two operations the one that may come up now does not wait for the other. -/
theorem no_edge {i j : Nat} {oj : Oper} {l : Array Bool} (hoj : ops[j]? = some oj) (hj : j ∈ Region.ready .any ops l) (hi : i ∈ Region.ready .any ops l) :
    ∀ e ∈ oj.after, Region.binds .any e = true → e.on ≠ i := by
  obtain ⟨_, o, ho, hall⟩ := mem_ready.1 hj
  obtain rfl : oj = o := by rw [hoj] at ho; exact Option.some.inj ho
  intro e he hb heq
  have h1 := hall e he hb
  have h0 := (mem_ready.1 hi).1
  rw [heq] at h1
  by_cases hlt : i < l.size
  · simp [hlt] at h0 h1; rw [h0] at h1; cases h1
  · simp [Array.getElem?_eq_none (Nat.le_of_not_lt hlt)] at h1

theorem wpD_end {i : Nat} {l : Array Bool} {a' : Act} {w : World} (_ : i ∈ Region.ready .any ops l) (H : wpD P ops Q D S 0 (l.setIfInBounds i true) a' w) {j : Nat} (hj : j ∈ Region.ready .any ops l) : j = i :=
  Classical.byContradiction fun hne => by
    have h1 := ready_mono hj hne
    rw [H.1] at h1
    cases h1

/-- Operation j waits for i, straight or by others. -/
def waitsT (ops : Array Oper) : Nat → Nat → Nat → Bool
  | 0, _, _ => false
  | n + 1, j, i => match ops[j]? with
    | some o => o.after.any fun e => Region.binds .any e && (e.on == i || waitsT ops n e.on i)
    | none => false

/-- Whatever is listed, what it waits for is listed. -/
def Closed (ops : Array Oper) (l : Array Bool) : Prop :=
  ∀ (k : Nat) (o : Oper), ops[k]? = some o → l.getD k false = true → ∀ e ∈ o.after, Region.binds .any e = true → l.getD e.on false = true

theorem waitsT_listed {l : Array Bool} (hc : Closed ops l) : ∀ (n j i : Nat), (∀ o, ops[j]? = some o → ∀ e ∈ o.after, Region.binds .any e = true → l.getD e.on false = true) → waitsT ops n j i = true → l.getD i false = true
  | 0, _, _, _, h => by simp [waitsT] at h
  | n + 1, j, i, hj, h => by
    unfold waitsT at h
    cases ho : ops[j]? with
    | none => simp [ho] at h
    | some o =>
      simp only [ho] at h
      obtain ⟨e, he, hb⟩ := Array.any_eq_true'.1 h
      simp only [Bool.and_eq_true, Bool.or_eq_true, beq_iff_eq] at hb
      have h1 := hj o ho e he hb.1
      rcases hb.2 with h2 | h2
      · rw [← h2]; exact h1
      · exact waitsT_listed hc n e.on i (fun o' ho' => hc e.on o' ho' h1) h2

theorem Closed.step {l : Array Bool} (hc : Closed ops l) {j : Nat} (hj : j ∈ Region.ready .any ops l) : Closed ops (l.setIfInBounds j true) := by
  intro k o ho hl e he hb
  obtain ⟨_, o2, ho2, hall⟩ := mem_ready.1 hj
  apply getD_set_true
  by_cases hk : j = k
  · subst hk
    rw [ho] at ho2; cases ho2
    exact hall e he hb
  · rw [getD_set_ne false hk] at hl
    exact hc k o ho hl e he hb

/-- A load is taken first. -/
theorem wpD_load {i : Nat} {oi : Oper} {v : Value} (hi : ops[i]? = some oi) (hsel : Region.noSelect ops = true) (hQ : ∀ c a w, Q (.panic c) (a.put oi.dst v) w → Q (.panic c) a w) :
    ∀ (n : Nat) (l : Array Bool) (a : Act) (w : World),
      (∀ j oj, ops[j]? = some oj → j ≠ i → l.getD j true = false → (∀ e ∈ oj.after, Region.binds .any e = true → e.on ≠ i) → oi.apart ops oj = true) →
      (∀ j, j ≠ i → l.getD j true = false → D.contains j = true → ∃ m, waitsT ops m j i = true) → Closed ops l →
      i ∈ Region.ready .any ops l → YieldsIf P ops S oi v a → S w → wpD P ops Q D S n (l.setIfInBounds i true) (a.put oi.dst v) w → wpD P ops Q D S (n + 1) l a w
  | 0, l, a, w, hf, hD, hcl, hr, hy, hS, H => ⟨fun h => (by rw [h] at hr; cases hr), fun j hj => by
      obtain rfl := wpD_end hr H hj
      exact hy.wpOp hi hS ⟨fun _ h => h, H⟩⟩
  | n + 1, l, a, w, hf, hD, hcl, hr, hy, hS, H => ⟨fun h => (by rw [h] at hr; cases hr), fun j hj => by
      by_cases hji : j = i
      · subst hji; exact hy.wpOp hi hS ⟨fun _ h => h, H⟩
      · obtain ⟨hun, oj, hoj, hall⟩ := mem_ready.1 hj
        have hap := hf j oj hoj hji hun (no_edge hoj hj hr)
        have hd : D.contains j = false := by
          cases hc : D.contains j
          · rfl
          · obtain ⟨m, hm⟩ := hD j hji hun hc
            have h1 := waitsT_listed hcl m j i (fun o ho => by rw [hoj] at ho; cases ho; exact hall) hm
            have h0 := (mem_ready.1 hr).1
            by_cases hlt : i < l.size
            · simp [hlt] at h0 h1; rw [h0] at h1; cases h1
            · simp [Array.getElem?_eq_none (Nat.le_of_not_lt hlt)] at h1
        have h2 := wpOp_putIf hoj hap (fun cs b => Region.noSelect_spec hsel i oi cs b hi) (fun cs b => Region.noSelect_spec hsel j oj cs b hoj) hQ hy (H.2 j (ready_mono hj hji))
        refine wpOp_mono (fun a' w' h3 => ⟨h3.2.1, wpD_load hi hsel hQ n _ a' w' (fun k ok hk hki hu hno => hf k ok hk hki ?_ hno) (fun k hki hu hc => hD k hki ?_ hc) (hcl.step hj) (ready_mono hr (Ne.symm hji)) h3.1 (h3.2.1 hd hS) ?_⟩) h2
        · by_cases hjk : j = k
          · subst hjk; exact hun
          · rw [getD_set_ne true hjk] at hu; exact hu
        · by_cases hjk : j = k
          · subst hjk; exact hun
          · rw [getD_set_ne true hjk] at hu; exact hu
        · rw [Array.setIfInBounds_comm _ _ hji]; exact h3.2.2⟩

/-- What yields in whatever world is taken first. -/
theorem wpD_pure {i : Nat} {oi : Oper} {v : Value} (hi : ops[i]? = some oi) (hsel : Region.noSelect ops = true) (hQ : ∀ c a w, Q (.panic c) (a.put oi.dst v) w → Q (.panic c) a w) :
    ∀ (n : Nat) (l : Array Bool) (a : Act) (w : World),
      (∀ j oj, ops[j]? = some oj → j ≠ i → l.getD j true = false → (∀ e ∈ oj.after, Region.binds .any e = true → e.on ≠ i) → oi.apart ops oj = true) →
      i ∈ Region.ready .any ops l → Yields P ops oi v a → wpD P ops Q D S n (l.setIfInBounds i true) (a.put oi.dst v) w → wpD P ops Q D S (n + 1) l a w
  | 0, l, a, w, hf, hr, hy, H => ⟨fun h => (by rw [h] at hr; cases hr), fun j hj => by
      obtain rfl := wpD_end hr H hj
      exact hy.wpOp hi ⟨fun _ h => h, H⟩⟩
  | n + 1, l, a, w, hf, hr, hy, H => ⟨fun h => (by rw [h] at hr; cases hr), fun j hj => by
      by_cases hji : j = i
      · subst hji; exact hy.wpOp hi ⟨fun _ h => h, H⟩
      · obtain ⟨hun, oj, hoj, _⟩ := mem_ready.1 hj
        have h2 := wpOp_put hoj (hf j oj hoj hji hun (no_edge hoj hj hr)) (fun cs b => Region.noSelect_spec hsel i oi cs b hi) (fun cs b => Region.noSelect_spec hsel j oj cs b hoj) hQ hy (H.2 j (ready_mono hj hji))
        refine wpOp_mono (fun a' w' h3 => ⟨h3.2.1, wpD_pure hi hsel hQ n _ a' w' (fun k ok hk hki hu hno => hf k ok hk hki ?_ hno) (ready_mono hr (Ne.symm hji)) h3.1 ?_⟩) h2
        · by_cases hjk : j = k
          · subst hjk; exact hun
          · rw [getD_set_ne true hjk] at hu; exact hu
        · rw [Array.setIfInBounds_comm _ _ hji]; exact h3.2.2⟩

/-- The side condition of a load, as a Bool. -/
def waits (ops : Array Oper) (D : List Nat) (l : Array Bool) (i : Nat) : Bool :=
  ((List.range ops.size).all fun k => !l.getD k false || match ops[k]? with
    | some o => o.after.all fun e => !Region.binds .any e || l.getD e.on false
    | none => true) &&
  D.all fun j => j == i || l.getD j true || waitsT ops 8 j i

theorem wpD_take_load {i : Nat} {oi : Oper} {v : Value} {n : Nat} {l : Array Bool} {a : Act} {w : World} (hi : ops[i]? = some oi) (hs : Region.noSelect ops = true)
    (hf : Region.free .any ops l i = true) (hd : waits ops D l i = true) (hr : (Region.ready .any ops l).contains i = true) (hQ : ∀ c a w, Q (.panic c) (a.put oi.dst v) w → Q (.panic c) a w)
    (hy : YieldsIf P ops S oi v a) (hS : S w) (h : wpD P ops Q D S n (l.setIfInBounds i true) (a.put oi.dst v) w) : wpD P ops Q D S (n + 1) l a w := by
  simp only [waits, Bool.and_eq_true] at hd
  obtain ⟨hd1, hd2⟩ := hd
  refine wpD_load hi hs hQ n l a w (Region.free_spec hi hf) (fun j hji hu hc => ⟨8, ?_⟩) ?_ (by simpa using hr) hy hS h
  · have h1 := List.all_eq_true.1 hd2 j (by simpa using hc)
    simp only [Bool.or_eq_true, beq_iff_eq, hji, false_or, hu, Bool.false_eq_true] at h1
    exact h1
  · intro k o ho hl e he hb
    simp only [List.all_eq_true, List.mem_range] at hd1
    have h1 := hd1 k (Array.getElem?_eq_some_iff.1 ho).1
    simp only [hl, Bool.not_true, Bool.false_or, ho] at h1
    have h2 := Array.all_eq_true_iff_forall_mem.1 h1 e he
    simpa [hb] using h2

theorem wpD_take {i : Nat} {oi : Oper} {v : Value} {n : Nat} {l : Array Bool} {a : Act} {w : World} (hi : ops[i]? = some oi) (hs : Region.noSelect ops = true)
    (hf : Region.free .any ops l i = true) (hr : (Region.ready .any ops l).contains i = true) (hQ : ∀ c a w, Q (.panic c) (a.put oi.dst v) w → Q (.panic c) a w)
    (hy : Yields P ops oi v a) (h : wpD P ops Q D S n (l.setIfInBounds i true) (a.put oi.dst v) w) : wpD P ops Q D S (n + 1) l a w :=
  wpD_pure hi hs hQ n l a w (Region.free_spec hi hf) (by simpa using hr) hy h

/-- The same two, of a region that is written out: the operation is then written out too. -/
theorem wpD_takeL {lo : List Oper} {i : Nat} {oi : Oper} {v : Value} {n : Nat} {l : Array Bool} {a : Act} {w : World} (hi : lo[i]? = some oi) (hs : Region.noSelect lo.toArray = true)
    (hf : Region.free .any lo.toArray l i = true) (hr : (Region.ready .any lo.toArray l).contains i = true) (hQ : ∀ c a w, Q (.panic c) (a.put oi.dst v) w → Q (.panic c) a w)
    (hy : Yields P lo.toArray oi v a) (h : wpD P lo.toArray Q D S n (l.setIfInBounds i true) (a.put oi.dst v) w) : wpD P lo.toArray Q D S (n + 1) l a w :=
  wpD_take (by simpa using hi) hs hf hr hQ hy h

theorem wpD_loadL {lo : List Oper} {i : Nat} {oi : Oper} {v : Value} {n : Nat} {l : Array Bool} {a : Act} {w : World} (hi : lo[i]? = some oi) (hs : Region.noSelect lo.toArray = true)
    (hf : Region.free .any lo.toArray l i = true) (hd : waits lo.toArray D l i = true) (hr : (Region.ready .any lo.toArray l).contains i = true) (hQ : ∀ c a w, Q (.panic c) (a.put oi.dst v) w → Q (.panic c) a w)
    (hy : YieldsIf P lo.toArray S oi v a) (hS : S w) (h : wpD P lo.toArray Q D S n (l.setIfInBounds i true) (a.put oi.dst v) w) : wpD P lo.toArray Q D S (n + 1) l a w :=
  wpD_take_load (by simpa using hi) hs hf hd hr hQ hy hS h

/-- Only one may come up, and it does not wait for the loads: it must keep S. -/
theorem wpD_mid' {i : Nat} {o : Oper} {n : Nat} {l : Array Bool} {a : Act} {w : World} (hr : Region.ready .any ops l = [i]) (ho : ops[i]? = some o)
    (h : ∀ K' : Act → World → Prop, Shut (∀ a' w', (S w → S w') → wpD P ops Q D S n (l.setIfInBounds i true) a' w' → K' a' w') → if Region.wanted o (yielded ops a.tmps) = true then Oper.wp P o a w K' Q else K' (a.put o.dst undef) w) :
    wpD P ops Q D S (n + 1) l a w :=
  ⟨fun h0 => (by rw [hr] at h0; cases h0), fun j hj => by
    rw [hr] at hj
    obtain rfl := List.mem_singleton.1 hj
    exact wpOp_step ho fun K' hK => h K' fun a' w' h1 h2 => hK a' w' ⟨fun _ => h1, h2⟩⟩

theorem wpD_mid {lo : List Oper} {i : Nat} {o : Oper} {n : Nat} {l : Array Bool} {a : Act} {w : World} (hr : Region.ready .any lo.toArray l = [i]) (ho : lo[i]? = some o)
    (h : ∀ K' : Act → World → Prop, Shut (∀ a' w', (S w → S w') → wpD P lo.toArray Q D S n (l.setIfInBounds i true) a' w' → K' a' w') → if Region.wanted o (yielded lo.toArray a.tmps) = true then Oper.wp P o a w K' Q else K' (a.put o.dst undef) w) :
    wpD P lo.toArray Q D S (n + 1) l a w := wpD_mid' hr (by simpa using ho) h

/-- The Bool: from here on one order is left, this one, and all of it waited for the loads. -/
def lineB (ops : Array Oper) (D : List Nat) : List Nat → Array Bool → Bool
  | [], l => (Region.ready .any ops l).isEmpty
  | i :: rest, l => Region.ready .any ops l == [i] && D.contains i && lineB ops D rest (l.setIfInBounds i true)

/-- The rest goes in the order of the text. -/
theorem wpD_line : ∀ (is : List Nat) (os : List Oper) (l : Array Bool) (a : Act) (w : World), lineB ops D is l = true → is.map (fun i => ops[i]?) = os.map some →
    wpList P ops Q os a w → wpD P ops Q D S is.length l a w
  | [], [], l, a, w, hB, _, h => ⟨by simpa [lineB] using hB, h⟩
  | i :: is, o :: os, l, a, w, hB, hm, h => by
    simp only [lineB, Bool.and_eq_true, beq_iff_eq] at hB
    obtain ⟨⟨hr, hd⟩, hB'⟩ := hB
    simp only [List.map_cons, List.cons.injEq] at hm
    refine ⟨fun h0 => (by rw [hr] at h0; cases h0), fun j hj => ?_⟩
    rw [hr] at hj
    obtain rfl := List.mem_singleton.1 hj
    have := h
    unfold wpList at this
    unfold wpOp
    simp only [hm.1]
    split
    · rename_i hw
      rw [if_pos hw] at this
      exact this.imp (Oper.wp_mono fun a' w' h' => ⟨fun h0 => (by rw [hd] at h0; cases h0), wpD_line is os _ a' w' hB' hm.2 h'⟩) id
    · rename_i hw
      rw [if_neg hw] at this
      exact ⟨fun h0 => (by rw [hd] at h0; cases h0), wpD_line is os _ _ w hB' hm.2 this⟩
  | [], _ :: _, _, _, _, _, hm, _ => by cases hm
  | _ :: _, [], _, _, _, _, hm, _ => by cases hm

theorem wpD_tail {l : List Oper} {n : Nat} {li : Array Bool} {a : Act} {w : World} (k : Nat) (is : List Nat) (hB : lineB l.toArray D is li = true) (hn : (List.range' k is.length == is && k + is.length == l.length && is.length == n) = true)
    (h : wpList P l.toArray Q (l.drop k) a w) : wpD P l.toArray Q D S n li a w := by
  simp only [Bool.and_eq_true, beq_iff_eq] at hn
  obtain ⟨⟨h1, h2⟩, h3⟩ := hn
  subst h3
  refine wpD_line is (l.drop k) li a w hB (List.ext_getElem (by simp; omega) fun j hj1 hj2 => ?_) h
  have h4 : is[j]? = some (k + j) := by
    rw [← h1]
    have : j < is.length := by simpa using hj1
    simp [this]
  have h5 : is[j]'(by simpa using hj1) = k + j := (List.getElem?_eq_some_iff.1 h4).2
  have h6 : k + j < l.length := by have : j < is.length := by simpa using hj1
                                   omega
  rw [List.getElem_map, List.getElem_map, h5]
  simp [h6]

theorem wpD_begin {id : Nat} {a : Act} {w : World} {n : Nat} {l : Array Bool} (D : List Nat) (S : World → Prop) (hm : P.follows .mixedOrders = true) (hn : ops.size = n) (hl : Array.replicate ops.size false = l) (hS : S w.drew)
    (h : S w.drew → wpD P ops Q D S n l a w.drew) : (Code.region id ops true).wp P Q a w := by
  subst hn; subst hl
  exact wp_region_any hm (wpAny_of_D _ _ _ _ (h hS))
end
end Go.Proofs.Ytoddohhhhnahnaa
