/- Plain: a row of marks in blocks; find, rank, select. No condition. -/
namespace Go.Proofs.Ytoddohhhhnahnaa

/-- How many of some marks are seen. -/
def cnt (l : List Bool) : Nat := l.countP id

/-- What find answers: the block, the place in it, how many are seen ahead. -/
def findF (fin : Bool) : List (List Bool) → Nat → Int → Nat → Nat × Int × Nat
  | [], i, _, s => (i, 0, s)
  | b :: r, i, at_, s => if at_ < b.length ∨ (fin = true ∧ at_ = b.length) then (i, at_, s) else findF fin r (i + 1) (at_ - b.length) (s + cnt b)

theorem cnt_append (a b : List Bool) : cnt (a ++ b) = cnt a + cnt b := by simp [cnt]
theorem cnt_le (a : List Bool) : cnt a ≤ a.length := List.countP_le_length
theorem findF_stop (fin : Bool) (b : List Bool) (r : List (List Bool)) (i : Nat) (a : Int) (s : Nat) (h : a < b.length ∨ (fin = true ∧ a = b.length)) : findF fin (b :: r) i a s = (i, a, s) := by
  simp only [findF]; rw [if_pos h]
theorem findF_on (fin : Bool) (b : List Bool) (r : List (List Bool)) (i : Nat) (a : Int) (s : Nat) (h : ¬ (a < b.length ∨ (fin = true ∧ a = b.length))) : findF fin (b :: r) i a s = findF fin r (i + 1) (a - b.length) (s + cnt b) := by
  simp only [findF]; rw [if_neg h]
theorem findF_spec (fin : Bool) : ∀ (bs : List (List Bool)) (i : Nat) (a : Int) (s : Nat), 0 ≤ a → (a < bs.flatten.length ∨ (fin = true ∧ a = bs.flatten.length ∧ bs ≠ [])) →
    ∃ (j k : Nat) (b : List Bool), findF fin bs i a s = (i + j, (k : Int), s + cnt (bs.take j).flatten) ∧ bs[j]? = some b ∧ a = ((bs.take j).flatten.length : Int) + k ∧ (k < b.length ∨ fin = true ∧ k = b.length)
  | [], i, a, s, h0, h => by
    rcases h with h | ⟨_, _, h⟩
    · simp at h; omega
    · exact absurd rfl h
  | b :: r, i, a, s, h0, h => by
    by_cases hc : a < b.length ∨ (fin = true ∧ a = b.length)
    · obtain ⟨k, rfl⟩ := Int.eq_ofNat_of_zero_le h0
      refine ⟨0, k, b, ?_, by simp, by simp, by rcases hc with hc | ⟨h1, h2⟩; exact .inl (by omega); exact .inr ⟨h1, by omega⟩⟩
      simp only [findF]; rw [if_pos hc]; simp [cnt]
    · have hr : a - b.length < r.flatten.length ∨ (fin = true ∧ a - b.length = r.flatten.length ∧ r ≠ []) := by
        simp only [List.flatten_cons, List.length_append] at h
        rcases h with h | ⟨h1, h2, _⟩
        · left; omega
        · right
          refine ⟨h1, by omega, ?_⟩
          rintro rfl
          exact hc (.inr ⟨h1, by simpa using h2⟩)
      obtain ⟨j, k, b', e1, e2, e3, e4⟩ := findF_spec fin r (i + 1) (a - b.length) (s + cnt b) (by omega) hr
      refine ⟨j + 1, k, b', ?_, by simpa using e2, ?_, e4⟩
      · simp only [findF]; rw [if_neg hc, e1]
        simp only [List.take_succ_cons, List.flatten_cons, cnt_append, Prod.mk.injEq]
        exact ⟨by omega, trivial, by omega⟩
      · simp only [List.take_succ_cons, List.flatten_cons, List.length_append]; omega

/-- Where a place is, in a row of rows: what is ahead, and of the one in which it is. -/
theorem flatten_split {α : Type} : ∀ (bs : List (List α)) (j : Nat) (b : List α), bs[j]? = some b → bs.flatten = (bs.take j).flatten ++ b ++ (bs.drop (j + 1)).flatten
  | [], j, b, h => by simp at h
  | c :: r, 0, b, h => by simp at h; subst h; simp
  | c :: r, j + 1, b, h => by
    have := flatten_split r j b (by simpa using h)
    simp only [List.flatten_cons, List.take_succ_cons, List.drop_succ_cons]
    rw [this]; simp [List.append_assoc]

/-- The place of the k-th one that is seen. -/
def sel : List Bool → Nat → Option Nat
  | [], _ => none
  | true :: _, 0 => some 0
  | true :: r, k + 1 => (sel r k).map (· + 1)
  | false :: r, k => (sel r k).map (· + 1)

theorem sel_append_far : ∀ (a b : List Bool) (k : Nat), cnt a ≤ k → sel (a ++ b) k = (sel b (k - cnt a)).map (· + a.length)
  | [], b, k, _ => by simp [cnt]
  | true :: a, b, 0, h => by simp [cnt] at h
  | true :: a, b, k + 1, h => by
    have h' : cnt a ≤ k := by simp [cnt] at h ⊢; omega
    simp only [List.cons_append, sel]
    rw [sel_append_far a b k h', Option.map_map]
    have e : k + 1 - cnt (true :: a) = k - cnt a := by simp [cnt]
    rw [e]; congr 1
  | false :: a, b, k, h => by
    have h' : cnt a ≤ k := by simpa [cnt] using h
    simp only [List.cons_append, sel]
    rw [sel_append_far a b k h', Option.map_map]
    have e : k - cnt (false :: a) = k - cnt a := by simp [cnt]
    rw [e]; congr 1
theorem sel_append_near : ∀ (a b : List Bool) (k : Nat), k < cnt a → sel (a ++ b) k = sel a k
  | [], b, k, h => by simp [cnt] at h
  | true :: a, b, 0, h => by simp [sel]
  | true :: a, b, k + 1, h => by
    have h' : k < cnt a := by simp [cnt] at h ⊢; omega
    simp only [List.cons_append, sel]; rw [sel_append_near a b k h']
  | false :: a, b, k, h => by
    have h' : k < cnt a := by simpa [cnt] using h
    simp only [List.cons_append, sel]; rw [sel_append_near a b k h']
theorem sel_some : ∀ (a : List Bool) (k : Nat), k < cnt a → ∃ i, sel a k = some i ∧ i < a.length
  | [], k, h => by simp [cnt] at h
  | true :: a, 0, h => ⟨0, by simp [sel], by simp⟩
  | true :: a, k + 1, h => by
    obtain ⟨i, h1, h2⟩ := sel_some a k (by simp [cnt] at h ⊢; omega)
    exact ⟨i + 1, by simp [sel, h1], by simp; omega⟩
  | false :: a, k, h => by
    obtain ⟨i, h1, h2⟩ := sel_some a k (by simpa [cnt] using h)
    exact ⟨i + 1, by simp [sel, h1], by simp; omega⟩
theorem sel_none : ∀ (a : List Bool) (k : Nat), cnt a ≤ k → sel a k = none
  | [], k, h => rfl
  | true :: a, 0, h => by simp [cnt] at h
  | true :: a, k + 1, h => by
    simp only [sel]; rw [sel_none a k (by simp [cnt] at h ⊢; omega)]; rfl
  | false :: a, k, h => by
    simp only [sel]; rw [sel_none a k (by simpa [cnt] using h)]; rfl
theorem sel_at : ∀ (a : List Bool) (k i : Nat), sel a k = some i → a[i]? = some true ∧ cnt (a.take i) = k
  | [], k, i, h => by simp [sel] at h
  | true :: a, 0, i, h => by simp [sel] at h; subst h; simp [cnt]
  | true :: a, k + 1, i, h => by
    simp only [sel, Option.map_eq_some_iff] at h
    obtain ⟨j, h1, rfl⟩ := h
    obtain ⟨h2, h3⟩ := sel_at a k j h1
    exact ⟨by simpa using h2, by simp [cnt] at h3 ⊢; omega⟩
  | false :: a, k, i, h => by
    simp only [sel, Option.map_eq_some_iff] at h
    obtain ⟨j, h1, rfl⟩ := h
    obtain ⟨h2, h3⟩ := sel_at a k j h1
    exact ⟨by simpa using h2, by simpa [cnt] using h3⟩

end Go.Proofs.Ytoddohhhhnahnaa
