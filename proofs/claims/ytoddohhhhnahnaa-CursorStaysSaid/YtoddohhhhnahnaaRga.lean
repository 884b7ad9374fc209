/- Plain: a sequence that is put in by several at once: the order of the elements. No condition. -/
namespace Go.Proofs.Ytoddohhhhnahnaa.Rga

structure Id where
  ctr : Int
  author : Int
  deriving DecidableEq

structure Opn where
  id : Id
  seq : Int
  ins : Bool
  ref : Id
  rune : Int
  deriving DecidableEq

structure El where
  id : Id
  rune : Int
  alive : Bool
  deriving DecidableEq

def Id.zero : Id := ⟨0, 0⟩

def less (a b : Id) : Bool := decide (a.ctr < b.ctr) || (decide (a.ctr = b.ctr) && decide (a.author < b.author))

theorem less_iff (a b : Id) : less a b = true ↔ a.ctr < b.ctr ∨ (a.ctr = b.ctr ∧ a.author < b.author) := by
  simp [less]

theorem less_false (a b : Id) : less a b = false ↔ ¬ (a.ctr < b.ctr ∨ (a.ctr = b.ctr ∧ a.author < b.author)) := by
  rw [← less_iff]; simp

theorem less_trans {a b c : Id} (h : less a b = true) (k : less b c = true) : less a c = true := by
  rw [less_iff] at *; omega
theorem less_asymm {a b : Id} (h : less a b = true) : less b a = false := by
  rw [less_iff] at h; rw [less_false]; omega
theorem less_total {a b : Id} (h : a ≠ b) : less a b = true ∨ less b a = true := by
  rw [less_iff, less_iff]
  by_cases e : a.ctr = b.ctr
  · by_cases f : a.author = b.author
    · exact absurd (by cases a; cases b; simp_all) h
    · omega
  · omega
theorem less_of_ctr {a b : Id} (h : a.ctr < b.ctr) : less a b = true := by
  rw [less_iff]; omega

/-- Put x ahead of the first one that is not greater. -/
def insDesc (x : Opn) : List Opn → List Opn
  | [] => [x]
  | y :: r => if less x.id y.id then y :: insDesc x r else x :: y :: r

def insAfter (x : Opn) : List Opn → List Opn
  | [] => []
  | y :: r => if y.id = x.ref then y :: insDesc x r else y :: insAfter x r

def insAll (x : Opn) : List Opn → List Opn
  | [] => []
  | y :: r => if y.id = x.ref then y :: insDesc x (insAll x r) else y :: insAll x r

def behind (ops : List Opn) (ref : Id) : List Opn :=
  ops.foldl (fun out x => if x.ins = true ∧ x.ref = ref then insDesc x out else out) []

def tree (ops : List Opn) : Nat → Id → List Opn
  | 0, _ => []
  | n + 1, r => (behind ops r).flatMap fun c => c :: tree ops n c.id

theorem behind_snoc (ops : List Opn) (x : Opn) (r : Id) :
    behind (ops ++ [x]) r = if x.ins = true ∧ x.ref = r then insDesc x (behind ops r) else behind ops r := by
  simp [behind, List.foldl_append]

theorem mem_insDesc (x y : Opn) (l : List Opn) : y ∈ insDesc x l ↔ y = x ∨ y ∈ l := by
  induction l with
  | nil => simp [insDesc]
  | cons z l ih =>
    simp only [insDesc]
    split
    · simp only [List.mem_cons, ih]
      constructor
      · rintro (h | h | h) <;> simp_all
      · rintro (h | h | h) <;> simp_all
    · simp

/-- What stands behind an element: the ops put in there. -/
theorem mem_behind (ops : List Opn) (r : Id) (y : Opn) : y ∈ behind ops r ↔ y ∈ ops ∧ y.ins = true ∧ y.ref = r := by
  have key : ∀ (l : List Opn) (acc : List Opn), y ∈ l.foldl (fun out x => if x.ins = true ∧ x.ref = r then insDesc x out else out) acc ↔ y ∈ acc ∨ (y ∈ l ∧ y.ins = true ∧ y.ref = r) := by
    intro l
    induction l with
    | nil => intro acc; simp
    | cons x l ih =>
      intro acc
      simp only [List.foldl_cons, ih]
      split
      · rename_i h
        rw [mem_insDesc]
        constructor
        · rintro ((h1 | h1) | h1)
          · subst h1; exact .inr ⟨by simp, h⟩
          · exact .inl h1
          · exact .inr ⟨by simp [h1.1], h1.2⟩
        · rintro (h1 | ⟨h1, h2⟩)
          · exact .inl (.inr h1)
          · rcases List.mem_cons.1 h1 with h1 | h1
            · exact .inl (.inl h1)
            · exact .inr ⟨h1, h2⟩
      · rename_i h
        constructor
        · rintro (h1 | h1)
          · exact .inl h1
          · exact .inr ⟨by simp [h1.1], h1.2⟩
        · rintro (h1 | ⟨h1, h2⟩)
          · exact .inl h1
          · rcases List.mem_cons.1 h1 with h1 | h1
            · subst h1; exact absurd h2 h
            · exact .inr ⟨h1, h2⟩
  simpa [behind] using key ops []

/-- Every op that puts in stands behind one with a lesser counter. -/
def Up (ops : List Opn) : Prop := ∀ y ∈ ops, y.ins = true → y.ref.ctr < y.id.ctr

/-- Of two that put in the IDs are unlike. -/
def Desc (l : List Opn) : Prop := l.Pairwise fun a b => less b.id a.id = true

theorem desc_insDesc {x : Opn} : ∀ {l : List Opn}, Desc l → (∀ y ∈ l, y.id ≠ x.id) → Desc (insDesc x l)
  | [], _, _ => by simp [insDesc, Desc]
  | y :: l, h, hne => by
    unfold Desc at h
    rw [List.pairwise_cons] at h
    simp only [insDesc]
    split
    · rename_i hlt
      unfold Desc
      rw [List.pairwise_cons]
      refine ⟨fun z hz => ?_, desc_insDesc h.2 (fun z hz => hne z (by simp [hz]))⟩
      rcases (mem_insDesc x z l).1 hz with rfl | hz
      · exact hlt
      · exact h.1 z hz
    · rename_i hge
      have hlt : less y.id x.id = true := by
        rcases less_total (hne y (by simp)) with h | h
        · exact h
        · exact absurd h hge
      unfold Desc
      rw [List.pairwise_cons, List.pairwise_cons]
      refine ⟨fun z hz => ?_, h⟩
      rcases List.mem_cons.1 hz with rfl | hz
      · exact hlt
      · exact less_trans (h.1 z hz) hlt

def Uniq (ops : List Opn) : Prop := ops.Pairwise fun a b => a.ins = true → b.ins = true → a.id ≠ b.id

theorem desc_behind (ops : List Opn) (r : Id) (h : Uniq ops) : Desc (behind ops r) := by
  have key : ∀ (k : List Opn) (l : List Opn), l.reverse = k → Uniq l → Desc (behind l r) := by
    intro k
    induction k with
    | nil => intro l hl _; have : l = [] := by simpa using hl
             subst this; simp [behind, Desc]
    | cons x k ih =>
      intro l hl hu
      obtain rfl : l = k.reverse ++ [x] := by rw [← List.reverse_cons, ← hl]; simp
      rw [behind_snoc]
      unfold Uniq at hu
      rw [List.pairwise_append] at hu
      have hd := ih k.reverse (by simp) hu.1
      split
      · rename_i hx
        refine desc_insDesc hd (fun y hy => ?_)
        obtain ⟨h1, h2, h3⟩ := (mem_behind _ _ _).1 hy
        exact hu.2.2 y h1 x (by simp) h2 hx.1
      · exact hd
  exact key _ ops rfl h

theorem tree_ctr {ops : List Opn} (hup : Up ops) : ∀ (n : Nat) (r : Id) (y : Opn), y ∈ tree ops n r → r.ctr < y.id.ctr
  | 0, _, _, h => by simp [tree] at h
  | n + 1, r, y, h => by
    simp only [tree, List.mem_flatMap] at h
    obtain ⟨c, hc, hy⟩ := h
    obtain ⟨h1, h2, h3⟩ := (mem_behind _ _ _).1 hc
    have := hup c h1 h2
    rw [h3] at this
    rcases List.mem_cons.1 hy with rfl | hy
    · exact this
    · have := tree_ctr hup n c.id y hy
      omega

theorem insDesc_append (x : Opn) : ∀ (a b : List Opn), (∀ y, b.head? = some y → less x.id y.id = false) → insDesc x (a ++ b) = insDesc x a ++ b
  | [], b, h => by
    cases b with
    | nil => simp
    | cons y b =>
      have := h y rfl
      simp [insDesc, this]
  | z :: a, b, h => by
    simp only [List.cons_append, insDesc]
    split
    · rw [insDesc_append x a b h]; rfl
    · rfl

theorem insDesc_skip (x : Opn) : ∀ (a b : List Opn), (∀ y ∈ a, less x.id y.id = true) → insDesc x (a ++ b) = a ++ insDesc x b
  | [], b, h => rfl
  | z :: a, b, h => by
    simp only [List.cons_append, insDesc]
    rw [if_pos (h z (by simp)), insDesc_skip x a b (fun y hy => h y (by simp [hy]))]

theorem insDesc_forest (x : Opn) (f f' : Opn → List Opn) (hx : f' x = []) : ∀ (cs : List Opn), Desc cs → (∀ c ∈ cs, c.id ≠ x.id) →
    (∀ c ∈ cs, ∀ e ∈ f c, less c.id e.id = true) → (∀ c ∈ cs, f' c = f c) →
    (insDesc x cs).flatMap (fun c => c :: f' c) = insDesc x (cs.flatMap fun c => c :: f c)
  | [], _, _, _, _ => by simp [insDesc, hx]
  | c :: cs, hd, hne, hf, hff => by
    unfold Desc at hd
    rw [List.pairwise_cons] at hd
    by_cases hlt : less x.id c.id = true
    · have e : insDesc x ((c :: cs).flatMap fun c => c :: f c) = (c :: f c) ++ insDesc x (cs.flatMap fun c => c :: f c) := by
        rw [List.flatMap_cons]
        exact insDesc_skip x _ _ (fun y hy => by
          rcases List.mem_cons.1 hy with rfl | hy
          · exact hlt
          · exact less_trans hlt (hf c (by simp) y hy))
      rw [e]
      simp only [insDesc, hlt, if_true, List.flatMap_cons]
      rw [hff c (by simp), insDesc_forest x f f' hx cs hd.2 (fun d hd => hne d (by simp [hd])) (fun d hd => hf d (by simp [hd])) (fun d hd => hff d (by simp [hd]))]
    · have e : insDesc x ((c :: cs).flatMap fun c => c :: f c) = x :: ((c :: cs).flatMap fun c => c :: f c) := by
        simp [List.flatMap_cons, insDesc, hlt]
      rw [e]
      simp only [insDesc, hlt, if_false, List.flatMap_cons, hx, hff c (by simp), List.cons_append, List.nil_append, List.cons.injEq, List.append_cancel_left_eq, true_and, Bool.false_eq_true]
      have : ∀ (l : List Opn), (∀ d ∈ l, f' d = f d) → l.flatMap (fun c => c :: f' c) = l.flatMap (fun c => c :: f c) := by
        intro l hl
        induction l with
        | nil => rfl
        | cons d l ih => simp only [List.flatMap_cons]; rw [hl d (by simp), ih (fun e he => hl e (by simp [he]))]
      exact this cs (fun d hd => hff d (by simp [hd]))

theorem insAll_none (x : Opn) : ∀ (l : List Opn), (∀ y ∈ l, y.id ≠ x.ref) → insAll x l = l
  | [], _ => rfl
  | y :: l, h => by
    simp only [insAll]
    rw [if_neg (h y (by simp)), insAll_none x l (fun z hz => h z (by simp [hz]))]

theorem insAll_head (x : Opn) (l : List Opn) : (insAll x l).head? = l.head? := by
  cases l with
  | nil => rfl
  | cons y l => simp only [insAll]; split <;> rfl

theorem insAll_append (x : Opn) : ∀ (a b : List Opn), (∀ y, b.head? = some y → less x.id y.id = false) ∨ (∀ y ∈ a, y.id ≠ x.ref) →
    insAll x (a ++ b) = insAll x a ++ insAll x b
  | [], b, _ => rfl
  | y :: a, b, h => by
    simp only [List.cons_append, insAll]
    have ih := insAll_append x a b (h.imp id (fun h z hz => h z (by simp [hz])))
    split
    · rename_i e
      rcases h with h | h
      · rw [ih, insDesc_append x _ _ (fun z hz => h z (by rw [← insAll_head x]; exact hz))]; rfl
      · exact absurd e (h y (by simp))
    · rw [ih]; rfl

theorem insAll_eq_insAfter (x : Opn) : ∀ (l : List Opn), (l.map (·.id)).Nodup → insAll x l = insAfter x l
  | [], _ => rfl
  | y :: l, h => by
    simp only [List.map_cons, List.nodup_cons] at h
    simp only [insAll, insAfter]
    split
    · rename_i e
      rw [insAll_none x l (fun z hz e' => h.1 (by rw [e, ← e']; exact List.mem_map_of_mem hz))]
    · rw [insAll_eq_insAfter x l h.2]

/-- How many have a counter above one. -/
def above (ops : List Opn) (r : Id) : Nat := ops.countP fun y => decide (r.ctr < y.id.ctr)

theorem above_lt {ops : List Opn} {c : Opn} {r : Id} (hc : c ∈ ops) (h : r.ctr < c.id.ctr) : above ops c.id < above ops r := by
  unfold above
  induction ops with
  | nil => simp at hc
  | cons y ops ih =>
    simp only [List.countP_cons]
    have mono : ∀ (l : List Opn), l.countP (fun y => decide (c.id.ctr < y.id.ctr)) ≤ l.countP (fun y => decide (r.ctr < y.id.ctr)) := by
      intro l
      exact List.countP_mono_left (fun z _ hz => by simp at *; omega)
    rcases List.mem_cons.1 hc with rfl | hc
    · have := mono ops
      simp [h]; omega
    · have := ih hc
      split <;> split <;> simp_all <;> omega

/-- What stands in the tree is the same, however much deeper one may go. -/
theorem tree_more {ops : List Opn} (hup : Up ops) : ∀ (n : Nat) (r : Id), above ops r ≤ n → tree ops (n + 1) r = tree ops n r
  | 0, r, h => by
    have : behind ops r = [] := by
      rw [List.eq_nil_iff_forall_not_mem]
      intro c hc
      obtain ⟨h1, h2, h3⟩ := (mem_behind _ _ _).1 hc
      have hr := hup c h1 h2
      rw [h3] at hr
      have := above_lt h1 hr
      omega
    simp [tree, this]
  | n + 1, r, h => by
    rw [tree, tree]
    have : ∀ (l : List Opn), (∀ c ∈ l, c ∈ behind ops r) → l.flatMap (fun c => c :: tree ops (n + 1) c.id) = l.flatMap (fun c => c :: tree ops n c.id) := by
      intro l hl
      induction l with
      | nil => rfl
      | cons c l ih =>
        simp only [List.flatMap_cons]
        obtain ⟨h1, h2, h3⟩ := (mem_behind _ _ _).1 (hl c (by simp))
        have hr := hup c h1 h2
        rw [h3] at hr
        have := above_lt h1 hr
        rw [tree_more hup n c.id (by omega), ih (fun d hd => hl d (by simp [hd]))]
    exact this _ (fun _ h => h)

theorem tree_fuel {ops : List Opn} (hup : Up ops) (n : Nat) (r : Id) (h : above ops r ≤ n) (m : Nat) (hm : n ≤ m) : tree ops m r = tree ops n r := by
  induction m with
  | zero => obtain rfl : n = 0 := by omega
            rfl
  | succ m ih =>
    rcases Nat.lt_or_ge n (m + 1) with h1 | h1
    · rw [tree_more hup m r (by omega), ih (by omega)]
    · obtain rfl : n = m + 1 := by omega
      rfl

theorem above_le (ops : List Opn) (r : Id) : above ops r ≤ ops.length := List.countP_le_length

/-- A deletion leaves the tree alone. -/
theorem tree_del (ops : List Opn) (x : Opn) (hx : x.ins = false) : ∀ (n : Nat) (r : Id), tree (ops ++ [x]) n r = tree ops n r
  | 0, _ => rfl
  | n + 1, r => by
    simp only [tree]
    have : behind (ops ++ [x]) r = behind ops r := by rw [behind_snoc]; simp [hx]
    rw [this]
    congr 1
    funext c
    rw [tree_del ops x hx n]

/-- What an insertion does to the tree. -/
theorem tree_ins {ops : List Opn} {x : Opn} (hx : x.ins = true) (hup : Up (ops ++ [x])) (hu : Uniq (ops ++ [x])) (hnew : ∀ y ∈ ops, y.ins = true → y.ref ≠ x.id) :
    ∀ (n : Nat) (r : Id), above (ops ++ [x]) r ≤ n → tree (ops ++ [x]) n r = if r = x.ref then insDesc x (tree ops n r) else insAll x (tree ops n r) := by
  have hup0 : Up ops := fun y hy => hup y (by simp [hy])
  have hu0 : Uniq ops := (List.pairwise_append.1 hu).1
  have hxr : x.ref.ctr < x.id.ctr := hup x (by simp) hx
  have hleaf : ∀ n, tree (ops ++ [x]) n x.id = [] := by
    intro n
    cases n with
    | zero => rfl
    | succ n =>
      have : behind (ops ++ [x]) x.id = [] := by
        rw [List.eq_nil_iff_forall_not_mem]
        intro c hc
        obtain ⟨h1, h2, h3⟩ := (mem_behind _ _ _).1 hc
        rcases List.mem_append.1 h1 with h1 | h1
        · exact hnew c h1 h2 h3
        · obtain rfl : c = x := by simpa using h1
          rw [h3] at hxr; omega
      simp [tree, this]
  intro n
  induction n with
  | zero =>
    intro r h
    have : ¬ r = x.ref := by
      rintro rfl
      have := above_lt (ops := ops ++ [x]) (c := x) (by simp) hxr
      omega
    rw [if_neg this]; rfl
  | succ n ih =>
    intro r h
    have child : ∀ c ∈ behind ops r, r.ctr < c.id.ctr ∧ above (ops ++ [x]) c.id ≤ n := by
      intro c hc
      obtain ⟨h1, h2, h3⟩ := (mem_behind _ _ _).1 hc
      have hr := hup0 c h1 h2
      rw [h3] at hr
      have := above_lt (ops := ops ++ [x]) (c := c) (by simp [h1]) hr
      exact ⟨hr, by omega⟩
    by_cases hr : r = x.ref
    · subst hr
      rw [if_pos rfl]
      simp only [tree]
      rw [behind_snoc, if_pos ⟨hx, rfl⟩]
      refine insDesc_forest x (fun c => tree ops n c.id) (fun c => tree (ops ++ [x]) n c.id) (hleaf n) _ (desc_behind _ _ hu0) ?_ ?_ ?_
      · intro c hc
        obtain ⟨h1, h2, h3⟩ := (mem_behind _ _ _).1 hc
        exact (List.pairwise_append.1 hu).2.2 c h1 x (by simp) h2 hx
      · intro c hc e he
        exact less_of_ctr (tree_ctr hup0 n c.id e he)
      · intro c hc
        obtain ⟨h1, h2⟩ := child c hc
        show tree (ops ++ [x]) n c.id = tree ops n c.id
        rw [ih c.id h2, if_neg (by rintro e; rw [e] at h1; omega)]
        refine insAll_none x _ (fun y hy e => ?_)
        have := tree_ctr hup0 n c.id y hy
        rw [e] at this; omega
    · rw [if_neg hr]
      simp only [tree]
      rw [behind_snoc, if_neg (by rintro ⟨_, h2⟩; exact hr h2.symm)]
      have hd := desc_behind ops r hu0
      have hch : ∀ c ∈ behind ops r, tree (ops ++ [x]) n c.id = if c.id = x.ref then insDesc x (tree ops n c.id) else insAll x (tree ops n c.id) := fun c hc => ih c.id (child c hc).2
      have key : ∀ (cs : List Opn), Desc cs → (∀ c ∈ cs, tree (ops ++ [x]) n c.id = if c.id = x.ref then insDesc x (tree ops n c.id) else insAll x (tree ops n c.id)) →
          cs.flatMap (fun c => c :: tree (ops ++ [x]) n c.id) = insAll x (cs.flatMap fun c => c :: tree ops n c.id) := by
        intro cs
        induction cs with
        | nil => intro _ _; rfl
        | cons c cs ihc =>
          intro hd hch
          unfold Desc at hd
          rw [List.pairwise_cons] at hd
          rw [List.flatMap_cons, List.flatMap_cons, ihc hd.2 (fun d hd => hch d (by simp [hd]))]
          have hap : insAll x ((c :: tree ops n c.id) ++ cs.flatMap fun c => c :: tree ops n c.id) = insAll x (c :: tree ops n c.id) ++ insAll x (cs.flatMap fun c => c :: tree ops n c.id) := by
            refine insAll_append x _ _ ?_
            by_cases hin : ∃ y ∈ c :: tree ops n c.id, y.id = x.ref
            · left
              obtain ⟨y, hy, e⟩ := hin
              have hc1 : c.id = x.ref ∨ less c.id x.ref = true := by
                rcases List.mem_cons.1 hy with rfl | hy
                · exact .inl e
                · rw [← e]; exact .inr (less_of_ctr (tree_ctr hup0 n c.id y hy))
              intro z hz
              cases cs with
              | nil => simp at hz
              | cons d cs =>
                simp only [List.flatMap_cons, List.cons_append, List.head?_cons, Option.some.injEq] at hz
                subst hz
                have h1 : less d.id c.id = true := hd.1 d (by simp)
                have h2 : less x.ref x.id = true := less_of_ctr hxr
                refine less_asymm (less_trans ?_ h2)
                rcases hc1 with h3 | h3
                · rw [← h3]; exact h1
                · exact less_trans h1 h3
            · right
              exact fun y hy e => hin ⟨y, hy, e⟩
          rw [hap]
          congr 1
          rw [hch c (by simp)]
          simp only [insAll]
          split
          · rename_i e
            rw [insAll_none x (tree ops n c.id) (fun y hy e' => by
              have := tree_ctr hup0 n c.id y hy
              rw [e', ← e] at this; omega)]
          · rfl
      exact key _ hd hch

end Go.Proofs.Ytoddohhhhnahnaa.Rga
