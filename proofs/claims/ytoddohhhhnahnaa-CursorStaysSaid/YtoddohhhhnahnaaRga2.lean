/- Plain: what a sequence of operations means. No condition. -/
import Derived.Test.YtoddohhhhnahnaaRga
namespace Go.Proofs.Ytoddohhhhnahnaa.Rga

def idOk (x : Id) : Bool := decide (1 ≤ x.ctr ∧ x.ctr ≤ 4294967295 ∧ 0 ≤ x.author ∧ x.author < 4194304)
def charOk (c : Int) : Bool := decide (0 ≤ c ∧ c ≤ 1114111 ∧ (c < 55296 ∨ 57344 ≤ c))
def right (o : Opn) : Bool :=
  idOk o.id && decide (1 ≤ o.seq ∧ o.seq ≤ 4294967295) && decide (o.ref.ctr < o.id.ctr) &&
    (if o.ins then (idOk o.ref || decide (o.ref = Id.zero)) && charOk o.rune else idOk o.ref && decide (o.rune = 0))

/-- Of an author the last Seq and its counter. -/
def known (ops : List Opn) (a : Int) : Int × Int :=
  ops.foldl (fun k o => if o.id.author = a ∧ k.1 < o.seq then (o.seq, o.id.ctr) else k) (0, 0)

def has (ops : List Opn) (i : Id) : Bool := ops.any fun o => o.ins && decide (o.id = i)
def killed (ops : List Opn) (i : Id) : Bool := ops.any fun o => !o.ins && decide (o.ref = i)
def alive (ops : List Opn) (i : Id) : Bool := !killed ops i && has ops i

/-- What Put answers (N1): whether it is taken, and the error. -/
def puts (ops : List Opn) (o : Opn) : Bool × Int :=
  if right o = false then (false, 1)
  else if o.seq ≤ (known ops o.id.author).1 then (false, 0)
  else if (known ops o.id.author).1 ≠ o.seq - 1 ∨ (has ops o.ref = false ∧ o.ref ≠ Id.zero) then (false, 6)
  else if o.id.ctr ≤ (known ops o.id.author).2 then (false, 1)
  else (true, 0)

def put (ops : List Opn) (o : Opn) : List Opn := if (puts ops o).1 then ops ++ [o] else ops

theorem known_snoc (ops : List Opn) (o : Opn) (a : Int) :
    known (ops ++ [o]) a = if o.id.author = a ∧ (known ops a).1 < o.seq then (o.seq, o.id.ctr) else known ops a := by
  unfold known; rw [List.foldl_append, List.foldl_cons, List.foldl_nil]

theorem has_snoc (ops : List Opn) (o : Opn) (i : Id) : has (ops ++ [o]) i = (has ops i || (o.ins && decide (o.id = i))) := by
  simp [has, List.any_append]
theorem killed_snoc (ops : List Opn) (o : Opn) (i : Id) : killed (ops ++ [o]) i = (killed ops i || (!o.ins && decide (o.ref = i))) := by
  simp [killed, List.any_append]
theorem has_iff (ops : List Opn) (i : Id) : has ops i = true ↔ ∃ o ∈ ops, o.ins = true ∧ o.id = i := by
  simp [has]
theorem killed_iff (ops : List Opn) (i : Id) : killed ops i = true ↔ ∃ o ∈ ops, o.ins = false ∧ o.ref = i := by
  simp [killed]

theorem right_id {o : Opn} (h : right o = true) : idOk o.id = true := by simp [right] at h; exact h.1.1.1
theorem right_seq {o : Opn} (h : right o = true) : 1 ≤ o.seq ∧ o.seq ≤ 4294967295 := by simp [right] at h; exact h.1.1.2
theorem right_ref {o : Opn} (h : right o = true) : o.ref.ctr < o.id.ctr := by simp [right] at h; exact h.1.2
theorem idOk_iff (x : Id) : idOk x = true ↔ (1 ≤ x.ctr ∧ x.ctr ≤ 4294967295 ∧ 0 ≤ x.author ∧ x.author < 4194304) := by simp [idOk]
theorem right_refOk {o : Opn} (h : right o = true) : idOk o.ref = true ∨ (o.ins = true ∧ o.ref = Id.zero) := by
  simp [right] at h
  have := h.2
  split at this <;> simp_all
theorem right_del {o : Opn} (h : right o = true) (hi : o.ins = false) : idOk o.ref = true := by
  simp [right, hi] at h; exact h.2.1

structure WF (ops : List Opn) : Prop where
  right : ∀ o ∈ ops, right o = true
  refs : ∀ o ∈ ops, o.ref = Id.zero ∨ has ops o.ref = true
  uniq : ops.Pairwise fun a b => a.id ≠ b.id
  seqs : ∀ o ∈ ops, o.seq ≤ (known ops o.id.author).1 ∧ o.id.ctr ≤ (known ops o.id.author).2
  low : ∀ a, 0 ≤ (known ops a).1 ∧ 0 ≤ (known ops a).2
  kept : ∀ a, (known ops a = (0, 0) ∧ ∀ o ∈ ops, o.id.author ≠ a) ∨ ∃ o ∈ ops, o.id.author = a ∧ known ops a = (o.seq, o.id.ctr)

theorem WF.nil : WF [] := ⟨by simp, by simp, by simp, by simp, by simp [known], by simp [known]⟩

/-- What it means that one is taken. -/
theorem puts_true {ops : List Opn} {o : Opn} (h : (puts ops o).1 = true) :
    Rga.right o = true ∧ (known ops o.id.author).1 = o.seq - 1 ∧ (has ops o.ref = true ∨ o.ref = Id.zero) ∧ (known ops o.id.author).2 < o.id.ctr := by
  unfold puts at h
  split at h
  · simp at h
  · rename_i h1
    split at h
    · simp at h
    · rename_i h2
      split at h
      · simp at h
      · rename_i h3
        split at h
        · simp at h
        · rename_i h4
          refine ⟨by simpa using h1, ?_, ?_, by omega⟩
          · exact Decidable.byContradiction fun e => h3 (.inl e)
          · rcases Decidable.em (o.ref = Id.zero) with e | e
            · exact .inr e
            · left
              rcases hh : has ops o.ref with _ | _
              · exact absurd (.inr ⟨hh, e⟩) h3
              · rfl

theorem WF.fresh {ops : List Opn} (h : WF ops) {o : Opn} (ho : (puts ops o).1 = true) : ∀ y ∈ ops, y.id ≠ o.id := by
  intro y hy e
  have h1 := (h.seqs y hy).2
  rw [e] at h1
  have := (puts_true ho).2.2.2
  omega

theorem WF.snoc {ops : List Opn} (h : WF ops) {o : Opn} (ho : (puts ops o).1 = true) : WF (ops ++ [o]) := by
  obtain ⟨h1, h2, h3, h4⟩ := puts_true ho
  have hk : ∀ a, known (ops ++ [o]) a = if o.id.author = a then (o.seq, o.id.ctr) else known ops a := by
    intro a
    rw [known_snoc]
    by_cases e : o.id.author = a
    · subst e
      rw [if_pos ⟨rfl, by omega⟩, if_pos rfl]
    · rw [if_neg (fun c => e c.1), if_neg e]
  refine ⟨?_, ?_, ?_, ?_, ?_, ?_⟩
  · intro y hy
    rcases List.mem_append.1 hy with hy | hy
    · exact h.right y hy
    · obtain rfl : y = o := by simpa using hy
      exact h1
  · intro y hy
    rw [has_snoc]
    rcases List.mem_append.1 hy with hy | hy
    · rcases h.refs y hy with e | e
      · exact .inl e
      · exact .inr (by simp [e])
    · obtain rfl : y = o := by simpa using hy
      rcases h3 with e | e
      · exact .inr (by simp [e])
      · exact .inl e
  · rw [List.pairwise_append]
    refine ⟨h.uniq, by simp, fun a ha b hb => ?_⟩
    obtain rfl : b = o := by simpa using hb
    exact h.fresh ho a ha
  · intro y hy
    rw [hk]
    rcases List.mem_append.1 hy with hy | hy
    · have := h.seqs y hy
      split
      · rename_i e
        rw [e] at h2 h4
        simp only; omega
      · exact this
    · obtain rfl : y = o := by simpa using hy
      simp
  · intro a
    rw [hk]
    have := h.low a
    have hs := right_seq h1
    have hc := (idOk_iff _).1 (right_id h1)
    split
    · simp only; omega
    · exact this
  · intro a
    rw [hk]
    by_cases e : o.id.author = a
    · right
      exact ⟨o, by simp, e, by rw [if_pos e]⟩
    · rw [if_neg e]
      rcases h.kept a with ⟨k1, k2⟩ | ⟨y, k1, k2, k3⟩
      · left
        refine ⟨k1, fun y hy => ?_⟩
        rcases List.mem_append.1 hy with hy | hy
        · exact k2 y hy
        · obtain rfl : y = o := by simpa using hy
          exact e
      · exact .inr ⟨y, by simp [k1], k2, k3⟩

theorem WF.put {ops : List Opn} (h : WF ops) (o : Opn) : WF (put ops o) := by
  unfold Rga.put
  split
  · exact h.snoc (by assumption)
  · exact h

theorem WF.up {ops : List Opn} (h : WF ops) : Up ops := fun y hy _ => right_ref (h.right y hy)
theorem WF.uniq' {ops : List Opn} (h : WF ops) : Uniq ops := h.uniq.imp fun e _ _ => e

/-- All elements, in order: the operations that put them in. -/
def order (ops : List Opn) : List Opn := tree ops ops.length Id.zero

theorem order_fuel {ops : List Opn} (h : WF ops) (n : Nat) (hn : ops.length ≤ n) : tree ops n Id.zero = order ops :=
  tree_fuel h.up _ _ (above_le _ _) _ hn

/-- Where a new element comes. -/
def ins (x : Opn) (l : List Opn) : List Opn := if x.ref = Id.zero then insDesc x l else insAfter x l

theorem mem_insAfter (x y : Opn) : ∀ (l : List Opn), (∃ z ∈ l, z.id = x.ref) → (y ∈ insAfter x l ↔ y = x ∨ y ∈ l)
  | [], h => by simp at h
  | z :: l, h => by
    simp only [insAfter]
    split
    · simp only [List.mem_cons, mem_insDesc]
      constructor
      · rintro (h | h | h) <;> simp_all
      · rintro (h | h | h) <;> simp_all
    · rename_i hne
      have : ∃ z ∈ l, z.id = x.ref := by
        obtain ⟨w, hw, e⟩ := h
        rcases List.mem_cons.1 hw with rfl | hw
        · exact absurd e hne
        · exact ⟨w, hw, e⟩
      simp only [List.mem_cons, mem_insAfter x y l this]
      constructor
      · rintro (h | h | h) <;> simp_all
      · rintro (h | h | h) <;> simp_all

theorem nodup_insDesc (x : Opn) : ∀ (l : List Opn), (l.map (·.id)).Nodup → (∀ y ∈ l, y.id ≠ x.id) → ((insDesc x l).map (·.id)).Nodup
  | [], _, _ => by simp [insDesc]
  | y :: l, h, hn => by
    simp only [List.map_cons, List.nodup_cons] at h
    simp only [insDesc]
    split
    · simp only [List.map_cons, List.nodup_cons]
      refine ⟨fun hm => ?_, nodup_insDesc x l h.2 (fun z hz => hn z (by simp [hz]))⟩
      obtain ⟨z, hz, e⟩ := List.mem_map.1 hm
      rcases (mem_insDesc x z l).1 hz with rfl | hz
      · exact hn y (by simp) e.symm
      · exact h.1 (by rw [← e]; exact List.mem_map_of_mem hz)
    · simp only [List.map_cons, List.nodup_cons]
      refine ⟨fun hm => ?_, h⟩
      rcases List.mem_cons.1 hm with e | hm
      · exact hn y (by simp) e.symm
      · obtain ⟨z, hz, e⟩ := List.mem_map.1 hm
        exact hn z (by simp [hz]) e

theorem nodup_insAfter (x : Opn) : ∀ (l : List Opn), (l.map (·.id)).Nodup → (∀ y ∈ l, y.id ≠ x.id) → ((insAfter x l).map (·.id)).Nodup
  | [], _, _ => by simp [insAfter]
  | y :: l, h, hn => by
    simp only [List.map_cons, List.nodup_cons] at h
    simp only [insAfter]
    split
    · simp only [List.map_cons, List.nodup_cons]
      refine ⟨fun hm => ?_, nodup_insDesc x l h.2 (fun z hz => hn z (by simp [hz]))⟩
      obtain ⟨z, hz, e⟩ := List.mem_map.1 hm
      rcases (mem_insDesc x z l).1 hz with rfl | hz
      · exact hn y (by simp) e.symm
      · exact h.1 (by rw [← e]; exact List.mem_map_of_mem hz)
    · simp only [List.map_cons, List.nodup_cons]
      refine ⟨fun hm => ?_, nodup_insAfter x l h.2 (fun z hz => hn z (by simp [hz]))⟩
      obtain ⟨z, hz, e⟩ := List.mem_map.1 hm
      by_cases hin : ∃ w ∈ l, w.id = x.ref
      · rcases (mem_insAfter x z l hin).1 hz with rfl | hz
        · exact hn y (by simp) e.symm
        · exact h.1 (by rw [← e]; exact List.mem_map_of_mem hz)
      · have : ∀ (l : List Opn), (¬ ∃ w ∈ l, w.id = x.ref) → insAfter x l = l := by
          intro l
          induction l with
          | nil => intro _; rfl
          | cons w l ih =>
            intro hh
            simp only [insAfter]
            rw [if_neg (fun e => hh ⟨w, by simp, e⟩), ih (fun ⟨v, hv, e⟩ => hh ⟨v, by simp [hv], e⟩)]
        rw [this l hin] at hz
        exact h.1 (by rw [← e]; exact List.mem_map_of_mem hz)

/-- The order's own facts: it holds just what was put in, each once; and how it grows. -/
structure Ord (ops : List Opn) (l : List Opn) : Prop where
  is : l = order ops
  nodup : (l.map (·.id)).Nodup
  mem : ∀ y, y ∈ l ↔ y ∈ ops ∧ y.ins = true

theorem Ord.nil : Ord [] [] := ⟨rfl, by simp, by simp⟩

theorem Ord.del {ops l : List Opn} (h : WF ops) (ho : Ord ops l) {o : Opn} (hp : (puts ops o).1 = true) (hi : o.ins = false) : Ord (ops ++ [o]) l := by
  refine ⟨?_, ho.nodup, fun y => ?_⟩
  · rw [ho.is]
    unfold order
    rw [tree_del ops o hi]
    exact (tree_fuel h.up _ _ (above_le _ _) _ (by simp)).symm
  · rw [ho.mem, List.mem_append]
    constructor
    · exact fun ⟨a, b⟩ => ⟨.inl a, b⟩
    · rintro ⟨a | a, b⟩
      · exact ⟨a, b⟩
      · obtain rfl : y = o := by simpa using a
        rw [hi] at b; cases b

theorem Ord.ins {ops l : List Opn} (h : WF ops) (ho : Ord ops l) {o : Opn} (hp : (puts ops o).1 = true) (hi : o.ins = true) : Ord (ops ++ [o]) (Rga.ins o l) := by
  have h' := h.snoc hp
  obtain ⟨p1, p2, p3, p4⟩ := puts_true hp
  have hid := (idOk_iff _).1 (right_id p1)
  have hnew : ∀ y ∈ ops, y.ins = true → y.ref ≠ o.id := by
    intro y hy _ e
    rcases h.refs y hy with e' | e'
    · rw [e] at e'
      have : o.id.ctr = 0 := by rw [e']; rfl
      omega
    · rw [e] at e'
      obtain ⟨z, hz, _, e2⟩ := (has_iff _ _).1 e'
      exact h.fresh hp z hz e2
  have hfr : ∀ y ∈ l, y.id ≠ o.id := fun y hy => h.fresh hp y ((ho.mem y).1 hy).1
  have hkey := tree_ins hi h'.up h'.uniq' hnew (ops ++ [o]).length Id.zero (above_le _ _)
  have hbase : tree ops (ops ++ [o]).length Id.zero = l := by
    rw [ho.is]; exact tree_fuel h.up _ _ (above_le _ _) _ (by simp)
  rw [hbase] at hkey
  refine ⟨?_, ?_, ?_⟩
  · unfold order
    rw [hkey]
    unfold Rga.ins
    by_cases e : o.ref = Id.zero
    · rw [if_pos e, if_pos e.symm]
    · rw [if_neg e, if_neg (fun c => e c.symm), insAll_eq_insAfter _ _ ho.nodup]
  · unfold Rga.ins
    split
    · exact nodup_insDesc o l ho.nodup hfr
    · exact nodup_insAfter o l ho.nodup hfr
  · intro y
    have hm : y ∈ Rga.ins o l ↔ y = o ∨ y ∈ l := by
      unfold Rga.ins
      split
      · exact mem_insDesc o y l
      · rename_i e
        refine mem_insAfter o y l ?_
        rcases p3 with p3 | p3
        · obtain ⟨z, hz, hz2, hz3⟩ := (has_iff _ _).1 p3
          exact ⟨z, (ho.mem z).2 ⟨hz, hz2⟩, hz3⟩
        · exact absurd p3 e
    rw [hm, ho.mem, List.mem_append]
    constructor
    · rintro (rfl | ⟨a, b⟩)
      · exact ⟨by simp, hi⟩
      · exact ⟨.inl a, b⟩
    · rintro ⟨a | a, b⟩
      · exact .inr ⟨a, b⟩
      · exact .inl (by simpa using a)

/-- An element of the row. -/
def el (ops : List Opn) (o : Opn) : El := ⟨o.id, o.rune, alive ops o.id⟩
def els (ops : List Opn) (l : List Opn) : List El := l.map (el ops)

theorem alive_new {ops : List Opn} (h : WF ops) {o : Opn} (hp : (puts ops o).1 = true) (hi : o.ins = true) : alive (ops ++ [o]) o.id = true := by
  have hid := (idOk_iff _).1 (right_id (puts_true hp).1)
  have : killed ops o.id = false := by
    rcases hk : killed ops o.id with _ | _
    · rfl
    · obtain ⟨z, hz, hz2, hz3⟩ := (killed_iff _ _).1 hk
      rcases h.refs z hz with e | e
      · rw [hz3] at e
        have : o.id.ctr = 0 := by rw [e]; rfl
        omega
      · rw [hz3] at e
        obtain ⟨y, hy, _, e2⟩ := (has_iff _ _).1 e
        exact absurd e2 (h.fresh hp y hy)
  simp [alive, killed_snoc, has_snoc, this, hi]

theorem alive_ins {ops : List Opn} {o : Opn} (hi : o.ins = true) (i : Id) (hne : i ≠ o.id) : alive (ops ++ [o]) i = alive ops i := by
  simp [alive, killed_snoc, has_snoc, hi, Ne.symm hne]

theorem alive_del {ops : List Opn} {o : Opn} (hi : o.ins = false) (i : Id) : alive (ops ++ [o]) i = (alive ops i && decide (o.ref ≠ i)) := by
  simp only [alive, killed_snoc, has_snoc, hi]
  by_cases e : o.ref = i <;> simp [e]

/-- The program's way of putting an element in: on elements. -/
def elInsDesc (i : Id) (e : El) : List El → List El
  | [] => [e]
  | y :: r => if less i y.id then y :: elInsDesc i e r else e :: y :: r
def elInsAfter (ref i : Id) (e : El) : List El → List El
  | [] => []
  | y :: r => if y.id = ref then y :: elInsDesc i e r else y :: elInsAfter ref i e r
def elIns (ref i : Id) (e : El) (l : List El) : List El := if ref = Id.zero then elInsDesc i e l else elInsAfter ref i e l

theorem els_insDesc (f : Opn → El) (hf : ∀ o, (f o).id = o.id) (x : Opn) : ∀ (l : List Opn), (insDesc x l).map f = elInsDesc x.id (f x) (l.map f)
  | [] => rfl
  | y :: l => by
    simp only [insDesc, List.map_cons, elInsDesc, hf]
    split
    · rw [List.map_cons, els_insDesc f hf x l]
    · rfl
theorem els_insAfter (f : Opn → El) (hf : ∀ o, (f o).id = o.id) (x : Opn) : ∀ (l : List Opn), (insAfter x l).map f = elInsAfter x.ref x.id (f x) (l.map f)
  | [] => rfl
  | y :: l => by
    simp only [insAfter, List.map_cons, elInsAfter, hf]
    split
    · rw [List.map_cons, els_insDesc f hf x l]
    · rw [List.map_cons, els_insAfter f hf x l]
theorem els_ins {ops l : List Opn} (h : WF ops) (ho : Ord ops l) {o : Opn} (hp : (puts ops o).1 = true) (hi : o.ins = true) :
    els (ops ++ [o]) (Rga.ins o l) = elIns o.ref o.id ⟨o.id, o.rune, true⟩ (els ops l) := by
  have e1 : el (ops ++ [o]) o = ⟨o.id, o.rune, true⟩ := by simp [el, alive_new h hp hi]
  have e2 : l.map (el (ops ++ [o])) = els ops l := by
    refine List.map_congr_left fun y hy => ?_
    have := h.fresh hp y ((ho.mem y).1 hy).1
    simp [el, alive_ins hi y.id this]
  unfold els Rga.ins elIns
  split
  · rw [els_insDesc _ (fun _ => rfl), e1, e2]; rfl
  · rw [els_insAfter _ (fun _ => rfl), e1, e2]; rfl
theorem els_del {ops l : List Opn} {o : Opn} (hi : o.ins = false) :
    els (ops ++ [o]) l = (els ops l).map fun e => if e.id = o.ref then { e with alive := false } else e := by
  unfold els
  rw [List.map_map]
  refine List.map_congr_left fun y _ => ?_
  show el (ops ++ [o]) y = if y.id = o.ref then { el ops y with alive := false } else el ops y
  by_cases e : y.id = o.ref
  · rw [if_pos e]; simp [el, alive_del hi, e]
  · rw [if_neg e]; simp [el, alive_del hi, Ne.symm e]

end Go.Proofs.Ytoddohhhhnahnaa.Rga
