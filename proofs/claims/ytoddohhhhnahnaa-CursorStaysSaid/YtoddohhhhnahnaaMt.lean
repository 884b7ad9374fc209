/- The sequence: a text that has taken operations; Put of any operation. -/
import Derived.Test.YtoddohhhhnahnaaPt3
namespace Go.Proofs.Ytoddohhhhnahnaa
open Go.RowKit

/-- What a rising vector tells of an author. -/
theorem seqV_mem {l : List (Int × Int)} (h : Rising l) {p : Int × Int} (hp : p ∈ l) : seqV l p.1 = p.2 := by
  obtain ⟨i, hi⟩ := List.getElem?_of_mem hp
  have hb : ∀ j q, l[j]? = some q → (j < below l p.1 ↔ q.1 < p.1) := fun j q hq => below_lt h hq
  have h1 : ¬ i < below l p.1 := fun e => by have := (hb _ _ hi).1 e; omega
  have hil : i < l.length := (List.getElem?_eq_some_iff.1 hi).1
  have h2 : i = below l p.1 := by
    rcases Nat.lt_or_ge (below l p.1) i with e | e
    · have hbl : below l p.1 < l.length := by omega
      have h3 := (hb _ _ (List.getElem?_eq_getElem hbl))
      have h4 : ¬ l[below l p.1].1 < p.1 := fun e => by have := h3.2 e; omega
      have h5 := List.pairwise_iff_getElem.1 h _ _ hbl hil e
      have h6 : l[i] = p := (List.getElem?_eq_some_iff.1 hi).2
      rw [h6] at h5
      omega
    · omega
  rw [h2] at hi
  simp [seqV, hitB, hi]

theorem seqV_none {l : List (Int × Int)} {a : Int} (h : ∀ p ∈ l, p.1 ≠ a) : seqV l a = 0 := by
  unfold seqV
  have : hitB l a = false := by
    rcases hh : hitB l a with _ | _
    · rfl
    · obtain ⟨p, hp, e⟩ := hit_some hh
      exact absurd e (h p (List.mem_of_getElem? hp))
  rw [this]; rfl

theorem seqV_with {l : List (Int × Int)} (h : Rising l) (a s : Int) (hs : 0 < s) (h0 : 0 ≤ seqV l a) (b : Int) : seqV (withV l a s) b = if b = a then max (seqV l a) s else seqV l b := by
  have hw := withV_rising h a s
  by_cases hh : hitB l a = true
  · obtain ⟨p, hp, hpa⟩ := hit_some hh
    have ew : withV l a s = l.set (below l a) (a, max p.2 s) := by simp [withV, hh, List.getD, hp]
    have es : seqV l a = p.2 := by rw [← hpa]; exact seqV_mem h (List.mem_of_getElem? hp)
    have hbl : below l a < l.length := (List.getElem?_eq_some_iff.1 hp).1
    rw [ew] at hw ⊢
    by_cases e : b = a
    · subst e
      rw [if_pos rfl, es]
      exact seqV_mem (p := (b, max p.2 s)) hw (List.mem_of_getElem? (i := below l b) (by simp [hbl]))
    · rw [if_neg e]
      by_cases hm : ∃ q ∈ l, q.1 = b
      · obtain ⟨q, hq, rfl⟩ := hm
        rw [seqV_mem h hq]
        obtain ⟨i, hi⟩ := List.getElem?_of_mem hq
        refine seqV_mem hw (List.mem_of_getElem? (i := i) ?_)
        rw [List.getElem?_set]
        split
        · rename_i e'
          subst e'
          rw [hp] at hi
          cases hi
          exact absurd hpa e
        · exact hi
      · have h1 : ∀ q ∈ l, q.1 ≠ b := fun q hq e' => hm ⟨q, hq, e'⟩
        rw [seqV_none h1]
        refine seqV_none fun q hq => ?_
        rcases List.mem_or_eq_of_mem_set hq with e' | e'
        · exact h1 q e'
        · subst e'; exact Ne.symm e
  · have ew : withV l a s = l.take (below l a) ++ (a, s) :: l.drop (below l a) := by simp [withV, hh, hs]
    have es : seqV l a = 0 := by unfold seqV; rw [if_neg hh]
    rw [ew] at hw ⊢
    by_cases e : b = a
    · subst e
      rw [if_pos rfl, es]
      have := seqV_mem (p := (b, s)) hw (by simp)
      rw [this]
      simp only
      omega
    · rw [if_neg e]
      by_cases hm : ∃ q ∈ l, q.1 = b
      · obtain ⟨q, hq, rfl⟩ := hm
        rw [seqV_mem h hq]
        refine seqV_mem hw ?_
        rw [List.mem_append, List.mem_cons]
        rw [← List.take_append_drop (below l a) l, List.mem_append] at hq
        rcases hq with hq | hq
        · exact .inl hq
        · exact .inr (.inr hq)
      · have h1 : ∀ q ∈ l, q.1 ≠ b := fun q hq e' => hm ⟨q, hq, e'⟩
        rw [seqV_none h1]
        refine seqV_none fun q hq => ?_
        rw [List.mem_append, List.mem_cons] at hq
        rcases hq with hq | rfl | hq
        · exact h1 q (List.mem_of_mem_take hq)
        · exact Ne.symm e
        · exact h1 q (List.mem_of_mem_drop hq)

theorem withV_length (l : List (Int × Int)) (a s : Int) : (withV l a s).length ≤ l.length + 1 := by
  have := below_le l a
  unfold withV
  split
  · simp
  · split
    · simp; omega
    · omega

theorem elInsDesc_eq (i : Rga.Id) (e : Rga.El) : ∀ es : List Rga.El, Rga.elInsDesc i e es = es.take (runL i es) ++ e :: es.drop (runL i es)
  | [] => by simp [Rga.elInsDesc, runL]
  | y :: r => by
    have := elInsDesc_eq i e r
    unfold Rga.elInsDesc
    rcases h : Rga.less i y.id with _ | _
    · simp [runL, h]
    · simp only [if_true, this]
      simp [runL, h]

theorem elInsAfter_eq (ref i : Rga.Id) (e : Rga.El) : ∀ (es : List Rga.El) (k : Nat), posI es ref = (k : Int) → Rga.elInsAfter ref i e es = es.take (k + 1 + runL i (es.drop (k + 1))) ++ e :: es.drop (k + 1 + runL i (es.drop (k + 1)))
  | [], k, h => by
    exfalso
    have h1 : posI [] ref = -1 := rfl
    omega
  | y :: r, k, h => by
    unfold Rga.elInsAfter
    by_cases hy : y.id = ref
    · rw [if_pos hy]
      have : posI (y :: r) ref = ((0 : Nat) : Int) := posI_some (e := y) (by simp) hy (by omega)
      have hk : k = 0 := by omega
      subst hk
      rw [elInsDesc_eq]
      have e1 : 0 + 1 + runL i ((y :: r).drop (0 + 1)) = runL i r + 1 := by simp; omega
      rw [e1]
      simp
    · rw [if_neg hy]
      have hpos : posI (y :: r) ref = if posI r ref < 0 then -1 else posI r ref + 1 := by
        unfold posI
        rw [List.findIdx?_cons]
        simp only [hy, decide_false]
        rcases hf : r.findIdx? (fun e => decide (e.id = ref)) with _ | j
        · simp [hf]
        · simp [hf]
          omega
      rw [hpos] at h
      split at h
      · omega
      · obtain ⟨k', rfl⟩ : ∃ k', k = k' + 1 := ⟨k - 1, by omega⟩
        rw [elInsAfter_eq ref i e r k' (by omega)]
        have e1 : k' + 1 + 1 + runL i ((y :: r).drop (k' + 1 + 1)) = (k' + 1 + runL i (r.drop (k' + 1))) + 1 := by simp; omega
        rw [e1]
        simp

theorem posI_range (es : List Rga.El) (x : Rga.Id) : (posI es x = -1 ∧ ∀ e ∈ es, e.id ≠ x) ∨ ∃ k e, posI es x = ((k : Nat) : Int) ∧ k < es.length ∧ es[k]? = some e ∧ e.id = x := by
  unfold posI
  rcases h : es.findIdx? (fun e => decide (e.id = x)) with _ | k
  · left
    have h0 := h
    rw [List.findIdx?_eq_none_iff] at h
    exact ⟨by simp [h0], fun e he => by simpa using h e he⟩
  · right
    have h0 := h
    rw [List.findIdx?_eq_some_iff_getElem] at h
    obtain ⟨h1, h2, _⟩ := h
    exact ⟨k, es[k], by simp [h0], h1, List.getElem?_eq_getElem h1, by simpa using h2⟩

/-- Marking one dead by its ID, where IDs are unlike, is marking it by its place. -/
theorem kill_map {es : List Rga.El} (hn : (es.map (·.id)).Nodup) {x : Rga.Id} {k : Nat} {e : Rga.El} (hk : es[k]? = some e) (he : e.id = x) :
    es.map (fun e => if e.id = x then { e with alive := false } else e) = killEl es k := by
  refine List.ext_getElem? fun i => ?_
  unfold killEl
  rw [List.getElem?_map, List.getElem?_modify]
  rcases hi : es[i]? with _ | y
  · simp
  · by_cases e1 : k = i
    · subst e1
      rw [hk] at hi
      cases hi
      simp [he]
    · have : y.id ≠ x := by
        intro e2
        refine e1 ?_
        have h1 : (es.map (·.id))[k]? = some x := by simp [hk, he]
        have h2 : (es.map (·.id))[i]? = some x := by simp [hi, e2]
        have hkl : k < (es.map (·.id)).length := (List.getElem?_eq_some_iff.1 h1).1
        have := (List.getElem?_inj hkl hn).1 (h1.trans h2.symm)
        exact this
      simp [this, e1]

def topC (ops : List Rga.Opn) : Int := ops.foldl (fun m o => max m o.id.ctr) 0
theorem topC_snoc (ops : List Rga.Opn) (o : Rga.Opn) : topC (ops ++ [o]) = max (topC ops) o.id.ctr := by simp [topC]

/-- A text that has taken these operations lies at x. -/
def Txt (w : World) (F : Nat → Prop) (x : Nat) (ops : List Rga.Opn) : Prop :=
  ∃ S l vec, TxR w F x S (Rga.els ops l) ops vec (fun a => (Rga.known ops a).2) (topC ops) ∧ Rga.WF ops ∧ Rga.Ord ops l ∧ (∀ a, seqV vec a = (Rga.known ops a).1) ∧ vec.length ≤ ops.length ∧ l.length ≤ ops.length

theorem Txt.wf {w : World} {F : Nat → Prop} {x : Nat} {ops : List Rga.Opn} (h : Txt w F x ops) : Rga.WF ops := by obtain ⟨_, _, _, _, h, _⟩ := h; exact h
theorem Txt.keep {w w' : World} {F G : Nat → Prop} {x : Nat} {ops : List Rga.Opn} (h : Txt w F x ops) (k : Keeps G w w') (hd : ∀ g, F g → ¬ G g) : Txt w' F x ops := by
  obtain ⟨S, l, vec, h1, h2⟩ := h
  exact ⟨S, l, vec, h1.keep k hd, h2⟩
theorem Txt.old {w : World} {F : Nat → Prop} {x : Nat} {ops : List Rga.Opn} (h : Txt w F x ops) : ∀ g, F g → g < w.heap.size := by obtain ⟨_, _, _, h, _⟩ := h; exact h.old

theorem known_le {ops : List Rga.Opn} (h : Rga.WF ops) (a : Int) : (Rga.known ops a).1 ≤ 4294967295 := by
  rcases h.kept a with ⟨e, _⟩ | ⟨o, ho, _, e⟩
  · rw [e]; omega
  · rw [e]; exact (Rga.right_seq (h.right o ho)).2

theorem has_els {ops l : List Rga.Opn} (ho : Rga.Ord ops l) (i : Rga.Id) : Rga.has ops i = true ↔ ∃ e ∈ Rga.els ops l, e.id = i := by
  rw [Rga.has_iff]
  constructor
  · rintro ⟨o, h1, h2, h3⟩
    exact ⟨Rga.el ops o, List.mem_map.2 ⟨o, (ho.mem o).2 ⟨h1, h2⟩, rfl⟩, h3⟩
  · rintro ⟨e, he, h⟩
    obtain ⟨o, h1, rfl⟩ := List.mem_map.1 he
    obtain ⟨h2, h3⟩ := (ho.mem o).1 h1
    exact ⟨o, h2, h3, h⟩

theorem has_pos {ops l : List Rga.Opn} (ho : Rga.Ord ops l) (i : Rga.Id) : (posI (Rga.els ops l) i < 0 ↔ Rga.has ops i = false) := by
  rcases posI_range (Rga.els ops l) i with ⟨h1, h2⟩ | ⟨k, e, h1, h2, h3, h4⟩
  · rw [h1]
    refine ⟨fun _ => ?_, fun _ => by omega⟩
    rcases hh : Rga.has ops i with _ | _
    · rfl
    · obtain ⟨e, he, h⟩ := (has_els ho i).1 hh
      exact absurd h (h2 e he)
  · rw [h1]
    refine ⟨fun e => by omega, fun e' => ?_⟩
    have := (has_els ho i).2 ⟨e, List.mem_of_getElem? h3, h4⟩
    rw [this] at e'; cases e'

theorem has_zero {ops : List Rga.Opn} (h : Rga.WF ops) : Rga.has ops Rga.Id.zero = false := by
  rcases hh : Rga.has ops Rga.Id.zero with _ | _
  · rfl
  · obtain ⟨o, h1, _, h3⟩ := (Rga.has_iff _ _).1 hh
    have := (Rga.idOk_iff _).1 (Rga.right_id (h.right o h1))
    rw [h3] at this
    simp [Rga.Id.zero] at this

def TakePost (w : World) (F : Nat → Prop) (x : Nat) (ops : List Rga.Opn) (o : Rga.Opn) (e : Ending) (w' : World) : Prop :=
  e = .returned (.tuple #[.bool (Rga.puts ops o).1, .int .i64 (Rga.puts ops o).2]) ∧ ∃ F', Txt w' F' x (Rga.put ops o) ∧ Keeps F w w' ∧ ∀ g, F' g → F g ∨ w.heap.size ≤ g

theorem seq_step {ops : List Rga.Opn} {vec : List (Int × Int)} {o : Rga.Opn} (hr : Rising vec) (hv : ∀ a, seqV vec a = (Rga.known ops a).1) (h0 : 0 ≤ seqV vec o.id.author) (hs : seqV vec o.id.author < o.seq) :
    ∀ a, seqV (withV vec o.id.author o.seq) a = (Rga.known (ops ++ [o]) a).1 := by
  intro a
  rw [seqV_with hr _ _ (by omega) h0, Rga.known_snoc]
  by_cases e : a = o.id.author
  · subst e
    have := hv o.id.author
    rw [if_pos rfl, if_pos ⟨rfl, by omega⟩]
    simp only
    omega
  · rw [if_neg e, if_neg (fun h => e h.1.symm)]
    exact hv a

theorem ctr_step {ops : List Rga.Opn} {o : Rga.Opn} (hs : (Rga.known ops o.id.author).1 < o.seq) :
    (fun y => if y = o.id.author then o.id.ctr else (Rga.known ops y).2) = fun a => (Rga.known (ops ++ [o]) a).2 := by
  funext a
  rw [Rga.known_snoc]
  by_cases e : a = o.id.author
  · subst e
    rw [if_pos rfl, if_pos ⟨rfl, hs⟩]
  · rw [if_neg e, if_neg (fun h => e h.1.symm)]

/-- Put of any operation. -/
theorem put_any (w : World) (F : Nat → Prop) (x : Nat) (ops : List Rga.Opn) (h : Txt w F x ops) (hn : ops.length < 1099511627776) (o : Rga.Opn) :
    Calls Try.prog 24 #[.pointer (some ⟨x, 0, none⟩), .agg #[.int .i64 o.id.ctr, .int .i64 o.id.author, .int .i64 o.seq, .bool o.ins, .int .i64 o.ref.ctr, .int .i64 o.ref.author, .int .i32 o.rune]] w (TakePost w F x ops o) := by
  obtain ⟨S, l, vec, hT, hwf, hord, hv, hvl, hll⟩ := h
  have hlow := hwf.low o.id.author
  have hle := known_le hwf o.id.author
  have hva := hv o.id.author
  have hpos := has_pos hord o.ref
  have hel : (Rga.els ops l).length = l.length := by simp [Rga.els]
  by_cases hp : (Rga.puts ops o).1 = true
  · obtain ⟨p1, p2, p3, p4⟩ := Rga.puts_true hp
    have hq : o.seq = seqV vec o.id.author + 1 := by omega
    have hz : posI (Rga.els ops l) o.ref < 0 → o.ref = Rga.Id.zero := fun e => by
      rcases p3 with e' | e'
      · rw [hpos.1 e] at e'; cases e'
      · exact e'
    have hpp : Rga.puts ops o = (true, 0) := by
      unfold Rga.puts
      rw [if_neg (by rw [p1]; decide), if_neg (by omega), if_neg, if_neg (by omega)]
      rintro (e | ⟨e1, e2⟩)
      · omega
      · rcases p3 with e' | e'
        · rw [e1] at e'; cases e'
        · exact e2 e'
    have hput : Rga.put ops o = ops ++ [o] := by unfold Rga.put; rw [if_pos hp]
    rcases hi : o.ins with _ | _
    · -- a removal
      have hne : o.ref ≠ Rga.Id.zero := by
        have := (Rga.idOk_iff _).1 (Rga.right_del p1 hi)
        intro e; rw [e] at this; simp [Rga.Id.zero] at this
      obtain ⟨k, e, h1, h2, h3, h4⟩ : ∃ k e, posI (Rga.els ops l) o.ref = ((k : Nat) : Int) ∧ k < (Rga.els ops l).length ∧ (Rga.els ops l)[k]? = some e ∧ e.id = o.ref := by
        rcases posI_range (Rga.els ops l) o.ref with ⟨e, _⟩ | h
        · exact absurd (hz (by omega)) hne
        · exact h
      refine (put_del w F x S (Rga.els ops l) ops vec _ _ hT (by omega) hn (by omega) o hi (by omega) (by omega) p1 hq k h1 h2 p4).mono ?_
      rintro r w' ⟨rfl, F', S', hT', hk, hF⟩
      unfold TakePost
      rw [hpp]
      refine ⟨rfl, F', ⟨S', l, withV vec o.id.author o.seq, ?_, ?_, ?_, ?_, ?_, ?_⟩, hk, hF⟩
      · rw [hput, topC_snoc, Rga.els_del hi, kill_map (by have := hord.nodup; simpa [Rga.els, Rga.el, Function.comp_def] using this) h3 h4, ← ctr_step (by omega)]
        exact hT'
      · exact hwf.put o
      · rw [hput]; exact hord.del hwf hp hi
      · rw [hput]; exact seq_step hT.rise hv (by omega) (by omega)
      · rw [hput]; have := withV_length vec o.id.author o.seq; simp; omega
      · rw [hput]; simp; omega
    · -- an element
      obtain ⟨K0, hK0⟩ : ∃ K0 : Nat, (K0 : Int) = posI (Rga.els ops l) o.ref + 1 := by
        rcases posI_range (Rga.els ops l) o.ref with ⟨e, _⟩ | ⟨k, _, e, _⟩
        · exact ⟨0, by omega⟩
        · exact ⟨k + 1, by omega⟩
      have hKl : K0 ≤ (Rga.els ops l).length := by
        rcases posI_range (Rga.els ops l) o.ref with ⟨e, _⟩ | ⟨k, _, e, h, _⟩ <;> omega
      refine (put_ins w F x S (Rga.els ops l) ops vec _ _ hT (by omega) hn (by omega) o hi (by omega) (by omega) p1 hq K0 hK0 hKl hz p4).mono ?_
      rintro r w' ⟨rfl, F', S', hT', hk, hF⟩
      unfold TakePost
      rw [hpp]
      have hes : insEl (Rga.els ops l) (K0 + runL o.id ((Rga.els ops l).drop K0)) o = Rga.els (ops ++ [o]) (Rga.ins o l) := by
        rw [Rga.els_ins hwf hord hp hi]
        unfold Rga.elIns insEl
        split
        · rename_i hzz
          have : posI (Rga.els ops l) o.ref < 0 := hpos.2 (by rw [hzz]; exact has_zero hwf)
          have hK : K0 = 0 := by
            rcases posI_range (Rga.els ops l) o.ref with ⟨e, _⟩ | ⟨k, _, e, h, _⟩ <;> omega
          rw [elInsDesc_eq, hK]
          simp
        · rename_i hzz
          rcases posI_range (Rga.els ops l) o.ref with ⟨e, _⟩ | ⟨k, _, e, h, _⟩
          · exact absurd (hz (by omega)) hzz
          · rw [elInsAfter_eq _ _ _ _ k e]
            have hK : K0 = k + 1 := by omega
            rw [hK]
      have hil : (Rga.ins o l).length = l.length + 1 := by
        have h1 := congrArg List.length hes
        simp only [insEl, Rga.els, List.length_append, List.length_take, List.length_cons, List.length_drop, List.length_map] at h1
        omega
      refine ⟨rfl, F', ⟨S', Rga.ins o l, withV vec o.id.author o.seq, ?_, ?_, ?_, ?_, ?_, ?_⟩, hk, hF⟩
      · rw [hput, topC_snoc, ← hes, ← ctr_step (by omega)]
        exact hT'
      · exact hwf.put o
      · rw [hput]; exact hord.ins hwf hp hi
      · rw [hput]; exact seq_step hT.rise hv (by omega) (by omega)
      · rw [hput]; have := withV_length vec o.id.author o.seq; simp; omega
      · rw [hput, hil]; simp; omega
  · have hput : Rga.put ops o = ops := by unfold Rga.put; rw [if_neg hp]
    have hp1 : (Rga.puts ops o).1 = false := by simpa using hp
    have hfin : ∀ (e : Ending) (w' : World), putKeeps w false (Rga.puts ops o).2 e w' → TakePost w F x ops o e w' := by
      rintro e w' ⟨rfl, hk⟩
      refine ⟨by rw [hp1], F, ?_, hk.mono (fun _ _ e => False.elim e), fun g hg => .inl hg⟩
      rw [hput]
      exact ⟨S, l, vec, hT.keep hk (fun _ _ e => e), hwf, hord, hv, hvl, hll⟩
    have hcase : (Rga.right o = false ∧ (Rga.puts ops o).2 = 1) ∨ (Rga.right o = true ∧ ((o.seq ≤ seqV vec o.id.author ∧ (Rga.puts ops o).2 = 0) ∨ (seqV vec o.id.author < o.seq ∧ (((seqV vec o.id.author + 1 < o.seq ∨ (posI (Rga.els ops l) o.ref < 0 ∧ o.ref ≠ Rga.Id.zero)) ∧ (Rga.puts ops o).2 = 6) ∨
      (o.seq = seqV vec o.id.author + 1 ∧ (0 ≤ posI (Rga.els ops l) o.ref ∨ o.ref = Rga.Id.zero) ∧ o.id.ctr ≤ (Rga.known ops o.id.author).2 ∧ (Rga.puts ops o).2 = 1))))) := by
      clear hfin
      revert hp1
      unfold Rga.puts
      split
      · rename_i h1; exact fun _ => .inl ⟨h1, rfl⟩
      · rename_i h1
        have h1' : Rga.right o = true := by simpa using h1
        split
        · exact fun _ => .inr ⟨h1', .inl ⟨by omega, rfl⟩⟩
        · split
          · rename_i h2 h3
            refine fun _ => .inr ⟨h1', .inr ⟨by omega, .inl ⟨?_, rfl⟩⟩⟩
            rcases h3 with h3 | ⟨h3, h4⟩
            · exact .inl (by omega)
            · exact .inr ⟨hpos.2 h3, h4⟩
          · split
            · rename_i h2 h3 h4
              have h5 : (Rga.known ops o.id.author).1 = o.seq - 1 := Decidable.byContradiction fun e => h3 (.inl e)
              refine fun _ => .inr ⟨h1', .inr ⟨by omega, .inr ⟨by omega, ?_, h4, rfl⟩⟩⟩
              by_cases hz : o.ref = Rga.Id.zero
              · exact .inr hz
              · left
                have : ¬ posI (Rga.els ops l) o.ref < 0 := fun e => h3 (.inr ⟨hpos.1 e, hz⟩)
                omega
            · intro e; cases e
    rcases hi : o.ins with _ | _
    · exact (put_refused_false w F x S (Rga.els ops l) ops vec _ _ hT (by omega) o hi (by omega) (by omega) _ hcase).mono hfin
    · exact (put_refused_true w F x S (Rga.els ops l) ops vec _ _ hT (by omega) o hi (by omega) (by omega) _ hcase).mono hfin
end Go.Proofs.Ytoddohhhhnahnaa
