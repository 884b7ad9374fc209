/- Plain: an element is taken away: where cursors stand then. -/
import Derived.Test.YtoddohhhhnahnaaAo
namespace Go.Proofs.Ytoddohhhhnahnaa
open Go.RowKit

theorem cnt_kill {l : List Bool} {j : Nat} (h : l[j]? = some true) : cnt (l.set j false) + 1 = cnt l := by
  have h1 := cnt_set l j false (List.getElem?_eq_some_iff.1 h).1
  rw [getD_of h] at h1
  simp [bi] at h1
  omega

theorem kill_take {l : List Bool} {j i : Nat} (h : i ≤ j) : (l.set j false).take i = l.take i := by
  rw [List.take_set]
  refine List.set_eq_of_length_le ?_
  simp; omega
theorem cnt_kill_take {l : List Bool} {j i : Nat} (h : l[j]? = some true) (hi : j < i) : cnt ((l.set j false).take i) + 1 = cnt (l.take i) := by
  rw [List.take_set]
  refine cnt_kill ?_
  rw [List.getElem?_take, if_pos hi]
  exact h

theorem kill_ids (es : List Rga.El) (j : Nat) : (killEl es j).map (·.id) = es.map (·.id) := by
  refine List.ext_getElem? fun i => ?_
  unfold killEl
  rw [List.getElem?_map, List.getElem?_map, List.getElem?_modify]
  rcases es[i]? with _ | y
  · simp
  · by_cases e : j = i <;> simp [e]

theorem kill_good {es : List Rga.El} (h : Good es) (j : Nat) : Good (killEl es j) := by
  refine ⟨by rw [kill_ids]; exact h.1, fun e he hz => ?_⟩
  have h1 : e.id ∈ (killEl es j).map (·.id) := List.mem_map.2 ⟨e, he, rfl⟩
  rw [kill_ids] at h1
  obtain ⟨e', he', hh⟩ := List.mem_map.1 h1
  exact h.2 e' he' (hh.trans hz)

theorem kill_pos (es : List Rga.El) (j : Nat) (i : Rga.Id) : posI (killEl es j) i = posI es i := by
  have e : ∀ es : List Rga.El, posI es i = match (es.map (·.id)).findIdx? (fun x => decide (x = i)) with | some k => (k : Int) | none => -1 := by
    intro es
    unfold posI
    rw [List.findIdx?_map]
    rfl
  rw [e, e, kill_ids]

theorem gone_len {es : List Rga.El} {j : Nat} {e : Rga.El} (he : es[j]? = some e) (ha : e.alive = true) : lenE (killEl es j) + 1 = lenE es := by
  unfold lenE
  rw [kill_alive]
  refine cnt_kill ?_
  simp [he, ha]

/-- Held behind what is taken away. -/
theorem gone_a {es : List Rga.El} (h : Good es) {p : Int} (h0 : 1 ≤ p) (h1 : p ≤ lenE es) :
    ∃ j e, es[j]? = some e ∧ e.alive = true ∧ holdE es p false = some e.id ∧ atE es (p - 1) = some e.id ∧ placeE (killEl es j) e.id false = (p - 1, 0) ∧
      ∃ i, holdE es p true = some i ∧ placeE (killEl es j) i true = (p - 1, 0) := by
  obtain ⟨j, e, he, ha, hat, hpos, hah, hal⟩ := at_some h (k := p - 1) (by omega) (by omega)
  have hz : e.id ≠ Rga.Id.zero := h.2 e (List.mem_of_getElem? he)
  have hm : (es.map (·.alive))[j]? = some true := by simp [he, ha]
  have hpk : posI (killEl es j) e.id = j := by rw [kill_pos, hpos]
  refine ⟨j, e, he, ha, ?_, hat, ?_, ?_⟩
  · unfold holdE
    rw [if_neg (by omega)]
    simp [hat]
  · have hk : (killEl es j)[j]? = some ⟨e.id, e.rune, false⟩ := by unfold killEl; rw [List.getElem?_modify]; simp [he]
    have hal' : aliveE (killEl es j) e.id = false := by
      unfold aliveE
      rw [hpk, Int.toNat_natCast, hk]
      simp
    have hah' : aheadE (killEl es j) e.id = p - 1 := by
      rw [← hah]
      unfold aheadE
      rw [kill_pos, kill_alive, hpos, Int.toNat_natCast, kill_take (Nat.le_refl _)]
    simp [placeE, hz, hpk, hal', hah']
  · by_cases hp : p = lenE es
    · refine ⟨Rga.Id.zero, ?_, ?_⟩
      · unfold holdE
        rw [if_neg (by omega)]
        simp [at_none (es := es) (k := p) (by omega)]
      · have := gone_len he ha
        simp [placeE]
        omega
    · obtain ⟨j2, e2, he2, ha2, hat2, hpos2, hah2, hal2⟩ := at_some h (k := p) (by omega) (by omega)
      have hz2 : e2.id ≠ Rga.Id.zero := h.2 e2 (List.mem_of_getElem? he2)
      refine ⟨e2.id, ?_, ?_⟩
      · unfold holdE
        rw [if_neg (by omega)]
        simp [hat2]
      · have hjj : j < j2 := by
          refine Decidable.byContradiction fun hn => ?_
          have c1 : aheadE es e.id = ((cnt ((es.map (·.alive)).take j) : Nat) : Int) := by unfold aheadE; rw [hpos, Int.toNat_natCast]
          have c2 : aheadE es e2.id = ((cnt ((es.map (·.alive)).take j2) : Nat) : Int) := by unfold aheadE; rw [hpos2, Int.toNat_natCast]
          have c3 : cnt ((es.map (·.alive)).take j2) ≤ cnt ((es.map (·.alive)).take j) := by
            have e1 : (es.map (·.alive)).take j = (es.map (·.alive)).take j2 ++ ((es.map (·.alive)).take j).drop j2 := by
              have := List.take_append_drop j2 ((es.map (·.alive)).take j)
              rw [List.take_take, Nat.min_eq_left (by omega)] at this
              exact this.symm
            rw [e1, cnt_append]
            omega
          omega
        have hpk2 : posI (killEl es j) e2.id = j2 := by rw [kill_pos, hpos2]
        have hah' : aheadE (killEl es j) e2.id = p - 1 := by
          have c2 : aheadE es e2.id = ((cnt ((es.map (·.alive)).take j2) : Nat) : Int) := by unfold aheadE; rw [hpos2, Int.toNat_natCast]
          have c4 := cnt_kill_take hm hjj
          unfold aheadE
          rw [hpk2, kill_alive, Int.toNat_natCast]
          omega
        simp [placeE, hz2, hpk2, hah']

theorem topC_ge : ∀ (ops : List Rga.Opn) (o : Rga.Opn), o ∈ ops → o.id.ctr ≤ topC ops := by
  have key : ∀ (ops : List Rga.Opn) (m : Int), m ≤ ops.foldl (fun m o => max m o.id.ctr) m ∧ ∀ o ∈ ops, o.id.ctr ≤ ops.foldl (fun m o => max m o.id.ctr) m := by
    intro ops
    induction ops with
    | nil => intro m; simp
    | cons x ops ih =>
      intro m
      obtain ⟨h1, h2⟩ := ih (max m x.id.ctr)
      simp only [List.foldl_cons]
      refine ⟨by omega, fun o ho => ?_⟩
      rcases List.mem_cons.1 ho with rfl | ho
      · omega
      · exact h2 o ho
  exact fun ops o ho => (key ops 0).2 o ho

theorem topC_nonneg (ops : List Rga.Opn) : 0 ≤ topC ops := by
  have key : ∀ (ops : List Rga.Opn) (m : Int), m ≤ ops.foldl (fun m o => max m o.id.ctr) m := by
    intro ops
    induction ops with
    | nil => intro m; simp
    | cons x ops ih =>
      intro m
      have := ih (max m x.id.ctr)
      simp only [List.foldl_cons]
      omega
  exact key ops 0

theorem opsN_mem (l : List Rga.Opn) : ∀ (k : Nat), k ≤ l.length → ∀ o ∈ opsN l k, o ∈ l
  | 0, _, o, h => by simp [opsN] at h
  | k + 1, hk, o, h => by
    obtain ⟨x, hx⟩ : ∃ x, l[k]? = some x := ⟨_, List.getElem?_eq_getElem (by omega)⟩
    rw [opsN_succ hx] at h
    unfold Rga.put at h
    split at h
    · rcases List.mem_append.1 h with h | h
      · exact opsN_mem l k (by omega) o h
      · simp at h; subst h; exact List.mem_of_getElem? hx
    · exact opsN_mem l k (by omega) o h

/-- The removal that the law puts in is taken. -/
theorem gone_puts {ops : List Rga.Opn} (hwf : Rga.WF ops) {a : Int} (ha : 0 ≤ a ∧ a < 4194304) (hno : ∀ o ∈ ops, o.id.author ≠ a) (ht : topC ops < 4294967295) {i : Rga.Id} (hi : Rga.has ops i = true) :
    Rga.puts ops ⟨⟨topC ops + 1, a⟩, 1, false, i, 0⟩ = (true, 0) := by
  have ht0 := topC_nonneg ops
  obtain ⟨z, hz, hzi, hzid⟩ := (Rga.has_iff _ _).1 hi
  have hid := Rga.right_id (hwf.right z hz)
  rw [hzid] at hid
  have hle := topC_ge ops z hz
  rw [hzid] at hle
  have hk : Rga.known ops a = (0, 0) := by
    rcases hwf.kept a with ⟨e, _⟩ | ⟨o, ho, e, _⟩
    · exact e
    · exact absurd e (hno o ho)
  have hr : Rga.right ⟨⟨topC ops + 1, a⟩, 1, false, i, 0⟩ = true := by
    have h1 : Rga.idOk ⟨topC ops + 1, a⟩ = true := (Rga.idOk_iff _).2 ⟨by show 1 ≤ topC ops + 1; omega, by show topC ops + 1 ≤ 4294967295; omega, ha.1, ha.2⟩
    simp [Rga.right, h1, hid]
    omega
  unfold Rga.puts
  simp only [hr, hk, hi]
  simp
  omega

theorem gone_els {ops : List Rga.Opn} {o : Rga.Opn} (hwf : Rga.WF ops) (hord : Rga.Ord ops (Rga.order ops)) (hp : (Rga.puts ops o).1 = true) (hi : o.ins = false) {j : Nat} {e : Rga.El} (he : (mEls ops)[j]? = some e) (hid : e.id = o.ref) (hg : Good (mEls ops)) :
    mEls (ops ++ [o]) = killEl (mEls ops) j := by
  have h1 := (hord.del hwf hp hi).is
  unfold mEls
  rw [← h1, Rga.els_del hi]
  exact kill_map hg.1 he hid

end Go.Proofs.Ytoddohhhhnahnaa
