/- Plain: what a held place is. -/
import Derived.Test.YtoddohhhhnahnaaMd
import Derived.Test.YtoddohhhhnahnaaCp
import Derived.Test.YtoddohhhhnahnaaLb
namespace Go.Proofs.Ytoddohhhhnahnaa
open Go.RowKit

theorem sel_spec : ∀ (l : List Bool) (k j : Nat), sel l k = some j → cnt (l.take j) = k ∧ l[j]? = some true
  | [], k, j, h => by simp [sel] at h
  | true :: r, 0, j, h => by simp [sel] at h; subst h; simp [cnt]
  | true :: r, k + 1, j, h => by
    simp only [sel, Option.map_eq_some_iff] at h
    obtain ⟨i, hi, rfl⟩ := h
    obtain ⟨h1, h2⟩ := sel_spec r k i hi
    exact ⟨by simp [cnt] at h1 ⊢; omega, by simpa using h2⟩
  | false :: r, k, j, h => by
    simp only [sel, Option.map_eq_some_iff] at h
    obtain ⟨i, hi, rfl⟩ := h
    obtain ⟨h1, h2⟩ := sel_spec r k i hi
    exact ⟨by simp [cnt] at h1 ⊢; omega, by simpa using h2⟩

/-- Elements whose IDs are unlike, and none is the beginning's. -/
def Good (es : List Rga.El) : Prop := (es.map (·.id)).Nodup ∧ ∀ e ∈ es, e.id ≠ Rga.Id.zero

theorem mEls_good {w : World} {F : Nat → Prop} {x : Nat} {ops : List Rga.Opn} (h : Txt w F x ops) : Good (mEls ops) := by
  obtain ⟨S, l, vec, _, hwf, hord, _⟩ := h
  have e : l = Rga.order ops := hord.is
  subst e
  refine ⟨by have := hord.nodup; simpa [mEls, Rga.els, Rga.el, Function.comp_def] using this, fun e he hz => ?_⟩
  have h1 := (has_els hord e.id).2 ⟨e, he, rfl⟩
  rw [hz, has_zero hwf] at h1
  cases h1

theorem Good.pos {es : List Rga.El} (h : Good es) {j : Nat} {e : Rga.El} (hj : es[j]? = some e) : posI es e.id = j := by
  refine posI_some hj rfl (fun i e' hi he' heq => ?_)
  have h1 : (es.map (·.id))[i]? = some e.id := by simp [he', heq]
  have h2 : (es.map (·.id))[j]? = some e.id := by simp [hj]
  have := (List.getElem?_inj (List.getElem?_eq_some_iff.1 h1).1 h.1).1 (h1.trans h2.symm)
  omega

/-- The element that is seen at a place: where it stands. -/
theorem at_some {es : List Rga.El} (h : Good es) {k : Int} (h0 : 0 ≤ k) (h1 : k < lenE es) :
    ∃ (j : Nat) (e : Rga.El), es[j]? = some e ∧ e.alive = true ∧ atE es k = some e.id ∧ posI es e.id = j ∧ aheadE es e.id = k ∧ aliveE es e.id = true := by
  have hk : k.toNat < cnt (es.map (·.alive)) := by unfold lenE at h1; omega
  obtain ⟨j, hj, hjl⟩ := sel_some _ _ hk
  obtain ⟨hc, ht⟩ := sel_spec _ _ _ hj
  rw [List.getElem?_map, Option.map_eq_some_iff] at ht
  obtain ⟨e, he, ha⟩ := ht
  have hp := h.pos he
  refine ⟨j, e, he, ha, ?_, hp, ?_, ?_⟩
  · unfold atE
    rw [if_pos ⟨h0, h1⟩, hj]
    simp [he]
  · unfold aheadE
    rw [hp, Int.toNat_natCast, hc]
    omega
  · unfold aliveE
    rw [hp, Int.toNat_natCast, he]
    simp [ha]

theorem at_none {es : List Rga.El} {k : Int} (h : k < 0 ∨ (lenE es : Int) ≤ k) : atE es k = none := by
  unfold atE; rw [if_neg (by omega)]

theorem back_law {es : List Rga.El} (h : Good es) {p : Int} (h0 : 0 ≤ p) (h1 : p ≤ lenE es) (a : Bool) : ∃ i, holdE es p a = some i ∧ placeE es i a = (p, 0) := by
  cases a
  · have hh : holdE es p false = some ((atE es (p - 1)).getD Rga.Id.zero) := by
      unfold holdE; rw [if_neg (by omega)]; rfl
    by_cases hp : p = 0
    · subst hp
      rw [at_none (by omega)] at hh
      exact ⟨_, hh, by simp [placeE]⟩
    · obtain ⟨j, e, he, _, hat, hpos, hah, hal⟩ := at_some h (k := p - 1) (by omega) (by omega)
      rw [hat] at hh
      refine ⟨_, hh, ?_⟩
      have hz : e.id ≠ Rga.Id.zero := h.2 e (List.mem_of_getElem? he)
      simp [placeE, hz, hpos, hal, hah]
  · have hh : holdE es p true = some ((atE es p).getD Rga.Id.zero) := by
      unfold holdE; rw [if_neg (by omega)]; rfl
    by_cases hp : p = lenE es
    · subst hp
      rw [at_none (by omega)] at hh
      exact ⟨_, hh, by simp [placeE]⟩
    · obtain ⟨j, e, he, _, hat, hpos, hah, hal⟩ := at_some h (k := p) (by omega) (by omega)
      rw [hat] at hh
      refine ⟨_, hh, ?_⟩
      have hz : e.id ≠ Rga.Id.zero := h.2 e (List.mem_of_getElem? he)
      simp [placeE, hz, hpos, hal, hah]

theorem opsN_small (l : List Rga.Opn) : (mOps l).length < 1099511627776 := by
  have := opsN_len l (min l.length 30) (by omega)
  unfold mOps
  omega

/-- What made leaves for what only asks. -/
theorem Both.asks {B : Nat} {w : World} {x y : Nat} {l : List Rga.Opn} (h : Both B w x y (mOps l)) : ∃ F, Lies w F x (mEls (mOps l)) (topC (mOps l)) ∧ Good (mEls (mOps l)) := by
  obtain ⟨F, G, h1, _⟩ := h
  exact ⟨F, h1.lies (opsN_small l), mEls_good h1⟩
end Go.Proofs.Ytoddohhhhnahnaa
