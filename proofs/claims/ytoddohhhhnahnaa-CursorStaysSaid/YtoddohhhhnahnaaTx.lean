/- The sequence: a text is laid anew out of its parts. -/
import Derived.Test.YtoddohhhhnahnaaRg3
namespace Go.Proofs.Ytoddohhhhnahnaa
open Go.RowKit

/-- The blocks of an index and of a text. -/
def idxF (ix : Nat) (lv : Value) (rs : List BlkR) : Nat → Prop := fun g => g = ix ∨ lv.ownBlock = some g ∨ ∃ r ∈ rs, g = r.a ∨ r.v.ownBlock = some g
def txF (x : Nat) (S : TxS) : Nat → Prop := fun g => g = x ∨ S.ev.ownBlock = some g ∨ S.Fi g ∨ S.ov.ownBlock = some g ∨ S.vv.ownBlock = some g ∨ g = S.mb

theorem Row.lt' {w : World} {e : TypeId} {size n : Nat} {v : Value} {xs : List Value} (h : Row w e size v n xs) (g : Nat) (hg : v.ownBlock = some g) : g < w.heap.size := by
  obtain ⟨cur, hc⟩ := h.typed g hg
  exact (Array.getElem?_eq_some_iff.1 hc).1

theorem IdxAt.typed {w : World} {F : Nat → Prop} {x : Nat} {lv : Value} {rs : List BlkR} (h : IdxAt w F x lv rs) {g : Nat} (hg : idxF x lv rs g) : ∃ cs t, w.heap[g]? = some (Obj.cells cs t (0, 0)) ∧ t ∈ idxTypes := by
  rcases hg with rfl | hg | ⟨r, hr, rfl | hg⟩
  · exact ⟨_, _, h.head, by simp [idxTypes]⟩
  · obtain ⟨cur, hc⟩ := h.row.typed g hg; exact ⟨_, _, hc, by simp [idxTypes]⟩
  · exact ⟨_, _, (h.blk r hr).1, by simp [idxTypes]⟩
  · obtain ⟨cur, hc⟩ := (h.blk r hr).2.typed g hg; exact ⟨_, _, hc, by simp [idxTypes]⟩

theorem IdxAt.sub {w : World} {F : Nat → Prop} {x : Nat} {lv : Value} {rs : List BlkR} (h : IdxAt w F x lv rs) {g : Nat} (hg : idxF x lv rs g) : F g := by
  rcases hg with rfl | hg | ⟨r, hr, rfl | hg⟩
  · exact h.fx
  · exact h.frow g hg
  · exact (h.fblk r hr).1
  · exact (h.fblk r hr).2 g hg

theorem IdxAt.exact {w : World} {F : Nat → Prop} {x : Nat} {lv : Value} {rs : List BlkR} (h : IdxAt w F x lv rs) : IdxAt w (idxF x lv rs) x lv rs :=
  ⟨h.head, h.row, h.blk, .inl rfl, fun _ hg => .inr (.inl hg), fun r hr => ⟨.inr (.inr ⟨r, hr, .inl rfl⟩), fun _ hg => .inr (.inr ⟨r, hr, .inr hg⟩)⟩, h.apart, fun g hg => h.old g (h.sub hg), h.small⟩

theorem not_idx {w : World} {g : Nat} {cs : Array Value} {t : TypeId} (h : w.heap[g]? = some (Obj.cells cs t (0, 0))) (ht : t ∉ idxTypes) {F : Nat → Prop} {x : Nat} {lv : Value} {rs : List BlkR} (hI : IdxAt w F x lv rs) : ¬ idxF x lv rs g := by
  intro hg
  obtain ⟨cs', t', h', ht'⟩ := hI.typed hg
  rw [h] at h'
  injection h' with h'
  injection h' with _ e _
  exact ht (e ▸ ht')

theorem lay_text {w : World} {x : Nat} {ev : Value} {ix : Nat} {ov vv : Value} {mb : Nat} {Fi : Nat → Prop} {lv : Value} {rs : List BlkR} {es : List Rga.El} {os : List Rga.Opn} {vec : List (Int × Int)} {f : Int → Int} {top : Int}
    (head : Cells w x 74 (txL ev ix ov vv (.map (some mb)) top)) (els : Row w 83 4 ev es.length (elV es)) (idx : IdxAt w Fi ix lv rs) (mks : marks rs = es.map (·.alive))
    (few : rs.length ≤ (marks rs).length + 1) (nil : rs ≠ []) (ops : Row w 49 7 ov os.length (opsV os)) (vrow : Row w 104 2 vv vec.length (entV vec)) (rise : Rising vec) (map : MapF w mb f) :
    TxR w (txF x ⟨ev, ix, ov, vv, mb, idxF ix lv rs, lv, rs⟩) x ⟨ev, ix, ov, vv, mb, idxF ix lv rs, lv, rs⟩ es os vec f top where
  head := head
  els := els
  idx := idx.exact
  mks := mks
  few := few
  nil := nil
  ops := ops
  vrow := vrow
  rise := rise
  map := map
  fx := .inl rfl
  fev := fun g hg => .inr (.inl hg)
  fi := fun g hg => .inr (.inr (.inl hg))
  fov := fun g hg => .inr (.inr (.inr (.inl hg)))
  fvv := fun g hg => .inr (.inr (.inr (.inr (.inl hg))))
  fmb := .inr (.inr (.inr (.inr (.inr rfl))))
  old := by
    rintro g (rfl | hg | hg | hg | hg | rfl)
    · exact head.lt
    · exact els.lt' g hg
    · exact idx.exact.old g hg
    · exact ops.lt' g hg
    · exact vrow.lt' g hg
    · exact map.lt
  dx := not_idx head (by decide) idx
  dev := fun g hg => by obtain ⟨cur, hc⟩ := els.typed g hg; exact not_idx hc (by decide) idx
  dov := fun g hg => by obtain ⟨cur, hc⟩ := ops.typed g hg; exact not_idx hc (by decide) idx
  dvv := fun g hg => by obtain ⟨cur, hc⟩ := vrow.typed g hg; exact not_idx hc (by decide) idx
  dmb := by
    intro hg
    obtain ⟨cs, t, h1, _⟩ := idx.typed hg
    obtain ⟨ms, ck, h2, _⟩ := map
    rw [h1] at h2
    cases h2

def Laid (w : World) (F : Nat → Prop) (x : Nat) (es : List Rga.El) (os : List Rga.Opn) (vec : List (Int × Int)) (f : Int → Int) (top : Int) (w' : World) : Prop :=
  ∃ F' S', TxR w' F' x S' es os vec f top ∧ Keeps F w w' ∧ ∀ g, F' g → F g ∨ w.heap.size ≤ g

theorem put_laid {w w4 wF : World} {F : Nat → Prop} {x : Nat} {S : TxS} {es es' : List Rga.El} {os os' : List Rga.Opn} {vec vec' : List (Int × Int)} {f f' : Int → Int} {top top' : Int}
    (HT : TxR w F x S es os vec f top) {ev4 lv4 v5 v6 : Value} {rs4 : List BlkR} {Fi4 : Nat → Prop} {cs4 : List Value} (hx4 : Cells w4 x 74 cs4)
    (hx : Cells wF x 74 (txL ev4 S.ix v5 v6 (.map (some S.mb)) top'))
    (hrow4 : Row w4 83 4 ev4 es'.length (elV es')) (hI4 : IdxAt w4 Fi4 S.ix lv4 rs4) (hM : marks rs4 = es'.map (·.alive)) (hL : rs4.length ≤ (marks rs4).length + 1) (hN : rs4 ≠ [])
    (hk4 : Keeps (fun g => g = x ∨ S.ev.ownBlock = some g ∨ S.Fi g) w w4) (hF4 : ∀ g, Fi4 g → S.Fi g ∨ w.heap.size ≤ g) (hown4 : ev4.ownBlock = S.ev.ownBlock ∨ ∃ g, ev4.ownBlock = some g ∧ w.heap.size ≤ g)
    (hkF : Keeps (fun g => g = x ∨ S.ov.ownBlock = some g ∨ g = S.mb) w4 wF)
    (hr5 : Row wF 49 7 v5 os'.length (opsV os')) (ho5 : v5.ownBlock = S.ov.ownBlock ∨ ∃ g, v5.ownBlock = some g ∧ w.heap.size ≤ g)
    (hr6 : Row wF 104 2 v6 vec'.length (entV vec')) (ho6 : ∀ g, v6.ownBlock = some g → w.heap.size ≤ g) (hrise : Rising vec') (hmap : MapF wF S.mb f') :
    Laid w F x es' os' vec' f' top' wF := by
  have hov4 : Row w4 49 7 S.ov os.length (opsV os) := HT.ops.keep hk4 (fun b hb hc => by
    rcases hc with rfl | hc | hc
    · exact HT.head.ne_row HT.ops (by decide) hb
    · exact HT.els.ne_row HT.ops (by decide) b hc hb
    · exact HT.dov b hb hc)
  have hmb4 : MapF w4 S.mb f := HT.map.kept (hk4.block _ HT.map.lt (by
    rintro (e | e | e)
    · exact HT.map.ne_cells HT.head e
    · obtain ⟨cur, hc⟩ := HT.els.typed _ e
      obtain ⟨ms, ck, h1, _⟩ := HT.map
      rw [hc] at h1; cases h1
    · exact HT.dmb e))
  have hel : Row wF 83 4 ev4 es'.length (elV es') := hrow4.keep hkF (fun b hb hc => by
    rcases hc with rfl | hc | rfl
    · exact hx4.ne_row hrow4 (by decide) hb
    · exact hov4.ne_row hrow4 (by decide) b hc hb
    · obtain ⟨cur, hc⟩ := hrow4.typed _ hb
      obtain ⟨ms, ck, h1, _⟩ := hmb4
      rw [hc] at h1; cases h1)
  have hidx : IdxAt wF Fi4 S.ix lv4 rs4 := hI4.kept hkF.size (fun g cs t hg ht => hkF.block g (Array.getElem?_eq_some_iff.1 hg).1 (by
    rintro (rfl | e | rfl)
    · unfold Cells at hx4
      rw [hx4] at hg
      injection hg with hg
      injection hg with _ e _
      subst e
      revert ht; decide
    · obtain ⟨cur, hc⟩ := hov4.typed _ e
      rw [hc] at hg
      injection hg with hg
      injection hg with _ e _
      subst e
      revert ht; decide
    · obtain ⟨ms, ck, h1, _⟩ := hmb4
      rw [hg] at h1; cases h1))
  refine ⟨_, _, lay_text hx hel hidx hM hL hN hr5 hr6 hrise hmap, ?_, ?_⟩
  · refine (hk4.mono (G := F) ?_).then (hkF.mono (G := F) ?_) (fun g hg => .inl hg)
    · rintro k _ (rfl | e | e)
      · exact HT.fx
      · exact HT.fev _ e
      · exact HT.fi _ e
    · rintro k _ (rfl | e | rfl)
      · exact HT.fx
      · exact HT.fov _ e
      · exact HT.fmb
  · rintro g (rfl | e | e | e | e | rfl)
    · exact .inl HT.fx
    · rcases hown4 with h | ⟨g', h, hg⟩
      · exact .inl (HT.fev g (h ▸ e))
      · have := h.symm.trans e; cases this; exact .inr hg
    · rcases hF4 g (hI4.sub e) with h | h
      · exact .inl (HT.fi g h)
      · exact .inr h
    · rcases ho5 with h | ⟨g', h, hg⟩
      · exact .inl (HT.fov g (h ▸ e))
      · have := h.symm.trans e; cases this; exact .inr hg
    · exact .inr (ho6 g e)
    · exact .inl HT.fmb

/-- The vector behind With rises. -/
theorem withV_rising {l : List (Int × Int)} (h : Rising l) (a s : Int) : Rising (withV l a s) := by
  unfold withV
  have hbl := below_le l a
  split
  · rename_i hh
    obtain ⟨p, hp, hpa⟩ := hit_some hh
    unfold Rising at *
    rw [List.pairwise_iff_getElem] at *
    intro i j hi hj hij
    simp only [List.length_set] at hi hj
    have h0 := h i j hi hj hij
    have hpl : below l a < l.length := (List.getElem?_eq_some_iff.1 hp).1
    have hpe : l[below l a] = p := (List.getElem?_eq_some_iff.1 hp).2
    simp only [List.getElem_set]
    split
    · rename_i e
      subst e
      rw [if_neg (by omega)]
      simp only
      rw [hpe, hpa] at h0; exact h0
    · split
      · rename_i e
        subst e
        simp only
        rw [hpe, hpa] at h0; exact h0
      · exact h0
  · split
    · rename_i hh hs
      have hlt : ∀ i p, l[i]? = some p → (i < below l a ↔ p.1 < a) := fun i p hp => below_lt h hp
      unfold Rising at *
      rw [List.pairwise_append]
      refine ⟨h.sublist (List.take_sublist _ _), ?_, ?_⟩
      · rw [List.pairwise_cons]
        refine ⟨?_, h.sublist (List.drop_sublist _ _)⟩
        intro q hq
        obtain ⟨i, hi⟩ := List.mem_iff_getElem?.1 hq
        rw [List.getElem?_drop] at hi
        have h1 : ¬ q.1 < a := fun e => by have := (hlt _ _ hi).2 e; omega
        have h2 : q.1 ≠ a := by
          intro e
          rcases Nat.eq_zero_or_pos i with rfl | hp
          · apply hh
            unfold hitB
            rw [Nat.add_zero] at hi
            rw [hi]
            simp [e]
          · have hb : below l a < l.length := by have := (List.getElem?_eq_some_iff.1 hi).1; omega
            rw [List.pairwise_iff_getElem] at h
            have h3 := h (below l a) (below l a + i) hb (List.getElem?_eq_some_iff.1 hi).1 (by omega)
            have h4 : l[below l a + i]'(List.getElem?_eq_some_iff.1 hi).1 = q := (List.getElem?_eq_some_iff.1 hi).2
            rw [h4] at h3
            have h5 := (hlt (below l a) _ (List.getElem?_eq_getElem hb)).2 (by omega)
            omega
        show a < q.1
        omega
      · intro q hq r hr
        obtain ⟨i, hi⟩ := List.mem_iff_getElem?.1 hq
        have hil : i < below l a := by
          have := (List.getElem?_eq_some_iff.1 hi).1
          simp at this; omega
        rw [List.getElem?_take, if_pos hil] at hi
        have h1 := (hlt _ _ hi).1 hil
        simp only [List.mem_cons] at hr
        rcases hr with rfl | hr
        · exact h1
        · obtain ⟨k, hk⟩ := List.mem_iff_getElem?.1 hr
          rw [List.getElem?_drop] at hk
          have h2 : ¬ r.1 < a := fun e => by have := (hlt _ _ hk).2 e; omega
          omega
    · exact h
end Go.Proofs.Ytoddohhhhnahnaa
