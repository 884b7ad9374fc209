/- Identifiers: a vector: place, Seq, With. -/
import Derived.Test.YtoddohhhhnahnaaId3
import Derived.Test.YtoddohhhhnahnaaCloneN
import Derived.Test.YtoddohhhhnahnaaInsN
namespace Go.Proofs.Ytoddohhhhnahnaa
open Go.RowKit

theorem place_any (w : World) (v : Value) (l : List (Int × Int)) (h : Row w 104 2 v l.length (entV l)) (hr : Rising l) (hbig : l.length < 4611686018427387904) (a : Int) :
    Calls Try.prog 53 #[v, .int .i64 a] w (bsPost w (below l a) (hitB l a)) := by
  have HB := Lib.hid (bs_any w v l h hr hbig a)
  obtain ⟨A, c, rfl⟩ := h.slice
  clear h hr
  go_enter Try.func53, Try.ntmps53
  go_wp2_with (first | (go_at_call 66; refine HB.out.mono ?_; rintro e w' ⟨rfl, hk⟩; have hk := Lib.hid hk))
  go_ret2
  exact ⟨rfl, hk.out⟩

def seqV (l : List (Int × Int)) (a : Int) : Int := if hitB l a then (l.getD (below l a) (0, 0)).2 else 0
def intKeeps (w : World) (v : Int) (e : Ending) (w' : World) : Prop := e = .returned (.int .i64 v) ∧ Keeps NoB w w'

theorem hit_some {l : List (Int × Int)} {a : Int} (h : hitB l a = true) : ∃ p, l[below l a]? = some p ∧ p.1 = a := by
  unfold hitB at h
  split at h
  · rename_i p hp; exact ⟨p, hp, by simpa using h⟩
  · cases h

theorem seq_any (w : World) (v : Value) (l : List (Int × Int)) (h : Row w 104 2 v l.length (entV l)) (hr : Rising l) (hbig : l.length < 4611686018427387904) (a : Int) :
    Calls Try.prog 37 #[v, .int .i64 a] w (intKeeps w (seqV l a)) := by
  have HB := Lib.hid (place_any w v l h hr hbig a)
  have HV := Lib.hid (rfl : seqV l a = seqV l a)
  rcases hh : hitB l a with _ | _
  · have e1 : seqV l a = 0 := by simp [seqV, hh]
    rw [hh] at HB
    rw [e1]
    obtain ⟨A, c, rfl⟩ := h.slice
    clear h hr hh e1 HV
    go_enter Try.func37, Try.ntmps37
    go_wp2_with (first | (go_at_call 53; refine HB.out.mono ?_; rintro e w' ⟨rfl, hk⟩; have hk := Lib.hid hk))
    go_ret
    exact ⟨rfl, hk.out⟩
  · obtain ⟨p, hp, _⟩ := hit_some hh
    have e1 : seqV l a = p.2 := by simp [seqV, hh, List.getD, hp]
    rw [hh] at HB
    rw [e1]
    have hil : below l a < l.length := (List.getElem?_eq_some_iff.1 hp).1
    obtain ⟨g, c, rfl, hg, hc', p1, p2⟩ := row_ent h _ _ hp
    have P2 := Lib.hid (And.intro hg p2)
    clear h hr hh e1 HV p1 p2 hp hg
    generalize below l a = q at *
    go_enter Try.func37, Try.ntmps37
    go_wp2_with (first | (go_at_call 53; refine HB.out.mono ?_; rintro e w' ⟨rfl, hk⟩; have hcell : w'.cell? ⟨g, q * 2 + 1, none⟩ = some (.int .i64 p.2) := (hk.cell P2.out.1 (fun e => e)).trans P2.out.2; have hk := Lib.hid hk))
    go_ret
    exact ⟨rfl, hk.out⟩

def withV (l : List (Int × Int)) (a s : Int) : List (Int × Int) :=
  if hitB l a then l.set (below l a) (a, max (l.getD (below l a) (0, 0)).2 s) else if 0 < s then l.take (below l a) ++ (a, s) :: l.drop (below l a) else l

theorem entV_append (a b : List (Int × Int)) : entV (a ++ b) = entV a ++ entV b := by simp [entV]
theorem entV_take : ∀ (l : List (Int × Int)) (i : Nat), entV (l.take i) = (entV l).take (i * 2)
  | [], i => by simp [entV]
  | p :: l, 0 => by simp [entV]
  | p :: l, i + 1 => by
    have := entV_take l i
    have e : (i + 1) * 2 = i * 2 + 1 + 1 := by omega
    rw [e]
    simpa [entV] using this
theorem entV_drop : ∀ (l : List (Int × Int)) (i : Nat), entV (l.drop i) = (entV l).drop (i * 2)
  | [], i => by simp [entV]
  | p :: l, 0 => by simp [entV]
  | p :: l, i + 1 => by
    have := entV_drop l i
    have e : (i + 1) * 2 = i * 2 + 1 + 1 := by omega
    rw [e]
    simpa [entV] using this
theorem entV_set : ∀ (l : List (Int × Int)) (i : Nat) (p : Int × Int) (m : Int), l[i]? = some p → entV (l.set i (p.1, m)) = (entV l).set (i * 2 + 1) (.int .i64 m)
  | [], i, p, m, h => by simp at h
  | q :: l, 0, p, m, h => by simp at h; subst h; simp [entV]
  | q :: l, i + 1, p, m, h => by
    have := entV_set l i p m (by simpa using h)
    have e : (i + 1) * 2 + 1 = i * 2 + 1 + 1 + 1 := by omega
    rw [e]
    simpa [entV] using this
theorem entV_one (l : List (Int × Int)) : ∀ v ∈ entV l, v.oneCell' = true := by
  intro v hv
  simp only [entV, List.mem_flatMap] at hv
  obtain ⟨p, _, hv⟩ := hv
  simp at hv
  rcases hv with rfl | rfl <;> rfl

def WithPost (w : World) (l : List (Int × Int)) (e : Ending) (w' : World) : Prop :=
  ∃ v', e = .returned v' ∧ Row w' 104 2 v' l.length (entV l) ∧ Keeps NoB w w' ∧ ∀ g, v'.ownBlock = some g → w.heap.size ≤ g

set_option maxHeartbeats 1600000 in
set_option maxRecDepth 100000 in
theorem with_any (w : World) (v : Value) (l : List (Int × Int)) (h : Row w 104 2 v l.length (entV l)) (hr : Rising l) (hbig : l.length < 1099511627776) (a s : Int) :
    Calls Try.prog 41 #[v, .int .i64 a, .int .i64 s] w (WithPost w (withV l a s)) := by
  have HC := Lib.hid (cloneN_row w v l.length (entV l) h (entV_one l) (by omega))
  have hm := h.small
  have hbl := below_le l a
  obtain ⟨A0, c0, rfl⟩ := h.slice
  clear h
  have hRS := Lib.hid hr
  clear hr
  go_enter Try.func41, Try.ntmps41
  go_wp2_with fail
  go_at_call 60
  refine HC.out.mono ?_
  rintro e w2 ⟨v2, rfl, hrow2, hk2, hn2⟩
  have HB := Lib.hid (place_any w2 v2 l hrow2 hRS.out (by omega) a)
  have hR2 := Lib.hid (And.intro hrow2 (And.intro hk2 hn2))
  obtain ⟨A2, c2, rfl⟩ := hrow2.slice
  clear hrow2 hk2 hn2 HC
  go_wp2_with fail
  go_at_call 53
  refine HB.out.mono ?_
  rintro e w3 ⟨rfl, hk3⟩
  obtain ⟨hrow2, hk2, hn2⟩ := hR2.out
  have hrow3 := hrow2.keep hk3 (fun _ _ e => e)
  have hk13 := hk2.trans hk3
  have hsz := hk2.size
  have hn2' : ∀ g, (Value.slice A2 l.length c2).ownBlock = some g → w.heap.size ≤ g := hn2
  have PK := Lib.hid (And.intro hrow3 (And.intro hk13 (And.intro hn2 hsz)))
  have HN2 := Lib.hid hn2'
  clear HB hR2 hrow2 hk2 hn2 hn2' hk3 hk13 hsz
  rcases hh : hitB l a with _ | _
  · by_cases hs : 0 < s
    · have ew : withV l a s = l.take (below l a) ++ (a, s) :: l.drop (below l a) := by simp [withV, hh, hs]
      have EW := Lib.hid ew
      have hrowA := hrow3.alloc (.cells #[.int .i64 a, .int .i64 s] 104)
      have hvA := Cells.new w3 [.int .i64 a, .int .i64 s] 104
      have hlt3 := fun e : (Value.slice A2 l.length c2).ownBlock = some w3.heap.size => Nat.lt_irrefl _ (hrow3.lt _ e)
      have RA := Lib.hid (And.intro hrowA (And.intro hvA hlt3))
      clear ew hrow3 hrowA hvA hlt3
      go_wp2_with fail
      go_at_call 61
      refine (insN_any _ _ l.length (below l a) (entV l) [.int .i64 a, .int .i64 s] RA.out.1 (entV_one l) hbl w3.heap.size RA.out.2.1 rfl ?_ RA.out.2.2 (by omega)).mono ?_
      · intro v hv
        simp at hv
        rcases hv with rfl | rfl <;> rfl
      rintro e w4 ⟨v4, rfl, hrow4, hk4, hown4⟩
      have P4 := Lib.hid (And.intro hrow4 (And.intro hk4 hown4))
      obtain ⟨A4, c4, rfl⟩ := hrow4.slice
      clear hrow4 hk4 hown4
      go_wp2_with fail
      go_ret
      obtain ⟨hrow4, hk4, hown4⟩ := P4.out
      obtain ⟨hrow3, hk13, hn2, hsz⟩ := PK.out
      rw [EW.out]
      refine ⟨_, rfl, ?_, (hk13.alloc _).then hk4 (fun g hg => .inr (HN2.out g hg)), ?_⟩
      · have e1 : (l.take (below l a) ++ (a, s) :: l.drop (below l a)).length = l.length + 1 := by simp; omega
        have e2 : entV (l.take (below l a) ++ (a, s) :: l.drop (below l a)) = (entV l).take (below l a * 2) ++ [.int .i64 a, .int .i64 s] ++ (entV l).drop (below l a * 2) := by
          rw [entV_append, entV_take, List.append_assoc]
          congr 1
          show [Value.int .i64 a, Value.int .i64 s] ++ entV (l.drop (below l a)) = _
          rw [entV_drop]
        rw [e1, e2]
        exact hrow4
      · intro g hg
        rcases hown4 with e | ⟨g', e, hg'⟩
        · exact HN2.out g (by rw [← e]; exact hg)
        · have e' : some g = some g' := hg.symm.trans e
          cases e'
          have h1 := hk13.size
          simp at hg'
          omega
    · have ew : withV l a s = l := by simp [withV, hh, hs]
      have EW := Lib.hid ew
      clear ew hrow3
      go_wp2_with fail
      go_ret
      obtain ⟨hrow3, hk13, hn2, hsz⟩ := PK.out
      rw [EW.out]
      exact ⟨_, rfl, hrow3, hk13, hn2⟩
  · obtain ⟨p, hp, hpa⟩ := hit_some hh
    have ew : withV l a s = l.set (below l a) (a, max p.2 s) := by simp [withV, hh, List.getD, hp]
    have EW := Lib.hid ew
    obtain ⟨g, c, e, hg, hc', p1, p2⟩ := row_ent hrow3 _ _ hp
    cases e
    have f2 : w3.frozen? ⟨g, below l a * 2 + 1, none⟩ = false := by
      rcases hrow3.form with ⟨e, _⟩ | ⟨g', c', e, _, _, _, _, hf⟩
      · cases e
      · cases e; exact hf _
    have hil : below l a < l.length := (List.getElem?_eq_some_iff.1 hp).1
    have PP := Lib.hid (And.intro hp (And.intro hpa hg))
    have hfin : ∀ m, max p.2 s = m → WithPost w (withV l a s) (.returned (.slice (some ⟨g, 0, none⟩) l.length c2)) (w3.setCell ⟨g, below l a * 2 + 1, none⟩ (.int .i64 m)) := by
      rintro m rfl
      have hs2 := hrow3.set (below l a * 2 + 1) (.int .i64 (max p.2 s))
      rw [← entV_set l (below l a) p _ hp] at hs2
      rw [ew]
      refine ⟨_, rfl, ?_, (PK.out.2.1).setCell (p := ⟨g, below l a * 2 + 1, none⟩) (.inr (HN2.out g rfl)) _, HN2.out⟩
      rw [List.length_set]
      rw [hpa] at hs2
      exact hs2
    have HF := Lib.hid hfin
    clear ew hrow3 hp hpa hh hg hfin
    generalize hbq : below l a = q at *
    clear hbq
    go_wp2_with fail
    all_goals go_ret
    all_goals refine HF.out _ ?_
    all_goals omega
end Go.Proofs.Ytoddohhhhnahnaa
