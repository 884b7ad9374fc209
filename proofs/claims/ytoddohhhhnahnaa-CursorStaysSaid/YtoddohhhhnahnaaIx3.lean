/- The index: Set. -/
import Derived.Test.YtoddohhhhnahnaaIx2
import Derived.BigRegion
namespace Go.Proofs.Ytoddohhhhnahnaa
open Go.RowKit

def bi (b : Bool) : Int := if b then 1 else 0
theorem bi_bd (b : Bool) : 0 ≤ bi b ∧ bi b ≤ 1 := by cases b <;> simp [bi]
theorem one_bi (s : Bool) (w : World) : Calls Try.prog 50 #[.bool s] w fun e w' => e = .returned (.int .i64 (bi s)) ∧ w = w' := one_any s w

/-- What has been set: three cells have turned. -/
def SetTo (w : World) (gr k a x : Nat) (s : Bool) (d n : Int) (e : Ending) (w' : World) : Prop :=
  e = .returned (.bool true) ∧ ∃ m, w' = (((w.drewN m).setCell ⟨gr, k, none⟩ (.bool s)).setCell ⟨a, 1, none⟩ (.int .i64 d)).setCell ⟨x, 1, none⟩ (.int .i64 n)

set_option maxHeartbeats 3200000 in
theorem set_walk (w : World) (F : Nat → Prop) (x : Nat) (lv : Value) (rs : List BlkR) (h : IdxAt w F x lv rs) (at_ : Int) (ha1 : 0 ≤ at_) (ha2 : at_ < (marks rs).length) (s : Bool)
    (j k gr cr : Nat) (r : BlkR) (hr : rs[j]? = some r) (hkl : k < r.l.length) (e1 : findF false (rs.map (·.l)) 0 at_ 0 = (j, (k : Int), cnt ((rs.map (·.l)).take j).flatten)) (hv : r.v = .slice (some ⟨gr, 0, none⟩) r.l.length cr) :
    Calls Try.prog 40 #[.pointer (some ⟨x, 0, none⟩), .int .i64 at_, .bool s] w
      (SetTo w gr k r.a x s ((cnt r.l : Int) + (bi s - bi (r.l.getD k false))) ((cnt (marks rs) : Int) + (bi s - bi (r.l.getD k false)))) := by
  have hsm := h.small
  have c0 : w.cell? ⟨x, 0, none⟩ = some (.int .i64 (marks rs).length) := h.head.cell 0
  have c1 : w.cell? ⟨x, 1, none⟩ = some (.int .i64 (cnt (marks rs))) := h.head.cell 1
  have c2 : w.cell? ⟨x, 2, none⟩ = some lv := h.head.cell 2
  have hfind := find_any w F x lv rs h at_ false (by omega) (by omega)
  rw [e1] at hfind
  have hrm := List.mem_of_getElem? hr
  have hjl : j < rs.length := (List.getElem?_eq_some_iff.1 hr).1
  obtain ⟨hcb, hob⟩ := h.blk r hrm
  obtain ⟨g, cap, rfl, hp, b0, b1, hcap, hcm⟩ := h.block hr
  have hcl := cnt_le (marks rs)
  have hrl := len_le_marks hrm
  have hcr := cnt_le r.l
  have hmn : rs.length ≤ 9223372036854775807 := by simp only [maxLen] at hcm; omega
  rw [hv] at b0
  have hq : w.cell? ⟨gr, k, none⟩ = some (.bool (r.l.getD k false)) := by
    rcases hob.form with ⟨_, e, _⟩ | ⟨g', cap', e, _, _, _, hc, _⟩
    · omega
    · rw [hv] at e; simp at e; obtain ⟨rfl, rfl⟩ := e
      rw [hc k (by omega)]; simp [List.getD, hkl]
  have hcc : r.l.length ≤ cr ∧ cr ≤ 9223372036854775807 := by
    rcases hob.form with ⟨_, e, _⟩ | ⟨g', cap', e, _, e1, e2, hc, _⟩
    · omega
    · rw [hv] at e; simp at e; obtain ⟨rfl, rfl⟩ := e
      simp only [maxLen] at e2; omega
  obtain ⟨hcc1, hcc2⟩ := hcc
  have fq : w.frozen? ⟨gr, k, none⟩ = false := by
    rcases hob.form with ⟨_, e, _⟩ | ⟨g', cap', e, _, _, _, _, hf⟩
    · omega
    · rw [hv] at e; simp at e; obtain ⟨rfl, rfl⟩ := e; exact hf k
  have fx : w.frozen? ⟨x, 1, none⟩ = false := h.head.frozen 1
  have fb : w.frozen? ⟨r.a, 1, none⟩ = false := hcb.frozen 1
  have n1 : r.a ≠ x := hcb.ne h.head (by decide)
  have n2 : gr ≠ x := by
    have := h.head.ne_row hob (by decide)
    rw [hv] at this; intro e; exact this (by simp [Value.ownBlock, e])
  have n3 : gr ≠ r.a := by
    have := hcb.ne_row hob (by decide)
    rw [hv] at this; intro e; exact this (by simp [Value.ownBlock, e])
  clear hcb hob hr hrm hv
  generalize r.l.getD k false = b at *
  obtain ⟨s1, s2⟩ := bi_bd s
  obtain ⟨s3, s4⟩ := bi_bd b
  generalize hra : r.a = ra at *
  go_enter Try.func40, Try.ntmps40
  go_wp2_with (first | (go_at_call 59; refine hfind.mono ?_; rintro e w' ⟨m, rfl, rfl⟩) | (go_at_call 50; refine (one_bi _ _).mono ?_; rintro e w' ⟨rfl, rfl⟩))
  go_quiet ((go_at_call 50; exact qsame' (one_bi _ _)))
  go_wp2
  go_big_region
  go_wp2
  go_ret
  exact ⟨rfl, _, rfl⟩

/-- The blocks when a mark has been set. -/
def setR (rs : List BlkR) (j k : Nat) (s : Bool) : List BlkR := rs.modify j fun r => { r with l := r.l.set k s }

theorem getElem?_setR (rs : List BlkR) (j k : Nat) (s : Bool) (i : Nat) : (setR rs j k s)[i]? = if i = j then (rs[i]?).map (fun r => { r with l := r.l.set k s }) else rs[i]? := by
  unfold setR
  rw [List.getElem?_modify]
  by_cases h : j = i
  · subst h; simp
  · rw [if_neg (fun e => h e.symm)]; simp [h]

theorem setR_shape (rs : List BlkR) (j k : Nat) (s : Bool) : (setR rs j k s).map (fun r => (r.a, r.v)) = rs.map (fun r => (r.a, r.v)) := by
  apply List.ext_getElem?
  intro i
  rw [List.getElem?_map, List.getElem?_map, getElem?_setR]
  split
  · cases rs[i]? <;> simp
  · rfl
theorem setR_length (rs : List BlkR) (j k : Nat) (s : Bool) : (setR rs j k s).length = rs.length := by simp [setR]

theorem flatten_set {α : Type} : ∀ (bs : List (List α)) (j k : Nat) (b : List α) (x : α), bs[j]? = some b → k < b.length → (bs.set j (b.set k x)).flatten = bs.flatten.set ((bs.take j).flatten.length + k) x
  | [], j, k, b, x, h, _ => by simp at h
  | c :: r, 0, k, b, x, h, hk => by
    simp at h; subst h
    simp [hk]
  | c :: r, j + 1, k, b, x, h, hk => by
    have := flatten_set r j k b x (by simpa using h) hk
    simp only [List.set_cons_succ, List.flatten_cons, this, List.take_succ_cons, List.length_append]
    rw [List.set_append, if_neg (by omega)]
    congr 2; omega

theorem marks_setR (rs : List BlkR) (j k : Nat) (s : Bool) (r : BlkR) (hr : rs[j]? = some r) (hk : k < r.l.length) : marks (setR rs j k s) = (marks rs).set (((rs.map (·.l)).take j).flatten.length + k) s := by
  rw [marks_eq, marks_eq, ← flatten_set (rs.map (·.l)) j k r.l s (by simp [hr]) hk]
  congr 1
  apply List.ext_getElem?
  intro i
  rw [List.getElem?_map, getElem?_setR, List.getElem?_set]
  by_cases h : i = j
  · subst h; simp [(List.getElem?_eq_some_iff.1 hr).1, (List.getElem?_eq_some_iff.1 hr).2]
  · rw [if_neg h, if_neg (fun e => h e.symm), List.getElem?_map]

theorem cnt_set (l : List Bool) (k : Nat) (s : Bool) (hk : k < l.length) : (cnt (l.set k s) : Int) = cnt l + (bi s - bi (l.getD k false)) := by
  induction l generalizing k with
  | nil => simp at hk
  | cons a l ih =>
    cases k with
    | zero => cases a <;> cases s <;> simp [cnt, bi] <;> omega
    | succ k =>
      have := ih k (by simpa using hk)
      simp only [List.set_cons_succ, List.getD_cons_succ]
      have e : ∀ l', cnt (a :: l') = cnt l' + if a then 1 else 0 := by intro l'; cases a <;> simp [cnt]
      rw [e, e]
      omega

theorem mem_setR {rs : List BlkR} {j k : Nat} {s : Bool} {r' : BlkR} (h : r' ∈ setR rs j k s) : ∃ i r, rs[i]? = some r ∧ r' = (if i = j then { r with l := r.l.set k s } else r) := by
  obtain ⟨i, hi⟩ := List.getElem?_of_mem h
  rw [getElem?_setR] at hi
  by_cases e : i = j
  · rw [if_pos e, Option.map_eq_some_iff] at hi
    obtain ⟨r, h1, h2⟩ := hi
    exact ⟨i, r, h1, by rw [if_pos e, h2]⟩
  · rw [if_neg e] at hi
    exact ⟨i, r', hi, by rw [if_neg e]⟩

def SetPost (F : Nat → Prop) (w : World) (x : Nat) (lv : Value) (rs : List BlkR) (at_ : Nat) (s : Bool) (e : Ending) (w' : World) : Prop :=
  e = .returned (.bool true) ∧ Keeps F w w' ∧ ∃ rs', IdxAt w' F x lv rs' ∧ marks rs' = (marks rs).set at_ s ∧ rs'.length = rs.length

/-- Set (M1). -/
theorem set_any (w : World) (F : Nat → Prop) (x : Nat) (lv : Value) (rs : List BlkR) (h : IdxAt w F x lv rs) (at_ : Nat) (ha2 : at_ < (marks rs).length) (s : Bool) :
    Calls Try.prog 40 #[.pointer (some ⟨x, 0, none⟩), .int .i64 at_, .bool s] w (SetPost F w x lv rs at_ s) := by
  have hfl : (rs.map (·.l)).flatten.length = (marks rs).length := by rw [marks_eq]
  obtain ⟨j, k, b, e1, e2, e3, e4⟩ := findF_spec false (rs.map (·.l)) 0 at_ 0 (by omega) (.inl (by omega))
  rw [List.getElem?_map, Option.map_eq_some_iff] at e2
  obtain ⟨r, hr, rfl⟩ := e2
  have hkl : k < r.l.length := by simpa using e4
  have hrm := List.mem_of_getElem? hr
  obtain ⟨hcb, hob⟩ := h.blk r hrm
  obtain ⟨gr, cr, hv⟩ : ∃ gr cr, r.v = .slice (some ⟨gr, 0, none⟩) r.l.length cr := by
    rcases hob.form with ⟨_, e, _⟩ | ⟨g', cap', e, _⟩
    · omega
    · exact ⟨g', cap', e⟩
  have hown : r.v.ownBlock = some gr := by rw [hv]; rfl
  refine (set_walk w F x lv rs h at_ (by omega) (by omega) s j k gr cr r hr hkl (by simpa using e1) hv).mono ?_
  rintro e w' ⟨rfl, hw⟩
  have hat : at_ = ((rs.map (·.l)).take j).flatten.length + k := by omega
  have n1 : r.a ≠ x := hcb.ne h.head (by decide)
  have n2 : gr ≠ x := fun e => h.head.ne_row hob (by decide) (by rw [hown, e])
  have n3 : gr ≠ r.a := fun e => hcb.ne_row hob (by decide) (by rw [hown, e])
  obtain ⟨fa, fv⟩ := h.fblk r hrm
  obtain ⟨m, rfl⟩ := hw
  have hother : ∀ b, b ≠ gr → b ≠ r.a → b ≠ x → ((((w.drewN m).setCell ⟨gr, k, none⟩ (.bool s)).setCell ⟨r.a, 1, none⟩ (.int .i64 ((cnt r.l : Int) + (bi s - bi (r.l.getD k false))))).setCell ⟨x, 1, none⟩ (.int .i64 ((cnt (marks rs) : Int) + (bi s - bi (r.l.getD k false))))).heap[b]? = w.heap[b]? := by
    intro b b1 b2 b3
    rw [Below.heap_setCell _ _ _ _ b3, Below.heap_setCell _ _ _ _ b2, Below.heap_setCell _ _ _ _ b1]; rfl
  have hms := marks_setR rs j k s r hr hkl
  have hgd : r.l.getD k false = (marks rs).getD at_ false := by
    have hs := flatten_split (rs.map (·.l)) j r.l (by simp [hr])
    rw [marks_eq, hs, List.append_assoc, List.getD_eq_getElem?_getD, List.getD_eq_getElem?_getD, List.getElem?_append_right (by omega), List.getElem?_append_left (by omega)]
    congr 2; omega
  have hcn : (cnt (marks (setR rs j k s)) : Int) = cnt (marks rs) + (bi s - bi (r.l.getD k false)) := by
    rw [hms, ← hat, cnt_set _ _ _ ha2, hgd]
  refine ⟨rfl, ?_, setR rs j k s, ?_, by rw [hms, hat], setR_length _ _ _ _⟩
  · exact ((((Keeps.refl F w).drewN m).setCell (.inl (fv gr hown)) _).setCell (.inl fa) _).setCell (.inl h.fx) _
  · generalize hW : (((w.drewN m).setCell ⟨gr, k, none⟩ (.bool s)).setCell ⟨r.a, 1, none⟩ (.int .i64 ((cnt r.l : Int) + (bi s - bi (r.l.getD k false))))).setCell ⟨x, 1, none⟩ (.int .i64 ((cnt (marks rs) : Int) + (bi s - bi (r.l.getD k false)))) = W at hother ⊢
    refine ⟨?_, ?_, ?_, h.fx, h.frow, ?_, ?_, ?_, ?_⟩
    · have := (((h.head.drewN m).other (a := ⟨gr, k, none⟩) (fun e => n2 e.symm) (.bool s)).other (a := ⟨r.a, 1, none⟩) (fun e => n1 e.symm) (.int .i64 ((cnt r.l : Int) + (bi s - bi (r.l.getD k false))))).set 1 (.int .i64 ((cnt (marks rs) : Int) + (bi s - bi (r.l.getD k false))))
      rw [hW] at this
      rw [hcn, hms, List.length_set]
      simpa using this
    · have hr1 : (setR rs j k s).map (fun r => Value.pointer (some ⟨r.a, 0, none⟩)) = rs.map fun r => Value.pointer (some ⟨r.a, 0, none⟩) := by
        have := congrArg (List.map fun p : Nat × Value => Value.pointer (some ⟨p.1, 0, none⟩)) (setR_shape rs j k s)
        simpa [List.map_map, Function.comp_def] using this
      rw [hr1, setR_length]
      refine h.row.kept fun g hg => hother g ?_ ?_ ?_
      · rintro rfl
        exact h.row.ne_row hob (by decide) g hg hown
      · exact fun e => hcb.ne_row h.row (by decide) (by rw [hg, e])
      · exact fun e => h.head.ne_row h.row (by decide) (by rw [hg, e])
    · intro r' hr'
      obtain ⟨i, r2, hi, rfl⟩ := mem_setR hr'
      obtain ⟨hcb2, hob2⟩ := h.blk r2 (List.mem_of_getElem? hi)
      by_cases e : i = j
      · subst e
        rw [hr] at hi; injection hi with hi; subst hi
        rw [if_pos rfl]
        constructor
        · have := (((hcb.drewN m).other (a := ⟨gr, k, none⟩) (fun e => n3 e.symm) (.bool s)).set 1 (.int .i64 ((cnt r.l : Int) + (bi s - bi (r.l.getD k false))))).other (a := ⟨x, 1, none⟩) n1 (.int .i64 ((cnt (marks rs) : Int) + (bi s - bi (r.l.getD k false))))
          rw [hW] at this
          rw [cnt_set _ _ _ hkl]
          simpa using this
        · have h1 : Row (w.drewN m) 4 1 (.slice (some ⟨gr, 0, none⟩) r.l.length cr) r.l.length (r.l.map Value.bool) := by rw [← hv]; exact hob
          have h2 := h1.set k (.bool s)
          have h3 := h2.kept (w' := W) (fun g hg => by
            simp [Value.ownBlock] at hg; subst hg
            rw [← hW, Below.heap_setCell _ _ _ _ n2, Below.heap_setCell _ _ _ _ n3])
          simpa [hv, List.map_set] using h3
      · rw [if_neg e]
        have hap : r2.a ≠ r.a ∧ r2.v.ownBlock ≠ some gr := by
          have hp := List.pairwise_iff_getElem.1 h.apart
          obtain ⟨hi1, hi2⟩ := List.getElem?_eq_some_iff.1 hi
          obtain ⟨hj1, hj2⟩ := List.getElem?_eq_some_iff.1 hr
          rcases Nat.lt_or_gt_of_ne e with hlt | hlt
          · have := hp i j hi1 hj1 hlt
            rw [hi2, hj2] at this
            exact ⟨this.1, fun e => by rcases this.2 with h | h; rw [h] at e; cases e; exact h (e.trans hown.symm)⟩
          · have := hp j i hj1 hi1 hlt
            rw [hi2, hj2] at this
            exact ⟨fun e => this.1 e.symm, fun e => by rcases this.2 with h | h; rw [hown] at h; cases h; exact h (hown.trans e.symm)⟩
        constructor
        · exact hcb2.kept (hother _ (fun e => hcb2.ne_row hob (by decide) (by rw [hown, e])) hap.1 (hcb2.ne h.head (by decide)))
        · exact hob2.kept fun g hg => hother g (fun e => hap.2 (by rw [hg, e])) (fun e => hcb.ne_row hob2 (by decide) (by rw [hg, e])) (fun e => h.head.ne_row hob2 (by decide) (by rw [hg, e]))
    · intro r' hr'
      obtain ⟨i, r2, hi, rfl⟩ := mem_setR hr'
      have := h.fblk r2 (List.mem_of_getElem? hi)
      split <;> exact this
    · have h1 : (rs.map fun r => (r.a, r.v)).Pairwise (fun p q => p.1 ≠ q.1 ∧ (p.2.ownBlock = none ∨ p.2.ownBlock ≠ q.2.ownBlock)) := List.pairwise_map.2 h.apart
      rw [← setR_shape rs j k s] at h1
      exact List.pairwise_map.1 h1
    · intro g hg
      rw [← hW]; simp [World.setCell]; exact h.old g hg
    · rw [hms, List.length_set]; exact h.small
end Go.Proofs.Ytoddohhhhnahnaa
