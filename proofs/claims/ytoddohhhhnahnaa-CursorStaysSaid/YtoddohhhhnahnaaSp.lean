/- The sequence: IDs; plain: operations more keep the order of what was there; where a held cursor stands; what holds between the operations. -/
import Derived.Test.YtoddohhhhnahnaaGn
namespace Go.Proofs.Ytoddohhhhnahnaa
open Go.RowKit

theorem and_mask (a : Int) : 0 ≤ bits .and .i64 a 65535 ∧ bits .and .i64 a 65535 ≤ 65535 := by
  have h2 : (BitVec.ofInt 64 (65535 : Int)).toNat = 65535 := by decide
  have e : bits .and .i64 a 65535 = IntKind.i64.wrap (((BitVec.ofInt 64 a).toNat &&& 65535 : Nat) : Int) := by
    show IntKind.i64.wrap ((BitVec.ofInt 64 a &&& BitVec.ofInt 64 65535).toNat : Int) = _
    rw [BitVec.toNat_and, h2]
  have h3 : (BitVec.ofInt 64 a).toNat &&& 65535 ≤ 65535 := Nat.and_le_right
  rw [e]
  generalize (BitVec.ofInt 64 a).toNat &&& 65535 = m at *
  have h4 : IntKind.i64.wrap (m : Int) = m := by
    simp only [IntKind.wrap, IntKind.bits, IntKind.signed]
    simp
    omega
  omega


def idsV (l : List Rga.Id) : List Value := l.flatMap fun i => [.int .i64 i.ctr, .int .i64 i.author]
def idsE (es : List Rga.El) : List Rga.Id := (es.filter (·.alive)).map (·.id)

theorem idsV_snoc (l : List Rga.Id) (i : Rga.Id) : idsV (l ++ [i]) = idsV l ++ [.int .i64 i.ctr, .int .i64 i.author] := by simp [idsV]
theorem idsE_snoc (es : List Rga.El) (e : Rga.El) : idsE (es ++ [e]) = if e.alive then idsE es ++ [e.id] else idsE es := by
  unfold idsE
  rw [List.filter_append, List.map_append]
  cases h : e.alive <;> simp [h]

theorem take_snoc' {α : Type} {l : List α} {k : Nat} {o : α} (h : l[k]? = some o) : l.take (k + 1) = l.take k ++ [o] := by
  rw [List.take_add_one, h]; rfl

theorem isAlive_any (c a r : Int) (al : Bool) (w : World) : Calls Try.prog 43 #[.agg #[.int .i64 c, .int .i64 a, .int .i32 r, .bool al]] w (boolKeeps w al) := by
  go_enter Try.func43, Try.ntmps43
  go_wp2
  go_ret
  exact ⟨rfl, (Keeps.refl NoB w).alloc _⟩

theorem id_info : (Try.prog.info? 24).map (fun i => (i.zero, i.size, i.bytes)) = some (some (.agg #[.int .i64 0, .int .i64 0]), 2, 16) := by kernel_rfl

def IdsPost (w : World) (l : List Rga.Id) (e : Ending) (w' : World) : Prop :=
  ∃ v, e = .returned v ∧ Row w' 24 2 v l.length (idsV l) ∧ Keeps NoB w w' ∧ ∀ g, v.ownBlock = some g → w.heap.size ≤ g

set_option maxHeartbeats 3200000 in
set_option maxRecDepth 100000 in
theorem ids_any (w : World) (F : Nat → Prop) (x : Nat) (es : List Rga.El) (top : Int) (h : Lies w F x es top) :
    Calls Try.prog 42 #[.pointer (some ⟨x, 0, none⟩), .func (.func 43) #[] #[]] w (IdsPost w (idsE es)) := by
  obtain ⟨S, os, vec, f, h, hb⟩ := h
  have hrow := h.els
  obtain ⟨A, c, hev⟩ := hrow.slice
  have c0 : w.cell? ⟨x, 0, none⟩ = some (.slice A es.length c) := by rw [← hev]; exact h.head.cell 0
  rw [hev] at hrow
  have HR := Lib.hid hrow
  obtain ⟨i0, hi0, hz0, hzs, hzb⟩ := info_parts id_info
  clear h hev hrow
  go_enter Try.func42, Try.ntmps42
  go_wp2
  go_loopw [5, 13] (fun t5 t13 wr => ∃ k : Nat, k ≤ es.length ∧ t13 = .int .i64 k ∧ Hid (Keeps NoB w wr) ∧ Hid (Row wr 24 2 t5 (idsE (es.take k)).length (idsV (idsE (es.take k))) ∧ ∀ g, t5.ownBlock = some g → w.heap.size ≤ g)) (fun _ t13 _ => es.length - (intOf t13).toNat)
  case atStart => exact ⟨0, Nat.zero_le _, rfl, Lib.hid (Keeps.refl _ _), Lib.hid ⟨Row.nil _ _ _, fun g hg => by simp [Value.ownBlock] at hg⟩⟩
  case round =>
    obtain ⟨k, hk, rfl, HK, HW⟩ := hrel
    by_cases hkl : k < es.length
    · obtain ⟨e, he⟩ : ∃ e, es[k]? = some e := ⟨_, List.getElem?_eq_getElem hkl⟩
      obtain ⟨g, c', e', hg, hc', p0, p1, p2, p3⟩ := row_el HR.out _ _ he
      cases e'
      have q0 := HK.out.some p0
      have q1 := HK.out.some p1
      have q2 := HK.out.some p2
      have q3 := HK.out.some p3
      have HE := Lib.hid he
      clear he p0 p1 p2 p3
      obtain ⟨hw5, hf5⟩ := HW.out
      obtain ⟨A5, c5, rfl⟩ := hw5.slice
      have HW5 := Lib.hid hw5
      have HF5 := Lib.hid hf5
      clear hw5 hf5 HW
      have hsn : idsE (es.take (k + 1)) = if e.alive then idsE (es.take k) ++ [e.id] else idsE (es.take k) := by rw [take_snoc' HE.out, idsE_snoc]
      have hml : (idsE (es.take k)).length ≤ k := by
        unfold idsE
        rw [List.length_map]
        have := List.length_filter_le (fun e : Rga.El => e.alive) (es.take k)
        simp at this ⊢
        omega
      have HSN := Lib.hid hsn
      clear hsn
      go_wp2_with fail
      go_at_call 43
      refine (isAlive_any _ _ _ _ _).mono ?_
      rintro r w2 ⟨rfl, hk2⟩
      have hkr : Keeps NoB wr w2 := Keeps.trans ((Keeps.refl NoB wr).alloc _) hk2
      have hel := (Cells.new wr [.int .i64 e.id.ctr, .int .i64 e.id.author, .int .i32 e.rune, .bool e.alive] 83).keep hk2 (fun e => e)
      have t0 := hel.cell 0
      have t1 := hel.cell 1
      simp only [List.getElem?_cons_zero, List.getElem?_cons_succ] at t0 t1
      have hr2 := HW5.out.keep hkr (fun _ _ e => e)
      have hsw := (HK.out.trans hkr).size
      have HK2 := Lib.hid (HK.out.trans hkr)
      have HR2 := Lib.hid hr2
      clear hk2 hkr hel hr2 q0 q1 q2 q3
      rcases hal : e.alive with _ | _
      · rw [hal] at HSN
        clear hal
        go_wp2_with fail
        go_roundw
        case rel => exact ⟨k + 1, by omega, by go_num, HK2, Lib.hid ⟨by rw [HSN.out]; exact HR2.out, HF5.out⟩⟩
        case measure => simp [intOf]; omega
      · rw [hal] at HSN
        clear hal
        have hnews : ∀ (j : Nat) (u : Value), [Value.int .i64 e.id.ctr, Value.int .i64 e.id.author][j]? = some u → (w2.alloc (.cells #[.int .i64 e.id.ctr, .int .i64 e.id.author] 24)).cell? ((⟨w2.heap.size, 0, none⟩ : Addr).add j) = some u := fun j u hu => by
          rw [addr_add0, (Cells.new w2 [.int .i64 e.id.ctr, .int .i64 e.id.author] 24).cell j]
          exact hu
        have h1v : ∀ u ∈ [Value.int .i64 e.id.ctr, Value.int .i64 e.id.author], u.oneCell' = true := by
          intro u hu
          simp at hu
          rcases hu with rfl | rfl <;> rfl
        have HNV := Lib.hid (And.intro hnews h1v)
        clear hnews h1v
        go_wp2_with (at_builtin; refine wpList_append_row rfl (.tmp 20) (.tmp 23) 53 rfl 24 i0 _ 2 16 Try.underlying53 hi0 hz0 hzs hzb rfl (by decide) _ _ _ rfl (HR2.out.alloc _) ⟨w2.heap.size, 0, none⟩ 1 1 [.int .i64 e.id.ctr, .int .i64 e.id.author] rfl rfl HNV.out.1 HNV.out.2 (by omega) (by decide) ?_; intro v' w3 hrow3 hk3 hown3)
        refine ⟨⟨k + 1, by omega, by go_num, Lib.hid ((HK2.out.alloc _).then hk3 (fun g hg => .inr (HF5.out g hg))), Lib.hid ⟨?_, ?_⟩⟩, by simp [intOf]; omega⟩
        · rw [HSN.out, if_pos trivial, List.length_append, idsV_snoc]
          exact hrow3
        · intro b hb
          rcases hown3 with h1 | h1
          · exact HF5.out b (h1.symm.trans hb)
          · have h2 := h1.symm.trans hb
            have h3 := HK2.out.size
            simp at h2
            omega
    · obtain rfl : k = es.length := by omega
      rw [List.take_of_length_le (Nat.le_refl _)] at HW
      go_wp2_with fail
      go_ret
      exact ⟨_, rfl, HW.out.1, HK.out, HW.out.2⟩

theorem idsAll_any (w : World) (F : Nat → Prop) (x : Nat) (es : List Rga.El) (top : Int) (h : Lies w F x es top) :
    Calls Try.prog 25 #[.pointer (some ⟨x, 0, none⟩)] w (IdsPost w (idsE es)) := by
  have HI := Lib.hid (ids_any w F x es top h)
  clear h
  go_enter Try.func25, Try.ntmps25
  go_wp2_with (first | (go_at_call 42; refine HI.out.mono ?_; rintro r w2 ⟨v, rfl, hrow, hk, hf⟩; have HV := Lib.hid (And.intro hrow (And.intro hk hf)); clear hrow hk hf))
  go_ret
  exact ⟨_, rfl, HV.out.1, HV.out.2.1, HV.out.2.2⟩

theorem idsE_get : ∀ (es : List Rga.El) (i : Nat) (y : Rga.Id), (idsE es)[i]? = some y ↔ ∃ (j : Nat) (e : Rga.El), es[j]? = some e ∧ e.alive = true ∧ e.id = y ∧ cnt ((es.map (·.alive)).take j) = i
  | [], i, y => by simp [idsE]
  | e :: es, i, y => by
    have ih := idsE_get es
    cases ha : e.alive
    · have h1 : idsE (e :: es) = idsE es := by simp [idsE, ha]
      rw [h1, ih]
      constructor
      · rintro ⟨j, e', h2, h3, h4, h5⟩
        exact ⟨j + 1, e', by simpa using h2, h3, h4, by simpa [cnt, ha] using h5⟩
      · rintro ⟨j, e', h2, h3, h4, h5⟩
        cases j with
        | zero => simp at h2; subst h2; rw [ha] at h3; cases h3
        | succ j => exact ⟨j, e', by simpa using h2, h3, h4, by simpa [cnt, ha] using h5⟩
    · have h1 : idsE (e :: es) = e.id :: idsE es := by simp [idsE, ha]
      rw [h1]
      cases i with
      | zero =>
        constructor
        · intro h
          simp at h
          exact ⟨0, e, by simp, ha, h, by simp [cnt]⟩
        · rintro ⟨j, e', h2, h3, h4, h5⟩
          cases j with
          | zero => simp at h2; subst h2; simp [h4]
          | succ j => simp [cnt, ha] at h5
      | succ i =>
        rw [List.getElem?_cons_succ, ih]
        constructor
        · rintro ⟨j, e', h2, h3, h4, h5⟩
          exact ⟨j + 1, e', by simpa using h2, h3, h4, by simp [cnt, ha] at h5 ⊢; omega⟩
        · rintro ⟨j, e', h2, h3, h4, h5⟩
          cases j with
          | zero => simp [cnt] at h5
          | succ j => exact ⟨j, e', by simpa using h2, h3, h4, by simp [cnt, ha] at h5 ⊢; omega⟩

theorem idsE_length (es : List Rga.El) : (idsE es).length = lenE es := by
  unfold idsE lenE
  induction es with
  | nil => rfl
  | cons e es ih => cases h : e.alive <;> simp [h, cnt] at ih ⊢ <;> omega

/-- What comes later keeps the order and wakes nobody. -/
structure Ext (a b : List Rga.El) : Prop where
  has : ∀ x, 0 ≤ posI a x → 0 ≤ posI b x
  mono : ∀ x y, 0 ≤ posI a x → 0 ≤ posI a y → (posI a x < posI a y ↔ posI b x < posI b y)
  dead : ∀ x, 0 ≤ posI a x → aliveE b x = true → aliveE a x = true

theorem Ext.refl (a : List Rga.El) : Ext a a := ⟨fun _ h => h, fun _ _ _ _ => Iff.rfl, fun _ _ h => h⟩
theorem Ext.trans {a b c : List Rga.El} (h : Ext a b) (k : Ext b c) : Ext a c :=
  ⟨fun x hx => k.has x (h.has x hx), fun x y hx hy => (h.mono x y hx hy).trans (k.mono x y (h.has x hx) (h.has y hy)), fun x hx ha => h.dead x hx (k.dead x (h.has x hx) ha)⟩

theorem ext_kill (es : List Rga.El) (j : Nat) : Ext es (killEl es j) := by
  refine ⟨fun x hx => by rw [kill_pos]; exact hx, fun x y _ _ => by rw [kill_pos, kill_pos], fun x hx ha => ?_⟩
  unfold aliveE at ha ⊢
  rw [kill_pos] at ha
  unfold killEl at ha
  rw [List.getElem?_modify] at ha
  rcases hh : es[(posI es x).toNat]? with _ | e
  · rw [hh] at ha; simp at ha
  · rw [hh] at ha
    by_cases e1 : j = (posI es x).toNat
    · simp [e1] at ha
    · simpa [e1] using ha

theorem ins_pos {es : List Rga.El} {K : Nat} (hK : K ≤ es.length) {o : Rga.Opn} {x : Rga.Id} (hx : x ≠ o.id) : posI (insEl es K o) x = if posI es x < K then posI es x else posI es x + 1 := by
  unfold insEl
  rcases posI_range es x with ⟨h1, h2⟩ | ⟨k, e, h1, h2, h3, h4⟩
  · rw [h1, if_pos (by omega)]
    refine posI_none (fun i e' he' => ?_)
    rcases List.mem_append.1 (List.mem_of_getElem? he') with h | h
    · exact h2 e' (List.mem_of_mem_take h)
    · rcases List.mem_cons.1 h with rfl | h
      · exact fun e => hx e.symm
      · exact h2 e' (List.mem_of_mem_drop h)
  · have hfirst : ∀ (i : Nat) (e' : Rga.El), i < k → es[i]? = some e' → e'.id ≠ x := by
      unfold posI at h1
      rcases hf : es.findIdx? (fun e => decide (e.id = x)) with _ | m
      · simp [hf] at h1
      · simp [hf] at h1
        obtain rfl : m = k := by omega
        rw [List.findIdx?_eq_some_iff_getElem] at hf
        obtain ⟨hl, _, hn⟩ := hf
        intro i e' hi he'
        have := hn i hi
        rw [(List.getElem?_eq_some_iff.1 he').2] at this
        simpa using this
    rw [h1]
    by_cases hk : k < K
    · rw [if_pos (by omega)]
      refine posI_some (e := e) ?_ h4 (fun i e' hi he' => ?_)
      · rw [List.getElem?_append_left (by simp; omega), List.getElem?_take, if_pos hk, h3]
      · rw [List.getElem?_append_left (by simp; omega), List.getElem?_take, if_pos (by omega)] at he'
        exact hfirst i e' hi he'
    · rw [if_neg (by omega)]
      have e1 : ((k : Int) + 1) = ((k + 1 : Nat) : Int) := by omega
      rw [e1]
      have htl : (es.take K).length = K := by simp; omega
      refine posI_some (e := e) ?_ h4 (fun i e' hi he' => ?_)
      · rw [List.getElem?_append_right (by omega), htl]
        have e2 : k + 1 - K = (k - K) + 1 := by omega
        rw [e2, List.getElem?_cons_succ, List.getElem?_drop]
        have e3 : K + (k - K) = k := by omega
        rw [e3, h3]
      · by_cases hiK : i < K
        · rw [List.getElem?_append_left (by omega), List.getElem?_take, if_pos hiK] at he'
          exact hfirst i e' (by omega) he'
        · rw [List.getElem?_append_right (by omega), htl] at he'
          rcases Nat.eq_or_lt_of_le (Nat.le_of_not_lt hiK) with e2 | e2
          · subst e2
            simp at he'
            subst he'
            exact fun e => hx e.symm
          · have e3 : i - K = (i - 1 - K) + 1 := by omega
            rw [e3, List.getElem?_cons_succ, List.getElem?_drop] at he'
            have e4 : K + (i - 1 - K) = i - 1 := by omega
            rw [e4] at he'
            exact hfirst (i - 1) e' (by omega) he'

theorem ext_ins {es : List Rga.El} {K : Nat} (hK : K ≤ es.length) {o : Rga.Opn} (hnew : ∀ e ∈ es, e.id ≠ o.id) : Ext es (insEl es K o) := by
  have hne : ∀ x, 0 ≤ posI es x → x ≠ o.id := by
    rintro x hx rfl
    rcases posI_range es o.id with ⟨h1, _⟩ | ⟨k, e, _, _, h3, h4⟩
    · omega
    · exact hnew e (List.mem_of_getElem? h3) h4
  refine ⟨fun x hx => ?_, fun x y hx hy => ?_, fun x hx ha => ?_⟩
  · rw [ins_pos hK (hne x hx)]; split <;> omega
  · rw [ins_pos hK (hne x hx), ins_pos hK (hne y hy)]
    split <;> split <;> omega
  · have hp := ins_pos hK (hne x hx)
    rcases posI_range es x with ⟨h1, _⟩ | ⟨k, e, h1, h2, h3, h4⟩
    · omega
    · have htl : (es.take K).length = K := by simp; omega
      have hg : (insEl es K o)[(posI (insEl es K o) x).toNat]? = some e := by
        rw [hp, h1]
        unfold insEl
        split
        · rw [Int.toNat_natCast, List.getElem?_append_left (by omega), List.getElem?_take, if_pos (by omega), h3]
        · have e1 : ((k : Int) + 1).toNat = k + 1 := by omega
          rw [e1, List.getElem?_append_right (by omega), htl]
          have e2 : k + 1 - K = (k - K) + 1 := by omega
          rw [e2, List.getElem?_cons_succ, List.getElem?_drop]
          have e3 : K + (k - K) = k := by omega
          rw [e3, h3]
      unfold aliveE at ha ⊢
      rw [hg] at ha
      rw [h1, Int.toNat_natCast, h3]
      simp at ha ⊢
      exact ha.2

theorem ext_put {ops : List Rga.Opn} (hwf : Rga.WF ops) (hord : Rga.Ord ops (Rga.order ops)) (o : Rga.Opn) : Ext (mEls ops) (mEls (Rga.put ops o)) ∧ Rga.Ord (Rga.put ops o) (Rga.order (Rga.put ops o)) := by
  unfold Rga.put
  split
  · rename_i hp
    obtain ⟨p1, p2, p3, p4⟩ := Rga.puts_true hp
    cases hi : o.ins
    · have hod := hord.del hwf hp hi
      have e1 : Rga.order (ops ++ [o]) = Rga.order ops := hod.is.symm
      refine ⟨?_, by rw [e1]; exact hod⟩
      have hne : o.ref ≠ Rga.Id.zero := by
        have := (Rga.idOk_iff _).1 (Rga.right_del p1 hi)
        intro e; rw [e] at this; simp [Rga.Id.zero] at this
      have hh : Rga.has ops o.ref = true := by rcases p3 with h | h; exact h; exact absurd h hne
      rcases posI_range (Rga.els ops (Rga.order ops)) o.ref with ⟨h, _⟩ | ⟨k, e, _, _, h3, h4⟩
      · have := (has_pos hord o.ref).1 (by omega)
        rw [hh] at this; cases this
      · have hg : ((Rga.els ops (Rga.order ops)).map (·.id)).Nodup := by have := hord.nodup; simpa [Rga.els, Rga.el, Function.comp_def] using this
        unfold mEls
        rw [e1, Rga.els_del hi, kill_map hg h3 h4]
        exact ext_kill _ _
    · have hoi := hord.ins hwf hp hi
      have e1 : Rga.order (ops ++ [o]) = Rga.ins o (Rga.order ops) := hoi.is.symm
      refine ⟨?_, by rw [e1]; exact hoi⟩
      have hnew : ∀ e ∈ mEls ops, e.id ≠ o.id := by
        intro e he
        obtain ⟨y, hy, rfl⟩ := List.mem_map.1 he
        exact hwf.fresh hp y ((hord.mem y).1 hy).1
      have hes : ∃ K, K ≤ (mEls ops).length ∧ mEls (ops ++ [o]) = insEl (mEls ops) K o := by
        unfold mEls
        rw [e1, Rga.els_ins hwf hord hp hi]
        unfold Rga.elIns insEl
        have hrun : ∀ es : List Rga.El, runL o.id es ≤ es.length := fun es => by
          unfold runL
          exact (List.takeWhile_sublist _).length_le
        split
        · exact ⟨_, hrun _, elInsDesc_eq _ _ _⟩
        · rename_i hzz
          have hh : Rga.has ops o.ref = true := by rcases p3 with h | h; exact h; exact absurd h hzz
          rcases posI_range (Rga.els ops (Rga.order ops)) o.ref with ⟨h, _⟩ | ⟨k, e, h, hkl, _, _⟩
          · have := (has_pos hord o.ref).1 (by omega)
            rw [hh] at this; cases this
          · refine ⟨k + 1 + runL o.id ((Rga.els ops (Rga.order ops)).drop (k + 1)), ?_, elInsAfter_eq _ _ _ _ k h⟩
            have := hrun ((Rga.els ops (Rga.order ops)).drop (k + 1))
            simp only [List.length_drop] at this
            omega
      obtain ⟨K, hK, he⟩ := hes
      rw [he]
      exact ext_ins hK hnew
  · exact ⟨Ext.refl _, hord⟩

theorem cnt_mono (l : List Bool) {i j : Nat} (h : i ≤ j) : cnt (l.take i) ≤ cnt (l.take j) := by
  have e1 : l.take j = l.take i ++ (l.take j).drop i := by
    have := List.take_append_drop i (l.take j)
    rw [List.take_take, Nat.min_eq_left h] at this
    exact this.symm
  rw [e1, cnt_append]
  omega

theorem cnt_step {l : List Bool} {j : Nat} (h : l[j]? = some true) : cnt (l.take (j + 1)) = cnt (l.take j) + 1 := by
  have := cnt_take_succ l j (List.getElem?_eq_some_iff.1 h).1
  rw [getD_of h] at this
  simpa using this

theorem cnt_lt_iff {l : List Bool} {j : Nat} (h : l[j]? = some true) (m : Nat) : cnt (l.take j) < cnt (l.take m) ↔ j < m := by
  constructor
  · intro hlt
    refine Decidable.byContradiction fun hn => ?_
    have := cnt_mono l (show m ≤ j by omega)
    omega
  · intro hlt
    have h1 := cnt_mono l (show j + 1 ≤ m by omega)
    have h2 := cnt_step h
    omega

/-- What stands at a place of the row of IDs. -/
theorem Good.ids {es : List Rga.El} (h : Good es) {i : Nat} {y : Rga.Id} (hi : (idsE es)[i]? = some y) :
    ∃ j : Nat, posI es y = j ∧ (es.map (·.alive))[j]? = some true ∧ cnt ((es.map (·.alive)).take j) = i ∧ aliveE es y = true := by
  obtain ⟨j, e, h1, h2, rfl, h4⟩ := (idsE_get es i y).1 hi
  have hp := h.pos h1
  refine ⟨j, hp, by simp [h1, h2], h4, ?_⟩
  unfold aliveE
  rw [hp, Int.toNat_natCast, h1]
  simp [h2]

theorem Good.ids_of {es : List Rga.El} {y : Rga.Id} {j : Nat} (hp : posI es y = j) (ha : aliveE es y = true) :
    (es.map (·.alive))[j]? = some true ∧ (idsE es)[cnt ((es.map (·.alive)).take j)]? = some y := by
  rcases posI_range es y with ⟨h1, _⟩ | ⟨k, e, h1, h2, h3, h4⟩
  · omega
  · obtain rfl : k = j := by omega
    unfold aliveE at ha
    rw [hp, Int.toNat_natCast, h3] at ha
    have hal : e.alive = true := by simpa using ha
    exact ⟨by simp [h3, hal], (idsE_get es _ y).2 ⟨k, e, h3, hal, h4, rfl⟩⟩

theorem stays_law {a b : List Rga.El} (hga : Good a) (hgb : Good b) (hx : Ext a b) {p : Int} (h0 : 0 ≤ p) (h1 : p ≤ lenE a) (ah : Bool) :
    ∃ (i : Rga.Id) (q : Nat), holdE a p ah = some i ∧ placeE b i ah = ((q : Int), 0) ∧ q ≤ lenE b ∧
      (∀ (k m : Nat) (y : Rga.Id), (idsE a)[k]? = some y → (idsE b)[m]? = some y → ((k : Int) < p ↔ m < q)) ∧
      (ah = false → 0 < p → ∀ y, (idsE a)[(p - 1).toNat]? = some y → aliveE b y = true → 0 < q ∧ (idsE b)[q - 1]? = some y) ∧
      (ah = true → p < lenE a → ∀ y, (idsE a)[p.toNat]? = some y → aliveE b y = true → q < lenE b ∧ (idsE b)[q]? = some y) := by
  have hlen : ∀ {es : List Rga.El} {m : Nat} {y : Rga.Id}, (idsE es)[m]? = some y → m < lenE es := fun {es m y} h => by
    rw [← idsE_length]; exact (List.getElem?_eq_some_iff.1 h).1
  have hcl : ∀ m : Nat, cnt ((b.map (·.alive)).take m) ≤ lenE b := fun m => by
    have := cnt_mono (b.map (·.alive)) (show m ≤ max m (b.map (·.alive)).length by omega)
    rw [List.take_of_length_le (i := max m (b.map (·.alive)).length) (by omega)] at this
    exact this
  cases ah
  · have hh : holdE a p false = some ((atE a (p - 1)).getD Rga.Id.zero) := by unfold holdE; rw [if_neg (by omega)]; rfl
    by_cases hp : p = 0
    · subst hp
      rw [at_none (by omega)] at hh
      exact ⟨_, 0, hh, by simp [placeE], by omega, fun k m y _ _ => by omega, fun _ h => by omega, fun h => by cases h⟩
    · obtain ⟨j, e, he, hal, hat, hpos, hah, hala⟩ := at_some hga (k := p - 1) (by omega) (by omega)
      rw [hat] at hh
      have hz : e.id ≠ Rga.Id.zero := hga.2 e (List.mem_of_getElem? he)
      have hma : (a.map (·.alive))[j]? = some true := by simp [he, hal]
      have hca : (cnt ((a.map (·.alive)).take j) : Int) = p - 1 := by unfold aheadE at hah; rw [hpos, Int.toNat_natCast] at hah; exact hah
      have hpb := hx.has e.id (by omega)
      obtain ⟨j1, hj1⟩ : ∃ j1 : Nat, posI b e.id = j1 := ⟨(posI b e.id).toNat, by omega⟩
      have hab : aheadE b e.id = cnt ((b.map (·.alive)).take j1) := by unfold aheadE; rw [hj1, Int.toNat_natCast]
      have hord : ∀ (k m : Nat) (y : Rga.Id), (idsE a)[k]? = some y → (idsE b)[m]? = some y → ∃ jy1 : Nat, posI b y = jy1 ∧ (b.map (·.alive))[jy1]? = some true ∧ cnt ((b.map (·.alive)).take jy1) = m ∧ ((k : Int) < p ↔ ¬ j1 < jy1) := by
        intro k m y hk hm
        obtain ⟨jy0, e1, e2, e3, _⟩ := hga.ids hk
        obtain ⟨jy1, f1, f2, f3, _⟩ := hgb.ids hm
        refine ⟨jy1, f1, f2, f3, ?_⟩
        have g1 := cnt_lt_iff hma jy0
        have g2 := hx.mono e.id y (by omega) (by omega)
        rw [hpos, e1, hj1, f1] at g2
        constructor
        · intro h hn
          have := g2.2 (by omega)
          have := g1.2 (by omega)
          omega
        · intro h
          refine Decidable.byContradiction fun hn => h ?_
          have := g1.1 (by omega)
          have := g2.1 (by omega)
          omega
      cases hbl : aliveE b e.id
      · refine ⟨e.id, cnt ((b.map (·.alive)).take j1), hh, by simp [placeE, hz, hj1, hbl, hab], hcl _, ?_, ?_, fun h => by cases h⟩
        · intro k m y hk hm
          obtain ⟨jy1, f1, f2, f3, g⟩ := hord k m y hk hm
          rw [g, ← f3, cnt_lt_iff f2 j1]
          constructor
          · intro h
            refine Nat.lt_of_le_of_ne (by omega) (fun hne => ?_)
            subst hne
            have hpy := Good.ids_of f1 (by obtain ⟨_, _, _, _, h⟩ := hgb.ids hm; exact h)
            have hye : y = e.id := by
              rcases posI_range b y with ⟨r1, _⟩ | ⟨r, ey, r1, _, r3, r4⟩
              · omega
              · rcases posI_range b e.id with ⟨s1, _⟩ | ⟨s, es, s1, _, s3, s4⟩
                · omega
                · obtain rfl : r = s := by omega
                  rw [r3] at s3
                  cases s3
                  exact r4.symm.trans s4
            obtain ⟨_, _, _, _, hya⟩ := hgb.ids hm
            rw [hye, hbl] at hya
            cases hya
          · intro h; omega
        · intro _ _ y hy hya
          obtain ⟨jy0, e1, e2, e3, _⟩ := hga.ids hy
          have hye : y = e.id := by
            have h2 := (idsE_get a _ e.id).2 ⟨j, e, he, hal, rfl, rfl⟩
            have e4 : (p - 1).toNat = cnt ((a.map (·.alive)).take j) := by omega
            rw [e4, h2] at hy
            exact (Option.some.inj hy).symm
          rw [hye, hbl] at hya
          cases hya
      · obtain ⟨hmb, hib⟩ := Good.ids_of hj1 hbl
        have hl1 := hlen hib
        refine ⟨e.id, cnt ((b.map (·.alive)).take j1) + 1, hh, by simp [placeE, hz, hj1, hbl, hab], by omega, ?_, ?_, fun h => by cases h⟩
        · intro k m y hk hm
          obtain ⟨jy1, f1, f2, f3, g⟩ := hord k m y hk hm
          have g3 := cnt_lt_iff hmb jy1
          rw [g]
          omega
        · intro _ _ y hy _
          have hye : y = e.id := by
            have h2 := (idsE_get a _ e.id).2 ⟨j, e, he, hal, rfl, rfl⟩
            have e4 : (p - 1).toNat = cnt ((a.map (·.alive)).take j) := by omega
            rw [e4, h2] at hy
            exact (Option.some.inj hy).symm
          exact ⟨by omega, by rw [hye]; exact hib⟩
  · have hh : holdE a p true = some ((atE a p).getD Rga.Id.zero) := by unfold holdE; rw [if_neg (by omega)]; rfl
    by_cases hp : p = lenE a
    · rw [at_none (by omega)] at hh
      refine ⟨_, lenE b, hh, by simp [placeE], by omega, fun k m y hk hm => ?_, fun h => (by cases h), fun _ h => (by omega)⟩
      have := hlen hk
      have := hlen hm
      omega
    · obtain ⟨j, e, he, hal, hat, hpos, hah, hala⟩ := at_some hga (k := p) (by omega) (by omega)
      rw [hat] at hh
      have hz : e.id ≠ Rga.Id.zero := hga.2 e (List.mem_of_getElem? he)
      have hca : (cnt ((a.map (·.alive)).take j) : Int) = p := by unfold aheadE at hah; rw [hpos, Int.toNat_natCast] at hah; exact hah
      have hpb := hx.has e.id (by omega)
      obtain ⟨j1, hj1⟩ : ∃ j1 : Nat, posI b e.id = j1 := ⟨(posI b e.id).toNat, by omega⟩
      have hab : aheadE b e.id = cnt ((b.map (·.alive)).take j1) := by unfold aheadE; rw [hj1, Int.toNat_natCast]
      refine ⟨e.id, cnt ((b.map (·.alive)).take j1), hh, by simp [placeE, hz, hj1, hab], hcl _, ?_, fun h => (by cases h), ?_⟩
      · intro k m y hk hm
        obtain ⟨jy0, e1, e2, e3, _⟩ := hga.ids hk
        obtain ⟨jy1, f1, f2, f3, _⟩ := hgb.ids hm
        have g1 := cnt_lt_iff e2 j
        have g2 := hx.mono y e.id (by omega) (by omega)
        rw [e1, hpos, f1, hj1] at g2
        have g3 := cnt_lt_iff f2 j1
        constructor
        · intro h
          have := g1.1 (by omega)
          have := g2.1 (by omega)
          have := g3.2 (by omega)
          omega
        · intro h
          have := g3.1 (by omega)
          have := g2.2 (by omega)
          have := g1.2 (by omega)
          omega
      · intro _ _ y hy hya
        have hye : y = e.id := by
          have h2 := (idsE_get a _ e.id).2 ⟨j, e, he, hal, rfl, rfl⟩
          have e4 : p.toNat = cnt ((a.map (·.alive)).take j) := by omega
          rw [e4, h2] at hy
          exact (Option.some.inj hy).symm
        rw [hye] at hya
        obtain ⟨hmb, hib⟩ := Good.ids_of hj1 hya
        exact ⟨hlen hib, by rw [hye]; exact hib⟩

/-- Between the operations more: the text, the row of IDs that was read, the anchor. -/
def StInv (w : World) (x : Nat) (es0 : List Rga.El) (wv : Value) (ba : Nat) (anch : List Value) (k : Nat) (wr : World) : Prop :=
  ∃ F ops, Txt wr F x ops ∧ ops.length ≤ 30 + k ∧ Ext es0 (mEls ops) ∧ Rga.Ord ops (Rga.order ops) ∧ (∀ g, F g → w.heap.size ≤ g) ∧ Row wr 24 2 wv (idsE es0).length (idsV (idsE es0)) ∧ (∀ g, wv.ownBlock = some g → ¬ F g) ∧
    Cells wr ba 26 anch ∧ ¬ F ba ∧ Keeps NoB w wr

theorem st_put {w wr : World} {x : Nat} {es0 : List Rga.El} {wv : Value} {ba : Nat} {anch : List Value} {k : Nat} (h : StInv w x es0 wv ba anch k wr) (hk : k ≤ 1000) (o : Rga.Opn) :
    Calls Try.prog 24 #[.pointer (some ⟨x, 0, none⟩), .agg #[.int .i64 o.id.ctr, .int .i64 o.id.author, .int .i64 o.seq, .bool o.ins, .int .i64 o.ref.ctr, .int .i64 o.ref.author, .int .i32 o.rune]] wr (fun e w' =>
      ∃ b n, e = .returned (.tuple #[.bool b, .int .i64 n]) ∧ StInv w x es0 wv ba anch (k + 1) w') := by
  obtain ⟨F, ops, h1, h2, h3, h4, h5, h6, h7, h8, h9, h10⟩ := h
  refine (put_any wr F x ops h1 (by omega) o).mono ?_
  rintro e w' ⟨rfl, F', hT, hkp, hF⟩
  obtain ⟨e1, e2⟩ := ext_put h1.wf h4 o
  have hnew : ∀ g, g < wr.heap.size → ¬ F g → ¬ F' g := fun g hg hn hf => by
    rcases hF g hf with h | h
    · exact hn h
    · omega
  refine ⟨_, _, rfl, F', _, hT, ?_, h3.trans e1, e2, ?_, h6.keep hkp h7, fun g hg => hnew g (h6.lt' g hg) (h7 g hg), h8.keep hkp h9, hnew ba h8.lt h9, h10.then hkp (fun g hg => .inr (h5 g hg))⟩
  · have := put_len ops o
    omega
  · intro g hg
    rcases hF g hg with h | h
    · exact h5 g h
    · have := h10.size; omega

theorem idsE_le (es : List Rga.El) : (idsE es).length ≤ es.length := by rw [idsE_length]; exact lenE_le es

theorem id_cells : ∀ (l : List Rga.Id) (i : Nat) (y : Rga.Id), l[i]? = some y → (idsV l)[i * 2]? = some (.int .i64 y.ctr) ∧ (idsV l)[i * 2 + 1]? = some (.int .i64 y.author)
  | [], i, y, h => by simp at h
  | z :: l, 0, y, h => by simp at h; subst h; simp [idsV]
  | z :: l, i + 1, y, h => by
    have := id_cells l i y (by simpa using h)
    have e : (i + 1) * 2 = i * 2 + 1 + 1 := by omega
    rw [e]
    simpa [idsV] using this

theorem row_id {w : World} {v : Value} {l : List Rga.Id} (h : Row w 24 2 v l.length (idsV l)) (i : Nat) (y : Rga.Id) (hp : l[i]? = some y) :
    ∃ g c, v = .slice (some ⟨g, 0, none⟩) l.length c ∧ w.cell? ⟨g, i * 2, none⟩ = some (.int .i64 y.ctr) ∧ w.cell? ⟨g, i * 2 + 1, none⟩ = some (.int .i64 y.author) := by
  have hil : i < l.length := (List.getElem?_eq_some_iff.1 hp).1
  rcases h.form with ⟨_, e, _⟩ | ⟨g, c, e, _, _, _, hc, _⟩
  · omega
  · obtain ⟨e1, e2⟩ := id_cells l i _ hp
    exact ⟨g, c, e, by rw [hc _ (by omega), e1], by rw [hc _ (by omega), e2]⟩
end Go.Proofs.Ytoddohhhhnahnaa
