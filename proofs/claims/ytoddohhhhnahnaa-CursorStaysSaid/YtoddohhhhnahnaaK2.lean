/- The builtin copy at elements of any size, as a law for the walk; an append at the end of a slice that is owned. No condition. -/
import Derived.Test.YtoddohhhhnahnaaK
import Derived.Lib.Overlaps
import Derived.Lib.AppendZerosOnto
import Derived.Deep.RegionLaw
namespace Go.Proofs.Ytoddohhhhnahnaa
open Go.RowKit

theorem run_copy_k {P : Program} (w : World) (dT sT ty elem : TypeId) (size : Nat) (g o dLen dCap : Nat) (a : Addr) (sLen sCap : Nat) (cur : Array Value) (t : TypeId) (m : Nat) (cs : List Value)
    (hu : P.underlying dT = some (.slice elem)) (hs : (P.info? elem).map (·.size) = some size)
    (hg : w.heap[g]? = some (.cells cur t (0, 0))) (hm : m = Nat.min sLen dLen) (hn : cs.length = m * size)
    (hsrc : ∀ j v, cs[j]? = some v → w.cell? (a.add j) = some v) (hfit : o + cs.length ≤ cur.size) (h1 : ∀ v ∈ cs, v.oneCell' = true) :
    (Builtin.copy_ #[dT, sT] ty #[.slice (some ⟨g, o, none⟩) dLen dCap, .slice (some a) sLen sCap]).run P w =
      .ok (goInt m) (w.setRow g (cur.toList.take o ++ cs ++ cur.toList.drop (o + cs.length)).toArray) := by
  have hl := run_loadCells_list (P := P) w a cs hsrc
  have hst := run_storeCells_at P g o t cs 0 cur w hg (by simpa using hfit) h1
  cases hq : P.info? elem with
  | none => simp [hq] at hs
  | some i =>
    have hi : i.size = size := by simpa [hq] using hs
    simp [Builtin.copy_, run_underlying hu, Builtin.lenOf, Builtin.firstCells, sizeOf, typeInfo, hq, hi, ← hm, ← hn, hl, hst]

theorem run_copy_zero {P : Program} (w : World) (dT sT ty elem : TypeId) (size : Nat) (dp sp : Option Addr) (dLen dCap sLen sCap : Nat)
    (hu : P.underlying dT = some (.slice elem)) (hs : (P.info? elem).map (·.size) = some size) (hm : Nat.min sLen dLen = 0) :
    (Builtin.copy_ #[dT, sT] ty #[.slice dp dLen dCap, .slice sp sLen sCap]).run P w = .ok (goInt 0) w := by
  cases hq : P.info? elem with
  | none => simp [hq] at hs
  | some i =>
    have hl : ∀ a : Addr, (loadCells a 0).run P w = .ok #[] w := fun a => run_loadCells_list (P := P) w a [] (by simp)
    cases dp <;> cases sp <;> simp [Builtin.copy_, run_underlying hu, Builtin.lenOf, Builtin.firstCells, sizeOf, typeInfo, hq, hm, hl, storeCells]

theorem keeps_setRow (w : World) (g : Nat) (cs : Array Value) : Keeps (fun k => k = g) w (w.setRow g cs) :=
  ⟨rfl, rfl, rfl, by simp [World.setRow], fun k _ hne => setRow_other w g k cs hne⟩

theorem keeps_setRow_own (w : World) (g : Nat) (cs : Array Value) (n cap : Nat) : Keeps (fun k => (Value.slice (some ⟨g, 0, none⟩) n cap).ownBlock = some k) w (w.setRow g cs) :=
  (keeps_setRow w g cs).mono fun k _ e => by simp [Value.ownBlock, e]

section
variable {P : Program} {w : World} {ops : Array Oper} {rest : List Oper} {o : Oper} {a : Act} {Q : Exit → Act → World → Prop}

theorem copy_upon (d s : Operand) (dT sT : TypeId) (ho : o.op = .call { callee := .builtin .copy, args := #[d, s], argTypes := #[dT, sT] }) {K : Act → World → Prop} (v u : Value) (hd : a.eval d = v) (hs : a.eval s = u) {v' : Value} {w' : World}
    (hr : (Builtin.copy_ #[dT, sT] o.type #[v, u]).run P w = .ok v' w') (h : K (a.put o.dst v') w') : o.wp P a w K Q := by
  unfold Oper.wp execOp
  simp only [ho, resolve, invoke, builtin, Sem.run_bind, Sem.run_pure, Result.andThen_ok, List.map_toArray, List.map_cons, List.map_nil, hd, hs, hr]
  exact h

/-- 'copy(d, s)' into a row that is known whole. -/
theorem wp_copy_k {K : Act → World → Prop} (d s : Operand) (dT sT : TypeId) (ho : o.op = .call { callee := .builtin .copy, args := #[d, s], argTypes := #[dT, sT] }) (elem : TypeId) (hu : P.underlying dT = some (.slice elem)) (size : Nat) (hsz : (P.info? elem).map (·.size) = some size)
    (dp sp : Option Addr) (dLen dCap sLen sCap : Nat) (hd : a.eval d = .slice dp dLen dCap) (hs : a.eval s = .slice sp sLen sCap)
    (g off : Nat) (cur : List Value) (t : TypeId) (hg : w.heap[g]? = some (.cells cur.toArray t (0, 0))) (m : Nat) (hm : m = Nat.min sLen dLen) (cs : List Value) (hn : cs.length = m * size)
    (hpos : 0 < m → dp = some ⟨g, off, none⟩ ∧ ∃ ad, sp = some ad ∧ ∀ j v, cs[j]? = some v → w.cell? (ad.add j) = some v)
    (hfit : off + cs.length ≤ cur.length) (h1 : ∀ v ∈ cs, v.oneCell' = true)
    (h : ∀ w', Hid (w'.heap[g]? = some (.cells (splice cur off cs).toArray t (0, 0))) → Keeps (fun k => k = g) w w' → K (a.put o.dst (goInt m)) w') : o.wp P a w K Q := by
  by_cases h0 : m = 0
  · subst h0
    obtain rfl : cs = [] := List.eq_nil_of_length_eq_zero (by simpa using hn)
    exact copy_upon d s dT sT ho _ _ hd hs (run_copy_zero w dT sT o.type elem size dp sp dLen dCap sLen sCap hu hsz hm.symm) (h w (Lib.hid (by simpa [splice] using hg)) (Keeps.refl _ _))
  · obtain ⟨rfl, ad, rfl, hsrc⟩ := hpos (by omega)
    refine copy_upon d s dT sT ho _ _ hd hs (run_copy_k w dT sT o.type elem size g off dLen dCap ad sLen sCap cur.toArray t m cs hu hsz hg hm hn hsrc (by simpa using hfit) h1) (h _ (Lib.hid ?_) (keeps_setRow _ _ _))
    simpa [splice] using setRow_heap w g _ _ t _ hg

theorem wpList_copy_k (hgd : o.guard = none) (d s : Operand) (dT sT : TypeId) (ho : o.op = .call { callee := .builtin .copy, args := #[d, s], argTypes := #[dT, sT] }) (elem : TypeId) (hu : P.underlying dT = some (.slice elem)) (size : Nat) (hsz : (P.info? elem).map (·.size) = some size)
    (dp sp : Option Addr) (dLen dCap sLen sCap : Nat) (hd : a.eval d = .slice dp dLen dCap) (hs : a.eval s = .slice sp sLen sCap)
    (g off : Nat) (cur : List Value) (t : TypeId) (hg : w.heap[g]? = some (.cells cur.toArray t (0, 0))) (m : Nat) (hm : m = Nat.min sLen dLen) (cs : List Value) (hn : cs.length = m * size)
    (hpos : 0 < m → dp = some ⟨g, off, none⟩ ∧ ∃ ad, sp = some ad ∧ ∀ j v, cs[j]? = some v → w.cell? (ad.add j) = some v)
    (hfit : off + cs.length ≤ cur.length) (h1 : ∀ v ∈ cs, v.oneCell' = true)
    (h : ∀ w', Hid (w'.heap[g]? = some (.cells (splice cur off cs).toArray t (0, 0))) → Keeps (fun k => k = g) w w' → wpList P ops Q rest (a.put o.dst (goInt m)) w') : wpList P ops Q (o :: rest) a w :=
  wpList_plain hgd fun _ hK => wp_copy_k d s dT sT ho elem hu size hsz dp sp dLen dCap sLen sCap hd hs g off cur t hg m hm cs hn hpos hfit h1 fun w' h2 h3 => hK _ _ (h w' h2 h3)

theorem step_copy_k {K : Act → World → Prop} {E : Prop} (hgd : o.guard = none) (d s : Operand) (dT sT : TypeId) (ho : o.op = .call { callee := .builtin .copy, args := #[d, s], argTypes := #[dT, sT] }) (elem : TypeId) (hu : P.underlying dT = some (.slice elem)) (size : Nat) (hsz : (P.info? elem).map (·.size) = some size)
    (dp sp : Option Addr) (dLen dCap sLen sCap : Nat) (hd : a.eval d = .slice dp dLen dCap) (hs : a.eval s = .slice sp sLen sCap)
    (g off : Nat) (cur : List Value) (t : TypeId) (hg : w.heap[g]? = some (.cells cur.toArray t (0, 0))) (m : Nat) (hm : m = Nat.min sLen dLen) (cs : List Value) (hn : cs.length = m * size)
    (hpos : 0 < m → dp = some ⟨g, off, none⟩ ∧ ∃ ad, sp = some ad ∧ ∀ j v, cs[j]? = some v → w.cell? (ad.add j) = some v)
    (hfit : off + cs.length ≤ cur.length) (h1 : ∀ v ∈ cs, v.oneCell' = true)
    (h : ∀ w', Hid (w'.heap[g]? = some (.cells (splice cur off cs).toArray t (0, 0))) → Keeps (fun k => k = g) w w' → K (a.put o.dst (goInt m)) w') :
    if Region.wanted o (yielded ops a.tmps) = true then Oper.wp P o a w K Q else E := by
  have hw : Region.wanted o (yielded ops a.tmps) = true := by simp [Region.wanted, hgd]
  rw [if_pos hw]
  exact wp_copy_k d s dT sT ho elem hu size hsz dp sp dLen dCap sLen sCap hd hs g off cur t hg m hm cs hn hpos hfit h1 h
end

/-- append onto a slice at the head of a row, some elements behind. -/
theorem run_append_row {P : Program} (w : World) (t ty e : TypeId) (i : TypeInfo) (z : Value) (size bytes : Nat) (ht : P.underlying t = some (.slice e)) (hi : P.info? e = some i) (hz : i.zero = some z)
    (hsize : i.size = size) (hby : i.bytes = bytes) (hzs : z.cells.size = size) (hsz : 0 < size)
    (v : Value) (n : Nat) (xs : List Value) (hown : Row w e size v n xs)
    (a : Addr) (m c : Nat) (news : List Value) (hl : news.length = m * size) (hnews : ∀ j u, news[j]? = some u → w.cell? (a.add j) = some u) (h1 : ∀ u ∈ news, u.oneCell' = true)
    (hbytes : (n + m) * bytes ≤ 140737488355328) (hb0 : 0 < bytes) :
    ∃ v' w', (Builtin.append_ #[t, t] ty #[v, .slice (some a) m c]).run P w = .ok v' w' ∧ Row w' e size v' (n + m) (xs ++ news) ∧ Keeps (fun g => v.ownBlock = some g) w w' ∧
      (v'.ownBlock = v.ownBlock ∨ v'.ownBlock = some w.heap.size) := by
  have h63 : n + m ≤ maxLen := by
    have : n + m ≤ (n + m) * bytes := Nat.le_mul_of_pos_right _ hb0
    unfold maxLen; omega
  rcases hown.2 with ⟨rfl, rfl⟩ | ⟨g, cap, cur, rfl, hg, hnc, hcm, hcs, htake⟩
  · have hx : xs = [] := List.eq_nil_of_length_eq_zero (by simpa using hown.1)
    subst hx
    obtain ⟨v', w', hr, h2, h3, _, h5⟩ := run_append_own_at (P := P) w 0 t ty e i z size bytes ht hi hz hsize hby hzs hsz _ 0 [] (World.ownsRow_nil w 0 e size) a m c news hl hnews h1 h63 hbytes (Nat.zero_le _)
    exact ⟨v', w', hr, .of_own h2, ⟨h3.os, h3.tape, h3.output, h3.size, fun k hk hf => h3.block k hk (fun e => hf e.symm)⟩, h5⟩
  · subst hsize
    subst hby
    have hlen : (xs ++ news).length = (n + m) * i.size := by rw [List.length_append, hown.1, hl, Nat.add_mul]
    by_cases hroom : n + m ≤ cap
    · have hfit : n * i.size + news.length ≤ cur.toArray.size := by
        rw [hl, ← Nat.add_mul, List.size_toArray]; exact Nat.le_trans (Nat.mul_le_mul_right _ hroom) hcs
      have hr := run_append_room (P := P) w t ty e i ht hi g n cap cur.toArray hg a m c news hl hnews h1 hroom hfit
      refine ⟨_, _, hr, ⟨hlen, .inr ⟨g, cap, _, rfl, setRow_heap w g cur.toArray _ e _ hg, hroom, hcm, ?_, ?_⟩⟩, keeps_setRow_own w g _ n cap, Or.inl rfl⟩
      · simp only [List.length_append, List.length_take, List.length_drop] at hfit ⊢
        simp only [List.size_toArray] at hfit
        omega
      · show (cur.take (n * i.size) ++ news ++ _).take _ = _
        rw [htake, ← hlen]
        exact List.take_left
    · have holds : ∀ j u, xs[j]? = some u → w.cell? ((⟨g, 0, none⟩ : Addr).add j) = some u := fun j u hu => by
        rw [addr_add0, cell_of_row w g j _ _ (0, 0) hg]
        rw [← htake, List.getElem?_take] at hu
        split at hu
        · simpa using hu
        · cases hu
      have hr := run_append_grow (P := P) w t ty e i z ht hi hz ⟨g, 0, none⟩ n cap xs hown.1 holds a m c news hl hnews (by omega) (by simp only [maxLen] at h63; omega) (growslice_fits (by omega) hbytes)
      have hge := grownCap_ge w (n + m) cap e
      have hcm' : grownCap w (n + m) cap e ≤ maxLen := grownCap_le_maxLen w (n + m) cap e h63
      rw [show (xs.toArray ++ news.toArray ++ Builtin.zeroCells z.cells (grownCap w (n + m) cap e - (n + m))) = (xs ++ news ++ (Builtin.zeroCells z.cells (grownCap w (n + m) cap e - (n + m))).toList).toArray from by apply Array.ext'; simp] at hr
      refine ⟨_, _, hr, ⟨hlen, .inr ⟨w.heap.size, _, _, rfl, heap_alloc_new w.drew _, hge, hcm', ?_, ?_⟩⟩, ((Keeps.refl _ w).drew).alloc _, Or.inr rfl⟩
      · simp only [List.length_append, Array.length_toList, size_zeroCells, hzs, hown.1, hl, ← Nat.add_mul]
        exact Nat.le_of_eq (by congr 1; omega)
      · rw [← hlen]
        exact List.take_left

theorem wpList_append_row {P : Program} {w : World} {ops : Array Oper} {rest : List Oper} {o : Oper} {a : Act} {Q : Exit → Act → World → Prop} (hgd : o.guard = none) (s x : Operand) (t : TypeId)
    (ho : o.op = .call { callee := .builtin .append, args := #[s, x], argTypes := #[t, t] })
    (e : TypeId) (i : TypeInfo) (z : Value) (size bytes : Nat) (ht : P.underlying t = some (.slice e)) (hi : P.info? e = some i) (hz : i.zero = some z)
    (hsize : i.size = size) (hby : i.bytes = bytes) (hzs : z.cells.size = size) (hsz : 0 < size)
    (v : Value) (n : Nat) (xs : List Value) (hs : a.eval s = v) (hown : Row w e size v n xs)
    (ad : Addr) (m c : Nat) (news : List Value) (hx : a.eval x = .slice (some ad) m c) (hl : news.length = m * size) (hnews : ∀ j u, news[j]? = some u → w.cell? (ad.add j) = some u) (h1 : ∀ u ∈ news, u.oneCell' = true)
    (hbytes : (n + m) * bytes ≤ 140737488355328) (hb0 : 0 < bytes)
    (h : ∀ v' w', Row w' e size v' (n + m) (xs ++ news) → Keeps (fun g => v.ownBlock = some g) w w' → (v'.ownBlock = v.ownBlock ∨ v'.ownBlock = some w.heap.size) → wpList P ops Q rest (a.put o.dst v') w') :
    wpList P ops Q (o :: rest) a w := by
  refine wpList_plain hgd fun K hK => ?_
  obtain ⟨v', w', hr, h2, h3, h4⟩ := run_append_row (P := P) w t o.type e i z size bytes ht hi hz hsize hby hzs hsz v n xs hown ad m c news hl hnews h1 hbytes hb0
  unfold Oper.wp execOp
  simp only [ho, resolve, invoke, builtin, Sem.run_bind, Sem.run_pure, Result.andThen_ok, List.map_toArray, List.map_cons, List.map_nil, hs, hx, hr]
  exact hK _ _ (h v' w' h2 h3 h4)

/-- What a row holds when something has been put in: all shifted on, then the new one laid over. -/
theorem splice_put {α : Type} (cur xs ys : List α) (p q : Nat) (hx : cur.take q = xs) (hp : p ≤ q) (hq : q + ys.length ≤ cur.length) :
    (splice (splice cur (p + ys.length) (xs.drop p)) p ys).take (q + ys.length) = xs.take p ++ ys ++ xs.drop p := by
  have hxl : xs.length = q := by rw [← hx, List.length_take]; omega
  have hdl : (xs.drop p).length = q - p := by rw [List.length_drop, hxl]
  have e1 : (splice cur (p + ys.length) (xs.drop p)) = cur.take (p + ys.length) ++ (xs.drop p ++ cur.drop (p + ys.length + (q - p))) := by unfold splice; rw [hdl]
  have hcp : cur.take p = xs.take p := by rw [← hx, List.take_take, Nat.min_eq_left hp]
  have e2 : splice (splice cur (p + ys.length) (xs.drop p)) p ys = xs.take p ++ (ys ++ (xs.drop p ++ cur.drop (p + ys.length + (q - p)))) := by
    rw [e1]
    unfold splice
    rw [List.take_append_of_le_length (by rw [List.length_take]; omega), List.take_take, Nat.min_eq_left (by omega), hcp]
    congr 2
    rw [List.drop_append, List.drop_eq_nil_of_le (by rw [List.length_take]; omega), List.nil_append, List.length_take, Nat.min_eq_left (by omega), Nat.sub_self, List.drop_zero]
  rw [e2, ← List.append_assoc, ← List.append_assoc]
  exact List.take_left' (by simp [hxl]; omega)

/-- What a new row holds when it has been filled behind what stands ahead. -/
theorem splice_fill {α : Type} (cur A ys X : List α) (p : Nat) (hp : cur.take p = A) (hl : p + ys.length + X.length ≤ cur.length) :
    (splice (splice cur p ys) (p + ys.length) X).take (p + ys.length + X.length) = A ++ ys ++ X := by
  have e1 : splice cur p ys = A ++ (ys ++ cur.drop (p + ys.length)) := by unfold splice; rw [hp]
  have hA : A.length = p := by rw [← hp, List.length_take]; omega
  have e2 : (splice cur p ys).take (p + ys.length) = A ++ ys := by
    rw [e1, ← List.append_assoc]; exact List.take_left' (by simp [hA])
  unfold splice at e2 ⊢
  rw [e2, ← List.append_assoc, List.take_left' (by simp [hA]; omega)]

theorem toArray3 (l : List Value) (a b : Array Value) : l.toArray ++ a ++ b = (l ++ a.toList ++ b.toList).toArray := by apply Array.ext'; simp

end Go.Proofs.Ytoddohhhhnahnaa
