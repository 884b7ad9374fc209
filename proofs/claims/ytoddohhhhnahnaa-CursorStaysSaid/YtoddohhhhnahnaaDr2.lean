/- Two laws more: a drawn region in which two operations may come up; an append of nothing at a step. -/
import Derived.Test.YtoddohhhhnahnaaRg3
import Derived.Deep.Upon
namespace Go.Proofs.Ytoddohhhhnahnaa
open Go.RowKit

theorem wpD_mid2 {P : Program} {Q : Exit → Act → World → Prop} {D : List Nat} {S : World → Prop} {lo : List Oper} {i j : Nat} {oi oj : Oper} {n : Nat} {l : Array Bool} {a : Act} {w : World} (hr : Region.ready .any lo.toArray l = [i, j]) (hoi : lo[i]? = some oi) (hoj : lo[j]? = some oj)
    (hi : ∀ K' : Act → World → Prop, Shut (∀ a' w', (S w → S w') → wpD P lo.toArray Q D S n (l.setIfInBounds i true) a' w' → K' a' w') → if Region.wanted oi (yielded lo.toArray a.tmps) = true then Oper.wp P oi a w K' Q else K' (a.put oi.dst undef) w)
    (hj : ∀ K' : Act → World → Prop, Shut (∀ a' w', (S w → S w') → wpD P lo.toArray Q D S n (l.setIfInBounds j true) a' w' → K' a' w') → if Region.wanted oj (yielded lo.toArray a.tmps) = true then Oper.wp P oj a w K' Q else K' (a.put oj.dst undef) w) :
    wpD P lo.toArray Q D S (n + 1) l a w :=
  ⟨fun h0 => (by rw [hr] at h0; cases h0), fun k hk => by
    rw [hr] at hk
    rcases List.mem_cons.1 hk with rfl | hk
    · exact wpOp_step (by simpa using hoi) fun K' hK => hi K' fun a' w' h1 h2 => hK a' w' ⟨fun _ => h1, h2⟩
    · obtain rfl := List.mem_singleton.1 hk
      exact wpOp_step (by simpa using hoj) fun K' hK => hj K' fun a' w' h1 h2 => hK a' w' ⟨fun _ => h1, h2⟩⟩

theorem step_append_none {P : Program} {w : World} {ops : Array Oper} {o : Oper} {a : Act} {Q : Exit → Act → World → Prop} {K : Act → World → Prop} {E : Prop} (hgd : o.guard = none) (s x : Operand) (t : TypeId)
    (ho : o.op = .call { callee := .builtin .append, args := #[s, x], argTypes := #[t, t] })
    (e : TypeId) (i : TypeInfo) (ht : P.underlying t = some (.slice e)) (hi : P.info? e = some i)
    (b : Option Addr) (n c : Nat) (hn : n ≤ c) (hs : a.eval s = .slice b n c) (hx : a.eval x = .slice none 0 0)
    (h : K (a.put o.dst (.slice b n c)) w) :
    if Region.wanted o (yielded ops a.tmps) = true then Oper.wp P o a w K Q else E := by
  have hw : Region.wanted o (yielded ops a.tmps) = true := by simp [Region.wanted, hgd]
  rw [if_pos hw]
  have hr : (Builtin.append_ #[t, t] o.type #[.slice b n c, .slice none 0 0]).run P w = .ok (.slice b n c) w := by
    cases b <;> simp [Builtin.append_, run_underlying ht, sizeOf, typeInfo, hi, Builtin.lenOf, Builtin.firstCells, hn, storeCells]
  unfold Oper.wp execOp
  simp only [ho, resolve, invoke, builtin, Sem.run_bind, Sem.run_pure, Result.andThen_ok, List.map_toArray, List.map_cons, List.map_nil, hs, hx, hr]
  exact h

/-- An append onto an empty slice without room: a new row. -/
theorem step_append_fresh {P : Program} {w : World} {ops : Array Oper} {o : Oper} {a : Act} {Q : Exit → Act → World → Prop} {K : Act → World → Prop} {E : Prop} (hgd : o.guard = none) (s x : Operand) (t : TypeId)
    (ho : o.op = .call { callee := .builtin .append, args := #[s, x], argTypes := #[t, t] })
    (e : TypeId) (i : TypeInfo) (z : Value) (size bytes : Nat) (ht : P.underlying t = some (.slice e)) (hi : P.info? e = some i) (hz : i.zero = some z)
    (hsize : i.size = size) (hby : i.bytes = bytes) (hzs : z.cells.size = size)
    (g0 : Nat) (hs : a.eval s = .slice (some ⟨g0, 0, none⟩) 0 0)
    (ad : Addr) (m c : Nat) (news : List Value) (hx : a.eval x = .slice (some ad) m c) (hm : 0 < m) (hl : news.length = m * size) (hnews : ∀ j u, news[j]? = some u → w.cell? (ad.add j) = some u)
    (hbytes : m * bytes ≤ 140737488355328) (hb0 : 0 < bytes)
    (h : ∀ v' w', Row w' e size v' m news → Keeps NoB w w' → v'.ownBlock = some w.heap.size → K (a.put o.dst v') w') :
    if Region.wanted o (yielded ops a.tmps) = true then Oper.wp P o a w K Q else E := by
  have hw : Region.wanted o (yielded ops a.tmps) = true := by simp [Region.wanted, hgd]
  rw [if_pos hw]
  subst hsize
  subst hby
  have h63 : 0 + m ≤ maxLen := by
    have : m ≤ m * i.bytes := Nat.le_mul_of_pos_right _ hb0
    unfold maxLen; omega
  have hr := run_append_grow (P := P) w t o.type e i z ht hi hz ⟨g0, 0, none⟩ 0 0 [] (by simp) (by intro j u hu; simp at hu) ad m c news hl hnews (by omega) (by simp only [maxLen] at h63; omega) (growslice_fits (by omega) (by simpa using hbytes))
  have hge := grownCap_ge w (0 + m) 0 e
  have hcm' : grownCap w (0 + m) 0 e ≤ maxLen := grownCap_le_maxLen w (0 + m) 0 e h63
  rw [show (([] : List Value).toArray ++ news.toArray ++ Builtin.zeroCells z.cells (grownCap w (0 + m) 0 e - (0 + m))) = (news ++ (Builtin.zeroCells z.cells (grownCap w (0 + m) 0 e - (0 + m))).toList).toArray from by apply Array.ext'; simp] at hr
  unfold Oper.wp execOp
  simp only [ho, resolve, invoke, builtin, Sem.run_bind, Sem.run_pure, Result.andThen_ok, List.map_toArray, List.map_cons, List.map_nil, hs, hx, hr]
  refine h _ _ ⟨hl, .inr ⟨w.heap.size, _, _, by rw [Nat.zero_add], heap_alloc_new w.drew _, by omega, hcm', ?_, ?_⟩⟩ (((Keeps.refl _ w).drew).alloc _) rfl
  · simp only [List.length_append, Array.length_toList, size_zeroCells, hzs, hl, ← Nat.add_mul]
    exact Nat.le_of_eq (by congr 1; omega)
  · rw [← hl]
    exact List.take_left
end Go.Proofs.Ytoddohhhhnahnaa
