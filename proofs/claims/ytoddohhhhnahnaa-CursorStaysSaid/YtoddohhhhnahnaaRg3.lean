/- An append at a step of a drawn region. -/
import Derived.Test.YtoddohhhhnahnaaPt1
namespace Go.Proofs.Ytoddohhhhnahnaa
open Go.RowKit

theorem step_append_row {P : Program} {w : World} {ops : Array Oper} {o : Oper} {a : Act} {Q : Exit → Act → World → Prop} {K : Act → World → Prop} {E : Prop} (hgd : o.guard = none) (s x : Operand) (t : TypeId)
    (ho : o.op = .call { callee := .builtin .append, args := #[s, x], argTypes := #[t, t] })
    (e : TypeId) (i : TypeInfo) (z : Value) (size bytes : Nat) (ht : P.underlying t = some (.slice e)) (hi : P.info? e = some i) (hz : i.zero = some z)
    (hsize : i.size = size) (hby : i.bytes = bytes) (hzs : z.cells.size = size) (hsz : 0 < size)
    (v : Value) (n : Nat) (xs : List Value) (hs : a.eval s = v) (hown : Row w e size v n xs)
    (ad : Addr) (m c : Nat) (news : List Value) (hx : a.eval x = .slice (some ad) m c) (hl : news.length = m * size) (hnews : ∀ j u, news[j]? = some u → w.cell? (ad.add j) = some u) (h1 : ∀ u ∈ news, u.oneCell' = true)
    (hbytes : (n + m) * bytes ≤ 140737488355328) (hb0 : 0 < bytes)
    (h : ∀ v' w', Row w' e size v' (n + m) (xs ++ news) → Keeps (fun g => v.ownBlock = some g) w w' → (v'.ownBlock = v.ownBlock ∨ v'.ownBlock = some w.heap.size) → K (a.put o.dst v') w') :
    if Region.wanted o (yielded ops a.tmps) = true then Oper.wp P o a w K Q else E := by
  have hw : Region.wanted o (yielded ops a.tmps) = true := by simp [Region.wanted, hgd]
  rw [if_pos hw]
  obtain ⟨v', w', hr, h2, h3, h4⟩ := run_append_row (P := P) w t o.type e i z size bytes ht hi hz hsize hby hzs hsz v n xs hown ad m c news hl hnews h1 hbytes hb0
  unfold Oper.wp execOp
  simp only [ho, resolve, invoke, builtin, Sem.run_bind, Sem.run_pure, Result.andThen_ok, List.map_toArray, List.map_cons, List.map_nil, hs, hx, hr]
  exact h v' w' h2 h3 h4

theorem Keeps.someF {F : Nat → Prop} {a b : World} (h : Keeps F a b) {g o : Nat} {v : Value} (hc : a.cell? ⟨g, o, none⟩ = Option.some v) (hn : ¬ F g) : b.cell? ⟨g, o, none⟩ = Option.some v := by
  rw [h.cell (World.block_lt_of_cell? a ⟨g, o, none⟩ hc) hn]; exact hc

theorem op_info : (Try.prog.info? 49).map (fun i => (i.zero, i.size, i.bytes)) = some (some (.agg #[.int .i64 0, .int .i64 0, .int .i64 0, .bool false, .int .i64 0, .int .i64 0, .int .i32 0]), 7, 56) := by kernel_rfl

theorem opsV_append (a b : List Rga.Opn) : opsV (a ++ b) = opsV a ++ opsV b := by simp [opsV]
theorem opsV_one (o : Rga.Opn) : opsV [o] = opL o := by simp [opsV]
end Go.Proofs.Ytoddohhhhnahnaa
