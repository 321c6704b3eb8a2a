/- Map operations at a walk, each by the equation of its run, over any program. No statement of a law stands here. -/
import Derived.Test.YtnnhlggofmphcaaMem
import Derived.Maps.OwnOps
import Derived.Maps.OwnSet
import Derived.Maps.RangeWalk
namespace Go.Proofs.Ytnnhlggofmphcaa
open Go.RowKit
open Go.ChangeMaps (setBlock)

section
variable {P : Program} {w : World} {ops : Array Oper} {rest : List Oper} {o : Oper} {a : Act} {Q : Exit → Act → World → Prop}
theorem wpList_lookup_run (hg : o.guard = none) (m x : Operand) (t : TypeId) (ok : Bool) (hop : o.op = Op.lookup t m x ok) (mv key v : Value) (hm : a.eval m = mv) (hx : a.eval x = key)
    (hr : (Instr.lookup t mv key ok).run P w = .ok v w) (h : wpList P ops Q rest (a.put o.dst v) w) : wpList P ops Q (o :: rest) a w :=
  wpList_plain hg fun _ hK => by
    unfold Oper.wp
    simp [execOp, hop, hm, hx, hr, Result.andThen]
    exact hK _ _ h
theorem wpList_update_run (hg : o.guard = none) (m x v : Operand) (t : TypeId) (hop : o.op = Op.mapUpdate t m x v) (mv key val : Value) (w' : World) (hm : a.eval m = mv) (hx : a.eval x = key) (hv : a.eval v = val)
    (hr : (Instr.mapUpdate t mv key val).run P w = .ok () w') (h : wpList P ops Q rest (a.put o.dst undef) w') : wpList P ops Q (o :: rest) a w :=
  wpList_plain hg fun _ hK => by
    unfold Oper.wp
    simp [execOp, hop, hm, hx, hv, hr, Result.andThen]
    exact hK _ _ h
theorem wpList_delete_run (hg : o.guard = none) (m x : Operand) (t k : TypeId) (hop : o.op = Op.call { callee := Callee.builtin Builtin.delete, args := #[m, x], argTypes := #[t, k] }) (mv key : Value) (w' : World) (hm : a.eval m = mv) (hx : a.eval x = key)
    (hr : (Builtin.delete_ #[t, k] o.type #[mv, key]).run P w = .ok (.tuple #[]) w') (h : wpList P ops Q rest (a.put o.dst (.tuple #[])) w') : wpList P ops Q (o :: rest) a w :=
  wpList_plain hg fun _ hK => by
    unfold Oper.wp
    simp [execOp, hop, resolve, invoke, builtin, hm, hx, hr, Result.andThen]
    exact hK _ _ h
theorem wpList_len_run (hg : o.guard = none) (m : Operand) (t : TypeId) (hop : o.op = Op.call { callee := Callee.builtin Builtin.len, args := #[m], argTypes := #[t] }) (mv v : Value) (hm : a.eval m = mv)
    (hr : (Builtin.len_ #[t] o.type #[mv]).run P w = .ok v w) (h : wpList P ops Q rest (a.put o.dst v) w) : wpList P ops Q (o :: rest) a w :=
  wpList_plain hg fun _ hK => by
    unfold Oper.wp
    simp [execOp, hop, resolve, invoke, builtin, hm, hr, Result.andThen]
    exact hK _ _ h
end

theorem setBlock_fr (w : World) (b : Nat) (o : Obj) : Fr [b] w (setBlock w b o) :=
  ⟨rfl, rfl, rfl, by simp [setBlock], fun k _ hk => by
    simp only [List.mem_singleton] at hk
    simp only [setBlock]
    rw [Array.getElem?_setIfInBounds_ne (by omega)]⟩
theorem setBlock_at {w : World} {b : Nat} {o o' : Obj} (h : w.heap[b]? = some o) : (setBlock w b o').heap[b]? = some o' := by
  have := (Array.getElem?_eq_some_iff.1 h).1
  simp [setBlock, this]
end Go.Proofs.Ytnnhlggofmphcaa
