/- Tables of floats, walked: a map of no entry, or of one. -/
import Derived.Test.YtnnhlggofmphcaaMem
import Derived.Test.YtnnhlggofmphcaaProg
import Derived.WalkLawsBesides
import Derived.Maps.RangeRun
import Derived.Outline
namespace Go.Proofs.Ytnnhlggofmphcaa
open Go.RowKit
open Go.ChangeMaps (setBlock)

/-- The model's '==' on floats. -/
def feq (x y : Nat) : Bool := Op.floatEq .f64 x y

section
variable (w : World) (x : Nat)
theorem check_f (em : Bool) : (Instr.checkKey em 10000 25 (.float .f64 x)).run Try.prog w = .ok () w := by
  show (Instr.checkKey em (9999 + 1) 25 (.float .f64 x)).run Try.prog w = .ok () w
  unfold Instr.checkKey
  simp only [Sem.run_bind, run_underlying Try.underlying25, Result.andThen_ok, Sem.run_pure]
theorem find_f_nil : (Instr.findKey 25 (.float .f64 x) []).run Try.prog w = .ok none w := by
  simp [Instr.findKey, run_underlying Try.underlying25, Instr.findNow]
theorem equal_f (y : Nat) : (Op.equal 25 (.float .f64 x) (.float .f64 y)).run Try.prog w = .ok (feq x y) w := by
  show (Op.equalIn (9999 + 1) 25 (.float .f64 x) (.float .f64 y)).run Try.prog w = .ok (feq x y) w
  unfold Op.equalIn
  simp only [Sem.run_bind, run_underlying Try.underlying25, Result.andThen_ok, if_true, Sem.run_pure]
  rfl
theorem find_f_one (y : Nat) (v : Value) (b : Nat) : (Instr.findKey 25 (.float .f64 x) [⟨.float .f64 y, v, b⟩]).run Try.prog w = .ok (if feq x y then some (0, v) else none) w := by
  cases h : feq x y <;> simp [Instr.findKey, run_underlying Try.underlying25, Instr.findNow, Instr.sameNow, Instr.findAsking, equal_f, h]
end

section
variable {w : World} {mb c y b : Nat} {t : Int}
theorem zero_int (W : World) : (zeroValue 3).run Try.prog W = .ok (.int .i64 0) W := by kernel_rfl

theorem run_lookup_nil (hm : w.heap[mb]? = some (.map #[] c)) (x : Nat) : (Instr.lookup 70 (.map (some mb)) (.float .f64 x) true).run Try.prog w = .ok (.tuple #[.int .i64 0, .bool false]) w := by
  have h1 := find_f_nil w x
  have h2 := check_f w x
  unfold Instr.lookup
  simp only [Sem.run_bind, run_underlying Try.underlying70, Result.andThen_ok, getObj, Sem.run, hm, h2, Sem.run_pure]
  simp [h1, zero_int]
theorem run_lookup_one (hm : w.heap[mb]? = some (.map #[⟨.float .f64 y, .int .i64 t, b⟩] c)) (x : Nat) : (Instr.lookup 70 (.map (some mb)) (.float .f64 x) true).run Try.prog w = .ok (.tuple #[if feq x y then .int .i64 t else .int .i64 0, .bool (feq x y)]) w := by
  have h1 := find_f_one w x y (.int .i64 t) b
  have h2 := check_f w x
  unfold Instr.lookup
  simp only [Sem.run_bind, run_underlying Try.underlying70, Result.andThen_ok, getObj, Sem.run, hm, h2, Sem.run_pure]
  cases h : feq x y <;> simp [h1, zero_int, h]
theorem run_update_nil (hm : w.heap[mb]? = some (.map #[] c)) (x : Nat) (v : Value) : (Instr.mapUpdate 70 (.map (some mb)) (.float .f64 x) v).run Try.prog w = .ok () (setBlock w mb (.map #[⟨.float .f64 x, v, c⟩] (c + 1))) := by
  have h1 := find_f_nil w x
  have h2 := check_f w x
  unfold Instr.mapUpdate
  simp only [Sem.run_bind, run_underlying Try.underlying70, Result.andThen_ok, getObj, Sem.run, hm, h2, Sem.run_pure]
  simp [h1, setObj, Sem.run, hm, setBlock]
theorem run_delete_nil (hm : w.heap[mb]? = some (.map #[] c)) (x : Nat) (ty : TypeId) : (Builtin.delete_ #[70, 25] ty #[.map (some mb), .float .f64 x]).run Try.prog w = .ok (.tuple #[]) (setBlock w mb (.map #[] c)) := by
  have h1 := find_f_nil w x
  have h2 := check_f w x
  unfold Builtin.delete_
  simp [Sem.run_bind, run_underlying Try.underlying70, Result.andThen_ok, getObj, Sem.run, hm, h2, h1, setObj, setBlock]
theorem run_delete_one (hm : w.heap[mb]? = some (.map #[⟨.float .f64 y, .int .i64 t, b⟩] c)) (x : Nat) (h : feq x y = true) (ty : TypeId) : (Builtin.delete_ #[70, 25] ty #[.map (some mb), .float .f64 x]).run Try.prog w = .ok (.tuple #[]) (setBlock w mb (.map #[] c)) := by
  have h1 := find_f_one w x y (.int .i64 t) b
  have h2 := check_f w x
  rw [h] at h1
  unfold Builtin.delete_
  simp [Sem.run_bind, run_underlying Try.underlying70, Result.andThen_ok, getObj, Sem.run, hm, h2, h1, setObj, setBlock]
end
end Go.Proofs.Ytnnhlggofmphcaa
