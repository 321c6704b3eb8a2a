/- The law OplogRange, walked up to the range: among; the two logs, made and filled. -/
import Derived.Test.YtneinhhmhgdefaaLogD
import Derived.Test.YtneinhhmhgdefaaRefC
namespace Go.Proofs.Ytneinhhmhgdefaa
open Go.RowKit Go.Shelf

/-- One entry of a script: what is to be done. -/
structure Deed where
  kd : Int
  lg : Int
  op : Int
  mo : Int
  e : Ent
  A : Option Addr
  xs : List Ent
  cap : Nat
def Deed.cells (a : Deed) : List Value := [.int .i64 a.kd, .int .i64 a.lg, .int .i64 a.op, .int .i64 a.mo, .int .i64 a.e.c, .int .i64 a.e.n, .int .i64 a.e.k, .string a.e.nm, .string a.e.tx, .int .i64 a.e.u, .int .i64 a.e.m, .slice a.A a.xs.length a.cap]
def flatD (l : List Deed) : List Value := l.flatMap Deed.cells
theorem flatD_cons (e : Deed) (l : List Deed) : flatD (e :: l) = e.cells ++ flatD l := by simp [flatD]
theorem flatD_length (l : List Deed) : (flatD l).length = l.length * 12 := by
  induction l with
  | nil => rfl
  | cons e l ih => rw [flatD_cons, List.length_append, ih, List.length_cons]; simp [Deed.cells]; omega
theorem flatD_get (l : List Deed) (i j : Nat) (e : Deed) (h : l[i]? = some e) (hj : j < 12) : (flatD l)[i * 12 + j]? = e.cells[j]? := by
  induction l generalizing i with
  | nil => simp at h
  | cons x l ih =>
    rw [flatD_cons]
    cases i with
    | zero =>
      simp at h; subst h
      rw [List.getElem?_append_left (by simp [Deed.cells]; omega)]; simp
    | succ i =>
      rw [List.getElem?_append_right (by simp [Deed.cells]; omega)]
      have e1 : (i + 1) * 12 + j - x.cells.length = i * 12 + j := by simp [Deed.cells]; omega
      rw [e1]
      exact ih i (by simpa using h)
/-- A script whose lists lie in memory. -/
structure Deeds (w : World) (A : Option Addr) (l : List Deed) : Prop where
  rds : Rds w A (flatD l)
  lists : ∀ d ∈ l, Rds w d.A (flat d.xs)
  long : ∀ d ∈ l, d.xs.length * 72 ≤ 140737488351232
  kind : ∀ d ∈ l, -9223372036854775808 ≤ d.kd ∧ d.kd ≤ 9223372036854775807

theorem among_any (i : Int) (n : Nat) (w : World) (h0 : -9223372036854775808 ≤ i) (h1 : i ≤ 9223372036854775807) (hn : 0 < n) (hn2 : n ≤ 1000000000000) :
    Calls Try.prog 11 #[.int .i64 i, .int .i64 (n : Int)] w fun r w' => r = .returned (.int .i64 (i % (n : Int))) ∧ w = w' := by
  have t1 : decide (n < 1) = false := by simp; omega
  have hz : ((n : Int) == 0) = false := by simp; omega
  have hm : i.tmod n = if i < 0 ∧ i % n ≠ 0 then i % n - n else i % n := by
    have h2 := Int.emod_nonneg i (show (n : Int) ≠ 0 by omega)
    have h3 := Int.emod_lt_of_pos i (show (0 : Int) < n by omega)
    rw [Int.tmod_eq_emod]
    have h4 : (n : Int).natAbs = n := by omega
    by_cases hi : 0 ≤ i
    · simp [hi]; intro h; omega
    · have h5 : (n : Int) ∣ i ↔ i % n = 0 := Int.dvd_iff_emod_eq_zero
      by_cases hd : i % (n : Int) = 0
      · simp [h5.2 hd, hd]
      · have h6 : ¬ (n : Int) ∣ i := fun h => hd (h5.1 h)
        simp [hi, h6, hd] <;> omega
  have h2 := Int.emod_nonneg i (show (n : Int) ≠ 0 by omega)
  have h3 := Int.emod_lt_of_pos i (show (0 : Int) < n by omega)
  obtain ⟨r, hr⟩ : ∃ r, i % (n : Int) = r := ⟨_, rfl⟩
  rw [hr] at hm h2 h3 ⊢
  have HR := Lib.hid hr
  clear hr
  by_cases hc : i < 0 ∧ r ≠ 0
  · rw [if_pos hc] at hm
    have e1 : IntKind.i64.wrap (r - (n : Int)) = r - (n : Int) := IntWalk.i64_in _ (by omega)
    have e2 : IntKind.i64.wrap (r - (n : Int) + (n : Int)) = r := by rw [IntWalk.i64_in _ (by omega)]; omega
    have t2 : decide (r - (n : Int) < 0) = true := by simp; omega
    go_enter Try.func11, Try.ntmps11
    go_wp2
    all_goals go_ret
    all_goals simp
  · rw [if_neg hc] at hm
    go_enter Try.func11, Try.ntmps11
    go_wp2
    all_goals go_ret
    all_goals simp

theorem among3 (i : Int) (w : World) (h0 : -9223372036854775808 ≤ i) (h1 : i ≤ 9223372036854775807) :
    Calls Try.prog 11 #[.int .i64 i, .int .i64 3] w fun r w' => r = .returned (.int .i64 (i % 3)) ∧ w = w' := among_any i 3 w h0 h1 (by omega) (by omega)

set_option maxRecDepth 100000 in
set_option maxHeartbeats 2000000 in
theorem range_bad (room : Int) (w : World) (h : room < 1 ∨ 64 < room) (A1 A2 : Option Addr) (l1 c1 l2 c2 : Nat) :
    Calls Try.prog 3 #[.int .i64 room, .slice A1 l1 c1, .slice A2 l2 c2] w fun r w' => r = .returned (.bool true) ∧ Fr [] w w' := by
  have H := Lib.hid h
  clear h
  refine (callsIn_wide (n := 0)).1 (callsIn_of_wp_marks Try.func3 rfl trivial (wpIn_wide.2 ?_) rfl)
  simp only [Try.ntmps3, List.size_toArray, List.length_cons, List.length_nil, Nat.reduceAdd, Nat.reduceSub, Array.replicate_succ, Array.replicate_zero, List.push_toArray, List.append_toArray, List.nil_append, List.cons_append]
  go_wp2_with fail
  refine (New_bad room _ H.out).mono ?_
  rintro r w1 ⟨rfl, hf1⟩
  have b6 : Blk w1 (w.heap.size + 1) 4 [.bool false] := Blk.fr (Blk.new' (by simp)) hf1 (by simp)
  have s6 := b6.lt
  go_wp2_with fail
  refine (rNew_bad room _ H.out).mono ?_
  rintro r w2 ⟨rfl, hf2⟩
  have k7 : w2.cell? ⟨w1.heap.size, 0, none⟩ = some (.pointer none) := hf2.cell (by simp) (by simp)
  have s7 : w1.heap.size < w2.heap.size := by have := hf2.size; simp at this; omega
  have b6' := (b6.alloc (.cells #[.pointer none] 24)).fr hf2 (by simp)
  have k6 : w2.cell? ⟨w.heap.size + 1, 0, none⟩ = some (.bool false) := b6'.cell 0
  have z6 := b6'.frozen 0
  have s6' := b6'.lt
  clear b6
  go_wp2
  have c6 : ((w2.setCell ⟨w.heap.size + 1, 0, none⟩ (.bool true)).alloc (.cells #[.pointer none] 28)).cell? ⟨w.heap.size + 1, 0, none⟩ = some (.bool true) := ((b6'.set_ 0 (.bool true)).alloc _).cell 0
  refine ⟨.bool true, ?_, rfl, ?_⟩
  · simp [results, Try.f3, go_sem, c6]
  · have e1 : Fr [] w w1 := (((Fr.refl [] w).alloc _).alloc _).trans hf1
    have e2 : Fr [] w w2 := (e1.alloc _).trans hf2
    exact (e2.setCell' (.inr (by omega))).alloc _
end Go.Proofs.Ytneinhhmhgdefaa
