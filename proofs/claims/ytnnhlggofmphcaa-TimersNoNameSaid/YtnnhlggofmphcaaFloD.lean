/- The law TimersNoName, walked. -/
import Derived.Test.YtnnhlggofmphcaaFloC
namespace Go.Proofs.Ytnnhlggofmphcaa
open Go.RowKit

theorem signed_zero {s : Bool} {m k : Nat} (h : Ieee.signed s m k = 0) : m = 0 := by
  unfold Ieee.signed at h
  have h2 : m <<< k = 0 := by
    split at h
    · omega
    · exact_mod_cast h
  rw [Nat.shiftLeft_eq] at h2
  rcases Nat.mul_eq_zero.1 h2 with h3 | h3
  · exact h3
  · have := Nat.two_pow_pos k; omega
theorem order_zero {d : Ieee.Datum} {j : Int} (h : d.order (.number false 0 j) = some .eq) : ∃ s i, d = .number s 0 i := by
  cases d with
  | nan s f => cases h
  | infinity s => cases s <;> simp [Ieee.Datum.order] at h
  | number s m i =>
    simp only [Ieee.Datum.order, Option.some.injEq] at h
    have h1 := Int.compare_eq_eq.1 h
    have h0 : Ieee.signed false 0 (j - min i j).toNat = 0 := by simp [Ieee.signed]
    rw [h0] at h1
    exact ⟨s, i, by rw [signed_zero h1]⟩
theorem zero_bits (f : Nat) (hf : f < 2 ^ 64) (h : feq f 0 = true) : f = 0 ∨ f = 2 ^ 63 := by
  have h1 : Ieee.double.order f 0 = some .eq := by
    unfold feq Op.floatEq at h
    simpa [FloatKind.format] using h
  unfold Ieee.Format.order at h1
  have h0 : Ieee.double.read 0 = .number false 0 Ieee.double.leastPlace := by decide +kernel
  rw [h0] at h1
  obtain ⟨s, i, hd⟩ := order_zero h1
  have e1 : Ieee.double.signWeight = 9223372036854775808 := by decide +kernel
  have e2 : Ieee.double.binade = 4503599627370496 := by decide +kernel
  unfold Ieee.Format.read at hd
  rw [e1, e2] at hd
  simp only at hd
  split at hd
  · injection hd with _ h2 _
    omega
  · split at hd
    · injection hd with _ h2 _
      omega
    · split at hd <;> cases hd
theorem feq_neg (f : Nat) (hf : f < 2 ^ 64) (h : feq f 0 = true) : feq (Op.negFloat .f64 f) f = true := by
  rcases zero_bits f hf h with rfl | rfl
  · decide +kernel
  · decide +kernel

set_option maxRecDepth 100000 in
theorem frombits_run (bits : Nat) (W : World) : (callFunc 7 #[.int .u64 (bits : Int)]).run Try.prog W = .ok (.value (.float .f64 bits)) W := by kernel_rfl

set_option maxRecDepth 100000 in
set_option maxHeartbeats 2000000 in
theorem law_nan (bits : Nat) (ticks : Int) (w : World) (hb : bits < 2 ^ 64) (hq : feq bits bits = false) :
    Calls Try.prog 3 #[.int .u64 (bits : Nat), .int .i64 ticks] w fun r w' => r = .returned (.bool true) ∧ Fr [] w w' := by
  have hq1 := order_of' hq
  simp only [Bool.not_false] at hq1
  have HQ := Lib.hid hq
  clear hq
  have hfr := fun W => frombits_run bits W
  go_enter Try.func3, Try.ntmps3
  go_upto_region 10 with (first | (go_at_call 6; (with_reducible refine (New_f _).mono ?_); rintro r w1 ⟨rfl, hT1, hf1⟩; have HT1 := Lib.hid hT1; clear hT1))
  all_goals go_upto_region 13 with (first | (go_at_call 8; (with_reducible refine (Arm_nan _ _ _ _ _ _ HT1.out HQ.out).mono ?_); rintro r w' ⟨rfl, rfl⟩) | (go_at_call 9; (with_reducible refine (Left_nil _ _ _ _ _ HT1.out).mono ?_); rintro r w' ⟨rfl, rfl⟩))
  all_goals go_wp2_with (first | (go_at_call 10; (with_reducible refine (Cancel_nil _ _ _ _ _ HT1.out).mono ?_); rintro r w2 ⟨rfl, hT2, hf2⟩; have HT2 := Lib.hid hT2; clear hT2) | (go_at_call 11; (with_reducible refine (Armed_nil _ _ _ _ HT2.out).mono ?_); rintro r w3 ⟨rfl, hf3⟩))
  all_goals go_ret
  all_goals exact ⟨rfl, (hf1.trans' hf2 (fun x hx => by simp at hx; right; omega)).trans hf3⟩

set_option maxRecDepth 100000 in
set_option maxHeartbeats 2000000 in
theorem law_bad (bits : Nat) (ticks : Int) (w : World) (hq : feq bits bits = true) (hk : ticks < 1 ∨ 1024 < ticks) :
    Calls Try.prog 3 #[.int .u64 (bits : Nat), .int .i64 ticks] w fun r w' => r = .returned (.bool true) ∧ Fr [] w w' := by
  have hq1 := order_of' hq
  simp only [Bool.not_true] at hq1
  have HQ := Lib.hid (And.intro hq hk)
  clear hq
  have hfr := fun W => frombits_run bits W
  by_cases h1 : ticks < 1
  · have t1 : decide (ticks < 1) = true := decide_eq_true h1
    clear hk h1
    go_enter Try.func3, Try.ntmps3
    go_upto_region 10 with (first | (go_at_call 6; (with_reducible refine (New_f _).mono ?_); rintro r w1 ⟨rfl, hT1, hf1⟩; have HT1 := Lib.hid hT1; clear hT1))
    go_upto_region 13 with (first | (go_at_call 8; (with_reducible refine (Arm_bad _ _ _ _ _ _ HT1.out HQ.out.1 HQ.out.2).mono ?_); rintro r w' ⟨rfl, rfl⟩) | (go_at_call 9; (with_reducible refine (Left_nil _ _ _ _ _ HT1.out).mono ?_); rintro r w' ⟨rfl, rfl⟩))
    go_wp2_with (first | (go_at_call 10; (with_reducible refine (Cancel_nil _ _ _ _ _ HT1.out).mono ?_); rintro r w2 ⟨rfl, hT2, hf2⟩; have HT2 := Lib.hid hT2; clear hT2) | (go_at_call 11; (with_reducible refine (Armed_nil _ _ _ _ HT2.out).mono ?_); rintro r w3 ⟨rfl, hf3⟩))
    go_ret
    exact ⟨rfl, (hf1.trans' hf2 (fun x hx => by simp at hx; right; omega)).trans hf3⟩
  · have t1 : decide (ticks < 1) = false := decide_eq_false h1
    have t2 : decide (1024 < ticks) = true := decide_eq_true (by omega)
    clear hk h1
    go_enter Try.func3, Try.ntmps3
    go_upto_region 10 with (first | (go_at_call 6; (with_reducible refine (New_f _).mono ?_); rintro r w1 ⟨rfl, hT1, hf1⟩; have HT1 := Lib.hid hT1; clear hT1))
    go_upto_region 13 with (first | (go_at_call 8; (with_reducible refine (Arm_bad _ _ _ _ _ _ HT1.out HQ.out.1 HQ.out.2).mono ?_); rintro r w' ⟨rfl, rfl⟩) | (go_at_call 9; (with_reducible refine (Left_nil _ _ _ _ _ HT1.out).mono ?_); rintro r w' ⟨rfl, rfl⟩))
    go_wp2_with (first | (go_at_call 10; (with_reducible refine (Cancel_nil _ _ _ _ _ HT1.out).mono ?_); rintro r w2 ⟨rfl, hT2, hf2⟩; have HT2 := Lib.hid hT2; clear hT2) | (go_at_call 11; (with_reducible refine (Armed_nil _ _ _ _ HT2.out).mono ?_); rintro r w3 ⟨rfl, hf3⟩))
    go_ret
    exact ⟨rfl, (hf1.trans' hf2 (fun x hx => by simp at hx; right; omega)).trans hf3⟩

theorem neg_run (f : Nat) (W : World) : (Op.unary .neg (.float .f64 f)).run Try.prog W = .ok (.float .f64 (Op.negFloat .f64 f)) W := rfl

set_option maxRecDepth 100000 in
set_option maxHeartbeats 2000000 in
theorem law_good (bits : Nat) (ticks : Int) (w : World) (hb : bits < 2 ^ 64) (hq : feq bits bits = true) (hk : 1 ≤ ticks) (hk2 : ticks ≤ 1024) :
    Calls Try.prog 3 #[.int .u64 (bits : Nat), .int .i64 ticks] w fun r w' => r = .returned (.bool true) ∧ Fr [] w w' := by
  have hq1 := order_of' hq
  simp only [Bool.not_true] at hq1
  have HQ := Lib.hid (And.intro hq (And.intro hk (And.intro hk2 hb)))
  have t1 : decide (ticks < 1) = false := decide_eq_false (by omega)
  have t2 : decide (1024 < ticks) = false := decide_eq_false (by omega)
  have t3 : (ticks != ticks) = false := by simp
  have hng := fun W => neg_run bits W
  clear hq hk hk2 hb
  have hfr := fun W => frombits_run bits W
  go_enter Try.func3, Try.ntmps3
  go_upto_region 10 with (first | (go_at_call 6; (with_reducible refine (New_f _).mono ?_); rintro r w1 ⟨rfl, hT1, hf1⟩; have HT1 := Lib.hid hT1; clear hT1))
  go_upto_region 13 with (first | (go_at_call 8; (with_reducible refine (Arm_good _ _ _ _ _ _ HT1.out HQ.out.1 HQ.out.2.1 HQ.out.2.2.1).mono ?_); rintro r w2 ⟨rfl, hT2, hf2⟩; have HT2 := Lib.hid hT2; clear hT2) | (go_at_call 9; (with_reducible refine (Left_one _ _ _ _ _ _ _ _ HT2.out HQ.out.1).mono ?_); rintro r w' ⟨rfl, rfl⟩))
  by_cases hz : feq bits 0 = true
  · have hz1 := order_of hz
    have HN := Lib.hid (feq_neg bits HQ.out.2.2.2 hz)
    clear hz
    go_upto_region 19 with (first | (go_at_call 9; (with_reducible refine (Left_one _ _ _ _ _ _ _ _ HT2.out HN.out).mono ?_); rintro r w' ⟨rfl, rfl⟩))
    go_wp2_with (first | (go_at_call 10; (with_reducible refine (Cancel_one _ _ _ _ _ _ _ _ HT2.out HQ.out.1).mono ?_); rintro r w3 ⟨rfl, hT3, hf3⟩; have HT3 := Lib.hid hT3; clear hT3) | (go_at_call 11; (with_reducible refine (Armed_nil _ _ _ _ HT3.out).mono ?_); rintro r w4 ⟨rfl, hf4⟩))
    go_ret
    exact ⟨rfl, ((hf1.trans' hf2 (fun x hx => by simp at hx; right; omega)).trans' hf3 (fun x hx => by simp at hx; right; omega)).trans hf4⟩
  · have hz1 := order_of (Bool.eq_false_iff.2 hz)
    clear hz
    go_upto_region 19 with fail
    go_wp2_with (first | (go_at_call 10; (with_reducible refine (Cancel_one _ _ _ _ _ _ _ _ HT2.out HQ.out.1).mono ?_); rintro r w3 ⟨rfl, hT3, hf3⟩; have HT3 := Lib.hid hT3; clear hT3) | (go_at_call 11; (with_reducible refine (Armed_nil _ _ _ _ HT3.out).mono ?_); rintro r w4 ⟨rfl, hf4⟩))
    go_ret
    exact ⟨rfl, ((hf1.trans' hf2 (fun x hx => by simp at hx; right; omega)).trans' hf3 (fun x hx => by simp at hx; right; omega)).trans hf4⟩
end Go.Proofs.Ytnnhlggofmphcaa
