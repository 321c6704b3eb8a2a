/- Package sheets, walked: Put. -/
import Derived.Test.YtaicpgkoailnkaaSheetC
namespace Go.Proofs.Ytaicpgkoailnkaa
open Go.RowKit

/-- What Put answers. -/
def putE (n : Nat) (last num a : Int) (len : Nat) : Int := if ¬ (0 ≤ num ∧ num < n) then 61 else if a < 1 ∨ 1099511627776 < a ∨ a < last then 62 else if 2304 < len then 63 else 0

theorem Equal_is (A1 A2 : Option Addr) (c d : Nat) (xs ys : List Int) (w : World) (h1 : Rds w A1 (bvals xs)) (h2 : Rds w A2 (bvals ys)) (hx : Bytes xs) (hy : Bytes ys) (v : Bool) (hv : decide (xs = ys) = v) :
    Calls Try.prog 37 #[.slice A1 xs.length c, .slice A2 ys.length d] w fun r w' => r = .returned (.bool v) ∧ w' = w := by
  have h := Equal_any A1 A2 xs.length c ys.length d xs ys w rfl rfl h1 h2
  rw [str_same hx hy, hv] at h
  exact h

set_option maxRecDepth 100000 in
set_option maxHeartbeats 2000000 in
theorem Put_any (b n h : Nat) (num a : Int) (pc : Nat → Nat) (tp : Nat → Int) (ow : Nat → Bool) (lf : Nat → Leaf) (A : Option Addr) (cap : Nat) (xs : List Int) (w : World) (hb : Bk w b n h pc tp ow lf)
    (hx : Rds w A (bvals xs)) (hx1 : Bytes xs) (hA : bvals xs ≠ [] → ∀ x ∈ fpOf A, x ≠ b) :
    Calls Try.prog 10 #[.pointer (some ⟨b, 0, none⟩), .int .i64 num, .int .i64 a, .slice A xs.length cap] w fun r w' => r = .returned (.int .i64 (putE n (tp 1) num a xs.length)) ∧
      ((w' = w ∧ (putE n (tp 1) num a xs.length = 0 → (lf num.toNat).xs = xs)) ∨ (putE n (tp 1) num a xs.length = 0 ∧ (lf num.toNat).xs ≠ xs ∧ Wrote w w' b n h num.toNat pc ow lf a xs)) := by
  obtain ⟨c0, c1, cp, ct, co⟩ := hb.cells
  have cL : w.cell? ⟨b, 11, none⟩ = some (.int .i64 (tp 1)) := ct 1 (by omega)
  have HB := Lib.hid hb
  have HX := Lib.hid hx
  have HX1 := Lib.hid hx1
  have HA := Lib.hid hA
  by_cases h1 : 0 ≤ num ∧ num < n
  · obtain ⟨m, rfl⟩ : ∃ m : Nat, num = (m : Int) := ⟨num.toNat, by omega⟩
    have hm : m < n := by omega
    have hm64 : m < 64 := by have := hb.ok.nh; have := hb.ok.h6; omega
    have t1 : decide (0 ≤ (m : Int) ∧ (m : Int) < n) = true := decide_eq_true h1
    have cQ := cp (m / 8) (by omega)
    have q1 : ∀ len, putE n (tp 1) m a len = if a < 1 ∨ 1099511627776 < a ∨ a < tp 1 then 62 else if 2304 < len then 63 else 0 := fun len => by unfold putE; rw [if_neg (by simpa using h1)]
    rw [q1]
    clear h1 hb hx hx1 hA ct co cp q1
    by_cases h2 : a < 1
    · rw [if_pos (.inl h2)]
      go_enter Try.func10, Try.ntmps10
      go_wp2_with (go_at_call 36; (with_reducible refine (there_any b n m _ c0).mono ?_); rintro r w' ⟨rfl, rfl⟩)
      go_ret
      exact ⟨rfl, .inl ⟨rfl, by simp⟩⟩
    · by_cases h3 : 1099511627776 < a
      · rw [if_pos (.inr (.inl h3))]
        go_enter Try.func10, Try.ntmps10
        go_wp2_with (go_at_call 36; (with_reducible refine (there_any b n m _ c0).mono ?_); rintro r w' ⟨rfl, rfl⟩)
        go_ret
        exact ⟨rfl, .inl ⟨rfl, by simp⟩⟩
      · by_cases h4 : a < tp 1
        · rw [if_pos (.inr (.inr h4))]
          go_enter Try.func10, Try.ntmps10
          go_wp2_with (first | (go_at_call 36; (with_reducible refine (there_any b n m _ c0).mono ?_); rintro r w' ⟨rfl, rfl⟩) | (go_at_call 22; (with_reducible refine (Last_any b _ _ cL).mono ?_); rintro r w' ⟨rfl, rfl⟩))
          go_ret
          exact ⟨rfl, .inl ⟨rfl, by simp⟩⟩
        · rw [if_neg (by omega)]
          by_cases h5 : 2304 < xs.length
          · rw [if_pos h5]
            go_enter Try.func10, Try.ntmps10
            go_wp2_with (first | (go_at_call 36; (with_reducible refine (there_any b n m _ c0).mono ?_); rintro r w' ⟨rfl, rfl⟩) | (go_at_call 22; (with_reducible refine (Last_any b _ _ cL).mono ?_); rintro r w' ⟨rfl, rfl⟩))
            go_ret
            exact ⟨rfl, .inl ⟨rfl, by simp⟩⟩
          · rw [if_neg h5]
            have hlen : xs.length ≤ 2304 := by omega
            have hb2 := HB.out
            have hr := (hb2.lvs.row m hm64).rds
            have hby := (hb2.lvs.byt m hm64).1
            have hpl := (hb2.lvs.blk (m / 8) (by omega)).cell (i := m % 8 * 2 + 1) (by omega)
            have e8 : 8 * (m / 8) + (m % 8 * 2 + 1) / 2 = m := by omega
            rw [pcell, if_neg (by omega), e8] at hpl
            have HR := Lib.hid hr
            have ha : 0 ≤ a ∧ a ≤ 1099511627776 := by omega
            have HBY := Lib.hid hby
            clear hb2 hr hby e8
            by_cases h6 : (lf m).xs = xs
            · have HE := Lib.hid (decide_eq_true h6)
              have H6 := Lib.hid h6
              clear h6
              go_enter Try.func10, Try.ntmps10
              go_wp2_with (first | (go_at_call 36; (with_reducible refine (there_any b n m _ c0).mono ?_); rintro r w' ⟨rfl, rfl⟩) | (go_at_call 22; (with_reducible refine (Last_any b _ _ cL).mono ?_); rintro r w' ⟨rfl, rfl⟩) | (go_at_call 33; (with_reducible refine (sheet_any b (pc (m / 8)) m _ hm64 cQ).mono ?_); rintro r w' ⟨rfl, rfl⟩) | (go_at_call 37; (with_reducible refine (Equal_is (lf m).A A _ _ (lf m).xs xs _ HR.out HX.out HBY.out HX1.out _ HE.out).mono ?_); rintro r w' ⟨rfl, rfl⟩))
              go_ret
              exact ⟨rfl, .inl ⟨rfl, fun _ => by simpa using H6.out⟩⟩
            · have HE := Lib.hid (decide_eq_false h6)
              have H6 := Lib.hid h6
              clear h6
              go_enter Try.func10, Try.ntmps10
              go_wp2_with (first | (go_at_call 36; (with_reducible refine (there_any b n m _ c0).mono ?_); rintro r w' ⟨rfl, rfl⟩) | (go_at_call 22; (with_reducible refine (Last_any b _ _ cL).mono ?_); rintro r w' ⟨rfl, rfl⟩) | (go_at_call 33; (with_reducible refine (sheet_any b (pc (m / 8)) m _ hm64 cQ).mono ?_); rintro r w' ⟨rfl, rfl⟩) | (go_at_call 37; (with_reducible refine (Equal_is (lf m).A A _ _ (lf m).xs xs _ HR.out HX.out HBY.out HX1.out _ HE.out).mono ?_); rintro r w' ⟨rfl, rfl⟩) | (go_at_call 38; (with_reducible refine (write_any b n h m pc tp ow lf a A cap xs _ HB.out hm HX.out HX1.out hlen ha HA.out).mono ?_); rintro r w' ⟨rfl, hwr⟩))
              go_ret
              exact ⟨rfl, .inr ⟨trivial, by simpa using H6.out, by simpa using hwr⟩⟩
  · have t1 : decide (0 ≤ num ∧ num < n) = false := decide_eq_false h1
    have q1 : putE n (tp 1) num a xs.length = 61 := by unfold putE; rw [if_pos h1]
    rw [q1]
    clear h1 hb hx hx1 hA ct co cp c1
    go_enter Try.func10, Try.ntmps10
    go_wp2_with (go_at_call 36; (with_reducible refine (there_any b n num _ c0).mono ?_); rintro r w' ⟨rfl, rfl⟩)
    go_ret
    exact ⟨rfl, .inl ⟨rfl, by simp⟩⟩
end Go.Proofs.Ytaicpgkoailnkaa
