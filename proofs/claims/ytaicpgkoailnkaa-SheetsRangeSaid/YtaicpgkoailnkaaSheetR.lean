/- Package sheets, walked: Get; the document's Same. -/
import Derived.Test.YtaicpgkoailnkaaSheetQ
import Derived.Outline
namespace Go.Proofs.Ytaicpgkoailnkaa
open Go.RowKit

set_option maxRecDepth 100000 in
set_option maxHeartbeats 2000000 in
theorem Get_no (b n h : Nat) (pc : Nat → Nat) (tp : Nat → Int) (ow : Nat → Bool) (lf : Nat → Leaf) (num : Int) (w : World) (hb : Bk w b n h pc tp ow lf) (hn : ¬ (0 ≤ num ∧ num < n)) :
    Calls Try.prog 24 #[.pointer (some ⟨b, 0, none⟩), .int .i64 num] w fun r w' => r = .returned (.tuple #[.slice none 0 0, .int .i64 0, .int .i64 61]) ∧ w' = w := by
  obtain ⟨c0, _⟩ := hb.cells
  have t1 : decide (0 ≤ num ∧ num < n) = false := decide_eq_false hn
  clear hn hb
  go_enter Try.func24, Try.ntmps24
  go_wp2_with (go_at_call 36; (with_reducible refine (there_any b n num _ c0).mono ?_); rintro r w' ⟨rfl, rfl⟩)
  go_ret3
  exact ⟨rfl, rfl⟩

set_option maxRecDepth 100000 in
set_option maxHeartbeats 2000000 in
theorem Get_yes (b n h num : Nat) (pc : Nat → Nat) (tp : Nat → Int) (ow : Nat → Bool) (lf : Nat → Leaf) (w : World) (hb : Bk w b n h pc tp ow lf) (hn : num < n) :
    Calls Try.prog 24 #[.pointer (some ⟨b, 0, none⟩), .int .i64 (num : Nat)] w fun r w' => ∃ A' cap', r = .returned (.tuple #[.slice A' (lf num).xs.length cap', .int .i64 (lf num).at_, .int .i64 0]) ∧ Row w' 5 1 A' (lf num).xs.length cap' (bvals (lf num).xs) ∧ Fr [] w w' ∧ ∀ x ∈ fpOf A', w.heap.size ≤ x := by
  have hn64 : num < 64 := by have := hb.ok.nh; have := hb.ok.h6; omega
  obtain ⟨c0, _, cp, _⟩ := hb.cells
  have hc := cp (num / 8) (by omega)
  have hl := hb.lvs
  have hp0 := (hl.blk (num / 8) (by omega)).cell (i := num % 8 * 2) (by omega)
  have hp1 := (hl.blk (num / 8) (by omega)).cell (i := num % 8 * 2 + 1) (by omega)
  rw [pcell, if_pos (by omega), show 8 * (num / 8) + num % 8 * 2 / 2 = num by omega] at hp0
  rw [pcell, if_neg (by omega), show 8 * (num / 8) + (num % 8 * 2 + 1) / 2 = num by omega] at hp1
  have hr := (hl.row num hn64).rds
  have HR := Lib.hid hr
  have hle := (hl.byt num hn64).2
  have HLE := Lib.hid hle
  have t1 : decide (0 ≤ (num : Int) ∧ (num : Int) < n) = true := decide_eq_true ⟨by omega, by omega⟩
  have t2 : decide (num < n) = true := decide_eq_true hn
  have t3 : decide ((num : Int) < (n : Int)) = true := decide_eq_true (by omega)
  clear hr hle hl hb cp hn
  go_enter Try.func24, Try.ntmps24
  go_upto_region 4 with (first | (go_at_call 36; (with_reducible refine (there_any b n num _ c0).mono ?_); rintro r w' ⟨rfl, rfl⟩) | (go_at_call 33; (with_reducible refine (sheet_any b (pc (num / 8)) num _ hn64 hc).mono ?_); rintro r w' ⟨rfl, rfl⟩))
  go_region_held3 (fun w' => w'.cell? ⟨pc (num / 8), num % 8 * 2, none⟩ = some (.int .i64 (lf num).at_) ∧ w'.cell? ⟨pc (num / 8), num % 8 * 2 + 1, none⟩ = some (.slice (lf num).A (lf num).xs.length (lf num).cap)) (simp [*])
    (first | (go_at_call 34; (with_reducible refine (Clone_any (lf num).A (lf num).xs.length (lf num).cap (lf num).xs _ rfl (HR.out.drew) (by have := HLE.out; omega)).mono ?_); rintro r w5 ⟨A', cap', rfl, hrow, hf5, hfp⟩; have u0 := hf5.cell (by simp) hp0; have u1 := hf5.cell (by simp) hp1))
  go_wp2
  go_ret3
  exact ⟨A', cap', rfl, hrow, (Fr.refl [] _).drew.trans hf5, hfp⟩

theorem bvals_get (xs : List Int) (k : Nat) (x : Int) (h : xs[k]? = some x) : (bvals xs)[k]? = some (.int .u8 x) := by simp [bvals, h]

set_option maxRecDepth 100000 in
set_option maxHeartbeats 2000000 in
theorem Same_any (A1 A2 : Option Addr) (c1 c2 : Nat) (xs ys : List Int) (w : World) (h1 : Rds w A1 (bvals xs)) (h2 : Rds w A2 (bvals ys)) (hx : xs.length ≤ 140737488351232) :
    Calls Try.prog 25 #[.slice A1 xs.length c1, .slice A2 ys.length c2] w fun r w' => r = .returned (.bool (decide (xs = ys))) ∧ ∃ n, w' = w.drewN n := by
  have H1 := Lib.hid h1
  have H2 := Lib.hid h2
  clear h1 h2
  by_cases hl : xs.length = ys.length
  · have HL := Lib.hid hl
    rw [← hl]
    have hlt0 : xs.length = ys.length := hl
    clear hl
    have t1 : ((xs.length : Int) != (xs.length : Int)) = false := by simp
    clear hlt0
    go_enter Try.func25, Try.ntmps25
    go_wp2
    go_loopw [13] (fun i wr => ∃ (k n : Nat), k ≤ xs.length ∧ i = .int .i64 k ∧ wr = w.drewN n ∧ xs.take k = ys.take k) (fun i _ => xs.length - (intOf i).toNat)
    case atStart => exact ⟨0, 0, Nat.zero_le _, rfl, rfl, by simp⟩
    case round =>
      obtain ⟨k, n, hk, rfl, rfl, hsame⟩ := hrel
      by_cases hlt : k < xs.length
      · obtain ⟨x, hxk⟩ : ∃ x, xs[k]? = some x := ⟨xs[k], List.getElem?_eq_getElem hlt⟩
        obtain ⟨y, hyk⟩ : ∃ y, ys[k]? = some y := ⟨ys[k]'(by have := HL.out; omega), List.getElem?_eq_getElem _⟩
        have hne1 : bvals xs ≠ [] := by intro h; have := bvals_length xs; rw [h] at this; simp at this; omega
        have hne2 : bvals ys ≠ [] := by intro h; have := bvals_length ys; rw [h] at this; have := HL.out; simp at *; omega
        obtain ⟨b1, o1, rfl, hc1⟩ := H1.out hne1
        obtain ⟨b2, o2, rfl, hc2⟩ := H2.out hne2
        have g1 : w.cell? ⟨b1, o1 + k, none⟩ = some (.int .u8 x) := hc1 k _ (bvals_get xs k x hxk)
        have g2 : w.cell? ⟨b2, o2 + k, none⟩ = some (.int .u8 y) := hc2 k _ (bvals_get ys k y hyk)
        have k0 : (0 : Int) ≤ (k : Int) := by omega
        have k1 : (k : Int) < (xs.length : Int) := by omega
        have HS := Lib.hid (And.intro hsame (And.intro hxk hyk))
        clear hne1 hne2 hc1 hc2 hsame hxk hyk
        by_cases hxy : x = y
        · have t2 : (x != y) = false := by simpa using hxy
          have HXY := Lib.hid hxy
          clear hxy
          go_upto_region 6 with fail
          go_quiet (fail)
          go_wp2
          go_roundw
          case rel =>
            refine ⟨k + 1, _, hlt, by go_num, rfl, ?_⟩
            obtain ⟨a1, a2, a3⟩ := HS.out
            rw [List.take_add_one, List.take_add_one, a1, a2, a3, HXY.out]
          case measure => simp [intOf]; omega
        · have t2 : (x != y) = true := by simpa using hxy
          have HXY := Lib.hid hxy
          clear hxy
          have hres : decide (xs = ys) = false := by
            rw [decide_eq_false_iff_not]
            rintro rfl
            obtain ⟨a1, a2, a3⟩ := HS.out
            rw [a2] at a3
            exact HXY.out (Option.some.inj a3)
          go_upto_region 6 with fail
          go_quiet (fail)
          go_wp2
          go_ret
          exact ⟨by rw [hres]; rfl, _, World.drewN_drewN _ _ _⟩
      · have hkl : k = xs.length := by omega
        subst hkl
        have hres : decide (xs = ys) = true := by
          rw [decide_eq_true_eq]
          rw [List.take_length, HL.out, List.take_length] at hsame
          exact hsame
        clear hsame
        go_wp2
        go_ret
        exact ⟨by rw [hres]; rfl, _, rfl⟩
  · have t1 : ((xs.length : Int) != (ys.length : Int)) = true := by simp; omega
    have hres : decide (xs = ys) = false := by
      rw [decide_eq_false_iff_not]
      rintro rfl
      exact hl rfl
    clear hl
    go_enter Try.func25, Try.ntmps25
    go_wp2
    go_ret
    exact ⟨by rw [hres]; rfl, 0, rfl⟩
end Go.Proofs.Ytaicpgkoailnkaa
