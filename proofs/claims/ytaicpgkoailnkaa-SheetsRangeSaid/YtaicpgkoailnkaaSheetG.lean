/- Package sheets, walked: what a walk does at a leaf. -/
import Derived.Test.YtaicpgkoailnkaaSheetD
import Derived.Test.YtaicpgkoailnkaaRangeV
import Derived.Laws.EntriesVeiled
namespace Go.Proofs.Ytaicpgkoailnkaa
open Go.RowKit Go.Shelf
attribute [local go_sem] Oper.semAt_some

set_option maxRecDepth 100000 in
set_option maxHeartbeats 2000000 in
theorem Leaf1_in (l now yb num : Nat) (pc : Nat → Nat) (lf : Nat → Leaf) (W : World) (R : Ending → World → Prop) (hn : num < 64) (hl : Leaves W pc lf) (hc : W.cell? ⟨now, 2 + num / 8, none⟩ = some (.pointer (some ⟨pc (num / 8), 0, none⟩)))
    (hy : Blk W yb 82 [.func (.yield l) #[] #[]])
    (hyield : ∀ (A' : Option Addr) (cap' : Nat) (B : World), Fr [] W B → Row B 5 1 A' (lf num).xs.length cap' (bvals (lf num).xs) → (∀ x ∈ fpOf A', W.heap.size ≤ x) → YieldAt Fence.wide 0 Try.prog l #[.agg #[.int .i64 (num : Nat), .int .i64 (lf num).at_, .slice A' (lf num).xs.length cap']] B fun e C => ∃ bb, e = .returned (.bool bb) ∧ R e C) :
    CallsIn Fence.wide 0 Try.prog 32 #[.int .i64 (num : Nat), .pointer (some ⟨now, 0, none⟩), .pointer (some ⟨yb, 0, none⟩)] W R := by
  have hwf : ∀ f, Fence.wide.fn f := fun _ => trivial
  have hwd : Fence.wide.depth = none := rfl
  have hmix : Try.prog.follows .mixedOrders = true := by kernel_rfl
  have hp0 := (hl.blk (num / 8) (by omega)).cell (i := num % 8 * 2) (by omega)
  have hp1 := (hl.blk (num / 8) (by omega)).cell (i := num % 8 * 2 + 1) (by omega)
  rw [pcell, if_pos (by omega), show 8 * (num / 8) + num % 8 * 2 / 2 = num by omega] at hp0
  rw [pcell, if_neg (by omega), show 8 * (num / 8) + (num % 8 * 2 + 1) / 2 = num by omega] at hp1
  have hr := (hl.row num hn).rds
  have HR := Lib.hid hr
  have hy0 : W.cell? ⟨yb, 0, none⟩ = some (.func (.yield l) #[] #[]) := hy.cell 0
  have hle := (hl.byt num hn).2
  have HLE := Lib.hid hle
  have HY := Lib.hid hyield
  clear hr hle hyield hl hy
  refine callsIn_of_wp Try.func32 rfl trivial ?_ rfl
  simp only [Try.ntmps32, List.size_toArray, List.length_cons, List.length_nil, Nat.reduceAdd, Nat.reduceSub, Array.replicate_succ, Array.replicate_zero, List.push_toArray, List.append_toArray, List.nil_append, List.cons_append]
  gi_wp2_with (gi_at_call 33; (with_reducible refine (callsIn_wide.2 (sheet_any now (pc (num / 8)) num _ hn hc)).mono ?_); rintro r w' ⟨rfl, rfl⟩)
  gi_region_with_o (first | (gi_at_call 34; (with_reducible refine (callsIn_wide.2 (Clone_any (lf num).A (lf num).xs.length (lf num).cap (lf num).xs _ rfl (HR.out.drew) (by have := HLE.out; omega))).mono ?_); rintro r w5 ⟨A', cap', rfl, hrow, hf5, hfp⟩; have u0 := hf5.cell (by simp) hp0; have u1 := hf5.cell (by simp) hp1; have u2 := hf5.cell (by simp) hy0; obtain ⟨fn, tmps, assign, body, hyy, hRR⟩ := HY.out A' cap' w5 ((Fr.refl _ _).drew.trans hf5) hrow hfp; have HRR := Lib.hid hRR; clear hRR) | (refine HRR.out.mono ?_; rintro e W3 ⟨bb, rfl, hpost⟩))
  all_goals
    gi_wp2
    go_ret
    exact hpost
end Go.Proofs.Ytaicpgkoailnkaa
