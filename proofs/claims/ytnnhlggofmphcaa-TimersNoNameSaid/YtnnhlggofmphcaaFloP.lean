/- The law TimersNoName holds of every input: whatever bits, whatever ticks. -/
import Derived.Test.YtnnhlggofmphcaaRows
import Derived.Test.YtnnhlggofmphcaaFloD
import Derived.Test.YtnnhlggofmphcaaLift
namespace Go.Proofs.Ytnnhlggofmphcaa
open Go.ChangeShapes Go.WideShapes Go.ChangeAt Go.RowKit Go.Deep

theorem own : ownKnob Try.prog.godebug = none := by kernel_rfl
theorem laidOut : laidOutB Try.prog = true := by kernel_rfl

/-- What the walk gives, for every argument and every world. -/
theorem noname_any (bits : Nat) (ticks : Int) (w : World) (hb : bits < 2 ^ 64) :
    Calls Try.prog 3 #[.int .u64 (bits : Nat), .int .i64 ticks] w fun r w' => r = .returned (.bool true) ∧ Fr [] w w' := by
  cases hq : feq bits bits with
  | false => exact law_nan bits ticks w hb hq
  | true =>
    by_cases hk : ticks < 1 ∨ 1024 < ticks
    · exact law_bad bits ticks w hq hk
    · exact law_good bits ticks w hb hq (by omega) (by omega)

theorem noname_params : ∀ t ∈ Try.f3.params.toList, Try.prog.readableRec t = true ∧ t < Try.prog.types.size := by
  rw [Try.params3]
  intro t ht
  simp only [List.mem_cons, List.not_mem_nil, or_false] at ht
  rcases ht with rfl | rfl <;> exact ⟨by kernel_rfl, of_decide_eq_true (by kernel_rfl)⟩

set_option maxRecDepth 100000 in
theorem noname_lifted (os : Os) (started : os.Started) (H : Type) (enc : TypeId × Value → H) :
    ReturnsInHanded {} Try.checked os 3 .any (Rows.timersNoNameSpec.pre6 enc Try.prog Try.f3 Rows.timersNoNameRow.domain false) (Rows.timersNoNameSpec.post enc Try.prog Try.f3 false true false false) := by
  refine returnsInHanded_of_change_sized (C := Try.checked) own started (by kernel_rfl) Try.func3
    (ChangeSpec.witness6 (enc := enc) (C := Try.checked) false ⟨#[], #[.int .u64 0, .int .i64 0], []⟩ 8 (by kernel_rfl) (by kernel_rfl) (by kernel_rfl) (by kernel_rfl)) ?_
  intro W base args ds gs before hval0 hW _ hsz0 _
  have hval : ∀ (j : Nat) t v, Try.f3.params[j]? = some t → args[j]? = some v → Value.okWide Try.prog W .any base t v := hval0
  have hW' := hW
  obtain ⟨p, q, hA0, hV, rfl, _, _⟩ := hW
  have hA : DataW.TrodAll enc Try.prog W 0 (fun _ => true) true Try.f3.params.toList args.toList ds p := hA0
  rw [Try.params3] at hA hval
  obtain ⟨v0, v1, d0, d1, p0, p1, rfl, rfl, rfl, t0, t1⟩ := trodAll_two hA
  obtain ⟨rfl, rfl⟩ := trodVars_none hV
  obtain ⟨b, rfl, _, _, w0⟩ := open_int Try.underlying22 (hval 0 22 v0 rfl rfl) t0
  obtain ⟨a, rfl, _, _, w1⟩ := open_int Try.underlying3 (hval 1 3 v1 rfl rfl) t1
  have hb : 0 ≤ b ∧ b ≤ 18446744073709551615 := by simpa [Lit.wf, IntKind.min, IntKind.max, IntKind.signed, IntKind.bits] using w0
  obtain ⟨bits, rfl⟩ : ∃ n : Nat, b = (n : Int) := ⟨b.toNat, by omega⟩
  refine (noname_any bits a W (by omega)).mono ?_
  rintro e W' ⟨rfl, hf⟩
  exact ⟨_, rfl, post_law (enc := enc) (P := Try.prog) (f := Try.f3) (s := Rows.timersNoNameSpec) laidOut noname_params (by kernel_rfl) Try.underlying4 rfl rfl rfl rfl hW' hf.below⟩

/-- THE STATEMENT. -/
theorem noname_holds : Rows.TimersNoNameSaid :=
  OpenClaim.holds_of_wide 3 Try.f3 rfl rfl rfl rfl rfl rfl rfl ⟨rfl, rfl, rfl, rfl, rfl⟩ rfl rfl rfl rfl rfl (by kernel_rfl) Try.func3 (by kernel_rfl)
    (of_decide_eq_true (by kernel_rfl)) (by unfold Func.isWrapper; first | (rw [if_pos (by decide +kernel)]; kernel_rfl) | (rw [if_neg (by decide +kernel)]; exact ⟨rfl, rfl⟩))
    (fun os started H enc _ => noname_lifted os started H enc)
end Go.Proofs.Ytnnhlggofmphcaa
