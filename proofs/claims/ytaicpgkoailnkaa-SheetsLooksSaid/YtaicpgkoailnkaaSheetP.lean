/- The law SheetsLooks holds of every input: whatever number of sheets, whatever script, whatever stamp. -/
import Derived.Test.YtaicpgkoailnkaaRows
import Derived.Test.YtaicpgkoailnkaaSheetO
namespace Go.Proofs.Ytaicpgkoailnkaa
open Go.ChangeShapes Go.WideShapes Go.ChangeAt Go.RowKit Go.Deep

theorem own : ownKnob Try.prog.godebug = none := by kernel_rfl
theorem laidOut : laidOutB Try.prog = true := by kernel_rfl

/-- What the walk gives, for every argument and every world. -/
theorem looks_law_any (n : Int) (A : Option Addr) (c : Nat) (Ds : List Deed) (a : Int) (w : World) (hD : Deeds w A Ds) :
    Calls Try.prog 3 #[.int .i64 n, .slice A Ds.length c, .int .i64 a] w fun r w' => r = .returned (.bool true) ∧ Fr [] w w' := by
  by_cases h : n < 1 ∨ 64 < n
  · exact looks_bad n w h A _ _ a
  · obtain ⟨m, rfl⟩ : ∃ m : Nat, n = (m : Int) := ⟨n.toNat, by omega⟩
    exact looks_good m (by omega) (by omega) A c Ds a w hD

theorem looks_params : ∀ t ∈ Try.f3.params.toList, Try.prog.readableRec t = true ∧ t < Try.prog.types.size := by
  rw [Try.params3]
  intro t ht
  simp only [List.mem_cons, List.not_mem_nil, or_false] at ht
  rcases ht with rfl | rfl | rfl <;> exact ⟨by kernel_rfl, of_decide_eq_true (by kernel_rfl)⟩

set_option maxRecDepth 100000 in
theorem looks_lifted (os : Os) (started : os.Started) (H : Type) (enc : TypeId × Value → H) :
    ReturnsInHanded {} Try.checked os 3 .any (Rows.sheetsLooksSpec.pre6 enc Try.prog Try.f3 Rows.sheetsLooksRow.domain false) (Rows.sheetsLooksSpec.post enc Try.prog Try.f3 false true false false) := by
  refine returnsInHanded_of_change_sized (C := Try.checked) own started (by kernel_rfl) Try.func3
    (ChangeSpec.witness6 (enc := enc) (C := Try.checked) false ⟨#[], #[.int .i64 0, .slice none 0 0, .int .i64 0], []⟩ 8 (by kernel_rfl) (by kernel_rfl) (by kernel_rfl) (by kernel_rfl)) ?_
  intro W base args ds gs before hval0 hW _ hsz0 _
  have hsz : (DataW.weightsEach Try.prog (Try.f3.params.toList ++ Rows.sheetsLooksSpec.plain.varTypes Try.prog) (ds ++ gs)).all (· ≤ reachBytes) = true := hsz0
  have hval : ∀ (j : Nat) t v, Try.f3.params[j]? = some t → args[j]? = some v → Value.okWide Try.prog W .any base t v := hval0
  have hW' := hW
  obtain ⟨p, q, hA0, hV, rfl, _, _⟩ := hW
  have hA : DataW.TrodAll enc Try.prog W 0 (fun _ => true) true Try.f3.params.toList args.toList ds p := hA0
  rw [Try.params3] at hA hval hsz
  obtain ⟨v0, v1, v2, d0, d1, d2, p0, p1, p2, rfl, rfl, rfl, t0, t1, t2⟩ := trodAll_three hA
  obtain ⟨rfl, rfl⟩ := trodVars_none hV
  obtain ⟨n, rfl, _, _, w0⟩ := open_int Try.underlying3 (hval 0 3 v0 rfl rfl) t0
  obtain ⟨a, rfl, _, _, w2⟩ := open_int Try.underlying3 (hval 2 3 v2 rfl rfl) t2
  obtain ⟨f1, hf1⟩ := t1
  have z1 : ∀ n ∈ d1.weights Try.prog 22, n ≤ reachBytes := fun n hn => by
    have := List.all_eq_true.1 hsz n (DataW.weights_mem_each (j := 1) rfl rfl n hn)
    simpa using this
  obtain ⟨A1, Ds, c1, e1, hD⟩ := open_deeds hf1 z1
  obtain ⟨a1, l1, cc1, rfl⟩ := okWide_slice Try.underlying22 (hval 1 22 v1 rfl rfl)
  simp [Value.cells] at e1
  obtain ⟨rfl, rfl, rfl⟩ := e1
  refine (looks_law_any n a1 cc1 Ds a W hD).mono ?_
  rintro e W' ⟨rfl, hf⟩
  exact ⟨_, rfl, post_law (enc := enc) (P := Try.prog) (f := Try.f3) (s := Rows.sheetsLooksSpec) laidOut looks_params (by kernel_rfl) Try.underlying4 rfl rfl rfl rfl hW' hf.below⟩

/-- THE STATEMENT. -/
theorem looks_holds : Rows.SheetsLooksSaid :=
  OpenClaim.holds_of_wide 3 Try.f3 rfl rfl rfl rfl rfl rfl rfl ⟨rfl, rfl, rfl, rfl, rfl⟩ rfl rfl rfl rfl rfl (by kernel_rfl) Try.func3 (by kernel_rfl)
    (of_decide_eq_true (by kernel_rfl)) (by unfold Func.isWrapper; first | (rw [if_pos (by decide +kernel)]; kernel_rfl) | (rw [if_neg (by decide +kernel)]; exact ⟨rfl, rfl⟩))
    (fun os started H enc _ => looks_lifted os started H enc)
end Go.Proofs.Ytaicpgkoailnkaa
