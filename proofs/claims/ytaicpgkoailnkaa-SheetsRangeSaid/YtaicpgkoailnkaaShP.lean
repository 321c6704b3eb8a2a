/- The law SheetsRange holds of every input: whatever number of sheets, whatever scripts, whatever stamp. -/
import Derived.Test.YtaicpgkoailnkaaRows
import Derived.Test.YtaicpgkoailnkaaSheetO
import Derived.Test.YtaicpgkoailnkaaShK
import Derived.Carry
namespace Go.Proofs.Ytaicpgkoailnkaa
open Go.ChangeShapes Go.WideShapes Go.ChangeAt Go.RowKit Go.Deep

theorem own : ownKnob Try.prog.godebug = none := by kernel_rfl
theorem laidOut : laidOutB Try.prog = true := by kernel_rfl

/-- What the walk gives, for every argument and every world. -/
theorem srange_any (n : Int) (A1 A2 : Option Addr) (c1 c2 : Nat) (D1 D2 : List Deed) (a : Int) (w : World) (hD1 : Deeds w A1 D1) (hD2 : Deeds w A2 D2) :
    Calls Try.prog 4 #[.int .i64 n, .slice A1 D1.length c1, .slice A2 D2.length c2, .int .i64 a] w fun r w' => r = .returned (.bool true) ∧ Fr [] w w' := by
  by_cases h : n < 1 ∨ 64 < n
  · exact srange_bad n w h A1 A2 _ _ _ a D2 hD2
  · obtain ⟨m, rfl⟩ : ∃ m : Nat, n = (m : Int) := ⟨n.toNat, by omega⟩
    exact srange_good m (by omega) (by omega) A1 A2 c1 c2 D1 D2 a w hD1 hD2

theorem srange_params : ∀ t ∈ Try.f4.params.toList, Try.prog.readableRec t = true ∧ t < Try.prog.types.size := by
  rw [Try.params4]
  intro t ht
  simp only [List.mem_cons, List.not_mem_nil, or_false] at ht
  rcases ht with rfl | rfl | rfl | rfl <;> exact ⟨by kernel_rfl, of_decide_eq_true (by kernel_rfl)⟩

set_option maxRecDepth 100000 in
theorem srange_lifted (os : Os) (started : os.Started) (H : Type) (enc : TypeId × Value → H) :
    ReturnsInHanded {} Try.checked os 4 .any (Rows.sheetsRangeSpec.pre6 enc Try.prog Try.f4 Rows.sheetsRangeRow.domain false) (Rows.sheetsRangeSpec.post enc Try.prog Try.f4 false true false false) := by
  refine returnsInHanded_of_change_sized (C := Try.checked) own started (by kernel_rfl) Try.func4
    (ChangeSpec.witness6 (enc := enc) (C := Try.checked) false ⟨#[], #[.int .i64 0, .slice none 0 0, .slice none 0 0, .int .i64 0], []⟩ 8 (by kernel_rfl) (by kernel_rfl) (by kernel_rfl) (by kernel_rfl)) ?_
  intro W base args ds gs before hval0 hW _ hsz0 _
  have hsz : (DataW.weightsEach Try.prog (Try.f4.params.toList ++ Rows.sheetsRangeSpec.plain.varTypes Try.prog) (ds ++ gs)).all (· ≤ reachBytes) = true := hsz0
  have hval : ∀ (j : Nat) t v, Try.f4.params[j]? = some t → args[j]? = some v → Value.okWide Try.prog W .any base t v := hval0
  have hW' := hW
  obtain ⟨p, q, hA0, hV, rfl, _, _⟩ := hW
  have hA : DataW.TrodAll enc Try.prog W 0 (fun _ => true) true Try.f4.params.toList args.toList ds p := hA0
  rw [Try.params4] at hA hval hsz
  obtain ⟨v0, v1, v2, v3, d0, d1, d2, d3, p0, p1, p2, p3, rfl, rfl, rfl, t0, t1, t2, t3⟩ := trodAll_four hA
  obtain ⟨rfl, rfl⟩ := trodVars_none hV
  obtain ⟨n, rfl, _, _, w0⟩ := open_int Try.underlying3 (hval 0 3 v0 rfl rfl) t0
  obtain ⟨a, rfl, _, _, w3⟩ := open_int Try.underlying3 (hval 3 3 v3 rfl rfl) t3
  obtain ⟨f1, hf1⟩ := t1
  obtain ⟨f2, hf2⟩ := t2
  have z1 : ∀ n ∈ d1.weights Try.prog 22, n ≤ reachBytes := fun n hn => by
    have := List.all_eq_true.1 hsz n (DataW.weights_mem_each (j := 1) rfl rfl n hn)
    simpa using this
  have z2 : ∀ n ∈ d2.weights Try.prog 22, n ≤ reachBytes := fun n hn => by
    have := List.all_eq_true.1 hsz n (DataW.weights_mem_each (j := 2) rfl rfl n hn)
    simpa using this
  obtain ⟨A1, D1, c1, e1, hD1⟩ := open_deeds hf1 z1
  obtain ⟨A2, D2, c2, e2, hD2⟩ := open_deeds hf2 z2
  obtain ⟨a1, l1, cc1, rfl⟩ := okWide_slice Try.underlying22 (hval 1 22 v1 rfl rfl)
  obtain ⟨a2, l2, cc2, rfl⟩ := okWide_slice Try.underlying22 (hval 2 22 v2 rfl rfl)
  simp [Value.cells] at e1 e2
  obtain ⟨rfl, rfl, rfl⟩ := e1
  obtain ⟨rfl, rfl, rfl⟩ := e2
  refine (srange_any n a1 a2 cc1 cc2 D1 D2 a W hD1 hD2).mono ?_
  rintro e W' ⟨rfl, hf⟩
  exact ⟨_, rfl, post_law (enc := enc) (P := Try.prog) (f := Try.f4) (s := Rows.sheetsRangeSpec) laidOut srange_params (by kernel_rfl) Try.underlying4 rfl rfl rfl rfl hW' hf.below⟩

/-- THE STATEMENT. -/
theorem srange_holds : Rows.SheetsRangeSaid :=
  OpenClaim.holds_of_wide 4 Try.f4 rfl rfl rfl rfl rfl rfl rfl ⟨rfl, rfl, rfl, rfl, rfl⟩ rfl rfl rfl rfl rfl (by kernel_rfl) Try.func4 (by kernel_rfl)
    (of_decide_eq_true (by kernel_rfl)) (by unfold Func.isWrapper; first | (rw [if_pos (by decide +kernel)]; kernel_rfl) | (rw [if_neg (by decide +kernel)]; exact ⟨rfl, rfl⟩))
    (fun os started H enc _ => srange_lifted os started H enc)
end Go.Proofs.Ytaicpgkoailnkaa
