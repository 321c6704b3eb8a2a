/- The law OplogRange holds of every input: whatever room, whatever lists. -/
import Derived.Test.YtneinhhmhgdefaaRows
import Derived.Test.YtneinhhmhgdefaaLawB
import Derived.Test.YtneinhhmhgdefaaOpenA
namespace Go.Proofs.Ytneinhhmhgdefaa
open Go.ChangeShapes Go.WideShapes Go.ChangeAt Go.RowKit Go.Deep

theorem own : ownKnob Try.prog.godebug = none := by kernel_rfl
theorem laidOut : laidOutB Try.prog = true := by kernel_rfl

/-- What the walk gives, for every argument and every world. -/
theorem range_any (room : Int) (A1 A2 : Option Addr) (M1 : List Ent) (c1 c2 : Nat) (Ds : List Deed) (w : World) (h1 : Rds w A1 (flat M1)) (hm1 : M1.length * 72 ≤ 140737488351232) (hD : Deeds w A2 Ds) :
    Calls Try.prog 3 #[.int .i64 room, .slice A1 M1.length c1, .slice A2 Ds.length c2] w fun r w' => r = .returned (.bool true) ∧ Fr [] w w' := by
  by_cases h : room < 1 ∨ 64 < room
  · exact range_bad room w h A1 A2 _ _ _ _
  · obtain ⟨n, rfl⟩ : ∃ n : Nat, room = (n : Int) := ⟨room.toNat, by omega⟩
    exact range_good n (by omega) (by omega) A1 A2 M1 c1 c2 Ds w h1 hm1 hD

theorem range_params : ∀ t ∈ Try.f3.params.toList, Try.prog.readableRec t = true ∧ t < Try.prog.types.size := by
  rw [Try.params3]
  intro t ht
  simp only [List.mem_cons, List.not_mem_nil, or_false] at ht
  rcases ht with rfl | rfl | rfl <;> exact ⟨by kernel_rfl, of_decide_eq_true (by kernel_rfl)⟩

set_option maxRecDepth 100000 in
theorem range_lifted (os : Os) (started : os.Started) (H : Type) (enc : TypeId × Value → H) :
    ReturnsInHanded {} Try.checked os 3 .any (Rows.oplogRangeSpec.pre6 enc Try.prog Try.f3 Rows.oplogRangeRow.domain false) (Rows.oplogRangeSpec.post enc Try.prog Try.f3 false true false false) := by
  refine returnsInHanded_of_change_sized (C := Try.checked) own started (by kernel_rfl) Try.func3
    (ChangeSpec.witness6 (enc := enc) (C := Try.checked) false ⟨#[], #[.int .i64 0, .slice none 0 0, .slice none 0 0], []⟩ 8 (by kernel_rfl) (by kernel_rfl) (by kernel_rfl) (by kernel_rfl)) ?_
  intro W base args ds gs before hval0 hW _ hsz0 _
  have hsz : (DataW.weightsEach Try.prog (Try.f3.params.toList ++ Rows.oplogRangeSpec.plain.varTypes Try.prog) (ds ++ gs)).all (· ≤ reachBytes) = true := hsz0
  have hval : ∀ (j : Nat) t v, Try.f3.params[j]? = some t → args[j]? = some v → Value.okWide Try.prog W .any base t v := hval0
  have hW' := hW
  obtain ⟨p, q, hA0, hV, rfl, _, _⟩ := hW
  have hA : DataW.TrodAll enc Try.prog W 0 (fun _ => true) true Try.f3.params.toList args.toList ds p := hA0
  rw [Try.params3] at hA hval hsz
  obtain ⟨v0, v1, v2, d0, d1, d2, p0, p1, p2, rfl, rfl, rfl, t0, t1, t2⟩ := trodAll_three hA
  obtain ⟨rfl, rfl⟩ := trodVars_none hV
  obtain ⟨room, rfl, hd0, _, w0⟩ := open_int Try.underlying3 (hval 0 3 v0 rfl rfl) t0
  obtain ⟨f1, hf1⟩ := t1
  obtain ⟨f2, hf2⟩ := t2
  have z1 : ∀ n ∈ d1.weights Try.prog 22, n ≤ reachBytes := fun n hn => by
    have := List.all_eq_true.1 hsz n (DataW.weights_mem_each (j := 1) rfl rfl n hn)
    simpa using this
  have z2 : ∀ n ∈ d2.weights Try.prog 23, n ≤ reachBytes := fun n hn => by
    have := List.all_eq_true.1 hsz n (DataW.weights_mem_each (j := 2) rfl rfl n hn)
    simpa using this
  obtain ⟨A1, M1, c1, e1, hR1, hL1⟩ := open_ents hf1 z1
  obtain ⟨A2, Ds, c2, e2, hD, _, _⟩ := open_deeds hf2 z2
  obtain ⟨a1, l1, cc1, rfl⟩ := okWide_slice Try.underlying22 (hval 1 22 v1 rfl rfl)
  obtain ⟨a2, l2, cc2, rfl⟩ := okWide_slice Try.underlying23 (hval 2 23 v2 rfl rfl)
  simp [Value.cells] at e1 e2
  obtain ⟨rfl, rfl, rfl⟩ := e1
  obtain ⟨rfl, rfl, rfl⟩ := e2
  refine (range_any room a1 a2 M1 cc1 cc2 Ds W hR1 hL1 hD).mono ?_
  rintro e W' ⟨rfl, hf⟩
  exact ⟨_, rfl, post_law (enc := enc) (P := Try.prog) (f := Try.f3) (s := Rows.oplogRangeSpec) laidOut range_params (by kernel_rfl) Try.underlying4 rfl rfl rfl rfl hW' hf.below⟩

/-- THE STATEMENT. -/
theorem range_holds : Rows.OplogRangeSaid :=
  OpenClaim.holds_of_wide 3 Try.f3 rfl rfl rfl rfl rfl rfl rfl ⟨rfl, rfl, rfl, rfl, rfl⟩ rfl rfl rfl rfl rfl (by kernel_rfl) Try.func3 (by kernel_rfl)
    (of_decide_eq_true (by kernel_rfl)) (by unfold Func.isWrapper; first | (rw [if_pos (by decide +kernel)]; kernel_rfl) | (rw [if_neg (by decide +kernel)]; exact ⟨rfl, rfl⟩))
    (fun os started H enc _ => range_lifted os started H enc)
end Go.Proofs.Ytneinhhmhgdefaa
