/- Armed, of a table of floats that holds nothing. -/
import Derived.Test.YtnnhlggofmphcaaFloB
import Derived.Test.YtnnhlggofmphcaaRange
namespace Go.Proofs.Ytnnhlggofmphcaa
open Go.RowKit Go.Shelf

set_option maxRecDepth 100000 in
theorem Ins_nil (w : World) : Calls Try.prog 84 #[.slice none 0 0, .int .i64 0, .int .i64 0] w fun r w' => r = .returned (.tuple #[]) ∧ w' = w := by
  go_enter Try.func84, Try.ntmps84
  go_wp2
  go_loop [6] (fun i => i = .int .i64 1) (fun _ => 0)
  case atStart => rfl
  case round =>
    subst hrel
    go_wp2
    go_end0
    exact ⟨rfl, rfl⟩

set_option maxRecDepth 100000 in
theorem Pdq_nil (v : Value) (w : World) : Calls Try.prog 65 #[.slice none 0 0, .int .i64 0, .int .i64 0, v] w fun r w' => r = .returned (.tuple #[]) ∧ w' = w := by
  go_enter Try.func65, Try.ntmps65
  go_wp2
  refine wp_loop_rounds 1 ?_
  rw [rounds_succ]
  go_wp2_with (go_at_call 84; (with_reducible refine (Ins_nil _).mono ?_); rintro r w' ⟨rfl, rfl⟩)
  exact bodyPost_ret (v := .tuple #[]) (by simp [results, Try.f65, go_sem]) rfl ⟨rfl, rfl⟩

set_option maxRecDepth 100000 in
theorem Sort_nil (w : World) : Calls Try.prog 51 #[.slice none 0 0] w fun r w' => r = .returned (.tuple #[]) ∧ w' = w := by
  go_enter Try.func51, Try.ntmps51
  go_wp2_with (first | (go_at_call 65; (with_reducible refine (Pdq_nil _ _).mono ?_); rintro r w' ⟨rfl, rfl⟩) | go_in)
  go_end0
  exact ⟨rfl, rfl⟩

theorem Keys_any (w : World) (mb : Nat) : Calls Try.prog 27 #[.map (some mb)] w fun r w' => r = .returned (.func (.func 52) #[] #[.pointer (some ⟨w.heap.size, 0, none⟩)]) ∧ Blk w' w.heap.size 70 [.map (some mb)] ∧ Fr [] w w' := by
  go_enter Try.func27, Try.ntmps27
  go_wp2
  go_ret
  exact ⟨rfl, Blk.new _ _ _, (Fr.refl _ _).alloc _⟩

theorem run_range_f {w : World} {mb c : Nat} {es : Array MapEntry} (hm : w.heap[mb]? = some (.map es c)) : (Instr.range 70 (.map (some mb))).run Try.prog w = .ok (.pointer (some ⟨w.heap.size, 0, none⟩)) (w.alloc (.mapIter (some mb) c #[] c)) := by
  simp [Instr.range, run_underlying Try.underlying70, getObj, Sem.run, hm, newObj]
theorem run_next_nil {w : World} {r mb c c1 : Nat} (hr : w.heap[r]? = some (.mapIter (some mb) c1 #[] c1)) (hm : w.heap[mb]? = some (.map #[] c)) (ty : TypeId) : (Instr.next (.pointer (some ⟨r, 0, none⟩)) false ty).run Try.prog w = .ok (.tuple #[.bool false]) w := by
  rcases run_next_at (P := Try.prog) w ty r mb c1 c1 #[] #[] c hr hm (by simp) (Nat.le_refl _) with ⟨_, h⟩ | ⟨e, he, _⟩
  · exact h
  · simp [leftOf] at he

set_option maxRecDepth 100000 in
theorem Keys1_nil (bx mb c : Nat) (w0 : World) (hb0 : Blk w0 bx 70 [.map (some mb)]) (hm0 : w0.heap[mb]? = some (.map #[] c)) (hlt : mb < w0.heap.size) :
    IterC Try.prog 52 #[.pointer (some ⟨bx, 0, none⟩)] [] w0 (Fr []) [] := by
  intro l J Jx W hnc hJ hJx hy h0
  have hb := (hb0.nc hnc).cell 0
  simp only [List.getElem?_cons_zero] at hb
  have hm : W.heap[mb]? = some (.map #[] c) := (hnc.low mb hlt hlt).trans hm0
  have H0 := Lib.hid h0
  clear hJ hJx hy h0 hnc
  refine callsIn_wide.2 ?_
  simp only [List.append_toArray, List.cons_append, List.nil_append]
  have hrg := run_range_f hm
  have hnx := run_next_nil (w := W.alloc (.mapIter (some mb) c #[] c)) (heap_alloc_new _ _) ((Below.heap_alloc W _ mb (Array.getElem?_eq_some_iff.1 hm).1).trans hm)
  go_enter Try.func52, Try.ntmps52
  go_wp2
  refine wp_loop_rounds 1 ?_
  rw [rounds_succ]
  go_wp2
  go_end0
  obtain ⟨F, hF, _⟩ := H0.out _ ((Fr.refl [] W).alloc (.mapIter (some mb) c #[] c))
  exact ⟨⟨_, rfl⟩, .inl ⟨F, hF⟩⟩

set_option maxRecDepth 100000 in
theorem AppendSeq_nil (gf : Nat) (lb : Array Value) (w : World) (hit : ∀ w1, Fr [] w w1 → IterC Try.prog gf lb [] w1 (Fr []) []) (eg : ∀ args w, (callFunc gf args).run Try.prog w = .ok (.enter gf args) w) :
    Calls Try.prog 64 #[.slice none 0 0, .func (.func gf) #[] lb] w fun r w' => r = .returned (.slice none 0 0) ∧ Fr [] w w' := by
  have HIT := Lib.hid hit
  have EG := Lib.hid eg
  clear hit eg
  refine (callsIn_wide (n := 0)).1 (callsIn_of_wp_marks Try.func64 rfl trivial (wpIn_wide.2 ?_) rfl)
  simp only [Try.ntmps64, List.size_toArray, List.length_cons, List.length_nil, Nat.reduceAdd, Nat.reduceSub, Array.replicate_succ, Array.replicate_zero, List.push_toArray, List.append_toArray, List.nil_append, List.cons_append]
  go_wp2_with fail
  have hb : Blk (w.alloc (.cells #[.slice none 0 0] 32)) w.heap.size 32 [.slice none 0 0] := Blk.new _ _ _
  have hf1 : Fr [] w (w.alloc (.cells #[.slice none 0 0] 32)) := (Fr.refl [] w).alloc _
  generalize w.alloc (.cells #[.slice none 0 0] 32) = w1 at *
  refine (wpIn_wide (n := 0)).1 ?_
  refine range_outer (gf := gf) (lb := lb) rfl EG.out [] (by simp) (Fr []) (fun A B h j o ho _ => h.obj (by simp) ho) (HIT.out w1 hf1)
    (fun k F W => F = [] ∧ Blk W w.heap.size 32 [.slice none 0 0] ∧ Fr [] w W) (fun _ _ => False) [] ?hJ (fun _ _ _ h _ => h) ?h0 (by simp) ?hround ?hdone (fun _ _ _ _ h _ => h.elim)
  case hJ => rintro k F A B ⟨e, h1, h2⟩ hnc; exact ⟨e, h1.nc hnc, h2.nc hnc hf1.size⟩
  case h0 => intro A B hnc hf; exact ⟨rfl, (hb.nc hnc).fr hf (by simp), (hf1.nc hnc hf1.size).trans hf⟩
  case hround => intro l k F W hk; simp at hk
  case hdone =>
    rintro D F W hD hDF ⟨e, h1, h2⟩ hK
    have c7 := h1.cell 0
    simp only [List.getElem?_cons_zero] at c7
    have hs := hf1.size
    simp only [Exit.inBlock]
    go_wp2
    have hnc : NC w1.heap.size W (W.putObj D (.deferred none)) := NC.putObj hD hK rfl
    refine ⟨by simp, .inl ⟨_, _, rfl, run_takeDeferred hK, ?_⟩⟩
    exact ⟨.slice none 0 0, by simp [results, Try.f64, go_sem], rfl, h2.nc hnc hs⟩

theorem Sorted_nil (gf : Nat) (lb : Array Value) (w : World) (hit : ∀ w1, Fr [] w w1 → IterC Try.prog gf lb [] w1 (Fr []) []) (eg : ∀ args w, (callFunc gf args).run Try.prog w = .ok (.enter gf args) w) :
    Calls Try.prog 26 #[.func (.func gf) #[] lb] w fun r w' => r = .returned (.slice none 0 0) ∧ Fr [] w w' := by
  have HA := Lib.hid (AppendSeq_nil gf lb w hit eg)
  clear hit eg
  go_enter Try.func26, Try.ntmps26
  go_wp2_with (first | (go_at_call 64; (with_reducible refine HA.out.mono ?_); rintro r w1 ⟨rfl, hf1⟩) | (go_at_call 51; (with_reducible refine (Sort_nil _).mono ?_); rintro r w' ⟨rfl, rfl⟩) | (go_at_call 50; go_in))
  go_ret
  exact ⟨rfl, hf1⟩

theorem Armed_nil (tb mb c : Nat) (w : World) (h : FTab w tb mb #[] c) :
    Calls Try.prog 11 #[.pointer (some ⟨tb, 0, none⟩)] w fun r w' => r = .returned (.slice none 0 0) ∧ Fr [] w w' := by
  have ht := h.tab.cell 0
  simp only [List.getElem?_cons_zero] at ht
  have HT := Lib.hid h
  clear h
  go_enter Try.func11, Try.ntmps11
  go_wp2_with fail
  refine (Keys_any w mb).mono ?_
  rintro r w1 ⟨rfl, hb1, hf1⟩
  have hT := HT.out.fr hf1
  have hs := Sorted_nil 52 #[.pointer (some ⟨w.heap.size, 0, none⟩)] w1 (fun w2 hf2 => Keys1_nil w.heap.size mb c w2 (hb1.fr hf2 (by simp)) (hf2.obj (by simp) hT.map) (by have := (Array.getElem?_eq_some_iff.1 hT.map).1; have := hf2.size; omega)) (fun args w => by kernel_rfl)
  have HS := Lib.hid hs
  clear hs hb1 hT
  go_wp2_with fail
  refine HS.out.mono ?_
  rintro r w2 ⟨rfl, hf2⟩
  go_wp2
  go_ret
  exact ⟨rfl, hf1.trans hf2⟩
end Go.Proofs.Ytnnhlggofmphcaa
