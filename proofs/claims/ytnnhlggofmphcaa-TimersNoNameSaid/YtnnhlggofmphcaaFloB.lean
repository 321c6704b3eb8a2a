/- Tables of floats, walked: New, Arm, Left, Cancel. -/
import Derived.Test.YtnnhlggofmphcaaFloA
import Derived.Test.YtnnhlggofmphcaaMapRun
namespace Go.Proofs.Ytnnhlggofmphcaa
open Go.RowKit
open Go.ChangeMaps (setBlock)

/-- A table: block tb, whose map is block mb. -/
structure FTab (w : World) (tb mb : Nat) (es : Array MapEntry) (c : Nat) : Prop where
  tab : Blk w tb 72 [.map (some mb)]
  map : w.heap[mb]? = some (.map es c)
theorem FTab.ne {w : World} {tb mb : Nat} {es : Array MapEntry} {c : Nat} (h : FTab w tb mb es c) : tb ≠ mb := by
  rintro rfl
  have := h.tab; unfold Blk at this; rw [h.map] at this; cases this
theorem FTab.set {w : World} {tb mb : Nat} {es es' : Array MapEntry} {c c' : Nat} (h : FTab w tb mb es c) : FTab (setBlock w mb (.map es' c')) tb mb es' c' :=
  ⟨h.tab.fr (setBlock_fr _ _ _) (by simpa using h.ne), setBlock_at h.map⟩
theorem FTab.fr {w w' : World} {tb mb : Nat} {es : Array MapEntry} {c : Nat} (h : FTab w tb mb es c) (hf : Fr [] w w') : FTab w' tb mb es c := ⟨h.tab.fr hf (by simp), hf.obj (by simp) h.map⟩

theorem New_f (w : World) : Calls Try.prog 6 #[] w fun r w' => r = .returned (.pointer (some ⟨w.heap.size + 1, 0, none⟩)) ∧ FTab w' (w.heap.size + 1) w.heap.size #[] 0 ∧ Fr [] w w' := by
  have hmm := @run_makeMap Try.prog
  go_enter Try.func6, Try.ntmps6
  go_wp2
  go_ret
  refine ⟨rfl, ⟨?_, ?_⟩, ?_⟩
  · exact Blk.new' (by simp)
  · exact (Below.heap_alloc _ _ _ (by simp)).trans (heap_alloc_new w _)
  · exact ((Fr.refl [] w).alloc _).alloc _

theorem order_of {x y : Nat} {b : Bool} (h : feq x y = b) : (FloatKind.f64.format.order x y == some .eq) = b := h
theorem order_of' {x y : Nat} {b : Bool} (h : feq x y = b) : (FloatKind.f64.format.order x y != some .eq) = !b := by rw [bne, order_of h]

set_option maxHeartbeats 1000000 in
theorem Arm_nan (tb mb c f : Nat) (ticks : Int) (w : World) (h : FTab w tb mb #[] c) (hf : feq f f = false) :
    Calls Try.prog 8 #[.pointer (some ⟨tb, 0, none⟩), .float .f64 f, .int .i64 ticks] w fun r w' => r = .returned (.int .i64 1) ∧ w' = w := by
  have HL := Lib.hid (run_lookup_nil h.map f)
  have ht := h.tab.cell 0
  simp only [List.getElem?_cons_zero] at ht
  have hq := order_of' hf
  simp only [Bool.not_false] at hq
  clear h hf
  go_enter Try.func8, Try.ntmps8
  go_wp2_with (at_lookup; refine wpList_lookup_run rfl _ _ 70 true rfl (.map (some mb)) (.float .f64 f) _ rfl rfl HL.out ?_)
  go_ret
  exact ⟨rfl, rfl⟩

set_option maxHeartbeats 1000000 in
theorem Arm_bad (tb mb c f : Nat) (ticks : Int) (w : World) (h : FTab w tb mb #[] c) (hf : feq f f = true) (hk : ticks < 1 ∨ 1024 < ticks) :
    Calls Try.prog 8 #[.pointer (some ⟨tb, 0, none⟩), .float .f64 f, .int .i64 ticks] w fun r w' => r = .returned (.int .i64 30) ∧ w' = w := by
  have HL := Lib.hid (run_lookup_nil h.map f)
  have ht := h.tab.cell 0
  simp only [List.getElem?_cons_zero] at ht
  have hq := order_of' hf
  simp only [Bool.not_true] at hq
  clear h hf
  by_cases h1 : ticks < 1
  · clear hk
    go_enter Try.func8, Try.ntmps8
    go_wp2_with (at_lookup; refine wpList_lookup_run rfl _ _ 70 true rfl (.map (some mb)) (.float .f64 f) _ rfl rfl HL.out ?_)
    go_ret
    exact ⟨rfl, rfl⟩
  · have h2 : 1024 < ticks := by omega
    clear hk
    go_enter Try.func8, Try.ntmps8
    go_wp2_with (at_lookup; refine wpList_lookup_run rfl _ _ 70 true rfl (.map (some mb)) (.float .f64 f) _ rfl rfl HL.out ?_)
    go_ret
    exact ⟨rfl, rfl⟩

theorem run_len_nil {w : World} {mb c : Nat} (hm : w.heap[mb]? = some (.map #[] c)) (ty : TypeId) : (Builtin.len_ #[70] ty #[.map (some mb)]).run Try.prog w = .ok (.int .i64 0) w := by
  simp [Builtin.len_, Builtin.lenOf, getObj, Sem.run, hm, goInt]

set_option maxRecDepth 100000 in
set_option maxHeartbeats 1000000 in
theorem Arm_good (tb mb c f : Nat) (ticks : Int) (w : World) (h : FTab w tb mb #[] c) (hf : feq f f = true) (hk : 1 ≤ ticks) (hk2 : ticks ≤ 1024) :
    Calls Try.prog 8 #[.pointer (some ⟨tb, 0, none⟩), .float .f64 f, .int .i64 ticks] w fun r w' => r = .returned (.int .i64 0) ∧ FTab w' tb mb #[⟨.float .f64 f, .int .i64 ticks, c⟩] (c + 1) ∧ Fr [mb] w w' := by
  have HL := Lib.hid (run_lookup_nil h.map f)
  have hn := run_len_nil h.map
  have t1 : decide (ticks < 1) = false := by simp; omega
  have t2 : decide (1024 < ticks) = false := by simp; omega
  have HU := Lib.hid (run_update_nil h.map f (.int .i64 ticks))
  have HT := Lib.hid h
  have ht := h.tab.cell 0
  simp only [List.getElem?_cons_zero] at ht
  have hq := order_of' hf
  simp only [Bool.not_true] at hq
  clear h hf
  go_enter Try.func8, Try.ntmps8
  go_wp2_with (first | (at_lookup; refine wpList_lookup_run rfl _ _ 70 true rfl (.map (some mb)) (.float .f64 f) _ rfl rfl HL.out ?_) | (at_mapUpdate; refine wpList_update_run rfl _ _ _ 70 rfl (.map (some mb)) (.float .f64 f) (.int .i64 ticks) _ rfl rfl rfl HU.out ?_))
  go_ret
  exact ⟨rfl, HT.out.set, setBlock_fr _ _ _⟩

theorem Left_nil (tb mb c f : Nat) (w : World) (h : FTab w tb mb #[] c) :
    Calls Try.prog 9 #[.pointer (some ⟨tb, 0, none⟩), .float .f64 f] w fun r w' => r = .returned (.tuple #[.int .i64 0, .bool false]) ∧ w' = w := by
  have HL := Lib.hid (run_lookup_nil h.map f)
  have ht := h.tab.cell 0
  simp only [List.getElem?_cons_zero] at ht
  clear h
  go_enter Try.func9, Try.ntmps9
  go_wp2_with (at_lookup; refine wpList_lookup_run rfl _ _ 70 true rfl (.map (some mb)) (.float .f64 f) _ rfl rfl HL.out ?_)
  go_ret2
  exact ⟨rfl, rfl⟩
theorem Left_one (tb mb c f y b : Nat) (t : Int) (w : World) (h : FTab w tb mb #[⟨.float .f64 y, .int .i64 t, b⟩] c) (hf : feq f y = true) :
    Calls Try.prog 9 #[.pointer (some ⟨tb, 0, none⟩), .float .f64 f] w fun r w' => r = .returned (.tuple #[.int .i64 t, .bool true]) ∧ w' = w := by
  have hl := run_lookup_one h.map f
  rw [hf] at hl
  simp only [if_true] at hl
  have HL := Lib.hid hl
  have ht := h.tab.cell 0
  simp only [List.getElem?_cons_zero] at ht
  clear h hl
  go_enter Try.func9, Try.ntmps9
  go_wp2_with (at_lookup; refine wpList_lookup_run rfl _ _ 70 true rfl (.map (some mb)) (.float .f64 f) _ rfl rfl HL.out ?_)
  go_ret2
  exact ⟨rfl, rfl⟩

theorem Cancel_nil (tb mb c f : Nat) (w : World) (h : FTab w tb mb #[] c) :
    Calls Try.prog 10 #[.pointer (some ⟨tb, 0, none⟩), .float .f64 f] w fun r w' => r = .returned (.bool false) ∧ FTab w' tb mb #[] c ∧ Fr [mb] w w' := by
  have HL := Lib.hid (run_lookup_nil h.map f)
  have HD := Lib.hid (run_delete_nil h.map f)
  have HT := Lib.hid h
  have ht := h.tab.cell 0
  simp only [List.getElem?_cons_zero] at ht
  clear h
  go_enter Try.func10, Try.ntmps10
  go_wp2_with (first | (at_lookup; refine wpList_lookup_run rfl _ _ 70 true rfl (.map (some mb)) (.float .f64 f) _ rfl rfl HL.out ?_) | (at_delete; refine wpList_delete_run rfl _ _ 70 25 rfl (.map (some mb)) (.float .f64 f) _ rfl rfl (HD.out _) ?_))
  go_ret
  exact ⟨rfl, HT.out.set, setBlock_fr _ _ _⟩
theorem Cancel_one (tb mb c f y b : Nat) (t : Int) (w : World) (h : FTab w tb mb #[⟨.float .f64 y, .int .i64 t, b⟩] c) (hf : feq f y = true) :
    Calls Try.prog 10 #[.pointer (some ⟨tb, 0, none⟩), .float .f64 f] w fun r w' => r = .returned (.bool true) ∧ FTab w' tb mb #[] c ∧ Fr [mb] w w' := by
  have hl := run_lookup_one h.map f
  rw [hf] at hl
  simp only [if_true] at hl
  have HL := Lib.hid hl
  have HD := Lib.hid (run_delete_one h.map f hf)
  have HT := Lib.hid h
  have ht := h.tab.cell 0
  simp only [List.getElem?_cons_zero] at ht
  clear h hl
  go_enter Try.func10, Try.ntmps10
  go_wp2_with (first | (at_lookup; refine wpList_lookup_run rfl _ _ 70 true rfl (.map (some mb)) (.float .f64 f) _ rfl rfl HL.out ?_) | (at_delete; refine wpList_delete_run rfl _ _ 70 25 rfl (.map (some mb)) (.float .f64 f) _ rfl rfl (HD.out _) ?_))
  go_ret
  exact ⟨rfl, HT.out.set, setBlock_fr _ _ _⟩
end Go.Proofs.Ytnnhlggofmphcaa
