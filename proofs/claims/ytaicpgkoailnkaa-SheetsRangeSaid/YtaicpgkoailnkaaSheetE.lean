/- Package sheets, walked: New. -/
import Derived.Test.YtaicpgkoailnkaaSheetD
namespace Go.Proofs.Ytaicpgkoailnkaa
open Go.RowKit

theorem New_bad (n : Int) (w : World) (h : n < 1 ∨ 64 < n) :
    Calls Try.prog 7 #[.int .i64 n] w fun r w' => r = .returned (.tuple #[.pointer none, .int .i64 60]) ∧ Fr [] w w' := by
  by_cases h1 : n < 1
  · go_enter Try.func7, Try.ntmps7
    go_wp2
    go_ret2
    exact ⟨rfl, Fr.refl _ _⟩
  · have h2 : 64 < n := by omega
    clear h
    go_enter Try.func7, Try.ntmps7
    go_wp2
    go_ret2
    exact ⟨rfl, Fr.refl _ _⟩

/-- A book's cells while it is made: k pieces are there, from block q on. -/
def bk0 (n W k q : Nat) : Nat → Value := fun i => if i = 0 then .int .i64 (n : Nat) else if i = 1 then .int .i64 (W : Nat) else if i < 10 then (if i - 2 < k then .pointer (some ⟨q + (i - 2), 0, none⟩) else .pointer none) else if i < 138 then .int .i64 0 else .bool (decide (i - 138 < k))
set_option maxRecDepth 100000 in
theorem bk0_list (n q : Nat) : (List.range 146).map (bk0 n 1 0 q) = [.int .i64 n, .int .i64 1, .pointer none, .pointer none, .pointer none, .pointer none, .pointer none, .pointer none, .pointer none, .pointer none, .int .i64 0, .int .i64 0, .int .i64 0, .int .i64 0, .int .i64 0, .int .i64 0, .int .i64 0, .int .i64 0, .int .i64 0, .int .i64 0, .int .i64 0, .int .i64 0, .int .i64 0, .int .i64 0, .int .i64 0, .int .i64 0, .int .i64 0, .int .i64 0, .int .i64 0, .int .i64 0, .int .i64 0, .int .i64 0, .int .i64 0, .int .i64 0, .int .i64 0, .int .i64 0, .int .i64 0, .int .i64 0, .int .i64 0, .int .i64 0, .int .i64 0, .int .i64 0, .int .i64 0, .int .i64 0, .int .i64 0, .int .i64 0, .int .i64 0, .int .i64 0, .int .i64 0, .int .i64 0, .int .i64 0, .int .i64 0, .int .i64 0, .int .i64 0, .int .i64 0, .int .i64 0, .int .i64 0, .int .i64 0, .int .i64 0, .int .i64 0, .int .i64 0, .int .i64 0, .int .i64 0, .int .i64 0, .int .i64 0, .int .i64 0, .int .i64 0, .int .i64 0, .int .i64 0, .int .i64 0, .int .i64 0, .int .i64 0, .int .i64 0, .int .i64 0, .int .i64 0, .int .i64 0, .int .i64 0, .int .i64 0, .int .i64 0, .int .i64 0, .int .i64 0, .int .i64 0, .int .i64 0, .int .i64 0, .int .i64 0, .int .i64 0, .int .i64 0, .int .i64 0, .int .i64 0, .int .i64 0, .int .i64 0, .int .i64 0, .int .i64 0, .int .i64 0, .int .i64 0, .int .i64 0, .int .i64 0, .int .i64 0, .int .i64 0, .int .i64 0, .int .i64 0, .int .i64 0, .int .i64 0, .int .i64 0, .int .i64 0, .int .i64 0, .int .i64 0, .int .i64 0, .int .i64 0, .int .i64 0, .int .i64 0, .int .i64 0, .int .i64 0, .int .i64 0, .int .i64 0, .int .i64 0, .int .i64 0, .int .i64 0, .int .i64 0, .int .i64 0, .int .i64 0, .int .i64 0, .int .i64 0, .int .i64 0, .int .i64 0, .int .i64 0, .int .i64 0, .int .i64 0, .int .i64 0, .int .i64 0, .int .i64 0, .int .i64 0, .int .i64 0, .int .i64 0, .int .i64 0, .int .i64 0, .int .i64 0, .int .i64 0, .bool false, .bool false, .bool false, .bool false, .bool false, .bool false, .bool false, .bool false] := by kernel_rfl

/-- A leaf that was never written. -/
def leaf0 : Leaf := ⟨0, none, 0, []⟩

set_option maxRecDepth 100000 in
theorem zero_tree (W : World) : (zeroValue 74).run Try.prog W = .ok (.agg #[.int .i64 0, .int .i64 0, .pointer none, .pointer none, .pointer none, .pointer none, .pointer none, .pointer none, .pointer none, .pointer none, .int .i64 0, .int .i64 0, .int .i64 0, .int .i64 0, .int .i64 0, .int .i64 0, .int .i64 0, .int .i64 0, .int .i64 0, .int .i64 0, .int .i64 0, .int .i64 0, .int .i64 0, .int .i64 0, .int .i64 0, .int .i64 0, .int .i64 0, .int .i64 0, .int .i64 0, .int .i64 0, .int .i64 0, .int .i64 0, .int .i64 0, .int .i64 0, .int .i64 0, .int .i64 0, .int .i64 0, .int .i64 0, .int .i64 0, .int .i64 0, .int .i64 0, .int .i64 0, .int .i64 0, .int .i64 0, .int .i64 0, .int .i64 0, .int .i64 0, .int .i64 0, .int .i64 0, .int .i64 0, .int .i64 0, .int .i64 0, .int .i64 0, .int .i64 0, .int .i64 0, .int .i64 0, .int .i64 0, .int .i64 0, .int .i64 0, .int .i64 0, .int .i64 0, .int .i64 0, .int .i64 0, .int .i64 0, .int .i64 0, .int .i64 0, .int .i64 0, .int .i64 0, .int .i64 0, .int .i64 0, .int .i64 0, .int .i64 0, .int .i64 0, .int .i64 0, .int .i64 0, .int .i64 0, .int .i64 0, .int .i64 0, .int .i64 0, .int .i64 0, .int .i64 0, .int .i64 0, .int .i64 0, .int .i64 0, .int .i64 0, .int .i64 0, .int .i64 0, .int .i64 0, .int .i64 0, .int .i64 0, .int .i64 0, .int .i64 0, .int .i64 0, .int .i64 0, .int .i64 0, .int .i64 0, .int .i64 0, .int .i64 0, .int .i64 0, .int .i64 0, .int .i64 0, .int .i64 0, .int .i64 0, .int .i64 0, .int .i64 0, .int .i64 0, .int .i64 0, .int .i64 0, .int .i64 0, .int .i64 0, .int .i64 0, .int .i64 0, .int .i64 0, .int .i64 0, .int .i64 0, .int .i64 0, .int .i64 0, .int .i64 0, .int .i64 0, .int .i64 0, .int .i64 0, .int .i64 0, .int .i64 0, .int .i64 0, .int .i64 0, .int .i64 0, .int .i64 0, .int .i64 0, .int .i64 0, .int .i64 0, .int .i64 0, .int .i64 0, .int .i64 0, .int .i64 0, .int .i64 0, .int .i64 0, .int .i64 0, .int .i64 0]) W := by kernel_rfl
set_option maxRecDepth 100000 in
theorem zero_book (W : World) : (zeroValue 77).run Try.prog W = .ok (.agg #[.int .i64 0, .int .i64 0, .pointer none, .pointer none, .pointer none, .pointer none, .pointer none, .pointer none, .pointer none, .pointer none, .int .i64 0, .int .i64 0, .int .i64 0, .int .i64 0, .int .i64 0, .int .i64 0, .int .i64 0, .int .i64 0, .int .i64 0, .int .i64 0, .int .i64 0, .int .i64 0, .int .i64 0, .int .i64 0, .int .i64 0, .int .i64 0, .int .i64 0, .int .i64 0, .int .i64 0, .int .i64 0, .int .i64 0, .int .i64 0, .int .i64 0, .int .i64 0, .int .i64 0, .int .i64 0, .int .i64 0, .int .i64 0, .int .i64 0, .int .i64 0, .int .i64 0, .int .i64 0, .int .i64 0, .int .i64 0, .int .i64 0, .int .i64 0, .int .i64 0, .int .i64 0, .int .i64 0, .int .i64 0, .int .i64 0, .int .i64 0, .int .i64 0, .int .i64 0, .int .i64 0, .int .i64 0, .int .i64 0, .int .i64 0, .int .i64 0, .int .i64 0, .int .i64 0, .int .i64 0, .int .i64 0, .int .i64 0, .int .i64 0, .int .i64 0, .int .i64 0, .int .i64 0, .int .i64 0, .int .i64 0, .int .i64 0, .int .i64 0, .int .i64 0, .int .i64 0, .int .i64 0, .int .i64 0, .int .i64 0, .int .i64 0, .int .i64 0, .int .i64 0, .int .i64 0, .int .i64 0, .int .i64 0, .int .i64 0, .int .i64 0, .int .i64 0, .int .i64 0, .int .i64 0, .int .i64 0, .int .i64 0, .int .i64 0, .int .i64 0, .int .i64 0, .int .i64 0, .int .i64 0, .int .i64 0, .int .i64 0, .int .i64 0, .int .i64 0, .int .i64 0, .int .i64 0, .int .i64 0, .int .i64 0, .int .i64 0, .int .i64 0, .int .i64 0, .int .i64 0, .int .i64 0, .int .i64 0, .int .i64 0, .int .i64 0, .int .i64 0, .int .i64 0, .int .i64 0, .int .i64 0, .int .i64 0, .int .i64 0, .int .i64 0, .int .i64 0, .int .i64 0, .int .i64 0, .int .i64 0, .int .i64 0, .int .i64 0, .int .i64 0, .int .i64 0, .int .i64 0, .int .i64 0, .int .i64 0, .int .i64 0, .int .i64 0, .int .i64 0, .int .i64 0, .int .i64 0, .int .i64 0, .int .i64 0, .int .i64 0, .int .i64 0, .bool false, .bool false, .bool false, .bool false, .bool false, .bool false, .bool false, .bool false]) W := by kernel_rfl
set_option maxRecDepth 100000 in
theorem zero_piece (W : World) : (zeroValue 81).run Try.prog W = .ok (.agg #[.int .i64 0, .slice none 0 0, .int .i64 0, .slice none 0 0, .int .i64 0, .slice none 0 0, .int .i64 0, .slice none 0 0, .int .i64 0, .slice none 0 0, .int .i64 0, .slice none 0 0, .int .i64 0, .slice none 0 0, .int .i64 0, .slice none 0 0]) W := by kernel_rfl

/-- A book that was never written. -/
def Fresh (w w' : World) (n : Nat) : Prop := ∃ (hh : Nat) (pc : Nat → Nat), Bk w' w.heap.size n hh pc (fun _ => 0) (fun _ => true) (fun _ => leaf0) ∧ Fr [] w w' ∧ ∀ k, k < 8 → w.heap.size ≤ pc k

set_option maxRecDepth 100000 in
set_option maxHeartbeats 2000000 in
theorem New_good (n : Nat) (w : World) (h0 : 1 ≤ n) (h : n ≤ 64) :
    Calls Try.prog 7 #[.int .i64 (n : Nat)] w fun r w' => r = .returned (.tuple #[.pointer (some ⟨w.heap.size, 0, none⟩), .int .i64 0]) ∧ Fresh w w' n := by
  have t1 : decide ((n : Int) < 1) = false := by simp; omega
  have t2 : decide ((64 : Int) < (n : Int)) = false := by simp; omega
  have z1 := fun W => zero_tree W
  have z2 := fun W => zero_book W
  go_enter Try.func7, Try.ntmps7
  go_upto_region 3 with fail
  go_cut [4] (fun s4 wx => ∃ z : Nat, s4 = .pointer (some ⟨w.heap.size, 0, none⟩) ∧ Blf wx w.heap.size 77 146 (bk0 n 1 0 (w.heap.size + 1)) ∧ Fr [] w wx ∧ wx.heap.size = w.heap.size + 1 ∧ z = 0)
  case first =>
    go_wp2_with fail
    go_meet
    refine ⟨0, rfl, ?_, (Fr.refl _ _).alloc _, by simp, rfl⟩
    rw [Blf, bk0_list]
    exact Blk.new _ _ _
  case rest =>
    obtain ⟨_, rfl, hb0, hf0, hs0, _⟩ := hcut
    obtain ⟨w1, rfl⟩ : ∃ w1 : World, w1 = wc := ⟨_, rfl⟩
    clear z1 z2
    go_upto_region 4 with fail
    go_loopw [] (fun wr => ∃ hh : Nat, 2 ^ hh < 2 * n ∧ Blf wr w.heap.size 77 146 (bk0 n (2 ^ hh) 0 (w.heap.size + 1)) ∧ Fr [] w wr ∧ wr.heap.size = w.heap.size + 1) (fun wr => 128 - (intOf ((wr.cell? ⟨w.heap.size, 1, none⟩).getD undef)).toNat)
    case atStart => exact ⟨0, by omega, hb0, hf0, hs0⟩
    case round =>
      obtain ⟨hh, hlt, hbr, hfr, hsr⟩ := hrel
      have c1 := hbr.cell (i := 1) (by omega)
      have z1 := hbr.frozen 1
      rw [show bk0 n (2 ^ hh) 0 (w.heap.size + 1) 1 = .int .i64 ((2 ^ hh : Nat) : Int) from rfl] at c1
      obtain ⟨W, hW⟩ : ∃ W, 2 ^ hh = W := ⟨_, rfl⟩
      have hWp : 0 < W := by rw [← hW]; exact Nat.two_pow_pos hh
      rw [hW] at c1 hbr hlt
      have e1 : IntKind.i64.wrap ((W : Int) * 2) = (W : Int) * 2 := IntWalk.i64_in _ (by omega)
      by_cases hc : W < n
      · have t3 : decide ((W : Int) < (n : Int)) = true := by simp; omega
        go_wp2
        go_roundw
        case rel =>
          have e2 : 2 ^ (hh + 1) = W * 2 := by rw [Nat.pow_succ, hW]
          refine ⟨hh + 1, by omega, ?_, hfr.setCell' (.inr (Nat.le_refl _)), by simpa [World.setCell] using hsr⟩
          rw [e2]
          refine (hbr.set_ 1 (.int .i64 ((W : Int) * 2))).congr (fun i hi => ?_)
          by_cases h1 : i = 1
          · subst h1; rw [upd_eq]; simp [bk0]
          · rw [upd_ne h1]; unfold bk0; rw [if_neg h1, if_neg h1]
        case measure =>
          rw [(hbr.set_ 1 (.int .i64 ((W : Int) * 2))).cell (i := 1) (by omega), upd_eq, c1]
          simp [intOf]
          omega
      · have t3 : decide ((W : Int) < (n : Int)) = false := by simp; omega
        go_upto_region 7 with fail
        have hnW : n ≤ W := by omega
        have hp0 := fun W' => zero_piece W'
        clear c1 z1 e1 t3
        go_loopw [32] (fun i w5 => ∃ k : Nat, i = .int .i64 k ∧ k ≤ 8 ∧ Blf w5 w.heap.size 77 146 (bk0 n W k (w.heap.size + 1)) ∧ (∀ j, j < k → Blf w5 (w.heap.size + 1 + j) 81 16 (pcell (fun _ => leaf0) j)) ∧ Fr [] w w5 ∧ w5.heap.size = w.heap.size + 1 + k) (fun i _ => 8 - (intOf i).toNat)
        case atStart => exact ⟨0, rfl, by omega, hbr, by intro j hj; omega, hfr, hsr⟩
        case round =>
          obtain ⟨k, rfl, hk, hb5, hp5, hf5, hs5⟩ := hrel
          by_cases hk8 : k < 8
          · have t4 : decide ((k : Int) < 8) = true := by simp; omega
            have k0 : (0 : Int) ≤ (k : Int) := by omega
            have k1 : (k : Int) < 8 := by omega
            have x1 := hb5.cell (i := 2 + k) (by omega)
            have x2 := hb5.cell (i := 138 + k) (by omega)
            rw [show bk0 n W k (w.heap.size + 1) (2 + k) = .pointer none by unfold bk0; rw [if_neg (by omega), if_neg (by omega), if_pos (by omega), if_neg (by omega)]] at x1
            rw [show bk0 n W k (w.heap.size + 1) (138 + k) = .bool false by unfold bk0; rw [if_neg (by omega), if_neg (by omega), if_neg (by omega), if_neg (by omega)]; simp] at x2
            have y1 := hb5.frozen (2 + k)
            have y2 := hb5.frozen (138 + k)
            have hlt5 := hb5.lt
            have x3 : ∀ o : Obj, (wr.alloc o).cell? ⟨w.heap.size, 2 + k, none⟩ = some (.pointer none) := fun o => (World.cell?_alloc_some wr ⟨w.heap.size, 2 + k, none⟩ o (by rw [x1]; rfl)).trans x1
            have x4 : ∀ o : Obj, (wr.alloc o).cell? ⟨w.heap.size, 138 + k, none⟩ = some (.bool false) := fun o => (World.cell?_alloc_some wr ⟨w.heap.size, 138 + k, none⟩ o (by rw [x2]; rfl)).trans x2
            have y3 : ∀ o : Obj, (wr.alloc o).frozen? ⟨w.heap.size, 2 + k, none⟩ = false := fun o => (hb5.alloc o).frozen _
            have y4 : ∀ o : Obj, (wr.alloc o).frozen? ⟨w.heap.size, 138 + k, none⟩ = false := fun o => (hb5.alloc o).frozen _
            have s2 : ∀ (w' : World) (v : Value), (w'.setCell ⟨w.heap.size, 2 + k, none⟩ v).cell? ⟨w.heap.size, 138 + k, none⟩ = w'.cell? ⟨w.heap.size, 138 + k, none⟩ := fun w' v => World.cell?_setCell_other w' _ _ v (by intro e; simp at e)
            have e5 : IntKind.i64.wrap ((k : Int) + 1) = (k : Int) + 1 := IntWalk.i64_in _ (by omega)
            go_wp2
            go_roundw
            case rel =>
              have hne : ∀ j, w.heap.size + 1 + j ≠ w.heap.size := fun j => by omega
              refine ⟨k + 1, by go_num, by omega, ?_, fun j hj => ?_, ((hf5.alloc _).setCell' (.inr (Nat.le_refl _))).setCell' (.inr (Nat.le_refl _)), ?_⟩
              · refine (((hb5.alloc _).set_ (2 + k) _).set_ (138 + k) _).congr (fun i hi => ?_)
                by_cases e1 : i = 138 + k
                · subst e1; rw [upd_eq]; unfold bk0
                  rw [if_neg (by omega), if_neg (by omega), if_neg (by omega), if_neg (by omega)]
                  simp
                · rw [upd_ne e1]
                  by_cases e2 : i = 2 + k
                  · subst e2; rw [upd_eq]; unfold bk0
                    rw [if_neg (by omega), if_neg (by omega), if_pos (by omega), if_pos (by omega), show 2 + k - 2 = k by omega]
                  · rw [upd_ne e2]; unfold bk0
                    by_cases e3 : i = 0
                    · rw [if_pos e3, if_pos e3]
                    · rw [if_neg e3, if_neg e3]
                      by_cases e4 : i = 1
                      · rw [if_pos e4, if_pos e4]
                      · rw [if_neg e4, if_neg e4]
                        by_cases e6 : i < 10
                        · rw [if_pos e6, if_pos e6]
                          by_cases e7 : i - 2 < k
                          · rw [if_pos e7, if_pos (by omega)]
                          · rw [if_neg e7, if_neg (by omega)]
                        · rw [if_neg e6, if_neg e6]
                          by_cases e7 : i < 138
                          · rw [if_pos e7, if_pos e7]
                          · rw [if_neg e7, if_neg e7]
                            congr 1
                            simp; omega
              · by_cases e : j = k
                · subst e
                  have h9 : Blf (wr.alloc (.cells #[.int .i64 0, .slice none 0 0, .int .i64 0, .slice none 0 0, .int .i64 0, .slice none 0 0, .int .i64 0, .slice none 0 0, .int .i64 0, .slice none 0 0, .int .i64 0, .slice none 0 0, .int .i64 0, .slice none 0 0, .int .i64 0, .slice none 0 0] 81)) (w.heap.size + 1 + j) 81 16 (pcell (fun _ => leaf0) j) := by
                    rw [← hs5]; exact Blk.new _ _ _
                  exact (h9.far (hne j)).far (hne j)
                · exact (((hp5 j (by omega)).alloc _).far (hne j)).far (hne j)
              · simp [World.setCell, hs5]; omega
            case measure => simp [intOf]; omega
          · have t4 : decide ((k : Int) < 8) = false := by simp; omega
            have hk9 : k = 8 := by omega
            subst hk9
            go_wp2
            go_ret2
            have hW6 : W ≤ 64 := by
              rcases Nat.lt_or_ge hh 7 with hc | hc
              · rw [← hW]; exact Nat.pow_le_pow_right (n := 2) (by omega) (show hh ≤ 6 by omega)
              · have : 2 ^ 7 ≤ 2 ^ hh := Nat.pow_le_pow_right (by omega) hc
                omega
            refine ⟨rfl, hh, fun k => w.heap.size + 1 + k, ⟨⟨_, hb5, ⟨rfl, ?_, fun k hk => ?_, fun i hi => ?_⟩, fun k hk => ?_⟩, ⟨hp5, fun j hj => Row.nil _ _ _, fun j hj => ⟨(fun x hx => by simp [leaf0] at hx), by simp [leaf0]⟩⟩, ⟨h0, by omega, by omega, by omega, fun _ _ => rfl, fun _ _ _ => rfl, fun _ _ _ => rfl, fun _ _ => ⟨by simp [leaf0], by simp [leaf0]⟩⟩, fun i j hi hj (hij : w.heap.size + 1 + i = w.heap.size + 1 + j) => by omega⟩, hf5, fun k hk => by show w.heap.size ≤ w.heap.size + 1 + k; omega⟩
            · rw [hW]; rfl
            · unfold bk0; rw [if_neg (by omega), if_neg (by omega), if_pos (by omega), if_pos (by omega), show 2 + k - 2 = k by omega]
            · unfold bk0; rw [if_neg (by omega), if_neg (by omega), if_neg (by omega), if_pos (by omega)]
            · unfold bk0; rw [if_neg (by omega), if_neg (by omega), if_neg (by omega), if_neg (by omega)]; simp; omega
end Go.Proofs.Ytaicpgkoailnkaa
