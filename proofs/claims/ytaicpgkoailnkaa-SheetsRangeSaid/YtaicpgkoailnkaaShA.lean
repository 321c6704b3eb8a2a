/- The law's small functions over books of sheets: among, spoil, lent. -/
import Derived.Test.YtaicpgkoailnkaaRefW
namespace Go.Proofs.Ytaicpgkoailnkaa
open Go.RowKit

theorem among_any (i : Int) (n : Nat) (w : World) (h0 : -9223372036854775808 ≤ i) (h1 : i ≤ 9223372036854775807) (hn : 0 < n) (hn2 : n ≤ 1000000000000) :
    Calls Try.prog 41 #[.int .i64 i, .int .i64 (n : Int)] w fun r w' => r = .returned (.int .i64 (i % (n : Int))) ∧ w = w' := by
  have t1 : decide (n < 1) = false := by simp; omega
  have hz : ((n : Int) == 0) = false := by simp; omega
  have hm : i.tmod n = if i < 0 ∧ i % n ≠ 0 then i % n - n else i % n := by
    have h2 := Int.emod_nonneg i (show (n : Int) ≠ 0 by omega)
    have h3 := Int.emod_lt_of_pos i (show (0 : Int) < n by omega)
    rw [Int.tmod_eq_emod]
    have h4 : (n : Int).natAbs = n := by omega
    by_cases hi : 0 ≤ i
    · simp [hi]; intro h; omega
    · have h5 : (n : Int) ∣ i ↔ i % n = 0 := Int.dvd_iff_emod_eq_zero
      by_cases hd : i % (n : Int) = 0
      · simp [h5.2 hd, hd]
      · have h6 : ¬ (n : Int) ∣ i := fun h => hd (h5.1 h)
        simp [hi, h6, hd] <;> omega
  have h2 := Int.emod_nonneg i (show (n : Int) ≠ 0 by omega)
  have h3 := Int.emod_lt_of_pos i (show (0 : Int) < n by omega)
  obtain ⟨r, hr⟩ : ∃ r, i % (n : Int) = r := ⟨_, rfl⟩
  rw [hr] at hm h2 h3 ⊢
  have HR := Lib.hid hr
  clear hr
  by_cases hc : i < 0 ∧ r ≠ 0
  · rw [if_pos hc] at hm
    have e1 : IntKind.i64.wrap (r - (n : Int)) = r - (n : Int) := IntWalk.i64_in _ (by omega)
    have e2 : IntKind.i64.wrap (r - (n : Int) + (n : Int)) = r := by rw [IntWalk.i64_in _ (by omega)]; omega
    have t2 : decide (r - (n : Int) < 0) = true := by simp; omega
    go_enter Try.func41, Try.ntmps41
    go_wp2
    all_goals go_ret
    all_goals simp
  · rw [if_neg hc] at hm
    go_enter Try.func41, Try.ntmps41
    go_wp2
    all_goals go_ret
    all_goals simp

theorem among3 (i : Int) (w : World) (h0 : -9223372036854775808 ≤ i) (h1 : i ≤ 9223372036854775807) :
    Calls Try.prog 41 #[.int .i64 i, .int .i64 3] w fun r w' => r = .returned (.int .i64 (i % 3)) ∧ w = w' := among_any i 3 w h0 h1 (by omega) (by omega)

section
variable {w w' : World} {e : TypeId} {size : Nat} {A : Option Addr} {n cap : Nat} {xs : List Value}
theorem Row.set1 {g j : Nat} {u : Value} (h : Row w e 1 (some ⟨g, 0, none⟩) n cap xs) (hj : j < n) : Row (w.setCell ⟨g, j, none⟩ u) e 1 (some ⟨g, 0, none⟩) n cap (xs.set j u) := by
  rcases h.cases with ⟨e, _⟩ | ⟨g', cur, e, hg, h1, h2, h3, h4⟩
  · cases e
  · simp at e
    subst e
    refine Row.of_blk (hg.set_ _ _) h1 h2 (by simpa using h3) ?_
    rw [List.take_set, h4]
/-- A shorter slice of the same array. -/
theorem Row.short (h : Row w e size A n cap xs) {m : Nat} (hm : m ≤ n) (hA : A ≠ none ∨ m = n) : Row w e size A m cap (xs.take (m * size)) := by
  rcases h.cases with ⟨rfl, rfl, rfl, rfl⟩ | ⟨g, cur, rfl, hg, h1, h2, h3, h4⟩
  · obtain rfl : m = 0 := by omega
    simpa using Row.nil w e size
  · refine Row.of_blk hg (by omega) h2 h3 ?_
    rw [← h4, List.take_take, Nat.min_eq_left (Nat.mul_le_mul_right _ hm)]
theorem Row.cap_le (h : Row w e size A n cap xs) : n ≤ cap := by
  rcases h.cases with ⟨_, rfl, rfl, _⟩ | ⟨_, _, _, _, h, _⟩ <;> omega
theorem Row.blk_of (h : Row w e size A n cap xs) {x : Nat} (hx : x ∈ fpOf A) : ∃ cur, Blk w x e cur := by
  rcases h.cases with ⟨rfl, _⟩ | ⟨g, cur, rfl, hg, _⟩
  · simp [fpOf] at hx
  · simp [fpOf] at hx
    subst hx
    exact ⟨cur, hg⟩
end
theorem bvals_set (xs : List Int) (j : Nat) (v : Int) : (bvals xs).set j (.int .u8 v) = bvals (xs.set j v) := by simp [bvals, List.map_set]
theorem bvals_append (xs ys : List Int) : bvals xs ++ bvals ys = bvals (xs ++ ys) := by simp [bvals]
theorem bvals_take (xs : List Int) (k : Nat) : (bvals xs).take k = bvals (xs.take k) := by simp [bvals, List.map_take]

set_option maxRecDepth 100000 in
set_option maxHeartbeats 2000000 in
theorem spoil_any (A : Option Addr) (cap : Nat) (v : Int) (n : Nat) (xs : List Int) (w : World) (h : Row w 5 1 A n cap (bvals xs)) (hb : n ≤ 140737488351232) :
    Calls Try.prog 19 #[.slice A n cap, .int .u8 v] w fun r w' => r = .returned (.tuple #[]) ∧ Fr (fpOf A) w w' := by
  obtain ⟨i0, hi, hz0, hz1, hz2⟩ := info_parts Try.iByte
  have HI := Lib.hid (And.intro hi (And.intro hz0 (And.intro hz1 hz2)))
  have HR := Lib.hid h
  clear hi hz0 hz1 hz2 h
  have h3 : ∀ u ∈ [Value.int .u8 v], u.oneCell' = true := by simp [Value.oneCell']
  have H3 := Lib.hid h3
  clear h3
  go_enter Try.func19, Try.ntmps19
  go_wp2
  go_loopw [7] (fun i wr => ∃ (k : Nat) (ys : List Int), k ≤ n ∧ i = .int .i64 k ∧ Row wr 5 1 A n cap (bvals ys) ∧ Fr (fpOf A) w wr) (fun i _ => n - (intOf i).toNat)
  case atStart => exact ⟨0, xs, Nat.zero_le _, rfl, HR.out, Fr.refl _ _⟩
  case round =>
    obtain ⟨k, ys, hk, rfl, hr, hf⟩ := hrel
    by_cases hlt : k < n
    · have hyl : ys.length = n := by have := hr.len; rw [bvals_length] at this; omega
      obtain ⟨y, hy⟩ : ∃ y, ys[k]? = some y := ⟨ys[k]'(by omega), List.getElem?_eq_getElem _⟩
      obtain ⟨g, rfl, c0⟩ := hr.cell (bvals_get ys k y hy)
      obtain ⟨cur, hcur⟩ := hr.blk_of (x := g) (by simp [fpOf])
      have z0 := hcur.frozen k
      have k0 : (0 : Int) ≤ (k : Int) := by omega
      have k1 : (k : Int) < (n : Int) := by omega
      have HY := Lib.hid (And.intro hr hf)
      clear hr hf hcur hyl hy
      go_wp2
      go_roundw
      case rel =>
        obtain ⟨hr, hf⟩ := HY.out
        exact ⟨k + 1, ys.set k v, hlt, by go_num, by rw [← bvals_set]; exact hr.set1 hlt, hf.setCell' (.inl (by simp [fpOf]))⟩
      case measure => simp [intOf]; omega
    · have HY := Lib.hid (And.intro hr hf)
      clear hr hf
      go_wp2
      obtain ⟨wo, rfl⟩ : ∃ wo : World, wo = wr := ⟨_, rfl⟩
      go_loopw [0, 15] (fun s i wr => ∃ (k : Nat) (A' : Option Addr) (cap' : Nat) (ys : List Int), k ≤ 9 ∧ i = .int .i64 k ∧ s = .slice A' (n + k) cap' ∧ Row wr 5 1 A' (n + k) cap' (bvals ys) ∧ Fr (fpOf A) w wr ∧ ∀ x ∈ fpOf A', x ∈ fpOf A ∨ w.heap.size ≤ x) (fun _ i _ => 9 - (intOf i).toNat)
      case atStart => exact ⟨0, A, cap, ys, by omega, rfl, rfl, HY.out.1, HY.out.2, fun x hx => .inl hx⟩
      case round =>
        obtain ⟨k, A', cap', zs, hk, rfl, rfl, hr, hf, hA⟩ := hrel
        by_cases hlt : k < 9
        · have HR2 := Lib.hid hr
          have HF := Lib.hid (And.intro hf hA)
          have k1 : (k : Int) < 9 := by omega
          clear hr hf hA
          go_wp2_with (at_builtin; refine wpList_append2 rfl (.tmp 17) (.tmp 19) 32 rfl 5 i0 _ 1 1 Try.uBytes HI.out.1 HI.out.2.1 HI.out.2.2.1 HI.out.2.2.2 rfl (by decide) A' (n + k) cap' (bvals zs) rfl ?_ (some ⟨wr.heap.size, 0, none⟩) 1 1 [Value.int .u8 v] rfl rfl ?_ H3.out ?_ ?_ ?_; (exact HR2.out.alloc _); (exact fun _ => ⟨_, rfl, fun q u hu => by rw [addr_add, Nat.zero_add]; exact (Blk.new _ _ _).cell' hu⟩); (unfold maxLen; omega); (omega); (intro A9 cap9 w9 hr9 hf9 hfp9 hn9; have HR9 := Lib.hid (And.intro hr9 (And.intro hf9 hfp9)); clear hr9 hf9 hfp9 hn9))
          go_roundw
          case rel =>
            obtain ⟨hr9, hf9, hfp9⟩ := HR9.out
            obtain ⟨hf, hA⟩ := HF.out
            have hsz := hf.size
            refine ⟨k + 1, A9, cap9, zs ++ [v], hlt, by go_num, rfl, ?_, (hf.alloc _).trans' hf9 hA, fun x hx => ?_⟩
            · rw [← bvals_append]; exact hr9
            · rcases hfp9 x hx with h | h
              · exact hA x h
              · simp at h; right; omega
          case measure => simp [intOf]; omega
        · have HF := Lib.hid hf
          clear hr hf hA
          go_wp2
          go_end0
          exact ⟨rfl, HF.out⟩

set_option maxRecDepth 100000 in
set_option maxHeartbeats 2000000 in
/-- Bytes with marked room behind them. -/
theorem lent_any (A : Option Addr) (cap : Nat) (xs : List Int) (w : World) (h : Rds w A (bvals xs)) (hb : xs.length ≤ 140737488351232) :
    Calls Try.prog 45 #[.slice A xs.length cap] w fun r w' => ∃ A' cap', r = .returned (.slice A' xs.length cap') ∧ Row w' 5 1 A' (xs.length + 5) cap' (bvals (xs ++ List.replicate 5 165)) ∧ Fr [] w w' ∧ ∀ x ∈ fpOf A', w.heap.size ≤ x := by
  obtain ⟨i0, hi, hz0, hz1, hz2⟩ := info_parts Try.iByte
  have HI := Lib.hid (And.intro hi (And.intro hz0 (And.intro hz1 hz2)))
  have HR := Lib.hid h
  obtain ⟨n, hn⟩ : ∃ n, xs.length = n := ⟨_, rfl⟩
  rw [hn] at hb ⊢
  have HN := Lib.hid hn
  clear hi hz0 hz1 hz2 h hn
  have h3 : ∀ u ∈ [Value.int .u8 165], u.oneCell' = true := by simp [Value.oneCell']
  have H3 := Lib.hid h3
  clear h3
  go_enter Try.func45, Try.ntmps45
  go_wp2_with (at_builtin; refine wpList_append2 rfl (.const (.slice none 0 0)) (.tmp 4) 32 rfl 5 i0 _ 1 1 Try.uBytes HI.out.1 HI.out.2.1 HI.out.2.2.1 HI.out.2.2.2 rfl (by decide) none 0 0 [] rfl (Row.nil _ _ _) A n cap (bvals xs) rfl ?_ ?_ (bvals_one _) ?_ ?_ ?_; (rw [bvals_length, HN.out, Nat.mul_one]); (exact Rds.src (size := 1) HR.out (by decide) (by rw [bvals_length, HN.out, Nat.mul_one])); (unfold maxLen; omega); (omega); (intro A5 cap5 w5 hr5 hf5 hfp5 hn5; have HR5 := Lib.hid (And.intro hr5 (And.intro hf5 hfp5)); clear hr5 hf5 hfp5 hn5))
  go_loopw [3, 6] (fun s i wr => ∃ (k : Nat) (A' : Option Addr) (cap' : Nat), k ≤ 5 ∧ i = .int .i64 k ∧ s = .slice A' (n + k) cap' ∧ Row wr 5 1 A' (n + k) cap' (bvals (xs ++ List.replicate k 165)) ∧ Fr [] w wr ∧ ∀ x ∈ fpOf A', w.heap.size ≤ x) (fun _ i _ => 5 - (intOf i).toNat)
  case atStart =>
    obtain ⟨hr5, hf5, hfp5⟩ := HR5.out
    refine ⟨0, A5, cap5, by omega, rfl, rfl, ?_, hf5, fun x hx => (hfp5 x hx).elim (fun h => by simp [fpOf] at h) id⟩
    rw [Nat.zero_add, List.nil_append] at hr5
    simpa using hr5
  case round =>
    obtain ⟨k, A', cap', hk, rfl, rfl, hr, hf, hA⟩ := hrel
    by_cases hlt : k < 5
    · have HR2 := Lib.hid hr
      have HF := Lib.hid (And.intro hf hA)
      have k1 : (k : Int) < 5 := by omega
      clear hr hf hA HR5
      go_wp2_with (at_builtin; refine wpList_append2 rfl (.tmp 8) (.tmp 9) 32 rfl 5 i0 _ 1 1 Try.uBytes HI.out.1 HI.out.2.1 HI.out.2.2.1 HI.out.2.2.2 rfl (by decide) A' (n + k) cap' (bvals (xs ++ List.replicate k 165)) rfl ?_ (some ⟨wr.heap.size, 0, none⟩) 1 1 [Value.int .u8 165] rfl rfl ?_ H3.out ?_ ?_ ?_; (exact HR2.out.alloc _); (exact fun _ => ⟨_, rfl, fun q u hu => by rw [addr_add, Nat.zero_add]; exact (Blk.new _ _ _).cell' hu⟩); (unfold maxLen; omega); (omega); (intro A9 cap9 w9 hr9 hf9 hfp9 hn9; have HR9 := Lib.hid (And.intro hr9 (And.intro hf9 hfp9)); clear hr9 hf9 hfp9 hn9))
      go_roundw
      case rel =>
        obtain ⟨hr9, hf9, hfp9⟩ := HR9.out
        obtain ⟨hf, hA⟩ := HF.out
        have hsz := hf.size
        refine ⟨k + 1, A9, cap9, hlt, by go_num, rfl, ?_, (hf.alloc _).trans' hf9 (fun x hx => .inr (hA x hx)), fun x hx => ?_⟩
        · rw [List.replicate_succ', ← List.append_assoc, ← bvals_append]; exact hr9
        · rcases hfp9 x hx with h | h
          · exact hA x h
          · simp at h; omega
      case measure => simp [intOf]; omega
    · have hk5 : k = 5 := by omega
      subst hk5
      have hc := hr.cap_le
      have HF := Lib.hid (And.intro hr (And.intro hf hA))
      have e0 : (0 : Int) ≤ (n : Int) := by omega
      have e1 : (n : Int) ≤ (cap' : Int) := by omega
      obtain ⟨g, rfl⟩ : ∃ g, A' = some ⟨g, 0, none⟩ := by
        rcases hr.cases with ⟨_, h, _⟩ | ⟨g, _, h, _⟩
        · omega
        · exact ⟨g, h⟩
      clear hr hf hA HR5 hlt hk
      go_wp2
      go_ret
      obtain ⟨hr, hf, hA⟩ := HF.out
      exact ⟨_, cap', rfl, hr, hf, hA⟩
end Go.Proofs.Ytaicpgkoailnkaa
