/- Package sheets, walked: what stands alone: bytes cloned and compared; a sheet's place; the greatest stamp. -/
import Derived.Test.YtaicpgkoailnkaaMem
import Derived.Test.YtaicpgkoailnkaaOwn
import Derived.Test.YtaicpgkoailnkaaProg
import Derived.Deep.DeepCutAuto
import Derived.Laws.BytesArg
import Derived.Lib.ConvBytes
namespace Go.Proofs.Ytaicpgkoailnkaa
open Go.RowKit

/-- Bytes as they lie. -/
def bvals (xs : List Int) : List Value := xs.map (Value.int .u8)
theorem bvals_length (xs : List Int) : (bvals xs).length = xs.length := by simp [bvals]
theorem bvals_one (xs : List Int) : ∀ v ∈ bvals xs, v.oneCell' = true := by
  intro v hv
  obtain ⟨n, _, rfl⟩ := List.mem_map.1 hv
  rfl

theorem run_bytes_string (w : World) (A : Option Addr) (xs : List Int) (n cap : Nat) (hn : xs.length = n) (h : Rds w A (bvals xs)) :
    (convert 32 9 (.slice A n cap)).run Try.prog w = .ok (.string (strOfNums xs)) w := by
  by_cases hx : xs = []
  · subst hx
    subst hn
    simp only [List.length_nil]
    rw [run_convert_bytes_string w 32 9 5 A 0 cap Try.underlying32 Try.underlying5 Try.underlying9]
    cases A <;> rfl
  · have hne : bvals xs ≠ [] := by
      intro he; have := bvals_length xs; rw [he] at this; exact hx (List.eq_nil_of_length_eq_zero this.symm)
    obtain ⟨b, o, rfl, hc⟩ := h hne
    refine run_convert_bytes_arg w 32 5 Try.underlying32 Try.underlying5 b o n cap xs hn (fun i hi => ?_) 9 Try.underlying9
    refine hc i _ ?_
    simp [bvals, List.getD, List.getElem?_eq_getElem (show i < xs.length by omega)]

theorem Equal_any (A1 A2 : Option Addr) (n c m d : Nat) (xs ys : List Int) (w : World) (hx : xs.length = n) (hy : ys.length = m) (h1 : Rds w A1 (bvals xs)) (h2 : Rds w A2 (bvals ys)) :
    Calls Try.prog 37 #[.slice A1 n c, .slice A2 m d] w fun r w' => r = .returned (.bool ((strOfNums xs).toList == (strOfNums ys).toList)) ∧ w' = w := by
  have e1 := run_bytes_string w A1 xs n c hx h1
  have e2 := run_bytes_string w A2 ys m d hy h2
  clear h1 h2
  generalize strOfNums xs = s at *
  generalize strOfNums ys = t at *
  go_enter Try.func37, Try.ntmps37
  go_wp2
  go_ret
  exact ⟨rfl, rfl⟩

theorem Try.uBytes : Try.prog.underlying 32 = some (.slice 5) := by kernel_rfl
theorem Try.iByte : (Try.prog.info? 5).map (fun i => (i.zero, i.size, i.bytes)) = some (some (.int .u8 0), 1, 1) := by kernel_rfl

theorem there_any (b n : Nat) (num : Int) (w : World) (c0 : w.cell? ⟨b, 0, none⟩ = some (.int .i64 (n : Nat))) :
    Calls Try.prog 36 #[.pointer (some ⟨b, 0, none⟩), .int .i64 num] w fun r w' => r = .returned (.bool (decide (0 ≤ num ∧ num < n))) ∧ w' = w := by
  by_cases h1 : 0 ≤ num
  · have t1 : decide (0 ≤ num) = true := by simpa using h1
    have e : decide (0 ≤ num ∧ num < n) = decide (num < (n : Int)) := by simp [h1]
    rw [e]
    generalize hr : decide (num < (n : Int)) = r
    go_enter Try.func36, Try.ntmps36
    go_wp2
    go_ret
    exact ⟨rfl, rfl⟩
  · have t1 : decide (0 ≤ num) = false := by simpa using h1
    have e : decide (0 ≤ num ∧ num < n) = false := by simp [h1]
    rw [e]
    go_enter Try.func36, Try.ntmps36
    go_wp2
    go_ret
    exact ⟨rfl, rfl⟩

theorem Last_any (b : Nat) (v : Int) (w : World) (c11 : w.cell? ⟨b, 11, none⟩ = some (.int .i64 v)) :
    Calls Try.prog 22 #[.pointer (some ⟨b, 0, none⟩)] w fun r w' => r = .returned (.int .i64 v) ∧ w' = w := by
  go_enter Try.func22, Try.ntmps22
  go_wp2
  go_ret
  exact ⟨rfl, rfl⟩

theorem sheet_any (b pc num : Nat) (w : World) (hn : num < 64) (c : w.cell? ⟨b, 2 + num / 8, none⟩ = some (.pointer (some ⟨pc, 0, none⟩))) :
    Calls Try.prog 33 #[.pointer (some ⟨b, 0, none⟩), .int .i64 num] w fun r w' => r = .returned (.pointer (some ⟨pc, num % 8 * 2, none⟩)) ∧ w' = w := by
  have e1 : Int.tdiv (num : Int) 8 = ((num / 8 : Nat) : Int) := by rw [Int.tdiv_eq_ediv_of_nonneg (by omega)]; omega
  have e2 : Int.tmod (num : Int) 8 = ((num % 8 : Nat) : Int) := by rw [Int.tmod_eq_emod_of_nonneg (by omega)]; omega
  have k0 : (0 : Int) ≤ ((num / 8 : Nat) : Int) := by omega
  have k1 : ((num / 8 : Nat) : Int) < 8 := by omega
  have k2 : (0 : Int) ≤ ((num % 8 : Nat) : Int) := by omega
  have k3 : ((num % 8 : Nat) : Int) < 8 := by omega
  generalize num / 8 = q at *
  generalize num % 8 = m at *
  go_enter Try.func33, Try.ntmps33
  go_wp2
  go_ret
  exact ⟨rfl, rfl⟩

theorem bytes_not_nil (a : Addr) (n cap : Nat) (W : World) : (binOp .eql 32 (.slice (some a) n cap) (.slice none 0 0)).run Try.prog W = .ok (.bool false) W := by kernel_rfl

theorem bytes_nil (n cap : Nat) (W : World) : (binOp .eql 32 (.slice none n cap) (.slice none 0 0)).run Try.prog W = .ok (.bool true) W := by kernel_rfl

theorem toList_eq (s : ByteArray) : s.toList = s.data.toList := by
  obtain ⟨⟨l⟩⟩ := s
  simp
/-- Each is a byte. -/
def Bytes (xs : List Int) : Prop := ∀ x ∈ xs, 0 ≤ x ∧ x ≤ 255
theorem str_same : ∀ {xs ys : List Int}, Bytes xs → Bytes ys → ((strOfNums xs).toList == (strOfNums ys).toList) = decide (xs = ys) := by
  intro xs ys hx hy
  rw [toList_eq, toList_eq, strOfNums_data, strOfNums_data]
  have inj : ∀ (l m : List Int), Bytes l → Bytes m → (l.map fun n => UInt8.ofNat n.toNat) = (m.map fun n => UInt8.ofNat n.toNat) → l = m := by
    intro l
    induction l with
    | nil => intro m _ _ h; cases m with
      | nil => rfl
      | cons y m => simp at h
    | cons x l ih => intro m hl hm h; cases m with
      | nil => simp at h
      | cons y m =>
        simp only [List.map_cons, List.cons.injEq] at h
        have h1 := hl x (by simp)
        have h2 := hm y (by simp)
        have h3 := congrArg UInt8.toNat h.1
        simp only [UInt8.toNat_ofNat'] at h3
        have : x = y := by omega
        subst this
        rw [ih m (fun z hz => hl z (by simp [hz])) (fun z hz => hm z (by simp [hz])) h.2]
  by_cases h : xs = ys
  · subst h; simp
  · have : (xs.map fun n => UInt8.ofNat n.toNat) ≠ (ys.map fun n => UInt8.ofNat n.toNat) := fun e => h (inj _ _ hx hy e)
    rw [decide_eq_false h]
    simpa using this

set_option maxRecDepth 100000 in
theorem Clone_any (A : Option Addr) (n cap : Nat) (xs : List Int) (w : World) (hn : xs.length = n) (h : Rds w A (bvals xs)) (hb : n ≤ 140737488351232) :
    Calls Try.prog 34 #[.slice A n cap] w fun r w' => ∃ A' cap', r = .returned (.slice A' n cap') ∧ Row w' 5 1 A' n cap' (bvals xs) ∧ Fr [] w w' ∧ ∀ x ∈ fpOf A', w.heap.size ≤ x := by
  have HB := Lib.hid hb
  clear hb
  cases A with
  | none =>
    have hx : xs = [] := by
      cases xs with
      | nil => rfl
      | cons a r => obtain ⟨b, o, h1, _⟩ := h (by simp [bvals]); cases h1
    subst hx
    subst hn
    have hnn := bytes_nil 0 cap
    simp only [List.length_nil]
    go_enter Try.func34, Try.ntmps34
    go_wp2
    go_ret
    exact ⟨none, 0, rfl, Row.nil _ _ _, Fr.refl _ _, by simp [fpOf]⟩
  | some a =>
    obtain ⟨i0, hi, hz0, hz1, hz2⟩ := info_parts Try.iByte
    have HI := Lib.hid (And.intro hi (And.intro hz0 (And.intro hz1 hz2)))
    have HR := Lib.hid h
    have hnn := bytes_not_nil a n cap
    clear hi hz0 hz1 hz2 h
    go_enter Try.func34, Try.ntmps34
    go_wp2_with ((at_builtin; refine wpList_append2 rfl (.tmp 5) (.tmp 6) 32 rfl 5 i0 _ 1 1 Try.uBytes HI.out.1 HI.out.2.1 HI.out.2.2.1 HI.out.2.2.2 rfl (by decide) (some ⟨w.heap.size, 0, none⟩) 0 0 [] rfl ?_ (some a) n cap (bvals xs) rfl ?_ ?_ (bvals_one _) ?_ ?_ ?_; (exact Row.of_blk (Blk.new w 5 []) (Nat.le_refl _) (by decide) rfl rfl); (rw [bvals_length, hn, Nat.mul_one]); (exact Rds.src (size := 1) (HR.out.fr (S := []) ((Fr.refl _ _).alloc _) (by simp)) (by decide) (by rw [bvals_length, hn, Nat.mul_one])); (have := HB.out; unfold maxLen; omega); (have := HB.out; omega); (intro A' cap' w5 hr5 hf5 hfp5 hn5; have HR5 := Lib.hid hr5; clear hr5)))
    go_ret
    refine ⟨A', cap', ?_, ?_, ?_, ?_⟩
    · rfl
    · have h7 := HR5.out
      rw [Nat.zero_add, List.nil_append] at h7
      exact h7
    · exact ((Fr.refl [] w).alloc (.cells #[] 5)).trans' hf5 (fun b hb => by simp [fpOf] at hb; right; omega)
    · intro x hx
      rcases hfp5 x hx with h | h
      · simp [fpOf] at h; omega
      · simp at h; omega
end Go.Proofs.Ytaicpgkoailnkaa
