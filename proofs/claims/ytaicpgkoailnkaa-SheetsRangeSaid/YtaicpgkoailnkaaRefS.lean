/- The document's book of sheets, walked: New, copied, Last, Put. -/
import Derived.Test.YtaicpgkoailnkaaSheetU
import Derived.Outline
namespace Go.Proofs.Ytaicpgkoailnkaa
open Go.RowKit

/-- The document's book: block r, its list of sheets. -/
structure RBo where
  r : Nat
  A : Option Addr
  cap : Nat
  ls : List Sh
structure RBo.At (R : RBo) (w : World) : Prop where
  blk : Blk w R.r 91 [.slice R.A R.ls.length R.cap]
  row : Row w 46 3 R.A R.ls.length R.cap (flatS R.ls)
  data : ∀ s ∈ R.ls, Row w 5 1 s.A s.xs.length s.cap (bvals s.xs)
def RBo.fp (R : RBo) : List Nat := R.r :: fpOf R.A
def RBo.rd (R : RBo) : List Nat := R.fp ++ R.ls.flatMap fun s => fpOf s.A
theorem RBo.fp_rd {R : RBo} {x : Nat} (h : x ∈ R.fp) : x ∈ R.rd := List.mem_append_left _ h
theorem RBo.At.fr {R : RBo} {w w' : World} (h : R.At w) {S : List Nat} (hf : Fr S w w') (hs : ∀ x ∈ R.rd, x ∉ S) : R.At w' :=
  ⟨h.blk.fr hf (hs _ (RBo.fp_rd List.mem_cons_self)), h.row.fr hf (fun b hb => hs b (RBo.fp_rd (List.mem_cons_of_mem _ hb))),
    fun s hsl => (h.data s hsl).fr hf (fun b hb => hs b (List.mem_append_right _ (List.mem_flatMap.2 ⟨s, hsl, hb⟩)))⟩
theorem RBo.At.fr0 {R : RBo} {w w' : World} (h : R.At w) (hf : Fr [] w w') : R.At w' := h.fr hf (by simp)
theorem RBo.At.nc {R : RBo} {w w' : World} {n₀ : Nat} (h : R.At w) (hn : NC n₀ w w') : R.At w' := ⟨h.blk.nc hn, h.row.nc hn, fun s hs => (h.data s hs).nc hn⟩
theorem RBo.At.rd_lt {R : RBo} {w : World} (h : R.At w) : ∀ x ∈ R.rd, x < w.heap.size := fun x hx => by
  rcases List.mem_append.1 hx with hx | hx
  · rcases List.mem_cons.1 hx with rfl | hx
    · exact h.blk.lt
    · exact h.row.lt x hx
  · obtain ⟨s, hs, hx⟩ := List.mem_flatMap.1 hx
    exact (h.data s hs).lt x hx
theorem RBo.At.r_ne {R : RBo} {w : World} (h : R.At w) : R.r ∉ fpOf R.A := fun hm => h.row.ne_blk h.blk (by decide) _ hm rfl
theorem RBo.At.cell0 {R : RBo} {w : World} (h : R.At w) : w.cell? ⟨R.r, 0, none⟩ = some (.slice R.A R.ls.length R.cap) := h.blk.cell 0

/-- The document's book turned. -/
structure RTurn (w w' : World) (R R' : RBo) : Prop where
  at_ : R'.At w'
  fr : Fr R.fp w w'
  fp : ∀ x ∈ R'.fp, x ∈ R.fp ∨ w.heap.size ≤ x
  rd : ∀ x ∈ R'.rd, x ∈ R.rd ∨ w.heap.size ≤ x
  r : R'.r = R.r
theorem RTurn.of_fr {w w' : World} {R : RBo} (h : R.At w) (hf : Fr [] w w') : RTurn w w' R R := ⟨h.fr0 hf, hf.mono (by simp), fun _ h => .inl h, fun _ h => .inl h, rfl⟩
theorem RTurn.trans {w w1 w' : World} {R R1 R' : RBo} (h : RTurn w w1 R R1) (k : RTurn w1 w' R1 R') : RTurn w w' R R' :=
  ⟨k.at_, h.fr.trans' k.fr h.fp, fun x hx => (k.fp x hx).elim (h.fp x) (fun hl => .inr (by have := h.fr.size; omega)), fun x hx => (k.rd x hx).elim (h.rd x) (fun hl => .inr (by have := h.fr.size; omega)), k.r.trans h.r⟩

/-- One sheet's cells. -/
theorem RBo.At.sheet {R : RBo} {w : World} (h : R.At w) {i : Nat} {s : Sh} (hs : R.ls[i]? = some s) : ∃ g, R.A = some ⟨g, 0, none⟩ ∧ g < w.heap.size ∧ w.cell? ⟨g, i * 3, none⟩ = some (.int .i64 s.num) ∧ w.cell? ⟨g, i * 3 + 1, none⟩ = some (.int .i64 s.at_) ∧ w.cell? ⟨g, i * 3 + 2, none⟩ = some (.slice s.A s.xs.length s.cap) := by
  have g0 : (flatS R.ls)[i * 3 + 0]? = some (.int .i64 s.num) := by rw [flatS_get R.ls i 0 s hs (by omega)]; rfl
  have g1 : (flatS R.ls)[i * 3 + 1]? = some (.int .i64 s.at_) := by rw [flatS_get R.ls i 1 s hs (by omega)]; rfl
  have g2 : (flatS R.ls)[i * 3 + 2]? = some (.slice s.A s.xs.length s.cap) := by rw [flatS_get R.ls i 2 s hs (by omega)]; rfl
  obtain ⟨g, hA, h0⟩ := h.row.cell g0
  obtain ⟨g', hA', h1⟩ := h.row.cell g1
  obtain ⟨g'', hA'', h2⟩ := h.row.cell g2
  rw [hA] at hA' hA''
  simp at hA' hA''
  subst hA' hA''
  exact ⟨g, hA, World.block_lt_of_cell? w _ h0, h0, h1, h2⟩

theorem rNew_bad (n : Int) (w : World) (h : n < 1 ∨ 64 < n) :
    Calls Try.prog 13 #[.int .i64 n] w fun r w' => r = .returned (.tuple #[.pointer none, .int .i64 60]) ∧ Fr [] w w' := by
  by_cases h1 : n < 1
  · go_enter Try.func13, Try.ntmps13
    go_wp2
    go_ret2
    exact ⟨rfl, Fr.refl _ _⟩
  · have h2 : 64 < n := by omega
    clear h
    go_enter Try.func13, Try.ntmps13
    go_wp2
    go_ret2
    exact ⟨rfl, Fr.refl _ _⟩

/-- The first k sheets, never written. -/
def fresh (k : Nat) : List Sh := (List.range k).map fun (j : Nat) => ⟨(j : Int), 0, none, 0, []⟩
theorem fresh_succ (k : Nat) : fresh (k + 1) = fresh k ++ [⟨(k : Int), 0, none, 0, []⟩] := by simp [fresh, List.range_succ]
theorem fresh_len (k : Nat) : (fresh k).length = k := by simp [fresh]
theorem fresh_of (k : Nat) : OfC (List.range k) (fun _ => (0, [])) (fresh k) := by simp [OfC, fresh]

theorem sheet_zero (W : World) : (zeroValue 46).run Try.prog W = .ok (.agg #[.int .i64 0, .int .i64 0, .slice none 0 0]) W := by kernel_rfl

set_option maxRecDepth 100000 in
set_option maxHeartbeats 2000000 in
theorem rNew_good (n : Nat) (w : World) (h0 : 1 ≤ n) (h : n ≤ 64) :
    Calls Try.prog 13 #[.int .i64 (n : Nat)] w fun r w' => r = .returned (.tuple #[.pointer (some ⟨w.heap.size, 0, none⟩), .int .i64 0]) ∧ ∃ R : RBo, R.At w' ∧ Fr [] w w' ∧ R.r = w.heap.size ∧ OfC (List.range n) (fun _ => (0, [])) R.ls ∧ ∀ x ∈ R.rd, w.heap.size ≤ x := by
  have t1 : decide ((n : Int) < 1) = false := by simp; omega
  have t2 : decide ((64 : Int) < (n : Int)) = false := by simp; omega
  have t3 : decide (64 < n) = false := by simp; omega
  have t4 : decide (n < 1) = false := by simp; omega
  obtain ⟨i0, hi, hz0, hz1, hz2⟩ := info_parts Try.iSheet
  have HI := Lib.hid (And.intro hi (And.intro hz0 (And.intro hz1 hz2)))
  clear hi hz0 hz1 hz2
  go_enter Try.func13, Try.ntmps13
  go_wp2
  go_loopw [5] (fun i wr => ∃ (k : Nat) (A : Option Addr) (cap : Nat), k ≤ n ∧ i = .int .i64 k ∧ Blk wr w.heap.size 91 [.slice A k cap] ∧ Row wr 46 3 A k cap (flatS (fresh k)) ∧ Fr [] w wr ∧ ∀ x ∈ fpOf A, w.heap.size < x) (fun i _ => n - (intOf i).toNat)
  case atStart => exact ⟨0, none, 0, Nat.zero_le _, rfl, Blk.new _ _ _, Row.nil _ _ _, (Fr.refl _ _).alloc _, by simp [fpOf]⟩
  case round =>
    obtain ⟨k, A, cap, hk, rfl, hb, hr, hf, hA⟩ := hrel
    by_cases hlt : k < n
    · have k1 : (k : Int) < (n : Int) := by omega
      have c0 := hb.cell 0
      simp only [List.getElem?_cons_zero] at c0
      have hbA : w.heap.size ∉ fpOf A := fun hm => hr.ne_blk hb (by decide) _ hm rfl
      have hba := fun o => Blk.alloc hb o
      have HR := Lib.hid hr
      have HB := Lib.hid (And.intro hbA hba)
      have HF := Lib.hid (And.intro hf hA)
      have hsz := hf.size
      have hbl := hb.lt
      clear hr hbA hba hb hf hA
      have h3 : ∀ u ∈ [Value.int .i64 (k : Nat), .int .i64 0, .slice none 0 0], u.oneCell' = true := by simp [Value.oneCell']
      have H3 := Lib.hid h3
      clear h3
      go_wp2_with (at_builtin; refine wpList_append2 rfl (.tmp 23) (.tmp 26) 33 rfl 46 i0 _ 3 40 Try.uSheets HI.out.1 HI.out.2.1 HI.out.2.2.1 HI.out.2.2.2 rfl (by decide) A k cap (flatS (fresh k)) rfl ?_ (some ⟨wr.heap.size, 0, none⟩) 1 1 [Value.int .i64 (k : Nat), .int .i64 0, .slice none 0 0] rfl rfl ?_ H3.out ?_ ?_ ?_; (exact HR.out.alloc _); (exact fun _ => ⟨_, rfl, fun q u hu => by rw [addr_add, Nat.zero_add]; exact (Blk.new _ _ _).cell' hu⟩); (unfold maxLen; omega); (omega); (intro A9 cap9 w9 hr9 hf9 hfp9 hn9; have d7 := (HB.out.2 _).fr hf9 HB.out.1; have dd7 := d7.cell 0; have dz7 := d7.frozen 0; simp only [List.getElem?_cons_zero] at dd7; have HR9 := Lib.hid (And.intro hr9 (And.intro hf9 (And.intro hfp9 d7))); clear hr9 hf9 hfp9 hn9 d7))
      go_roundw
      case rel =>
        obtain ⟨hr9, hf9, hfp9, d7⟩ := HR9.out
        obtain ⟨hf, hA⟩ := HF.out
        have hx : ∀ x ∈ fpOf A9, w.heap.size < x := fun x hx => by
          rcases hfp9 x hx with h | h
          · exact hA x h
          · simp at h; omega
        refine ⟨k + 1, A9, cap9, hlt, by go_num, d7.set' rfl, ?_, ?_, hx⟩
        · rw [fresh_succ, flatS_append]
          exact hr9.far (fun hm => by have := hx _ hm; omega)
        · refine ((hf.alloc _).trans' hf9 (fun x hx => ?_)).setCell' (.inr (Nat.le_refl _))
          right; have := hA x hx; omega
      case measure => simp [intOf]; omega
    · have hkn : k = n := by omega
      subst hkn
      have HF := Lib.hid (And.intro hb (And.intro hr (And.intro hf hA)))
      clear hb hr hf hA
      go_wp2
      go_ret2
      obtain ⟨hb, hr, hf, hA⟩ := HF.out
      refine ⟨rfl, ⟨w.heap.size, A, cap, fresh k⟩, ⟨by rw [fresh_len]; exact hb, by rw [fresh_len]; exact hr, fun s hs => ?_⟩, hf, rfl, fresh_of k, fun x hx => ?_⟩
      · obtain ⟨j, _, rfl⟩ := List.mem_map.1 hs
        exact Row.nil _ _ _
      · rcases List.mem_append.1 hx with hx | hx
        · rcases List.mem_cons.1 hx with rfl | hx
          · exact Nat.le_refl _
          · exact Nat.le_of_lt (hA x hx)
        · obtain ⟨s, hs, hx⟩ := List.mem_flatMap.1 hx
          obtain ⟨j, _, rfl⟩ := List.mem_map.1 hs
          simp [fpOf] at hx

set_option maxRecDepth 100000 in
theorem rcopied_any (A : Option Addr) (n cap : Nat) (xs : List Int) (w : World) (hn : xs.length = n) (h : Rds w A (bvals xs)) (hb : n ≤ 140737488351232) :
    Calls Try.prog 40 #[.slice A n cap] w fun r w' => ∃ A' cap', r = .returned (.slice A' n cap') ∧ Row w' 5 1 A' n cap' (bvals xs) ∧ Fr [] w w' ∧ ∀ x ∈ fpOf A', w.heap.size ≤ x := by
  obtain ⟨i0, hi, hz0, hz1, hz2⟩ := info_parts Try.iByte
  have HI := Lib.hid (And.intro hi (And.intro hz0 (And.intro hz1 hz2)))
  have HR := Lib.hid h
  clear hi hz0 hz1 hz2 h
  go_enter Try.func40, Try.ntmps40
  go_wp2_with (at_builtin; refine wpList_append2 rfl (.tmp 4) (.tmp 5) 32 rfl 5 i0 _ 1 1 Try.uBytes HI.out.1 HI.out.2.1 HI.out.2.2.1 HI.out.2.2.2 rfl (by decide) none 0 0 [] rfl (Row.nil _ _ _) A n cap (bvals xs) rfl ?_ ?_ (bvals_one _) ?_ ?_ ?_; (rw [bvals_length, hn, Nat.mul_one]); (exact Rds.src (size := 1) HR.out (by decide) (by rw [bvals_length, hn, Nat.mul_one])); (unfold maxLen; omega); (omega); (intro A' cap' w5 hr5 hf5 hfp5 hn5; have HR5 := Lib.hid (And.intro hr5 (And.intro hf5 hfp5)); clear hr5 hf5 hfp5 hn5))
  go_ret
  obtain ⟨hr5, hf5, hfp5⟩ := HR5.out
  refine ⟨A', cap', rfl, ?_, hf5, fun x hx => (hfp5 x hx).elim (fun h => by simp [fpOf] at h) id⟩
  rw [Nat.zero_add, List.nil_append] at hr5
  exact hr5

/-- The greatest stamp so far. -/
def lastS (l : List Sh) : Int := l.foldl (fun m s => if m < s.at_ then s.at_ else m) 0
theorem lastS_snoc (l : List Sh) (s : Sh) : lastS (l ++ [s]) = if lastS l < s.at_ then s.at_ else lastS l := by
  unfold lastS
  rw [List.foldl_append]
  rfl
theorem lastS_of {c : Nat → Int × List Int} : ∀ {n : Nat} {l : List Sh}, OfC (List.range n) c l → lastS l = lastC c n := by
  intro n
  induction n with
  | zero => intro l h; rw [OfC.nil h]; rfl
  | succ n ih =>
    intro l h
    have hl := h.len
    simp only [List.length_range] at hl
    obtain ⟨l', s, rfl⟩ : ∃ l' s, l = l' ++ [s] := by
      rcases List.eq_nil_or_concat l with rfl | ⟨l', s, e⟩
      · simp at hl
      · exact ⟨l', s, by simpa using e⟩
    have h1 := h
    unfold OfC at h1
    rw [List.range_succ, List.map_append, List.map_append] at h1
    have hlen : (l'.map fun s => (s.num, s.at_, s.xs)).length = ((List.range n).map fun (j : Nat) => ((j : Int), (c j).1, (c j).2)).length := by
      simp at hl ⊢; exact hl
    obtain ⟨h2, h3⟩ := List.append_inj h1 hlen
    simp at h3
    rw [lastS_snoc, ih h2, lastC, h3.2.1]
    split <;> omega

set_option maxRecDepth 100000 in
set_option maxHeartbeats 2000000 in
theorem rLast_any (R : RBo) (w : World) (h : R.At w) (hl : R.ls.length ≤ 64) :
    Calls Try.prog 39 #[.pointer (some ⟨R.r, 0, none⟩)] w fun r w' => r = .returned (.int .i64 (lastS R.ls)) ∧ Fr [] w w' := by
  have c0 := h.cell0
  have HH := Lib.hid h
  clear h
  go_enter Try.func39, Try.ntmps39
  go_wp2
  go_loopw [3, 11] (fun m i wr => ∃ k : Nat, k ≤ R.ls.length ∧ i = .int .i64 k ∧ m = .int .i64 (lastS (R.ls.take k)) ∧ Fr [] w wr) (fun _ i _ => R.ls.length - (intOf i).toNat)
  case atStart => exact ⟨0, Nat.zero_le _, rfl, rfl, Fr.refl _ _⟩
  case round =>
    obtain ⟨k, hk, rfl, rfl, hf⟩ := hrel
    by_cases hlt : k < R.ls.length
    · obtain ⟨s, hs⟩ : ∃ s, R.ls[k]? = some s := ⟨R.ls[k], List.getElem?_eq_getElem hlt⟩
      obtain ⟨g, hA, hg, g0, g1, g2⟩ := (HH.out.fr0 hf).sheet hs
      have htk : lastS (R.ls.take (k + 1)) = if lastS (R.ls.take k) < s.at_ then s.at_ else lastS (R.ls.take k) := by
        rw [List.take_succ_eq_append_getElem hlt, lastS_snoc]
        have := List.getElem?_eq_getElem hlt
        rw [hs] at this
        rw [← Option.some.inj this]
      have k0 : (0 : Int) ≤ (k : Int) := by omega
      have k1 : (k : Int) < (R.ls.length : Int) := by omega
      obtain ⟨m, hm⟩ : ∃ m, lastS (R.ls.take k) = m := ⟨_, rfl⟩
      rw [hm] at htk ⊢
      have HT := Lib.hid htk
      have HF := Lib.hid hf
      rw [hA]
      clear htk hm hs hf
      by_cases hlt2 : m < s.at_
      · have t1 : decide (m < s.at_) = true := decide_eq_true hlt2
        go_wp2
        go_roundw
        case rel => exact ⟨k + 1, hlt, by go_num, by rw [HT.out, if_pos hlt2], HF.out.alloc _⟩
        case measure => simp [intOf]; omega
      · have t1 : decide (m < s.at_) = false := decide_eq_false hlt2
        go_wp2
        go_roundw
        case rel => exact ⟨k + 1, hlt, by go_num, by rw [HT.out, if_neg hlt2], HF.out.alloc _⟩
        case measure => simp [intOf]; omega
    · have hkl : k = R.ls.length := by omega
      subst hkl
      rw [List.take_length]
      go_wp2
      go_ret
      exact ⟨rfl, hf⟩

/-- A sheet of the document's list, laid down. -/
def putS (l : List Sh) (num : Nat) (s : Sh) : List Sh := l.set num s
theorem putS_of {n num : Nat} {c : Nat → Int × List Int} {l : List Sh} {a : Int} {xs : List Int} {A : Option Addr} {cap : Nat} (h : OfC (List.range n) c l) : OfC (List.range n) (putC c num a xs) (l.set num ⟨(num : Int), a, A, cap, xs⟩) := by
  unfold OfC at h ⊢
  apply List.ext_getElem?
  intro i
  have hi := congrArg (fun z => z[i]?) h
  simp only [List.getElem?_map] at hi ⊢
  rw [List.getElem?_set]
  by_cases e : num = i
  · subst e
    rw [if_pos rfl]
    have hl := OfC.len h
    simp only [List.length_range] at hl
    by_cases hn : num < l.length
    · rw [if_pos hn, List.getElem?_range (by omega)]; simp [putC]
    · rw [if_neg hn, List.getElem?_eq_none (by simp; omega)]; rfl
  · rw [if_neg e, hi]
    by_cases hn : i < n
    · rw [List.getElem?_range hn]
      have e2 : ¬ i = num := fun h => e h.symm
      simp [putC, e2]
    · rw [List.getElem?_eq_none (by simpa using hn)]; rfl
theorem OfC.get {n : Nat} {c : Nat → Int × List Int} {l : List Sh} (h : OfC (List.range n) c l) {j : Nat} (hj : j < n) : ∃ s, l[j]? = some s ∧ s.num = (j : Int) ∧ s.at_ = (c j).1 ∧ s.xs = (c j).2 := by
  have hl := h.len
  simp only [List.length_range] at hl
  have hjl : j < l.length := by omega
  refine ⟨l[j], List.getElem?_eq_getElem hjl, ?_⟩
  have hi := congrArg (fun z => z[j]?) h
  simp only [List.getElem?_map, List.getElem?_eq_getElem hjl, List.getElem?_range hj, Option.map_some, Option.some.injEq, Prod.mk.injEq] at hi
  exact hi

theorem flatS_set (l : List Sh) (i : Nat) (s : Sh) (hi : i < l.length) : (((flatS l).set (i * 3) (.int .i64 s.num)).set (i * 3 + 1) (.int .i64 s.at_)).set (i * 3 + 2) (.slice s.A s.xs.length s.cap) = flatS (l.set i s) := by
  induction l generalizing i with
  | nil => simp at hi
  | cons x l ih =>
    cases i with
    | zero => simp [flatS, Sh.cells]
    | succ i =>
      have h2 := ih i (by simpa using hi)
      rw [flatS_cons, List.set_cons_succ, flatS_cons, ← h2]
      have e : ∀ (k : Nat) (xs : List Value) (v : Value), (x.cells ++ xs).set ((i + 1) * 3 + k) v = x.cells ++ xs.set (i * 3 + k) v := by
        intro k xs v
        rw [List.set_append_right _ _ (by simp [Sh.cells]; omega)]
        congr 2
        simp [Sh.cells]; omega
      rw [show (i + 1) * 3 = (i + 1) * 3 + 0 from rfl, e 0, e 1, e 2]
      rfl

/-- The document's row of sheets, one laid down. -/
theorem Row.sheetSet {w : World} {g n cap i : Nat} {l : List Sh} (h : Row w 46 3 (some ⟨g, 0, none⟩) n cap (flatS l)) (hn : l.length = n) (hi : i < n) (s : Sh) :
    Row (((w.setCell ⟨g, i * 3, none⟩ (.int .i64 s.num)).setCell ⟨g, i * 3 + 1, none⟩ (.int .i64 s.at_)).setCell ⟨g, i * 3 + 2, none⟩ (.slice s.A s.xs.length s.cap)) 46 3 (some ⟨g, 0, none⟩) n cap (flatS (l.set i s)) := by
  rcases h.cases with ⟨e, _⟩ | ⟨g', cur, e, hg, h1, h2, h3, h4⟩
  · cases e
  · simp at e
    subst e
    refine Row.of_blk (((hg.set_ _ _).set_ _ _).set_ _ _) h1 h2 (by simpa using h3) ?_
    rw [← flatS_set l i s (by omega), ← h4]
    rw [List.take_set, List.take_set, List.take_set]

theorem rPut_of {R : RBo} {w w5 w' : World} {num : Nat} {a : Int} {xs : List Int} {A5 : Option Addr} {cap5 g : Nat} (h : R.At w) (hn : num < R.ls.length) (hA : R.A = some ⟨g, 0, none⟩) (hf : Fr [] w w5) (hrow : Row w5 5 1 A5 xs.length cap5 (bvals xs)) (hnew : ∀ x ∈ fpOf A5, w.heap.size ≤ x)
    (hw : w' = ((w5.setCell ⟨g, num * 3, none⟩ (.int .i64 (num : Int))).setCell ⟨g, num * 3 + 1, none⟩ (.int .i64 a)).setCell ⟨g, num * 3 + 2, none⟩ (.slice A5 xs.length cap5)) :
    RTurn w w' R { R with ls := R.ls.set num ⟨(num : Int), a, A5, cap5, xs⟩ } := by
  subst hw
  have h5 := h.fr0 hf
  have hr5 := h5.row
  rw [hA] at hr5
  have hgr : g ≠ R.r := fun e => h.r_ne (by rw [hA, e]; simp [fpOf])
  have hdg : ∀ s ∈ R.ls, g ∉ fpOf s.A := fun s hs hm => (h.data s hs).ne_row h.row (by decide) g hm (by rw [hA]; simp [fpOf])
  have hg5 : g ∉ fpOf A5 := fun hm => by
    have h1 := hnew g hm
    have h2 := h.row.lt g (by rw [hA]; simp [fpOf])
    omega
  refine ⟨⟨?_, ?_, ?_⟩, ?_, fun x hx => .inl hx, fun x hx => ?_, rfl⟩
  · have := ((h5.blk.far' (o := num * 3) (u := .int .i64 (num : Int)) hgr.symm).far' (o := num * 3 + 1) (u := .int .i64 a) hgr.symm).far' (o := num * 3 + 2) (u := .slice A5 xs.length cap5) hgr.symm
    simpa using this
  · show Row _ _ _ R.A _ _ _
    rw [hA, List.length_set]
    exact hr5.sheetSet rfl hn ⟨(num : Int), a, A5, cap5, xs⟩
  · intro s hs
    rcases List.mem_or_eq_of_mem_set hs with hs | rfl
    · exact (((h5.data s hs).far (hdg s hs)).far (hdg s hs)).far (hdg s hs)
    · exact ((hrow.far hg5).far hg5).far hg5
  · have hgm : g ∈ R.fp := List.mem_cons_of_mem _ (by rw [hA]; simp [fpOf])
    exact (((hf.mono (S' := R.fp) (by simp)).setCell' (.inl hgm)).setCell' (.inl hgm)).setCell' (.inl hgm)
  · rcases List.mem_append.1 hx with hx | hx
    · exact .inl (List.mem_append_left _ hx)
    · obtain ⟨s, hs, hx⟩ := List.mem_flatMap.1 hx
      rcases List.mem_or_eq_of_mem_set hs with hs | rfl
      · exact .inl (List.mem_append_right _ (List.mem_flatMap.2 ⟨s, hs, hx⟩))
      · exact .inr (hnew x hx)
end Go.Proofs.Ytaicpgkoailnkaa
