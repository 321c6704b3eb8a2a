/- Scripts over books as they come in. The law SheetsLooks, walked. -/
import Derived.Test.YtaicpgkoailnkaaSheetK
import Derived.Outline
import Derived.Lib.SlBytesConst
namespace Go.Proofs.Ytaicpgkoailnkaa
open Go.RowKit Go.Shelf

/-- One act of a script. -/
structure Deed where
  kd : Int
  bk : Int
  num : Int
  at_ : Int
  A : Option Addr
  cap : Nat
  xs : List Int
  LA : Option Addr
  lcap : Nat
  ls : List Sh
def Deed.cells (d : Deed) : List Value := [.int .i64 d.kd, .int .i64 d.bk, .int .i64 d.num, .int .i64 d.at_, .slice d.A d.xs.length d.cap, .slice d.LA d.ls.length d.lcap]
def flatD (l : List Deed) : List Value := l.flatMap Deed.cells
theorem flatD_cons (e : Deed) (l : List Deed) : flatD (e :: l) = e.cells ++ flatD l := by simp [flatD]
theorem flatD_length (l : List Deed) : (flatD l).length = l.length * 6 := by
  induction l with
  | nil => rfl
  | cons e l ih => rw [flatD_cons, List.length_append, ih, List.length_cons]; simp [Deed.cells]; omega
theorem flatD_get (l : List Deed) (i j : Nat) (e : Deed) (h : l[i]? = some e) (hj : j < 6) : (flatD l)[i * 6 + j]? = e.cells[j]? := by
  induction l generalizing i with
  | nil => simp at h
  | cons x l ih =>
    rw [flatD_cons]
    cases i with
    | zero =>
      simp at h; subst h
      rw [List.getElem?_append_left (by simp [Deed.cells]; omega)]; simp
    | succ i =>
      rw [List.getElem?_append_right (by simp [Deed.cells]; omega)]
      have e1 : (i + 1) * 6 + j - x.cells.length = i * 6 + j := by simp [Deed.cells]; omega
      rw [e1]
      exact ih i (by simpa using h)

/-- A number that an int holds. -/
def I64 (x : Int) : Prop := -9223372036854775808 ≤ x ∧ x ≤ 9223372036854775807
/-- Sheets that lie somewhere. -/
structure Lent (w : World) (A : Option Addr) (l : List Sh) : Prop where
  rds : Rds w A (flatS l)
  data : ∀ s ∈ l, Rds w s.A (bvals s.xs) ∧ Bytes s.xs ∧ s.xs.length ≤ 140737488351232
  ints : ∀ s ∈ l, I64 s.num ∧ I64 s.at_
  long : l.length * 40 ≤ 140737488351232
/-- A script whose bytes and lists lie somewhere. -/
structure Deeds (w : World) (A : Option Addr) (l : List Deed) : Prop where
  rds : Rds w A (flatD l)
  data : ∀ d ∈ l, Rds w d.A (bvals d.xs) ∧ Bytes d.xs ∧ d.xs.length ≤ 140737488351232
  lists : ∀ d ∈ l, Lent w d.LA d.ls
  ints : ∀ d ∈ l, I64 d.kd ∧ I64 d.bk ∧ I64 d.num ∧ I64 d.at_
  long : l.length * 80 ≤ 140737488351232

section
variable {w w' : World} {A : Option Addr} {l : List Sh} {ds : List Deed}
theorem Lent.fr (h : Lent w A l) (hf : Fr [] w w') : Lent w' A l := ⟨h.rds.fr hf (by simp), fun s hs => ⟨(h.data s hs).1.fr hf (by simp), (h.data s hs).2⟩, h.ints, h.long⟩
theorem Deeds.fr (h : Deeds w A ds) (hf : Fr [] w w') : Deeds w' A ds := ⟨h.rds.fr hf (by simp), fun d hd => ⟨(h.data d hd).1.fr hf (by simp), (h.data d hd).2⟩, fun d hd => (h.lists d hd).fr hf, h.ints, h.long⟩
/-- One act's cells. -/
theorem Deeds.cells (h : Deeds w A ds) {i : Nat} {d : Deed} (hd : ds[i]? = some d) : ∃ b o, A = some ⟨b, o, none⟩ ∧ b < w.heap.size ∧ w.cell? ⟨b, o + i * 6, none⟩ = some (.int .i64 d.kd) ∧ w.cell? ⟨b, o + i * 6 + 1, none⟩ = some (.int .i64 d.bk)
    ∧ w.cell? ⟨b, o + i * 6 + 2, none⟩ = some (.int .i64 d.num) ∧ w.cell? ⟨b, o + i * 6 + 3, none⟩ = some (.int .i64 d.at_) ∧ w.cell? ⟨b, o + i * 6 + 4, none⟩ = some (.slice d.A d.xs.length d.cap) ∧ w.cell? ⟨b, o + i * 6 + 5, none⟩ = some (.slice d.LA d.ls.length d.lcap) := by
  have hne : flatD ds ≠ [] := by
    intro h0; have := flatD_length ds; rw [h0] at this; have := (List.getElem?_eq_some_iff.1 hd).1; simp at *; omega
  obtain ⟨b, o, rfl, hc⟩ := h.rds hne
  have g : ∀ j, j < 6 → ∀ u, d.cells[j]? = some u → w.cell? ⟨b, o + (i * 6 + j), none⟩ = some u := fun j hj u hu => hc _ _ (by rw [flatD_get ds i j d hd hj]; exact hu)
  have g0 := g 0 (by omega) _ rfl
  exact ⟨b, o, rfl, World.block_lt_of_cell? w _ g0, g0, g 1 (by omega) _ rfl, g 2 (by omega) _ rfl, g 3 (by omega) _ rfl, g 4 (by omega) _ rfl, g 5 (by omega) _ rfl⟩
theorem Rds.ne_new {w0 : World} {xs : List Value} (h : Rds w0 A xs) {b : Nat} (hb : w0.heap.size ≤ b) : xs ≠ [] → ∀ x ∈ fpOf A, x ≠ b := fun hx x hm => by
  have := h.lt hx x hm; omega
end

theorem lk_zero (a : Int) (ha : 0 ≤ a) (h i : Nat) : lk (fun _ => 0) a h i = 1 := by
  cases h with
  | zero => rfl
  | succ h => simp [lk, ha]

theorem putE_x (n : Nat) (h : 1 ≤ n) : putE n 0 0 1 1 = 0 := by
  unfold putE
  rw [if_neg (by omega), if_neg (by omega), if_neg (by omega)]

/-- A book whose sheets lie beyond so many blocks. -/
def Beyond (w0 w : World) (b n h : Nat) : Prop := ∃ (pc : Nat → Nat) (tp : Nat → Int) (ow : Nat → Bool) (lf : Nat → Leaf), Bk w b n h pc tp ow lf ∧ Fr [] w0 w ∧ w0.heap.size ≤ b ∧ ∀ k, k < 8 → w0.heap.size ≤ pc k
theorem Beyond.wrote {w0 w w' : World} {b n h num : Nat} {pc : Nat → Nat} {ow : Nat → Bool} {lf : Nat → Leaf} {a : Int} {xs : List Int} (hw : Wrote w w' b n h num pc ow lf a xs) (hn : num < 64) (hf : Fr [] w0 w) (hb : w0.heap.size ≤ b) (hp : ∀ k, k < 8 → w0.heap.size ≤ pc k) : Beyond w0 w' b n h := by
  obtain ⟨q, tp', A', cap', h1, h2, h3, h4⟩ := hw
  refine ⟨_, _, _, _, h1, hf.trans' h2 (fun x hx => ?_), hb, fun k hk => ?_⟩
  · right
    rcases List.mem_cons.1 hx with rfl | hx
    · exact hb
    · split at hx
      · simp at hx; rw [hx]; exact hp _ (by omega)
      · cases hx
  · unfold updN
    split
    · split at h3
      · rw [h3]; exact hp _ (by omega)
      · have := hf.size; omega
    · exact hp k hk

theorem Beyond.fr {w0 w w' : World} {b n h : Nat} (hb : Beyond w0 w b n h) (hf : Fr [] w w') : Beyond w0 w' b n h := by
  obtain ⟨pc, tp, ow, lf, h1, h2, h3, h4⟩ := hb
  exact ⟨pc, tp, ow, lf, h1.fr hf (by simp) (by simp) (by simp), h2.trans hf, h3, h4⟩

theorem putE_ok {n : Nat} {last num a : Int} {len : Nat} (h : putE n last num a len = 0) : 0 ≤ num ∧ num < n := by
  unfold putE at h
  split at h
  · omega
  · rename_i h1; simpa using h1

/-- Put, where only 'it is a book still' is asked. -/
theorem Put_beyond (b n h : Nat) (num a : Int) (A : Option Addr) (cap : Nat) (xs : List Int) (w0 w : World) (hb : Beyond w0 w b n h) (hx : Rds w0 A (bvals xs)) (hx1 : Bytes xs) :
    Calls Try.prog 10 #[.pointer (some ⟨b, 0, none⟩), .int .i64 num, .int .i64 a, .slice A xs.length cap] w fun r w' => (∃ e, r = .returned (.int .i64 e)) ∧ Beyond w0 w' b n h := by
  obtain ⟨pc, tp, ow, lf, h1, h2, h3, h4⟩ := hb
  have h6 := h1.ok.nh
  have h7 := h1.ok.h6
  refine (Put_any b n h num a pc tp ow lf A cap xs w h1 (hx.fr h2 (by simp)) hx1 (hx.ne_new h3)).mono ?_
  rintro r w' ⟨rfl, (⟨rfl, _⟩ | ⟨h0, _, hw⟩)⟩
  · exact ⟨⟨_, rfl⟩, pc, tp, ow, lf, h1, h2, h3, h4⟩
  · have := putE_ok h0
    exact ⟨⟨_, rfl⟩, Beyond.wrote hw (by omega) h2 h3 h4⟩

set_option maxRecDepth 100000 in
set_option maxHeartbeats 2000000 in
theorem looks_bad (n : Int) (w : World) (h : n < 1 ∨ 64 < n) (A : Option Addr) (l c : Nat) (a : Int) :
    Calls Try.prog 3 #[.int .i64 n, .slice A l c, .int .i64 a] w fun r w' => r = .returned (.bool true) ∧ Fr [] w w' := by
  have H := Lib.hid h
  by_cases h1 : n < 1
  · clear h
    go_enter Try.func3, Try.ntmps3
    go_wp2_with (go_at_call 7; (with_reducible refine (New_bad n _ H.out).mono ?_); rintro r w1 ⟨rfl, hf1⟩)
    go_ret
    exact ⟨rfl, hf1⟩
  · have h2 : 64 < n := by omega
    clear h
    go_enter Try.func3, Try.ntmps3
    go_wp2_with (go_at_call 7; (with_reducible refine (New_bad n _ H.out).mono ?_); rintro r w1 ⟨rfl, hf1⟩)
    go_ret
    exact ⟨rfl, hf1⟩

theorem Put_x (b n h g : Nat) (pc : Nat → Nat) (ow : Nat → Bool) (w : World) (hb : Bk w b n h pc (fun _ => 0) ow (fun _ => leaf0)) (hg : Rds w (some ⟨g, 0, none⟩) (bvals [120])) (hne : g ≠ b) :
    Calls Try.prog 10 #[.pointer (some ⟨b, 0, none⟩), .int .i64 0, .int .i64 1, .slice (some ⟨g, 0, none⟩) 1 1] w fun r w' => r = .returned (.int .i64 0) ∧ Wrote w w' b n h 0 pc ow (fun _ => leaf0) 1 [120] := by
  have h := Put_any b n h 0 1 pc (fun _ => 0) ow (fun _ => leaf0) (some ⟨g, 0, none⟩) 1 [120] w hb hg (by intro x hx; simp at hx; omega) (fun _ x hx => by simp [fpOf] at hx; omega)
  have e := putE_x n hb.ok.n1
  refine h.mono ?_
  rintro r w' ⟨rfl, hc⟩
  simp only [List.length_singleton] at hc ⊢
  rw [e] at hc ⊢
  rcases hc with ⟨_, h2⟩ | ⟨_, _, h2⟩
  · have := h2 rfl
    simp [leaf0] at this
  · exact ⟨rfl, h2⟩

theorem rds_marked (w : World) (p : Nat × Nat) (t : TypeId) : Rds (w.alloc (.cells #[.int .u8 120] t p)) (some ⟨w.heap.size, 0, none⟩) (bvals [120]) := fun _ => ⟨_, _, rfl, fun j u hu => by
  have hj : j < 1 := by have := (List.getElem?_eq_some_iff.1 hu).1; simpa [bvals] using this
  obtain rfl : j = 0 := by omega
  simp [bvals] at hu
  subst hu
  have h := heap_alloc_new w (.cells #[.int .u8 120] t p)
  unfold World.cell?
  rw [h]
  rfl⟩
/-- The books' Looks where nothing was written. -/
theorem Looks_zero (b n h : Nat) (pc : Nat → Nat) (ow : Nat → Bool) (lf : Nat → Leaf) (w : World) (hb : Bk w b n h pc (fun _ => 0) ow lf) :
    Calls Try.prog 9 #[.pointer (some ⟨b, 0, none⟩), .int .i64 0] w fun r w' => r = .returned (.int .i64 1) ∧ w' = w := by
  have h := Looks_any b n h pc (fun _ => 0) ow lf 0 w hb
  rw [lk_zero _ (by omega)] at h
  exact h

theorem given_len (b n h : Nat) (pc : Nat → Nat) (tp : Nat → Int) (ow : Nat → Bool) (lf : Nat → Leaf) (a : Int) (w : World) (gl : List Nat) (hg : sl tp a h = gl) (hb : Bk w b n h pc tp ow lf) :
    Calls Try.prog 11 #[.pointer (some ⟨b, 0, none⟩), .int .i64 a, .int .i64 (-1)] w fun r w' => ∃ A cap ow', r = .returned (.slice A gl.length cap) ∧ Bk w' b n h pc tp ow' lf ∧ Fr [b] w w' := by
  refine (given_any b n h pc tp ow lf a (-1) w hb).mono ?_
  rintro r w' ⟨A, cap, l, ow', rfl, _, h2, h3, h4, _⟩
  have := h2.len
  rw [hg, cutTo, if_pos (by omega)] at this
  rw [this]
  exact ⟨A, cap, ow', rfl, h3, h4⟩
theorem Looks_is (b n h : Nat) (pc : Nat → Nat) (tp : Nat → Int) (ow : Nat → Bool) (lf : Nat → Leaf) (a : Int) (w : World) (L : Nat) (hL : lk tp (max a 0) h 1 = L) (hb : Bk w b n h pc tp ow lf) :
    Calls Try.prog 9 #[.pointer (some ⟨b, 0, none⟩), .int .i64 a] w fun r w' => r = .returned (.int .i64 (L : Int)) ∧ w' = w := by
  have h := Looks_any b n h pc tp ow lf a w hb
  rw [hL] at h
  exact h

set_option maxRecDepth 100000 in
set_option maxHeartbeats 4000000 in
theorem looks_good (n : Nat) (hn0 : 1 ≤ n) (hn : n ≤ 64) (A : Option Addr) (c : Nat) (Ds : List Deed) (a : Int) (w : World) (hD : Deeds w A Ds) :
    Calls Try.prog 3 #[.int .i64 (n : Int), .slice A Ds.length c, .int .i64 a] w fun r w' => r = .returned (.bool true) ∧ Fr [] w w' := by
  have DD := Lib.hid hD
  have hlong := hD.long
  have hnil := fun (W : World) (x y : Value) => eql_seq_nil x y W
  clear hD
  go_enter Try.func3, Try.ntmps3
  go_wp2_with fail
  refine (New_good n _ hn0 hn).mono ?_
  rintro r w1 ⟨rfl, hh, pc, hb, hf1, hpc⟩
  have s1 := hb.lt.1
  have HB := Lib.hid hb
  have kc := fun (w : World) (C : Array Value) (n c : Nat) => Lib.run_convert_bytes_const (P := Try.prog) w 32 5 C n c Try.underlying32 Try.underlying5
  clear hb
  go_wp2_with (first | (go_at_call 8; (with_reducible refine (Since_any _ _ _).mono ?_); rintro r w2 ⟨rfl, hb1, hb2, hf2⟩; have hB2 := HB.out.fr hf2 (by simp) (by simp) (by simp); have HB2 := Lib.hid hB2; have s2 := hf2.size; clear hb1 hb2 hB2) | (go_at_call 9; (with_reducible refine (Looks_zero _ n hh pc _ _ _ HB2.out).mono ?_); rintro r w3 ⟨rfl, rfl⟩) | (go_at_call 10; (with_reducible refine (Put_x w.heap.size n hh _ pc _ _ (HB2.out.fr ((Fr.refl [] _).alloc _) (by simp) (by simp) (by simp)) (rds_marked _ _ _) (by omega)).mono ?_); rintro r w4 ⟨rfl, hw4⟩))
  have hB4 := Beyond.wrote hw4 (by omega) (((hf1.trans ((Fr.refl [] _).trans hf2)).alloc _)) (Nat.le_refl _) hpc
  have HB4 := Lib.hid hB4
  clear hw4 hB4 hf1 hf2 hpc HB HB2 kc
  go_loopw [47] (fun i wr => ∃ k : Nat, k ≤ Ds.length ∧ i = .int .i64 k ∧ Beyond w wr w.heap.size n hh) (fun i _ => Ds.length - (intOf i).toNat)
  case atStart => exact ⟨0, Nat.zero_le _, rfl, HB4.out⟩
  case round =>
    obtain ⟨k, hk, rfl, hB⟩ := hrel
    by_cases hlt : k < Ds.length
    · obtain ⟨d, hd⟩ : ∃ d, Ds[k]? = some d := ⟨Ds[k], List.getElem?_eq_getElem hlt⟩
      have hdm : d ∈ Ds := List.mem_of_getElem? hd
      obtain ⟨hdr, hdb, _⟩ := DD.out.data d hdm
      have hfr : Fr [] w wr := by obtain ⟨_, _, _, _, _, h, _⟩ := hB; exact h
      obtain ⟨ab, ao, rfl, hab, g0, g1, g2, g3, g4, g5⟩ := (DD.out.fr hfr).cells hd
      have HD := Lib.hid (And.intro hdr (And.intro hdb hB))
      have k0 : (0 : Int) ≤ (k : Int) := by omega
      have k1 : (k : Int) < (Ds.length : Int) := by omega
      clear hd hdm hdr hdb hB hfr
      go_wp2_with (go_at_call 10; (with_reducible refine (Put_beyond w.heap.size n hh d.num d.at_ d.A d.cap d.xs w _ (HD.out.2.2.fr ((Fr.refl [] _).alloc _)) HD.out.1 HD.out.2.1).mono ?_); rintro r w5 ⟨⟨e, rfl⟩, hB5⟩)
      go_roundw
      case rel => exact ⟨k + 1, hlt, by go_num, hB5⟩
      case measure => simp [intOf]; omega
    · have hkl : k = Ds.length := by omega
      subst hkl
      obtain ⟨pc5, tp, ow, lf, hb5, hf5, hs5, hp5⟩ := hB
      have hok := hb5.ok
      obtain ⟨L0, L1⟩ := looks_law hok a
      have hgl := sl_len hok a
      have hLle := lk_le tp (max a 0) hh 1
      have hh6 := hok.h6'
      have hpow : 2 ^ (hh + 1) ≤ 2 ^ 7 := Nat.pow_le_pow_right (by omega) (by omega)
      obtain ⟨gl, hgle⟩ : ∃ gl, sl tp a hh = gl := ⟨_, rfl⟩
      obtain ⟨L, hL⟩ : ∃ L, lk tp (max a 0) hh 1 = L := ⟨_, rfl⟩
      rw [hgle] at L0 L1 hgl
      rw [hL] at L0 L1 hLle
      have HG := Lib.hid (And.intro hgle (And.intro hL (And.intro hb5 (And.intro hf5 (And.intro hs5 hp5)))))
      have HL := Lib.hid (And.intro L0 L1)
      clear hgle hL hb5 hf5 hs5 hp5 hok L0 L1 hh6 hlt HB4
      go_upto_region 11 with fail
      go_upto_region 13 with (first | (go_at_call 11; (with_reducible refine (given_len w.heap.size n hh pc5 tp ow lf a _ gl HG.out.1 HG.out.2.2.1).mono ?_); rintro r w6 ⟨A6, cap6, ow6, rfl, hb6, hf6⟩; have H6 := Lib.hid (And.intro hb6 hf6); clear hb6 hf6) | (go_at_call 9; (with_reducible refine (Looks_is w.heap.size n hh pc5 tp ow6 lf a _ L HG.out.2.1 H6.out.1).mono ?_); rintro r w7 ⟨rfl, rfl⟩))
      have hfr : Fr [] w w7 := HG.out.2.2.2.1.trans' H6.out.2 (by simp)
      obtain ⟨K, hK⟩ : ∃ K, gl.length = K := ⟨_, rfl⟩
      rw [hK] at HL hgl ⊢
      obtain ⟨L0, L1⟩ := HL.out
      clear HL hK HG H6 DD
      by_cases hk0 : K = 0
      · obtain rfl := L0 hk0
        subst hk0
        go_wp2
        go_ret
        exact ⟨rfl, hfr⟩
      · obtain ⟨a1, a2, a3, a4⟩ := L1 hk0
        have t1 : ((K : Int) == 0) = false := by simpa using hk0
        have e1 : IntKind.i64.wrap (12 * (K : Int)) = 12 * (K : Int) := IntWalk.i64_in _ (by omega)
        have e2 : IntKind.i64.wrap (1 + 12 * (K : Int)) = 1 + 12 * (K : Int) := IntWalk.i64_in _ (by omega)
        have t2 : decide ((L : Int) ≤ 1 + 12 * (K : Int)) = true := by simp; omega
        have t3 : decide ((1 : Int) ≤ (L : Int)) = true := by simp; omega
        by_cases hn1 : n = 1
        · obtain rfl := a3 hn1
          subst hn1
          clear L0 L1 a1 a2 a3 a4
          go_wp2
          go_ret
          exact ⟨rfl, hfr⟩
        · have a5 := a4 hn1
          have t4 : ((n : Int) == 1) = false := by simp; omega
          have t5 : decide ((1 : Int) < (n : Int)) = true := by simp; omega
          have t6 : decide (1 < n) = true := by simp; omega
          have t7 : decide ((3 : Int) ≤ (L : Int)) = true := by simp; omega
          have t8 : decide (3 ≤ L) = true := by simp; omega
          clear L0 L1 a1 a2 a3 a4 a5 hn1
          go_wp2
          go_ret
          exact ⟨rfl, hfr⟩
end Go.Proofs.Ytaicpgkoailnkaa
