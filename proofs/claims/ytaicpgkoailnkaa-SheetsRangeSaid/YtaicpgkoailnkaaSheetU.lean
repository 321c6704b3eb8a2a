/- Books as things: New, given; what Since tells, told of the sheets; a list that is told, laid in. -/
import Derived.Test.YtaicpgkoailnkaaSheetT
import Derived.Test.YtaicpgkoailnkaaSheetL
namespace Go.Proofs.Ytaicpgkoailnkaa
open Go.RowKit

/-- The sheets with a greater stamp. -/
def sinceC (c : Nat → Int × List Int) (n : Nat) (a : Int) : List Nat := (List.range n).filter fun j => decide (max a 0 < (c j).1)
theorem sl_since {B : Boo} {w : World} (h : B.At w) (a : Int) : sl B.tp a B.h = sinceC B.con B.n a := sl_filter h.ok a
theorem sinceC_mem {c : Nat → Int × List Int} {n : Nat} {a : Int} {j : Nat} : j ∈ sinceC c n a ↔ j < n ∧ max a 0 < (c j).1 := by
  unfold sinceC
  rw [List.mem_filter, List.mem_range, decide_eq_true_eq]
theorem sinceC_sorted (c : Nat → Int × List Int) (n : Nat) (a : Int) : (sinceC c n a).Pairwise (· < ·) := List.Pairwise.filter _ List.pairwise_lt_range
theorem sinceC_len (c : Nat → Int × List Int) (n : Nat) (a : Int) : (sinceC c n a).length ≤ n := by
  have := List.length_filter_le (fun j => decide (max a 0 < (c j).1)) (List.range n)
  rw [List.length_range] at this
  exact this
theorem sinceC_congr {c c' : Nat → Int × List Int} {n : Nat} (a : Int) (h : ∀ j, j < n → c j = c' j) : sinceC c n a = sinceC c' n a := by
  unfold sinceC
  refine List.filter_congr (fun j hj => ?_)
  rw [h j (List.mem_range.1 hj)]
theorem lastC_congr {c c' : Nat → Int × List Int} : ∀ {n : Nat}, (∀ j, j < n → c j = c' j) → lastC c n = lastC c' n
  | 0, _ => rfl
  | n + 1, h => by rw [lastC, lastC, lastC_congr (fun j hj => h j (by omega)), h n (by omega)]

/-- Told are the sheets of these numbers. -/
def OfC (gl : List Nat) (c : Nat → Int × List Int) (l : List Sh) : Prop := l.map (fun s => (s.num, s.at_, s.xs)) = gl.map fun (j : Nat) => ((j : Int), (c j).1, (c j).2)
theorem OfC.len {gl : List Nat} {c : Nat → Int × List Int} {l : List Sh} (h : OfC gl c l) : l.length = gl.length := by have := congrArg List.length h; simpa using this
theorem OfC.cons {g : Nat} {gl : List Nat} {c : Nat → Int × List Int} {l : List Sh} (h : OfC (g :: gl) c l) : ∃ s r, l = s :: r ∧ s.num = g ∧ s.at_ = (c g).1 ∧ s.xs = (c g).2 ∧ OfC gl c r := by
  cases l with
  | nil => simp [OfC] at h
  | cons s r =>
    simp only [OfC, List.map_cons, List.cons.injEq, Prod.mk.injEq] at h
    exact ⟨s, r, rfl, h.1.1, h.1.2.1, h.1.2.2, h.2⟩
theorem OfC.nil {c : Nat → Int × List Int} {l : List Sh} (h : OfC [] c l) : l = [] := by simpa [OfC] using h
theorem OfC.mem {gl : List Nat} {c : Nat → Int × List Int} {l : List Sh} (h : OfC gl c l) {s : Sh} (hs : s ∈ l) : ∃ j ∈ gl, s.num = (j : Int) ∧ s.at_ = (c j).1 ∧ s.xs = (c j).2 := by
  have h1 : (s.num, s.at_, s.xs) ∈ l.map (fun s => (s.num, s.at_, s.xs)) := List.mem_map.2 ⟨s, hs, rfl⟩
  rw [h] at h1
  obtain ⟨j, hj, e⟩ := List.mem_map.1 h1
  simp only [Prod.mk.injEq] at e
  exact ⟨j, hj, e.1.symm, e.2.1.symm, e.2.2.symm⟩

theorem appC_told {cB : Nat → Int × List Int} : ∀ {gl : List Nat} {l : List Sh} (c : Nat → Int × List Int), OfC gl cB l → ∀ j, appC c l j = if j ∈ gl then cB j else c j
  | [], l, c, h, j => by rw [h.nil]; simp [appC]
  | g :: gl, l, c, h, j => by
    obtain ⟨s, r, rfl, e1, e2, e3, h2⟩ := h.cons
    have e : appC c (s :: r) = appC (putC c s.num.toNat s.at_ s.xs) r := rfl
    rw [e, appC_told _ h2 j, e1, e2, e3]
    by_cases h1 : j ∈ gl
    · rw [if_pos h1, if_pos (List.mem_cons_of_mem _ h1)]
    · rw [if_neg h1]
      unfold putC
      by_cases h3 : j = g
      · subst h3; simp
      · rw [if_neg (by simpa using h3), if_neg (by simp [h1, h3])]
theorem appE_told {n : Nat} {cB : Nat → Int × List Int} (hc : ∀ j, j < n → (cB j).1 ≤ 1099511627776 ∧ (cB j).2.length ≤ 2304) : ∀ {gl : List Nat} {l : List Sh} (last : Int), OfC gl cB l → gl.Pairwise (· < ·) → (∀ j ∈ gl, last < (j : Int) ∧ j < n ∧ 1 ≤ (cB j).1) → appE n last l = 0
  | [], l, last, h, _, _ => by rw [h.nil]; rfl
  | g :: gl, l, last, h, hp, hg => by
    obtain ⟨s, r, rfl, e1, e2, e3, h2⟩ := h.cons
    obtain ⟨g1, g2, g3⟩ := hg g List.mem_cons_self
    obtain ⟨c1, c2⟩ := hc g g2
    rw [List.pairwise_cons] at hp
    rw [appE_go (by omega) (by omega) (by omega) (by rw [e3]; omega)]
    exact appE_told hc s.num h2 hp.2 (fun j hj => ⟨by have := hp.1 j hj; omega, (hg j (List.mem_cons_of_mem _ hj)).2⟩)

theorem given_boo (B : Boo) (a lim : Int) (w : World) (hB : B.At w) : Calls Try.prog 11 #[.pointer (some ⟨B.b, 0, none⟩), .int .i64 a, .int .i64 lim] w fun r w' => ∃ (A : Option Addr) (cap : Nat) (l : List Sh) (B' : Boo), r = .returned (.slice A l.length cap) ∧ Told w' w.heap.size A cap l ∧
      OfC (cutTo lim (sinceC B.con B.n a)) B.con l ∧ Turn w w' B B' ∧ B'.con = B.con := by
  refine (given_any B.b B.n B.h B.pc B.tp B.ow B.lf a lim w hB).mono ?_
  rintro r w' ⟨A, cap, l, ow', rfl, h1, h2, h3, h4, h5⟩
  rw [sl_since hB] at h2
  refine ⟨A, cap, l, { B with ow := ow' }, rfl, h1, h2, ⟨h3, h4.mono (fun x hx => by simp at hx; subst hx; exact List.mem_cons_self), fun x hx => .inl ?_, fun x hx => .inl hx, rfl, rfl⟩, rfl⟩
  rcases List.mem_cons.1 hx with rfl | hx
  · exact List.mem_cons_self
  · obtain ⟨k, hk, rfl⟩ := List.mem_map.1 hx
    obtain ⟨hk1, hk2⟩ := List.mem_filter.1 hk
    exact List.mem_cons_of_mem _ (List.mem_map.2 ⟨k, List.mem_filter.2 ⟨hk1, h5 k hk2⟩, rfl⟩)

/-- A book that lies beyond so many blocks. -/
structure Beyo (w0 w : World) (B : Boo) : Prop where
  at_ : B.At w
  fr : Fr [] w0 w
  rd : ∀ x ∈ B.rd, w0.heap.size ≤ x
theorem Beyo.turn {w0 w w' : World} {B B' : Boo} (h : Beyo w0 w B) (hT : Turn w w' B B') : Beyo w0 w' B' :=
  ⟨hT.at_, h.fr.trans' hT.fr (fun x hx => .inr (h.rd x (Boo.fp_rd hx))), fun x hx => (hT.rd x hx).elim (h.rd x) (fun hn => by have := h.fr.size; omega)⟩
theorem Beyo.fr0 {w0 w w' : World} {B : Boo} (h : Beyo w0 w B) (hf : Fr [] w w') : Beyo w0 w' B := ⟨h.at_.fr0 hf, h.fr.trans hf, h.rd⟩
theorem Beyo.other {w0 w w' : World} {B B' C : Boo} (h : Beyo w0 w C) (hB : Beyo w0 w B) (hT : Turn w w' B B') (ha : Apart B C) : Beyo w0 w' C :=
  ⟨(hT.other h.at_ ha).1, (hB.turn hT).fr, h.rd⟩
theorem Beyo.off {w0 w : World} {B : Boo} (h : Beyo w0 w B) {A : Option Addr} {xs : List Value} (hx : Rds w0 A xs) : xs ≠ [] → ∀ x ∈ fpOf A, x ∉ B.fp := fun hne x hm hf => by
  have h1 := hx.lt hne x hm
  have h2 := h.rd x (Boo.fp_rd hf)
  omega

theorem New_boo (n : Nat) (w : World) (h0 : 1 ≤ n) (h : n ≤ 64) :
    Calls Try.prog 7 #[.int .i64 (n : Nat)] w fun r w' => r = .returned (.tuple #[.pointer (some ⟨w.heap.size, 0, none⟩), .int .i64 0]) ∧ ∃ B : Boo, Beyo w w' B ∧ B.b = w.heap.size ∧ B.n = n ∧ B.con = fun _ => (0, []) := by
  refine (New_good n w h0 h).mono ?_
  rintro r w' ⟨rfl, hh, pc, h1, h2, h3⟩
  refine ⟨rfl, ⟨w.heap.size, n, hh, pc, fun _ => 0, fun _ => true, fun _ => leaf0⟩, ⟨h1, h2, fun x hx => ?_⟩, rfl, rfl, rfl⟩
  rcases List.mem_cons.1 hx with rfl | hx
  · exact Nat.le_refl _
  · rcases List.mem_append.1 hx with hx | hx
    · obtain ⟨k, hk, rfl⟩ := List.mem_map.1 hx
      exact h3 k (by simpa using hk)
    · obtain ⟨j, hj, hx⟩ := List.mem_flatMap.1 hx
      simp [leaf0, fpOf] at hx

/-- Put of what came in, on a book that lies beyond it. -/
theorem Put_beyo (B : Boo) (num a : Int) (A : Option Addr) (cap : Nat) (xs : List Int) (w0 w : World) (hB : Beyo w0 w B) (hx : Rds w0 A (bvals xs)) (hx1 : Bytes xs) :
    Calls Try.prog 10 #[.pointer (some ⟨B.b, 0, none⟩), .int .i64 num, .int .i64 a, .slice A xs.length cap] w fun r w' => r = .returned (.int .i64 (putE B.n (lastC B.con B.n) num a xs.length)) ∧
      ∃ B', Turn w w' B B' ∧ B'.con = putA B.con B.n num a xs := Put_boo B num a A cap xs w hB.at_ (hx.fr hB.fr (by simp)) hx1 (hB.off hx)

/-- The bytes "x", put on a new book. -/
theorem Putx_boo (B : Boo) (g : Nat) (w0 w : World) (hB : Beyo w0 w B) (hc : B.con = fun _ => (0, [])) (hg : Rds w (some ⟨g, 0, none⟩) (bvals [120])) (hne : g ∉ B.fp) :
    Calls Try.prog 10 #[.pointer (some ⟨B.b, 0, none⟩), .int .i64 0, .int .i64 1, .slice (some ⟨g, 0, none⟩) 1 1] w fun r w' => r = .returned (.int .i64 0) ∧ ∃ B', Turn w w' B B' ∧ B'.con = putC (fun _ => (0, [])) 0 1 [120] := by
  have h := Put_boo B 0 1 (some ⟨g, 0, none⟩) 1 [120] w hB.at_ hg (by intro x hx; simp at hx; omega) (fun _ x hx => by simp [fpOf] at hx; rw [hx]; exact hne)
  have hl : lastC B.con B.n = 0 := by
    rw [hc]
    rcases lastC_is (fun _ => ((0 : Int), ([] : List Int))) B.n with h0 | ⟨_, _, h0⟩
    · exact h0
    · exact h0.symm
  have e := putE_x B.n hB.at_.n64.1
  rw [hl] at h
  refine h.mono ?_
  rintro r w' ⟨rfl, B', hT, hC⟩
  simp only [List.length_singleton] at *
  rw [e]
  refine ⟨rfl, B', hT, ?_⟩
  rw [hC]
  unfold putA
  rw [hl, List.length_singleton, e, hc, if_pos (by simp)]
  rfl

theorem Get_boo (B : Boo) (num : Nat) (w : World) (hB : B.At w) (hn : num < B.n) :
    Calls Try.prog 24 #[.pointer (some ⟨B.b, 0, none⟩), .int .i64 (num : Nat)] w fun r w' => ∃ A' cap', r = .returned (.tuple #[.slice A' (B.con num).2.length cap', .int .i64 (B.con num).1, .int .i64 0]) ∧ Row w' 5 1 A' (B.con num).2.length cap' (bvals (B.con num).2) ∧ Fr [] w w' ∧ ∀ x ∈ fpOf A', w.heap.size ≤ x :=
  Get_yes B.b B.n B.h num B.pc B.tp B.ow B.lf w hB hn
end Go.Proofs.Ytaicpgkoailnkaa
