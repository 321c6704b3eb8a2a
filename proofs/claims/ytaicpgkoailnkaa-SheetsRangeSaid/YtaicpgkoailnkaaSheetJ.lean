/- Sheets in lists of their own; what Since tells, and how many nodes are looked at, in plain terms. -/
import Derived.Test.YtaicpgkoailnkaaSheetI
namespace Go.Proofs.Ytaicpgkoailnkaa
open Go.RowKit

section
variable {w w' : World} {e : TypeId} {size : Nat} {A : Option Addr} {n cap : Nat} {xs : List Value}
theorem Row.ne_row {e2 : TypeId} {size2 : Nat} {A2 : Option Addr} {n2 cap2 : Nat} {xs2 : List Value} (h : Row w e size A n cap xs) (h2 : Row w e2 size2 A2 n2 cap2 xs2) (ht : e2 ≠ e) : ∀ b ∈ fpOf A, b ∉ fpOf A2 := by
  rcases h2.cases with ⟨rfl, _⟩ | ⟨g, cur, rfl, hg, _⟩
  · simp [fpOf]
  · intro b hb
    have := h.ne_blk hg ht b hb
    simpa [fpOf] using this
end

/-- A sheet as it is told. -/
structure Sh where
  num : Int
  at_ : Int
  A : Option Addr
  cap : Nat
  xs : List Int
def Sh.cells (s : Sh) : List Value := [.int .i64 s.num, .int .i64 s.at_, .slice s.A s.xs.length s.cap]
def flatS (l : List Sh) : List Value := l.flatMap Sh.cells
theorem flatS_cons (s : Sh) (l : List Sh) : flatS (s :: l) = s.cells ++ flatS l := by simp [flatS]
theorem flatS_append (l m : List Sh) : flatS (l ++ m) = flatS l ++ flatS m := by simp [flatS]
theorem flatS_length (l : List Sh) : (flatS l).length = l.length * 3 := by
  induction l with
  | nil => rfl
  | cons s l ih => rw [flatS_cons, List.length_append, ih, List.length_cons]; simp [Sh.cells]; omega
theorem flatS_get (l : List Sh) (i j : Nat) (s : Sh) (h : l[i]? = some s) (hj : j < 3) : (flatS l)[i * 3 + j]? = s.cells[j]? := by
  induction l generalizing i with
  | nil => simp at h
  | cons x l ih =>
    rw [flatS_cons]
    cases i with
    | zero =>
      simp at h; subst h
      rw [List.getElem?_append_left (by simp [Sh.cells]; omega)]; simp
    | succ i =>
      rw [List.getElem?_append_right (by simp [Sh.cells]; omega)]
      have e1 : (i + 1) * 3 + j - x.cells.length = i * 3 + j := by simp [Sh.cells]; omega
      rw [e1]
      exact ih i (by simpa using h)

/-- A list of sheets in memory of its own, each one's bytes too, from block base on. -/
structure Told (w : World) (base : Nat) (A : Option Addr) (cap : Nat) (l : List Sh) : Prop where
  row : Row w 46 3 A l.length cap (flatS l)
  own : ∀ b ∈ fpOf A, base ≤ b
  data : ∀ s ∈ l, Row w 5 1 s.A s.xs.length s.cap (bvals s.xs)
  new : ∀ s ∈ l, ∀ b ∈ fpOf s.A, base ≤ b
  apart : l.Pairwise (fun s t => ∀ b ∈ fpOf s.A, b ∉ fpOf t.A)

section
variable {w w' : World} {base : Nat} {A : Option Addr} {cap : Nat} {l : List Sh}
theorem Told.nil (w : World) (base : Nat) : Told w base none 0 [] := ⟨Row.nil _ _ _, by simp [fpOf], by simp, by simp, .nil⟩
theorem Told.fr (h : Told w base A cap l) {S : List Nat} (hf : Fr S w w') (h1 : ∀ b ∈ fpOf A, b ∉ S) (h2 : ∀ s ∈ l, ∀ b ∈ fpOf s.A, b ∉ S) : Told w' base A cap l :=
  ⟨h.row.fr hf h1, h.own, fun s hs => (h.data s hs).fr hf (h2 s hs), h.new, h.apart⟩
theorem Told.nc {n₀ : Nat} (h : Told w base A cap l) (hn : NC n₀ w w') : Told w' base A cap l := ⟨h.row.nc hn, h.own, fun s hs => (h.data s hs).nc hn, h.new, h.apart⟩
theorem Told.ne (h : Told w base A cap l) : ∀ s ∈ l, ∀ b ∈ fpOf s.A, b ∉ fpOf A := fun s hs => (h.data s hs).ne_row h.row (by decide)
end

/-- Told are the sheets of these numbers, as they are. -/
def OfL (gl : List Nat) (lf : Nat → Leaf) (l : List Sh) : Prop := l.map (fun s => (s.num, s.at_, s.xs)) = gl.map fun (j : Nat) => ((j : Int), (lf j).at_, (lf j).xs)
theorem OfL.len {gl : List Nat} {lf : Nat → Leaf} {l : List Sh} (h : OfL gl lf l) : l.length = gl.length := by have := congrArg List.length h; simpa using this
theorem OfL.snoc {gl : List Nat} {lf : Nat → Leaf} {l : List Sh} {k j : Nat} (h : OfL (gl.take k) lf l) (hj : gl[k]? = some j) (A : Option Addr) (cap : Nat) : OfL (gl.take (k + 1)) lf (l ++ [⟨(j : Int), (lf j).at_, A, cap, (lf j).xs⟩]) := by
  have hk := (List.getElem?_eq_some_iff.1 hj).1
  have hj2 := (List.getElem?_eq_some_iff.1 hj).2
  unfold OfL at h ⊢
  rw [List.take_succ_eq_append_getElem hk, List.map_append, List.map_append, h, hj2]
  rfl

/-! ### What Since tells -/
theorem wl_nil {tp : Nat → Int} {a : Int} {W : Nat} : ∀ {d i : Nat}, tp i ≤ a → wl tp a W d i = []
  | 0, i, h => by simp [wl, h]
  | d + 1, i, h => by simp [wl, h]

theorem wl_filter {n h : Nat} {tp : Nat → Int} {lf : Nat → Leaf} (ok : TopsOk n h tp lf) (a : Int) : ∀ (d e i : Nat), e + d = h → 2 ^ e ≤ i → i < 2 * 2 ^ e →
    wl tp a (2 ^ h) d i = (List.range' (i * 2 ^ d - 2 ^ h) (2 ^ d)).filter fun j => decide (a < (lf j).at_)
  | 0, e, i, he, h1, h2 => by
    have hh : e = h := by omega
    subst hh
    have hl := ok.leaf (i - 2 ^ e) (by omega)
    rw [show 2 ^ e + (i - 2 ^ e) = i by omega] at hl
    rw [wl, hl]
    simp only [Nat.pow_zero, Nat.mul_one, List.range'_one]
    by_cases hc : (lf (i - 2 ^ e)).at_ ≤ a
    · rw [if_pos hc, List.filter_cons, if_neg (by simpa using hc)]; rfl
    · rw [if_neg hc, List.filter_cons, if_pos (by simpa using hc)]; rfl
  | d + 1, e, i, he, h1, h2 => by
    have hp : 2 ^ (e + 1) = 2 * 2 ^ e := by rw [Nat.pow_succ]; omega
    have hq : 2 ^ (d + 1) = 2 * 2 ^ d := by rw [Nat.pow_succ]; omega
    have hW : 2 ^ h = 2 ^ (e + 1) * 2 ^ d := by rw [← Nat.pow_add]; congr 1; omega
    have hle : 2 ^ (e + 1) ≤ 2 ^ h := Nat.pow_le_pow_right (by omega) (by omega)
    have w1 := wl_filter ok a d (e + 1) (2 * i) (by omega) (by omega) (by omega)
    have w2 := wl_filter ok a d (e + 1) (2 * i + 1) (by omega) (by omega) (by omega)
    have hn := ok.node i (by have := Nat.one_le_two_pow (n := e); omega) (by omega)
    have hsp : wl tp a (2 ^ h) (d + 1) i = wl tp a (2 ^ h) d (2 * i) ++ wl tp a (2 ^ h) d (2 * i + 1) := by
      by_cases hc : tp i ≤ a
      · rw [wl_nil hc, wl_nil (by omega), wl_nil (by omega)]; rfl
      · rw [wl, if_neg hc]
    have hm : 2 ^ (e + 1) * 2 ^ d ≤ 2 * i * 2 ^ d := Nat.mul_le_mul_right _ (by omega)
    rw [hsp, w1, w2, ← List.filter_append, hq]
    congr 1
    have e1 : i * (2 * 2 ^ d) = 2 * i * 2 ^ d := by rw [← Nat.mul_assoc, Nat.mul_comm i 2]
    have e2 : (2 * i + 1) * 2 ^ d = 2 * i * 2 ^ d + 2 ^ d := by rw [Nat.add_mul, Nat.one_mul]
    rw [e1, e2, hW]
    generalize 2 * i * 2 ^ d = X at *
    generalize 2 ^ (e + 1) * 2 ^ d = Y at *
    generalize 2 ^ d = Z at *
    rw [show X + Z - Y = X - Y + Z by omega, show 2 * Z = Z + Z by omega, List.range'_append_1]

theorem sl_filter {n h : Nat} {tp : Nat → Int} {lf : Nat → Leaf} (ok : TopsOk n h tp lf) (a : Int) : sl tp a h = (List.range n).filter fun j => decide (max a 0 < (lf j).at_) := by
  unfold sl
  rw [wl_filter ok _ h 0 1 (by omega) (by simp) (by simp), Nat.one_mul, Nat.sub_self, ← List.range_eq_range']
  have hn := ok.nh
  obtain ⟨m, hm⟩ : ∃ m, 2 ^ h = n + m := ⟨2 ^ h - n, by omega⟩
  have h6 := ok.h6
  rw [hm, List.range_add, List.filter_append]
  have : ((List.range m).map fun x => n + x).filter (fun j => decide (max a 0 < (lf j).at_)) = [] := by
    rw [List.filter_eq_nil_iff]
    intro j hj
    obtain ⟨x, hx, rfl⟩ := List.mem_map.1 hj
    have hx := List.mem_range.1 hx
    rw [ok.beyond (n + x) (by omega) (by omega)]
    simp; omega
  rw [this, List.append_nil]

theorem sl_len {n h : Nat} {tp : Nat → Int} {lf : Nat → Leaf} (ok : TopsOk n h tp lf) (a : Int) : (sl tp a h).length ≤ 64 := by
  rw [sl_filter ok]
  have h1 := List.length_filter_le (fun j => decide (max a 0 < (lf j).at_)) (List.range n)
  rw [List.length_range] at h1
  have := ok.nh; have := ok.h6; omega
theorem sl_mem {n h : Nat} {tp : Nat → Int} {lf : Nat → Leaf} (ok : TopsOk n h tp lf) (a : Int) {j : Nat} (hj : j ∈ sl tp a h) : j < n := by
  rw [sl_filter ok] at hj
  simpa using (List.mem_filter.1 hj).1

/-! ### How many nodes are looked at -/
theorem lk_bounds {n h : Nat} {tp : Nat → Int} {lf : Nat → Leaf} (ok : TopsOk n h tp lf) (a : Int) : ∀ (d e i : Nat), e + d = h → 2 ^ e ≤ i → i < 2 * 2 ^ e →
    (wl tp a (2 ^ h) d i = [] ↔ tp i ≤ a) ∧ lk tp a d i ≤ 1 + 2 * d * (wl tp a (2 ^ h) d i).length ∧ 1 ≤ lk tp a d i ∧ (tp i ≤ a → lk tp a d i = 1) ∧ (a < tp i → 1 ≤ d → 3 ≤ lk tp a d i)
  | 0, e, i, he, h1, h2 => by
    refine ⟨?_, by simp [lk], by simp [lk], fun _ => by simp [lk], fun _ h => by omega⟩
    by_cases hc : tp i ≤ a <;> simp [wl, hc]
  | d + 1, e, i, he, h1, h2 => by
    have hp : 2 ^ (e + 1) = 2 * 2 ^ e := by rw [Nat.pow_succ]; omega
    have hle : 2 ^ (e + 1) ≤ 2 ^ h := Nat.pow_le_pow_right (by omega) (by omega)
    obtain ⟨a1, a2, a3, a4, _⟩ := lk_bounds ok a d (e + 1) (2 * i) (by omega) (by omega) (by omega)
    obtain ⟨b1, b2, b3, b4, _⟩ := lk_bounds ok a d (e + 1) (2 * i + 1) (by omega) (by omega) (by omega)
    have hn := ok.node i (by have := Nat.one_le_two_pow (n := e); omega) (by omega)
    by_cases hc : tp i ≤ a
    · simp [wl, lk, hc]
    · rw [wl, if_neg hc, lk, if_neg hc, List.length_append, List.append_eq_nil_iff]
      refine ⟨⟨fun h => by have := a1.1 h.1; have := b1.1 h.2; omega, fun h => absurd h hc⟩, ?_, by omega, fun h => absurd h hc, fun _ _ => by omega⟩
      have hlen : 1 ≤ (wl tp a (2 ^ h) d (2 * i)).length + (wl tp a (2 ^ h) d (2 * i + 1)).length := by
        by_cases h3 : tp (2 * i) ≤ a
        · have h4 : ¬ wl tp a (2 ^ h) d (2 * i + 1) = [] := fun h => by have := b1.1 h; omega
          have := List.length_pos_iff.2 h4; omega
        · have h4 : ¬ wl tp a (2 ^ h) d (2 * i) = [] := fun h => h3 (a1.1 h)
          have := List.length_pos_iff.2 h4; omega
      generalize (wl tp a (2 ^ h) d (2 * i)).length = x at *
      generalize (wl tp a (2 ^ h) d (2 * i + 1)).length = y at *
      have e1 : 2 * (d + 1) * (x + y) = 2 * d * x + 2 * d * y + 2 * (x + y) := by
        rw [Nat.mul_add 2 d 1, Nat.mul_one, Nat.add_mul, Nat.mul_add (2 * d)]
      omega

/-- The law on how many are looked at. -/
theorem looks_law {n h : Nat} {tp : Nat → Int} {lf : Nat → Leaf} (ok : TopsOk n h tp lf) (a : Int) :
    ((sl tp a h).length = 0 → lk tp (max a 0) h 1 = 1) ∧ ((sl tp a h).length ≠ 0 → lk tp (max a 0) h 1 ≤ 1 + 12 * (sl tp a h).length ∧ 1 ≤ lk tp (max a 0) h 1 ∧ (n = 1 → lk tp (max a 0) h 1 = 1) ∧ (n ≠ 1 → 3 ≤ lk tp (max a 0) h 1)) := by
  obtain ⟨h1, h2, h3, h4, h5⟩ := lk_bounds ok (max a 0) h 0 1 (by omega) (by simp) (by simp)
  rw [show wl tp (max a 0) (2 ^ h) h 1 = sl tp a h from rfl] at h1 h2
  refine ⟨fun h0 => h4 (h1.1 (List.eq_nil_of_length_eq_zero h0)), fun h0 => ⟨?_, h3, fun hn => ?_, fun hn => ?_⟩⟩
  · have := Nat.mul_le_mul_right (sl tp a h).length (show 2 * h ≤ 12 by have := ok.h6'; omega)
    omega
  · have h6 := ok.hn
    have : h = 0 := by
      rcases Nat.eq_zero_or_pos h with h | h
      · exact h
      · have := Nat.pow_le_pow_right (n := 2) (by omega) h; omega
    subst this
    rfl
  · have hgt : max a 0 < tp 1 := by
      rcases Int.lt_or_le (max a 0) (tp 1) with h | h
      · exact h
      · exact absurd (by rw [h1.2 h]; rfl) h0
    refine h5 hgt ?_
    rcases Nat.eq_zero_or_pos h with h | h
    · subst h; have h7 := ok.nh; have h8 := ok.n1; rw [Nat.pow_zero] at h7; omega
    · exact h
end Go.Proofs.Ytaicpgkoailnkaa
