/- Package sheets: what a book is in memory. -/
import Derived.Test.YtaicpgkoailnkaaSheetA
namespace Go.Proofs.Ytaicpgkoailnkaa
open Go.RowKit

/-- A block that is just so many cells, by number. -/
def Blf (w : World) (b : Nat) (t : TypeId) (n : Nat) (f : Nat → Value) : Prop := Blk w b t ((List.range n).map f)
def upd (f : Nat → Value) (i : Nat) (u : Value) : Nat → Value := fun j => if j = i then u else f j
section
variable {w w' : World} {b n : Nat} {t : TypeId} {f : Nat → Value}
theorem Blf.cell (h : Blf w b t n f) {i : Nat} (hi : i < n) : w.cell? ⟨b, i, none⟩ = some (f i) := by
  rw [Blk.cell h i]; simp [hi]
theorem Blf.frozen (h : Blf w b t n f) (i : Nat) : w.frozen? ⟨b, i, none⟩ = false := Blk.frozen h i
theorem Blf.lt (h : Blf w b t n f) : b < w.heap.size := Blk.lt h
theorem Blf.fr (h : Blf w b t n f) {S : List Nat} (hf : Fr S w w') (hb : b ∉ S) : Blf w' b t n f := Blk.fr h hf hb
theorem Blf.set_ (h : Blf w b t n f) (i : Nat) (u : Value) : Blf (w.setCell ⟨b, i, none⟩ u) b t n (upd f i u) := by
  have h1 := Blk.set_ h i u
  have e : ((List.range n).map f).set i u = (List.range n).map (upd f i u) := by
    apply List.ext_getElem?
    intro j
    rw [List.getElem?_set]
    by_cases hj : i = j
    · subst hj
      by_cases hi : i < n <;> simp [hi, upd]
    · rw [if_neg hj]
      by_cases hi : j < n
      · simp [hi, upd, show j ≠ i from fun e => hj e.symm]
      · simp [hi]
  rw [e] at h1
  exact h1
theorem Blf.far (h : Blf w b t n f) {c o : Nat} {u : Value} (hb : b ≠ c) : Blf (w.setCell ⟨c, o, none⟩ u) b t n f := Blk.far' h hb
theorem Blf.alloc (h : Blf w b t n f) (o : Obj) : Blf (w.alloc o) b t n f := Blk.alloc h o
theorem Blf.drew (h : Blf w b t n f) : Blf w.drew b t n f := h
theorem Blf.congr (h : Blf w b t n f) {g : Nat → Value} (e : ∀ i, i < n → g i = f i) : Blf w b t n g := by
  have : (List.range n).map g = (List.range n).map f := List.map_congr_left (fun i hi => e i (List.mem_range.1 hi))
  unfold Blf; rw [this]; exact h
theorem Blf.of_list {cs : List Value} (h : Blk w b t cs) (hn : cs.length = n) (hf : ∀ i, i < n → cs[i]? = some (f i)) : Blf w b t n f := by
  have : cs = (List.range n).map f := by
    apply List.ext_getElem?
    intro j
    by_cases hj : j < n
    · rw [hf j hj]; simp [hj]
    · rw [List.getElem?_eq_none (by omega), List.getElem?_eq_none (by simp; omega)]
  unfold Blf; rw [← this]; exact h
end

/-- A sheet as it lies: its stamp, its bytes. -/
structure Leaf where
  at_ : Int
  A : Option Addr
  cap : Nat
  xs : List Int

def pcell (lf : Nat → Leaf) (k i : Nat) : Value := if i % 2 = 0 then .int .i64 (lf (8 * k + i / 2)).at_ else .slice (lf (8 * k + i / 2)).A (lf (8 * k + i / 2)).xs.length (lf (8 * k + i / 2)).cap

/-- The cells of a tree (n sheets, 2 ^ h leaves, the pieces, the stamps). -/
structure TreeF (f : Nat → Value) (n h : Nat) (pc : Nat → Nat) (tp : Nat → Int) : Prop where
  n : f 0 = .int .i64 (n : Nat)
  wd : f 1 = .int .i64 ((2 ^ h : Nat) : Int)
  pc : ∀ k, k < 8 → f (2 + k) = .pointer (some ⟨pc k, 0, none⟩)
  tp : ∀ i, i < 128 → f (10 + i) = .int .i64 (tp i)

/-- The stamps stand as they must. -/
structure TopsOk (n h : Nat) (tp : Nat → Int) (lf : Nat → Leaf) : Prop where
  n1 : 1 ≤ n
  nh : n ≤ 2 ^ h
  hn : 2 ^ h < 2 * n
  h6 : 2 ^ h ≤ 64
  leaf : ∀ j, j < 2 ^ h → tp (2 ^ h + j) = (lf j).at_
  node : ∀ i, 1 ≤ i → i < 2 ^ h → tp i = max (tp (2 * i)) (tp (2 * i + 1))
  beyond : ∀ j, n ≤ j → j < 64 → (lf j).at_ = 0
  lo : ∀ j, j < 64 → 0 ≤ (lf j).at_ ∧ (lf j).at_ ≤ 1099511627776

/-- The pieces, and the bytes of each sheet. -/
structure Leaves (w : World) (pc : Nat → Nat) (lf : Nat → Leaf) : Prop where
  blk : ∀ k, k < 8 → Blf w (pc k) 81 16 (pcell lf k)
  row : ∀ j, j < 64 → Row w 5 1 (lf j).A (lf j).xs.length (lf j).cap (bvals (lf j).xs)
  byt : ∀ j, j < 64 → Bytes (lf j).xs ∧ (lf j).xs.length ≤ 2304

/-- A book: block b. -/
structure Bk (w : World) (b n h : Nat) (pc : Nat → Nat) (tp : Nat → Int) (ow : Nat → Bool) (lf : Nat → Leaf) : Prop where
  blk : ∃ f, Blf w b 77 146 f ∧ TreeF f n h pc tp ∧ ∀ k, k < 8 → f (138 + k) = .bool (ow k)
  lvs : Leaves w pc lf
  ok : TopsOk n h tp lf
  inj : ∀ i j, i < 8 → j < 8 → pc i = pc j → i = j

/-- How many nodes are looked at from one on that stands d levels above the leaves. -/
def lk (tp : Nat → Int) (a : Int) : Nat → Nat → Nat
  | 0, _ => 1
  | d + 1, i => if tp i ≤ a then 1 else 1 + lk tp a d (2 * i) + lk tp a d (2 * i + 1)
theorem lk_le (tp : Nat → Int) (a : Int) : ∀ d i, lk tp a d i < 2 ^ (d + 1)
  | 0, _ => by simp [lk]
  | d + 1, i => by
    have h1 := lk_le tp a d (2 * i)
    have h2 := lk_le tp a d (2 * i + 1)
    have h3 : 2 ^ (d + 1 + 1) = 2 * 2 ^ (d + 1) := by rw [Nat.pow_succ]; omega
    unfold lk
    split
    · have : 1 < 2 ^ (d + 1 + 1) := Nat.one_lt_two_pow (by omega); omega
    · omega

set_option maxRecDepth 100000 in
theorem looks_any (b h : Nat) (tp : Nat → Int) (a : Int) (w : World) (h6 : h ≤ 6) (c1 : w.cell? ⟨b, 1, none⟩ = some (.int .i64 ((2 ^ h : Nat) : Int))) (ct : ∀ i, i < 128 → w.cell? ⟨b, 10 + i, none⟩ = some (.int .i64 (tp i))) :
    ∀ (d e node : Nat), e + d = h → 2 ^ e ≤ node → node < 2 * 2 ^ e → Calls Try.prog 35 #[.pointer (some ⟨b, 0, none⟩), .int .i64 (node : Nat), .int .i64 a] w fun r w' => r = .returned (.int .i64 ((lk tp a d node : Nat) : Int)) ∧ w' = w := by
  intro d
  induction d with
  | zero =>
    intro e node he h1 h2
    have t1 : decide (2 ^ h ≤ node) = true := by simp; rw [← he]; exact h1
    have t2 : decide (((2 ^ h : Nat) : Int) ≤ (node : Int)) = true := by simp at t1 ⊢; exact_mod_cast t1
    have q := lk tp a 0 node
    generalize hW : 2 ^ h = W at *
    go_enter Try.func35, Try.ntmps35
    go_wp2
    go_ret
    exact ⟨rfl, rfl⟩
  | succ d ih =>
    intro e node he h1 h2
    have hp : 2 ^ (e + 1) = 2 * 2 ^ e := by rw [Nat.pow_succ]; omega
    have hle : 2 ^ (e + 1) ≤ 2 ^ h := Nat.pow_le_pow_right (by omega) (by omega)
    have h64 : 2 ^ h ≤ 2 ^ 6 := Nat.pow_le_pow_right (by omega) h6
    have hnode : node < 64 := by omega
    have i1 := ih (e + 1) (2 * node) (by omega) (by omega) (by omega)
    have i2 := ih (e + 1) (2 * node + 1) (by omega) (by omega) (by omega)
    have l1 := lk_le tp a d (2 * node)
    have l2 := lk_le tp a d (2 * node + 1)
    have l3 : 2 ^ (d + 1) ≤ 2 ^ 6 := Nat.pow_le_pow_right (by omega) (by omega)
    have t1 : decide (2 ^ h ≤ node) = false := by simp; omega
    have cn := ct node (by omega)
    have k0 : (0 : Int) ≤ (node : Int) := by omega
    have k1 : (node : Int) < 128 := by omega
    have e1 : IntKind.i64.wrap (2 * (node : Int)) = 2 * (node : Int) := IntWalk.i64_in _ (by omega)
    have e2 : IntKind.i64.wrap (2 * (node : Int) + 1) = 2 * (node : Int) + 1 := IntWalk.i64_in _ (by omega)
    unfold lk
    generalize lk tp a d (2 * node) = x at *
    generalize lk tp a d (2 * node + 1) = y at *
    have e3 : IntKind.i64.wrap (1 + (x : Int)) = 1 + (x : Int) := IntWalk.i64_in _ (by omega)
    have e4 : IntKind.i64.wrap (1 + (x : Int) + (y : Int)) = 1 + (x : Int) + (y : Int) := IntWalk.i64_in _ (by omega)
    rw [show ((2 * node : Nat) : Int) = 2 * (node : Int) by omega] at i1
    rw [show ((2 * node + 1 : Nat) : Int) = 2 * (node : Int) + 1 by omega] at i2
    have I1 := Lib.hid i1
    have I2 := Lib.hid i2
    clear ih i1 i2 l1 l2 l3 hle hp h64 ct
    generalize hW : 2 ^ h = W at *
    by_cases ht : tp node ≤ a
    · have t2 : decide (tp node ≤ a) = true := by simpa using ht
      rw [if_pos ht]
      go_enter Try.func35, Try.ntmps35
      go_wp2
      go_ret
      exact ⟨rfl, rfl⟩
    · have t2 : decide (tp node ≤ a) = false := by simpa using ht
      rw [if_neg ht]
      go_enter Try.func35, Try.ntmps35
      go_wp2_with (first | (go_at_call 35; (with_reducible refine I1.out.mono ?_); rintro r w' ⟨rfl, rfl⟩) | (go_at_call 35; (with_reducible refine I2.out.mono ?_); rintro r w' ⟨rfl, rfl⟩))
      go_ret
      refine ⟨?_, rfl⟩
      simp
end Go.Proofs.Ytaicpgkoailnkaa
