/- A book as one thing: what it may write, what it reads, what its sheets are; what each call makes of it. -/
import Derived.Test.YtaicpgkoailnkaaSheetR
namespace Go.Proofs.Ytaicpgkoailnkaa
open Go.RowKit

structure Boo where
  b : Nat
  n : Nat
  h : Nat
  pc : Nat → Nat
  tp : Nat → Int
  ow : Nat → Bool
  lf : Nat → Leaf
def Boo.At (B : Boo) (w : World) : Prop := Bk w B.b B.n B.h B.pc B.tp B.ow B.lf
/-- The blocks that it may write. -/
def Boo.fp (B : Boo) : List Nat := B.b :: ((List.range 8).filter B.ow).map B.pc
/-- The blocks that it reads. -/
def Boo.rd (B : Boo) : List Nat := B.b :: lies B.pc B.lf
/-- Its sheets: stamps and bytes. -/
def Boo.con (B : Boo) : Nat → Int × List Int := fun j => ((B.lf j).at_, (B.lf j).xs)

theorem Boo.fp_rd {B : Boo} {x : Nat} (h : x ∈ B.fp) : x ∈ B.rd := by
  rcases List.mem_cons.1 h with rfl | h
  · exact List.mem_cons_self
  · obtain ⟨k, hk, rfl⟩ := List.mem_map.1 h
    exact List.mem_cons_of_mem _ (List.mem_append_left _ (List.mem_map.2 ⟨k, (List.mem_filter.1 hk).1, rfl⟩))
theorem Boo.At.rd_lt {B : Boo} {w : World} (h : B.At w) : ∀ x ∈ B.rd, x < w.heap.size := fun x hx => by
  have := Bk.lt h
  rcases List.mem_cons.1 hx with rfl | hx
  · exact this.1
  · exact this.2 x hx
theorem Boo.At.fp_lt {B : Boo} {w : World} (h : B.At w) : ∀ x ∈ B.fp, x < w.heap.size := fun x hx => h.rd_lt x (Boo.fp_rd hx)
theorem Boo.At.fr {B : Boo} {w w' : World} (h : B.At w) {S : List Nat} (hf : Fr S w w') (hs : ∀ x ∈ B.rd, x ∉ S) : B.At w' :=
  Bk.fr h hf (hs _ List.mem_cons_self) (fun k hk => hs _ (List.mem_cons_of_mem _ (List.mem_append_left _ (List.mem_map.2 ⟨k, List.mem_range.2 hk, rfl⟩))))
    (fun j hj x hx => hs _ (List.mem_cons_of_mem _ (List.mem_append_right _ (List.mem_flatMap.2 ⟨j, List.mem_range.2 hj, hx⟩))))
theorem Boo.At.fr0 {B : Boo} {w w' : World} (h : B.At w) (hf : Fr [] w w') : B.At w' := h.fr hf (by simp)
theorem Boo.At.nc {B : Boo} {w w' : World} {n₀ : Nat} (h : B.At w) (hn : NC n₀ w w') : B.At w' := Bk.nc h hn
/-- The book's own block is none of those that its sheets lie in. -/
theorem Boo.At.ne {B : Boo} {w : World} (h : B.At w) : B.b ∉ lies B.pc B.lf := fun hm => by
  obtain ⟨⟨f, g1, _⟩, g3, _, _⟩ := id h
  rcases List.mem_append.1 hm with hm | hm
  · obtain ⟨k, hk, e⟩ := List.mem_map.1 hm
    exact Blk.ne (g3.blk k (by simpa using hk)) g1 (by decide) e
  · obtain ⟨j, hj, hx⟩ := List.mem_flatMap.1 hm
    exact Row.ne_blk (g3.row j (by simpa using hj)) g1 (by decide) _ hx rfl

/-- A book turned: of what lay only its own blocks may have turned. -/
structure Turn (w w' : World) (B B' : Boo) : Prop where
  at_ : B'.At w'
  fr : Fr B.fp w w'
  fp : ∀ x ∈ B'.fp, x ∈ B.fp ∨ w.heap.size ≤ x
  rd : ∀ x ∈ B'.rd, x ∈ B.rd ∨ w.heap.size ≤ x
  b : B'.b = B.b
  n : B'.n = B.n
theorem Turn.of_fr {w w' : World} {B : Boo} (h : B.At w) (hf : Fr [] w w') : Turn w w' B B := ⟨h.fr0 hf, hf.mono (by simp), fun _ h => .inl h, fun _ h => .inl h, rfl, rfl⟩
theorem Turn.refl {w : World} {B : Boo} (h : B.At w) : Turn w w B B := .of_fr h (Fr.refl _ _)
theorem Turn.trans {w w1 w' : World} {B B1 B' : Boo} (h : Turn w w1 B B1) (k : Turn w1 w' B1 B') : Turn w w' B B' :=
  ⟨k.at_, h.fr.trans' k.fr h.fp, fun x hx => (k.fp x hx).elim (h.fp x) (fun hl => .inr (by have := h.fr.size; omega)), fun x hx => (k.rd x hx).elim (h.rd x) (fun hl => .inr (by have := h.fr.size; omega)), k.b.trans h.b, k.n.trans h.n⟩

/-- Two books keep off each other. -/
structure Apart (B C : Boo) : Prop where
  l : ∀ x ∈ C.rd, x ∉ B.fp
  r : ∀ x ∈ B.rd, x ∉ C.fp
theorem Apart.symm {B C : Boo} (h : Apart B C) : Apart C B := ⟨h.r, h.l⟩
theorem Turn.other {w w' : World} {B B' C : Boo} (h : Turn w w' B B') (hC : C.At w) (ha : Apart B C) : C.At w' ∧ Apart B' C := by
  have hl := hC.rd_lt
  have hl2 := hC.fp_lt
  refine ⟨hC.fr h.fr ha.l, fun x hx hm => (h.fp x hm).elim (ha.l x hx) (fun hn => by have := hl x hx; omega), fun x hx hm => (h.rd x hx).elim (fun h1 => ha.r x h1 hm) (fun hn => by have := hl2 x hm; omega)⟩
/-- Blocks that keep off a book keep off it turned. -/
theorem Turn.off {w w' : World} {B B' : Boo} (h : Turn w w' B B') {x : Nat} (hx : x ∉ B.fp) (hl : x < w.heap.size) : x ∉ B'.fp := fun hm => (h.fp x hm).elim hx (fun hn => by omega)

/-- One sheet laid down. -/
def putC (c : Nat → Int × List Int) (num : Nat) (a : Int) (xs : List Int) : Nat → Int × List Int := fun j => if j = num then (a, xs) else c j

theorem Wrote.boo {w w' : World} {B : Boo} {num : Nat} {a : Int} {xs : List Int} (hn : num < 64) (h : Wrote w w' B.b B.n B.h num B.pc B.ow B.lf a xs) : ∃ B', Turn w w' B B' ∧ B'.con = putC B.con num a xs := by
  obtain ⟨q, tp', A', cap', h1, h2, h3, h4⟩ := h
  have hk8 : num / 8 < 8 := by omega
  refine ⟨⟨B.b, B.n, B.h, updN B.pc (num / 8) q, tp', updB B.ow (num / 8) true, updL B.lf num ⟨a, A', cap', xs⟩⟩, ⟨h1, h2.mono (fun x hx => ?_), fun x hx => ?_, fun x hx => ?_, rfl, rfl⟩, ?_⟩
  · rcases List.mem_cons.1 hx with rfl | hx
    · exact List.mem_cons_self
    · split at hx
      · rename_i how
        simp only [List.mem_singleton] at hx
        subst hx
        exact List.mem_cons_of_mem _ (List.mem_map.2 ⟨_, List.mem_filter.2 ⟨List.mem_range.2 hk8, how⟩, rfl⟩)
      · cases hx
  · rcases List.mem_cons.1 hx with rfl | hx
    · exact .inl List.mem_cons_self
    · obtain ⟨k, hk, rfl⟩ := List.mem_map.1 hx
      obtain ⟨hk1, hk2⟩ := List.mem_filter.1 hk
      simp only [updN, updB] at hk2 ⊢
      by_cases e : k = num / 8
      · rw [if_pos e]
        by_cases how : B.ow (num / 8) = true
        · rw [if_pos how] at h3
          left
          rw [h3]
          exact List.mem_cons_of_mem _ (List.mem_map.2 ⟨_, List.mem_filter.2 ⟨List.mem_range.2 hk8, how⟩, rfl⟩)
        · rw [if_neg how] at h3
          exact .inr h3
      · rw [if_neg e] at hk2 ⊢
        exact .inl (List.mem_cons_of_mem _ (List.mem_map.2 ⟨k, List.mem_filter.2 ⟨hk1, hk2⟩, rfl⟩))
  · rcases List.mem_cons.1 hx with rfl | hx
    · exact .inl List.mem_cons_self
    · rcases List.mem_append.1 hx with hx | hx
      · obtain ⟨k, hk, rfl⟩ := List.mem_map.1 hx
        simp only [updN]
        by_cases e : k = num / 8
        · rw [if_pos e]
          by_cases how : B.ow (num / 8) = true
          · rw [if_pos how] at h3
            left
            rw [h3]
            exact List.mem_cons_of_mem _ (List.mem_append_left _ (List.mem_map.2 ⟨_, List.mem_range.2 hk8, rfl⟩))
          · rw [if_neg how] at h3
            exact .inr h3
        · rw [if_neg e]
          exact .inl (List.mem_cons_of_mem _ (List.mem_append_left _ (List.mem_map.2 ⟨k, hk, rfl⟩)))
      · obtain ⟨j, hj, hx⟩ := List.mem_flatMap.1 hx
        simp only [updL] at hx
        by_cases e : j = num
        · rw [if_pos e] at hx
          exact .inr (h4 x hx)
        · rw [if_neg e] at hx
          exact .inl (List.mem_cons_of_mem _ (List.mem_append_right _ (List.mem_flatMap.2 ⟨j, hj, hx⟩)))
  · funext j
    simp only [Boo.con, putC, updL]
    split <;> rfl

/-! ### The greatest stamp -/
/-- The greatest stamp of n sheets. -/
def lastC (c : Nat → Int × List Int) : Nat → Int
  | 0 => 0
  | n + 1 => max (lastC c n) (c n).1
theorem lastC_ge (c : Nat → Int × List Int) : ∀ (n j : Nat), j < n → (c j).1 ≤ lastC c n
  | n + 1, j, hj => by
    rw [lastC]
    by_cases e : j = n
    · subst e; omega
    · have := lastC_ge c n j (by omega); omega
theorem lastC_is (c : Nat → Int × List Int) : ∀ (n : Nat), lastC c n = 0 ∨ ∃ j, j < n ∧ (c j).1 = lastC c n
  | 0 => .inl rfl
  | n + 1 => by
    rw [lastC]
    rcases Int.le_total (lastC c n) (c n).1 with h | h
    · right; exact ⟨n, by omega, by omega⟩
    · rcases lastC_is c n with h0 | ⟨j, hj, he⟩
      · left; omega
      · right; exact ⟨j, by omega, by omega⟩
theorem lastC_0 (c : Nat → Int × List Int) : ∀ n, 0 ≤ lastC c n
  | 0 => Int.le_refl _
  | n + 1 => by have := lastC_0 c n; rw [lastC]; omega

theorem top_ge {n h : Nat} {tp : Nat → Int} {lf : Nat → Leaf} (ok : TopsOk n h tp lf) : ∀ (d e i j : Nat), e + d = h → 2 ^ e ≤ i → i < 2 * 2 ^ e → i * 2 ^ d ≤ 2 ^ h + j → 2 ^ h + j < (i + 1) * 2 ^ d → (lf j).at_ ≤ tp i
  | 0, e, i, j, he, h1, h2, h3, h4 => by
    have hh : e = h := by omega
    subst hh
    simp only [Nat.pow_zero, Nat.mul_one] at h3 h4
    have := ok.leaf j (by omega)
    rw [show 2 ^ e + j = i by omega] at this
    omega
  | d + 1, e, i, j, he, h1, h2, h3, h4 => by
    have hp : 2 ^ (e + 1) = 2 * 2 ^ e := by rw [Nat.pow_succ]; omega
    have hle : 2 ^ (e + 1) ≤ 2 ^ h := Nat.pow_le_pow_right (by omega) (by omega)
    have hn := ok.node i (by have := Nat.one_le_two_pow (n := e); omega) (by omega)
    have e1 : i * 2 ^ (d + 1) = 2 * i * 2 ^ d := by rw [Nat.pow_succ, Nat.mul_comm (2 ^ d) 2, ← Nat.mul_assoc, Nat.mul_comm i 2]
    have e2 : (i + 1) * 2 ^ (d + 1) = (2 * i + 1 + 1) * 2 ^ d := by rw [Nat.pow_succ, Nat.mul_comm (2 ^ d) 2, ← Nat.mul_assoc, Nat.mul_comm (i + 1) 2]; rfl
    have e3 : (2 * i + 1) * 2 ^ d = 2 * i * 2 ^ d + 2 ^ d := by rw [Nat.add_mul, Nat.one_mul]
    rw [e1] at h3
    rw [e2] at h4
    by_cases hc : 2 ^ h + j < (2 * i + 1) * 2 ^ d
    · have := top_ge ok d (e + 1) (2 * i) j (by omega) (by omega) (by omega) h3 hc; omega
    · have := top_ge ok d (e + 1) (2 * i + 1) j (by omega) (by omega) (by omega) (by omega) h4; omega
theorem top_is {n h : Nat} {tp : Nat → Int} {lf : Nat → Leaf} (ok : TopsOk n h tp lf) : ∀ (d e i : Nat), e + d = h → 2 ^ e ≤ i → i < 2 * 2 ^ e → ∃ j, j < 2 ^ h ∧ (lf j).at_ = tp i
  | 0, e, i, he, h1, h2 => by
    have hh : e = h := by omega
    subst hh
    have := ok.leaf (i - 2 ^ e) (by omega)
    rw [show 2 ^ e + (i - 2 ^ e) = i by omega] at this
    exact ⟨i - 2 ^ e, by omega, this.symm⟩
  | d + 1, e, i, he, h1, h2 => by
    have hp : 2 ^ (e + 1) = 2 * 2 ^ e := by rw [Nat.pow_succ]; omega
    have hle : 2 ^ (e + 1) ≤ 2 ^ h := Nat.pow_le_pow_right (by omega) (by omega)
    have hn := ok.node i (by have := Nat.one_le_two_pow (n := e); omega) (by omega)
    rcases Int.le_total (tp (2 * i)) (tp (2 * i + 1)) with hc | hc
    · obtain ⟨j, hj, he2⟩ := top_is ok d (e + 1) (2 * i + 1) (by omega) (by omega) (by omega)
      exact ⟨j, hj, by omega⟩
    · obtain ⟨j, hj, he2⟩ := top_is ok d (e + 1) (2 * i) (by omega) (by omega) (by omega)
      exact ⟨j, hj, by omega⟩

theorem top_last {n h : Nat} {tp : Nat → Int} {lf : Nat → Leaf} (ok : TopsOk n h tp lf) : tp 1 = lastC (fun j => ((lf j).at_, (lf j).xs)) n := by
  have hW := ok.h6
  have hnh := ok.nh
  refine Int.le_antisymm ?_ ?_
  · obtain ⟨j, hj, he⟩ := top_is ok h 0 1 (by omega) (by simp) (by simp)
    by_cases hjn : j < n
    · have := lastC_ge (fun j => ((lf j).at_, (lf j).xs)) n j hjn
      simp only at this; omega
    · have := ok.beyond j (by omega) (by omega)
      have := lastC_0 (fun j => ((lf j).at_, (lf j).xs)) n
      omega
  · rcases lastC_is (fun j => ((lf j).at_, (lf j).xs)) n with h0 | ⟨j, hj, he⟩
    · rw [h0]
      have h1 := top_ge ok h 0 1 0 (by omega) (by simp) (by simp) (by simp) (by have := Nat.one_le_two_pow (n := h); omega)
      have := (ok.lo 0 (by omega)).1
      omega
    · rw [← he]
      exact top_ge ok h 0 1 j (by omega) (by simp) (by simp) (by omega) (by omega)

theorem Boo.At.last {B : Boo} {w : World} (h : B.At w) : B.tp 1 = lastC B.con B.n := top_last h.ok
theorem Boo.At.n64 {B : Boo} {w : World} (h : B.At w) : 1 ≤ B.n ∧ B.n ≤ 64 := by have := h.ok.n1; have := h.ok.nh; have := h.ok.h6; omega
theorem Boo.At.stamp {B : Boo} {w : World} (h : B.At w) {j : Nat} (hj : j < 64) : 0 ≤ (B.con j).1 ∧ (B.con j).1 ≤ 1099511627776 := h.ok.lo j hj
theorem Boo.At.data {B : Boo} {w : World} (h : B.At w) {j : Nat} (hj : j < 64) : Bytes (B.con j).2 ∧ (B.con j).2.length ≤ 2304 := h.lvs.byt j hj

/-! ### The calls -/
theorem Last_boo (B : Boo) (w : World) (h : B.At w) : Calls Try.prog 22 #[.pointer (some ⟨B.b, 0, none⟩)] w fun r w' => r = .returned (.int .i64 (lastC B.con B.n)) ∧ w' = w := by
  have hl := h.last
  obtain ⟨_, _, _, ct, _⟩ := Bk.cells h
  rw [← hl]
  exact Last_any B.b (B.tp 1) w (ct 1 (by omega))

/-- What Put leaves of a book's sheets. -/
def putA (c : Nat → Int × List Int) (n : Nat) (num a : Int) (xs : List Int) : Nat → Int × List Int :=
  if putE n (lastC c n) num a xs.length = 0 ∧ (c num.toNat).2 ≠ xs then putC c num.toNat a xs else c
theorem putE_ok' {n : Nat} {last num a : Int} {len : Nat} (h : putE n last num a len = 0) : 0 ≤ num ∧ num < n := by
  unfold putE at h
  split at h
  · omega
  · rename_i h1; simpa using h1

theorem Put_boo (B : Boo) (num a : Int) (A : Option Addr) (cap : Nat) (xs : List Int) (w : World) (hB : B.At w) (hx : Rds w A (bvals xs)) (hx1 : Bytes xs) (hA : bvals xs ≠ [] → ∀ x ∈ fpOf A, x ∉ B.fp) :
    Calls Try.prog 10 #[.pointer (some ⟨B.b, 0, none⟩), .int .i64 num, .int .i64 a, .slice A xs.length cap] w fun r w' => r = .returned (.int .i64 (putE B.n (lastC B.con B.n) num a xs.length)) ∧
      ∃ B', Turn w w' B B' ∧ B'.con = putA B.con B.n num a xs := by
  have hn := hB.n64
  have hl := hB.last
  refine (Put_any B.b B.n B.h num a B.pc B.tp B.ow B.lf A cap xs w hB hx hx1 (fun h x hm e => hA h x hm (e ▸ List.mem_cons_self))).mono ?_
  rw [hl]
  rintro r w' ⟨rfl, (⟨rfl, h0⟩ | ⟨h0, h1, hw⟩)⟩
  · refine ⟨rfl, B, Turn.refl hB, ?_⟩
    unfold putA
    rw [if_neg]
    rintro ⟨h2, h3⟩
    exact h3 (h0 h2)
  · have := putE_ok' h0
    obtain ⟨B', hT, hc⟩ := Wrote.boo (B := B) (by omega) hw
    refine ⟨rfl, B', hT, ?_⟩
    rw [hc]
    unfold putA
    rw [if_pos ⟨h0, h1⟩]

theorem write_boo (B : Boo) (num : Nat) (a : Int) (A : Option Addr) (cap : Nat) (xs : List Int) (w : World) (hB : B.At w) (hn : num < B.n) (hx : Rds w A (bvals xs)) (hx1 : Bytes xs) (hx2 : xs.length ≤ 2304) (ha : 0 ≤ a ∧ a ≤ 1099511627776) (hA : bvals xs ≠ [] → ∀ x ∈ fpOf A, x ∉ B.fp) :
    Calls Try.prog 38 #[.pointer (some ⟨B.b, 0, none⟩), .int .i64 (num : Nat), .int .i64 a, .slice A xs.length cap] w fun r w' => r = .returned (.tuple #[]) ∧ ∃ B', Turn w w' B B' ∧ B'.con = putC B.con num a xs := by
  have hn64 := hB.n64
  refine (write_any B.b B.n B.h num B.pc B.tp B.ow B.lf a A cap xs w hB hn hx hx1 hx2 ha (fun h x hm e => hA h x hm (e ▸ List.mem_cons_self))).mono ?_
  rintro r w' ⟨rfl, hw⟩
  exact ⟨rfl, Wrote.boo (by omega) hw⟩

/-- A book whose pieces are all shared. -/
def Boo.shut (B : Boo) : Boo := { B with ow := fun _ => false }
theorem Boo.shut_fp (B : Boo) : B.shut.fp = [B.b] := by simp [Boo.fp, Boo.shut]
theorem Boo.shut_rd (B : Boo) : B.shut.rd = B.rd := rfl
theorem Turn.shut {w w' : World} {B : Boo} (h : B.shut.At w') (hf : Fr [B.b] w w') : Turn w w' B B.shut :=
  ⟨h, hf.mono (fun x hx => by simp at hx; subst hx; exact List.mem_cons_self), fun x hx => by rw [Boo.shut_fp] at hx; simp at hx; subst hx; exact .inl List.mem_cons_self, fun x hx => .inl hx, rfl, rfl⟩

theorem Snap_boo (B : Boo) (w : World) (hB : B.At w) : Calls Try.prog 15 #[.pointer (some ⟨B.b, 0, none⟩)] w fun r w' => r = .returned (.pointer (some ⟨w.heap.size, 0, none⟩)) ∧ Turn w w' B B.shut ∧
    ({ B.shut with b := w.heap.size } : Boo).At w' ∧ Apart B.shut { B.shut with b := w.heap.size } := by
  have hlt := hB.rd_lt
  have hne := hB.ne
  refine (Snap_any B.b B.n B.h B.pc B.tp B.ow B.lf w hB).mono ?_
  rintro r w' ⟨rfl, h1, h2, h3⟩
  refine ⟨rfl, Turn.shut h1 h3, h2, ⟨fun x hx => ?_, fun x hx => ?_⟩⟩
  · rw [Boo.shut_fp]
    simp only [List.mem_singleton]
    rcases List.mem_cons.1 hx with rfl | hx
    · have := hlt B.b List.mem_cons_self
      show w.heap.size ≠ B.b
      omega
    · rintro rfl
      exact hne hx
  · have e : ({ B.shut with b := w.heap.size } : Boo).fp = [w.heap.size] := by simp [Boo.fp, Boo.shut]
    rw [e]
    simp only [List.mem_singleton]
    have := hlt x hx
    omega
end Go.Proofs.Ytaicpgkoailnkaa
