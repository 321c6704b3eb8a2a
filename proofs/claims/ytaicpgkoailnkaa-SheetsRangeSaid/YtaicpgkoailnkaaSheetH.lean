/- Package sheets, walked: the walk down the tree of stamps. -/
import Derived.Test.YtaicpgkoailnkaaSheetG
namespace Go.Proofs.Ytaicpgkoailnkaa
open Go.RowKit Go.Shelf

/-- The sheets that a walk from a node comes to, d levels above the leaves of a tree of W leaves. -/
def wl (tp : Nat → Int) (a : Int) (W : Nat) : Nat → Nat → List Nat
  | 0, i => if tp i ≤ a then [] else [i - W]
  | d + 1, i => if tp i ≤ a then [] else wl tp a W d (2 * i) ++ wl tp a W d (2 * i + 1)

/-- How a walk ends: at its end, or left. -/
def Went (J : Nat → List Nat → World → Prop) (Jx : World → Prop) (k : Nat) (F : List Nat) (A : World) (e : Ending) (B : World) : Prop :=
  ∃ bb, e = .returned (.bool bb) ∧ ((bb = true ∧ ∃ F', J k F' B ∧ Kept F A B ∧ ∀ b ∈ F', b ∈ F ∨ A.heap.size ≤ b) ∨ (bb = false ∧ Jx B))

theorem Row.kept {F : List Nat} {A B : World} {e : TypeId} {size : Nat} {P : Option Addr} {n cap : Nat} {xs : List Value} (h : Row A e size P n cap xs) (hk : Kept F A B) (hF : ∀ b ∈ fpOf P, b ∉ F) : Row B e size P n cap xs := by
  rcases h.cases with ⟨rfl, rfl, rfl, rfl⟩ | ⟨g, cur, rfl, hg, h1, h2, h3, h4⟩
  · exact Row.nil _ _ _
  · exact Row.of_blk (hk.blk hg (hF g (by simp [fpOf]))) h1 h2 h3 h4
theorem Leaves.kept {F : List Nat} {A B : World} {pc : Nat → Nat} {lf : Nat → Leaf} (h : Leaves A pc lf) (hk : Kept F A B) (h1 : ∀ k, k < 8 → pc k ∉ F) (h2 : ∀ j, j < 64 → ∀ x ∈ fpOf (lf j).A, x ∉ F) : Leaves B pc lf :=
  ⟨fun k hk8 => hk.blk (h.blk k hk8) (h1 k hk8), fun j hj => (h.row j hj).kept hk (h2 j hj), h.byt⟩

/-- What a walk reads: the copied tree, the pieces, the yield's box. -/
structure Reads (A : World) (now yb l n h : Nat) (pc : Nat → Nat) (tp : Nat → Int) (lf : Nat → Leaf) : Prop where
  tree : ∃ f, Blf A now 74 138 f ∧ TreeF f n h pc tp
  lvs : Leaves A pc lf
  yld : Blk A yb 82 [.func (.yield l) #[] #[]]
/-- A footprint keeps off all that. -/
structure Off (F : List Nat) (now yb : Nat) (pc : Nat → Nat) (lf : Nat → Leaf) : Prop where
  now : now ∉ F
  yb : yb ∉ F
  pc : ∀ k, k < 8 → pc k ∉ F
  lf : ∀ j, j < 64 → ∀ x ∈ fpOf (lf j).A, x ∉ F
theorem Reads.kept {F : List Nat} {A B : World} {now yb l n h : Nat} {pc : Nat → Nat} {tp : Nat → Int} {lf : Nat → Leaf} (r : Reads A now yb l n h pc tp lf) (hk : Kept F A B) (o : Off F now yb pc lf) : Reads B now yb l n h pc tp lf := by
  obtain ⟨⟨f, h1, h2⟩, h3, h4⟩ := r
  exact ⟨⟨f, hk.blk h1 o.now, h2⟩, h3.kept hk o.pc o.lf, hk.blk h4 o.yb⟩
theorem Reads.fr {A B : World} {now yb l n h : Nat} {pc : Nat → Nat} {tp : Nat → Int} {lf : Nat → Leaf} (r : Reads A now yb l n h pc tp lf) (hk : Fr [] A B) : Reads B now yb l n h pc tp lf := by
  obtain ⟨⟨f, h1, h2⟩, h3, h4⟩ := r
  exact ⟨⟨f, h1.fr hk (by simp), h2⟩, h3.fr hk (by simp) (by simp), h4.fr hk (by simp)⟩

theorem Kept.of_fr {F : List Nat} {A B : World} (h : Fr [] A B) : Kept F A B := ⟨h.size, fun _ _ ho _ _ => h.obj (by simp) ho⟩
theorem Kept.trans {F F' : List Nat} {A B C : World} (h : Kept F A B) (k : Kept F' B C) (hs : ∀ b ∈ F', b ∈ F ∨ A.heap.size ≤ b) : Kept F A C :=
  ⟨Nat.le_trans h.size k.size, fun j o ho hc hF => k.cells j o (h.cells j o ho hc hF) hc (fun hm => (hs j hm).elim hF (fun h2 => by have := (Array.getElem?_eq_some_iff.1 ho).1; omega))⟩
theorem Reads.lt {A : World} {now yb l n h : Nat} {pc : Nat → Nat} {tp : Nat → Int} {lf : Nat → Leaf} (r : Reads A now yb l n h pc tp lf) : now < A.heap.size ∧ yb < A.heap.size ∧ (∀ k, k < 8 → pc k < A.heap.size) ∧ ∀ j, j < 64 → ∀ x ∈ fpOf (lf j).A, x < A.heap.size := by
  obtain ⟨⟨f, h1, _⟩, h3, h4⟩ := r
  exact ⟨h1.lt, h4.lt, fun k hk => (h3.blk k hk).lt, fun j hj => (h3.row j hj).lt⟩
theorem Off.more {F F' : List Nat} {A : World} {now yb l n h : Nat} {pc : Nat → Nat} {tp : Nat → Int} {lf : Nat → Leaf} (o : Off F now yb pc lf) (r : Reads A now yb l n h pc tp lf) (hs : ∀ b ∈ F', b ∈ F ∨ A.heap.size ≤ b) : Off F' now yb pc lf := by
  obtain ⟨l1, l2, l3, l4⟩ := r.lt
  refine ⟨fun hm => (hs _ hm).elim o.now (fun h => by omega), fun hm => (hs _ hm).elim o.yb (fun h => by omega), fun k hk hm => (hs _ hm).elim (o.pc k hk) (fun h => by have := l3 k hk; omega), fun j hj x hx hm => (hs _ hm).elim (o.lf j hj x hx) (fun h => by have := l4 j hj x hx; omega)⟩
theorem Went.after {J : Nat → List Nat → World → Prop} {Jx : World → Prop} {k : Nat} {F F' : List Nat} {A B : World} {e : Ending} {C : World} (h : Went J Jx k F' B e C) (hk : Kept F A B) (hF : ∀ b ∈ F', b ∈ F ∨ A.heap.size ≤ b) : Went J Jx k F A e C := by
  obtain ⟨bb, rfl, (⟨rfl, G, hj, hk2, hG⟩ | ⟨rfl, hx⟩)⟩ := h
  · exact ⟨true, rfl, .inl ⟨rfl, G, hj, hk.trans hk2 hF, fun b hb => (hG b hb).elim (fun h => hF b h) (fun h => .inr (by have := hk.size; omega))⟩⟩
  · exact ⟨false, rfl, .inr ⟨rfl, hx⟩⟩

/-- What a walk hands to its leaf: of a sheet its number, stamp, bytes (in a new array). -/
def Gives (gl : List Nat) (lf : Nat → Leaf) (k : Nat) (xk : Array Value) (A B : World) : Prop := ∃ (j : Nat) (A' : Option Addr) (cap' : Nat), gl[k]? = some j ∧
  xk = #[.agg #[.int .i64 (j : Nat), .int .i64 (lf j).at_, .slice A' (lf j).xs.length cap']] ∧ Row B 5 1 A' (lf j).xs.length cap' (bvals (lf j).xs) ∧ ∀ x ∈ fpOf A', A.heap.size ≤ x

set_option maxRecDepth 100000 in
set_option maxHeartbeats 2000000 in
theorem walk_down (l now yb n h : Nat) (pc : Nat → Nat) (tp : Nat → Int) (lf : Nat → Leaf) (a : Int) (gl : List Nat) (J : Nat → List Nat → World → Prop) (Jx : World → Prop) (h6 : h ≤ 6)
    (hJ : ∀ k F A B, J k F A → Fr [] A B → J k F B)
    (hy : ∀ (k : Nat) (F : List Nat) (A B : World) (xk : Array Value), k < gl.length → J k F A → Fr [] A B → Gives gl lf k xk A B → YieldAt Fence.wide 0 Try.prog l xk B fun e C =>
      (e = .returned (.bool true) ∧ ∃ F', J (k + 1) F' C ∧ Kept F B C ∧ ∀ b ∈ F', b ∈ F ∨ B.heap.size ≤ b) ∨ (e = .returned (.bool false) ∧ Jx C)) :
    ∀ (d e node k : Nat) (F : List Nat) (A : World), e + d = h → 2 ^ e ≤ node → node < 2 * 2 ^ e → J k F A → Reads A now yb l n h pc tp lf → Off F now yb pc lf → (∀ i j, (wl tp a (2 ^ h) d node)[i]? = some j → gl[k + i]? = some j) →
      CallsIn Fence.wide 0 Try.prog 31 #[.pointer (some ⟨now, 0, none⟩), .int .i64 (node : Nat), .int .i64 a, .func (.func 32) #[] #[.pointer (some ⟨now, 0, none⟩), .pointer (some ⟨yb, 0, none⟩)]] A
        (Went J Jx (k + (wl tp a (2 ^ h) d node).length) F A) := by
  intro d
  induction d with
  | zero =>
    intro e node k F A he h1 h2 hj hr ho hg
    obtain ⟨⟨f, hf, hft⟩, hlv, hyb⟩ := id hr
    have hh : e = h := by omega
    subst hh
    have h64 : 2 ^ e ≤ 2 ^ 6 := Nat.pow_le_pow_right (by omega) h6
    have c1 : A.cell? ⟨now, 1, none⟩ = some (.int .i64 ((2 ^ e : Nat) : Int)) := by rw [hf.cell (by omega), hft.wd]
    have ct : A.cell? ⟨now, 10 + node, none⟩ = some (.int .i64 (tp node)) := by rw [hf.cell (by omega), hft.tp node (by omega)]
    have hwf : ∀ f, Fence.wide.fn f := fun _ => trivial
    have hwd : Fence.wide.depth = none := rfl
    have k0 : (0 : Int) ≤ (node : Int) := by omega
    have k1 : (node : Int) < 128 := by omega
    by_cases ht : tp node ≤ a
    · have t1 : decide (tp node ≤ a) = true := by simpa using ht
      refine callsIn_of_wp Try.func31 rfl trivial ?_ rfl
      simp only [Try.ntmps31, List.size_toArray, List.length_cons, List.length_nil, Nat.reduceAdd, Nat.reduceSub, Array.replicate_succ, Array.replicate_zero, List.push_toArray, List.append_toArray, List.nil_append, List.cons_append]
      gi_wp2
      go_ret
      refine ⟨true, rfl, .inl ⟨rfl, F, ?_, ⟨Nat.le_refl _, fun _ _ h _ _ => h⟩, fun b hb => .inl hb⟩⟩
      simpa [wl, ht] using hj
    · have t1 : decide (tp node ≤ a) = false := by simpa using ht
      have t2 : decide (((2 ^ e : Nat) : Int) ≤ (node : Int)) = true := by simp; exact_mod_cast h1
      obtain ⟨num, hnum⟩ : ∃ num, node - 2 ^ e = num := ⟨_, rfl⟩
      have hn64 : num < 64 := by omega
      have cP : A.cell? ⟨now, 2 + num / 8, none⟩ = some (.pointer (some ⟨pc (num / 8), 0, none⟩)) := by rw [hf.cell (by omega), hft.pc _ (by omega)]
      have e1 : IntKind.i64.wrap ((node : Int) - ((2 ^ e : Nat) : Int)) = (num : Int) := by rw [IntWalk.i64_in _ (by omega)]; omega
      have hgk : gl[k]? = some num := by
        have := hg 0 num (by simp [wl, ht, hnum])
        simpa using this
      have hkl : k < gl.length := (List.getElem?_eq_some_iff.1 hgk).1
      have hleaf := Leaf1_in l now yb num pc lf A (Went J Jx (k + 1) F A) hn64 hlv cP hyb (fun A' cap' B hB hrow hfp => by
        obtain ⟨fn, tmps, assign, body, hyy, hRR⟩ := hy k F A B _ hkl hj hB ⟨num, A', cap', hgk, rfl, hrow, hfp⟩
        refine ⟨fn, tmps, assign, body, hyy, hRR.mono ?_⟩
        rintro e C (⟨rfl, F', hj', hk', hF'⟩ | ⟨rfl, hx⟩)
        · exact ⟨true, rfl, true, rfl, .inl ⟨rfl, F', hj', (Kept.of_fr hB).trans hk' (fun _ h => .inl h), fun b hb => (hF' b hb).imp id (fun h => by have := hB.size; omega)⟩⟩
        · exact ⟨false, rfl, false, rfl, .inr ⟨rfl, hx⟩⟩)
      have hw1 : (wl tp a (2 ^ e) 0 node).length = 1 := by simp [wl, ht]
      rw [hw1]
      have HL := Lib.hid hleaf
      clear hleaf hg hj hr ho hlv hyb hgk hkl hy hJ hw1
      generalize hW : 2 ^ e = W at *
      refine callsIn_of_wp Try.func31 rfl trivial ?_ rfl
      simp only [Try.ntmps31, List.size_toArray, List.length_cons, List.length_nil, Nat.reduceAdd, Nat.reduceSub, Array.replicate_succ, Array.replicate_zero, List.push_toArray, List.append_toArray, List.nil_append, List.cons_append]
      gi_wp2_with (gi_at_call 32; (with_reducible refine HL.out.mono ?_); rintro r w' ⟨bb, rfl, hwent⟩)
      go_ret
      exact ⟨bb, rfl, hwent⟩
  | succ d ih =>
    intro e node k F A he h1 h2 hj hr ho hg
    obtain ⟨⟨f, hf, hft⟩, hlv, hyb⟩ := id hr
    have hp : 2 ^ (e + 1) = 2 * 2 ^ e := by rw [Nat.pow_succ]; omega
    have hle : 2 ^ (e + 1) ≤ 2 ^ h := Nat.pow_le_pow_right (by omega) (by omega)
    have h64 : 2 ^ h ≤ 2 ^ 6 := Nat.pow_le_pow_right (by omega) h6
    have hnode : node < 64 := by omega
    have c1 : A.cell? ⟨now, 1, none⟩ = some (.int .i64 ((2 ^ h : Nat) : Int)) := by rw [hf.cell (by omega), hft.wd]
    have ct : A.cell? ⟨now, 10 + node, none⟩ = some (.int .i64 (tp node)) := by rw [hf.cell (by omega), hft.tp node (by omega)]
    have hwf : ∀ f, Fence.wide.fn f := fun _ => trivial
    have hwd : Fence.wide.depth = none := rfl
    have k0 : (0 : Int) ≤ (node : Int) := by omega
    have k1 : (node : Int) < 128 := by omega
    by_cases ht : tp node ≤ a
    · have t1 : decide (tp node ≤ a) = true := by simpa using ht
      refine callsIn_of_wp Try.func31 rfl trivial ?_ rfl
      simp only [Try.ntmps31, List.size_toArray, List.length_cons, List.length_nil, Nat.reduceAdd, Nat.reduceSub, Array.replicate_succ, Array.replicate_zero, List.push_toArray, List.append_toArray, List.nil_append, List.cons_append]
      gi_wp2
      go_ret
      refine ⟨true, rfl, .inl ⟨rfl, F, ?_, ⟨Nat.le_refl _, fun _ _ h _ _ => h⟩, fun b hb => .inl hb⟩⟩
      simpa [wl, ht] using hj
    · have t1 : decide (tp node ≤ a) = false := by simpa using ht
      have t2 : decide (((2 ^ h : Nat) : Int) ≤ (node : Int)) = false := by
        simp only [decide_eq_false_iff_not]
        have : node < 2 ^ h := by omega
        exact_mod_cast Nat.not_le.2 this
      have t3 : decide (2 ^ h ≤ node) = false := by simp; omega
      have hwl : wl tp a (2 ^ h) (d + 1) node = wl tp a (2 ^ h) d (2 * node) ++ wl tp a (2 ^ h) d (2 * node + 1) := by rw [wl, if_neg ht]
      rw [hwl] at hg ⊢
      rw [List.length_append]
      have i1 := ih (e + 1) (2 * node) k F A (by omega) (by omega) (by omega) hj hr ho (fun i j hi => hg i j (by rw [List.getElem?_append_left ((List.getElem?_eq_some_iff.1 hi).1)]; exact hi))
      have i2 : ∀ (F' : List Nat) (B : World), J (k + (wl tp a (2 ^ h) d (2 * node)).length) F' B → Kept F A B → (∀ b ∈ F', b ∈ F ∨ A.heap.size ≤ b) → CallsIn Fence.wide 0 Try.prog 31 #[.pointer (some ⟨now, 0, none⟩), .int .i64 (2 * node + 1 : Nat), .int .i64 a, .func (.func 32) #[] #[.pointer (some ⟨now, 0, none⟩), .pointer (some ⟨yb, 0, none⟩)]] B
          (Went J Jx (k + ((wl tp a (2 ^ h) d (2 * node)).length + (wl tp a (2 ^ h) d (2 * node + 1)).length)) F A) := by
        intro F' B hj' hk' hF'
        have := ih (e + 1) (2 * node + 1) _ F' B (by omega) (by omega) (by omega) hj' (hr.kept hk' ho) (ho.more hr hF') (fun i j hi => by
          have h9 := hg ((wl tp a (2 ^ h) d (2 * node)).length + i) j (by rw [List.getElem?_append_right (by omega)]; rw [Nat.add_sub_cancel_left]; exact hi)
          rw [← Nat.add_assoc] at h9; exact h9)
        rw [Nat.add_assoc] at this
        exact this.mono (fun e C hC => hC.after hk' hF')
      generalize wl tp a (2 ^ h) d (2 * node) = l1 at *
      generalize wl tp a (2 ^ h) d (2 * node + 1) = l2 at *
      have e1 : IntKind.i64.wrap (2 * (node : Int)) = 2 * (node : Int) := IntWalk.i64_in _ (by omega)
      have e2 : IntKind.i64.wrap (2 * (node : Int) + 1) = 2 * (node : Int) + 1 := IntWalk.i64_in _ (by omega)
      rw [show ((2 * node : Nat) : Int) = 2 * (node : Int) by omega] at i1
      rw [show ((2 * node + 1 : Nat) : Int) = 2 * (node : Int) + 1 by omega] at i2
      have I1 := Lib.hid i1
      have I2 := Lib.hid i2
      clear ih i1 i2 hle hp h64 hg hj hr ho hlv hyb hf hft hy hJ hwl
      generalize hW : 2 ^ h = W at *
      refine callsIn_of_wp Try.func31 rfl trivial ?_ rfl
      simp only [Try.ntmps31, List.size_toArray, List.length_cons, List.length_nil, Nat.reduceAdd, Nat.reduceSub, Array.replicate_succ, Array.replicate_zero, List.push_toArray, List.append_toArray, List.nil_append, List.cons_append]
      gi_wp2_with fail
      refine I1.out.mono ?_
      rintro r w' ⟨bb, rfl, (⟨rfl, F', hj', hk', hF'⟩ | ⟨rfl, hx⟩)⟩
      · gi_wp2_with (gi_at_call 31; (with_reducible refine (I2.out F' _ hj' hk' hF').mono ?_); rintro r w5 ⟨b2, rfl, hwent⟩)
        go_ret
        exact ⟨_, rfl, hwent⟩
      · gi_wp2
        go_ret
        exact ⟨false, rfl, .inr ⟨rfl, hx⟩⟩
end Go.Proofs.Ytaicpgkoailnkaa
