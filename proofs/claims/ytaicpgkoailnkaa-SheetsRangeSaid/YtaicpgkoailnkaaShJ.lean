/- The law SheetsRange where New refuses; a book and the document's beside it. -/
import Derived.Test.YtaicpgkoailnkaaShI
namespace Go.Proofs.Ytaicpgkoailnkaa
open Go.RowKit

/-- Boxes: blocks of one cell each. -/
def Boxes (W : World) (l : List (Nat × TypeId × Value)) : Prop := ∀ p ∈ l, Blk W p.1 p.2.1 [p.2.2]
theorem Boxes.fr {W W' : World} {l : List (Nat × TypeId × Value)} (h : Boxes W l) {S : List Nat} (hf : Fr S W W') (hd : ∀ p ∈ l, p.1 ∉ S) : Boxes W' l := fun p hp => (h p hp).fr hf (hd p hp)
theorem Boxes.fr0 {W W' : World} {l : List (Nat × TypeId × Value)} (h : Boxes W l) (hf : Fr [] W W') : Boxes W' l := h.fr hf (by simp)
theorem Boxes.nc {n₀ : Nat} {W W' : World} {l : List (Nat × TypeId × Value)} (h : Boxes W l) (hn : NC n₀ W W') : Boxes W' l := fun p hp => (h p hp).nc hn
theorem Boxes.cell {W : World} {l : List (Nat × TypeId × Value)} (h : Boxes W l) {b : Nat} {t : TypeId} {v : Value} (hm : (b, t, v) ∈ l) : W.cell? ⟨b, 0, none⟩ = some v := (h _ hm).cell 0
theorem Boxes.free {W : World} {l : List (Nat × TypeId × Value)} (h : Boxes W l) {b : Nat} {t : TypeId} {v : Value} (hm : (b, t, v) ∈ l) : W.frozen? ⟨b, 0, none⟩ = false := (h _ hm).frozen 0
theorem Boxes.lt {W : World} {l : List (Nat × TypeId × Value)} (h : Boxes W l) {b : Nat} {t : TypeId} {v : Value} (hm : (b, t, v) ∈ l) : b < W.heap.size := (h _ hm).lt
theorem Typ.not {w : World} {x : Nat} {ts : List TypeId} (h : Typ w x ts) {ty : TypeId} {cur : List Value} (hb : Blk w x ty cur) (hd : ts.contains ty = false) : False := by
  obtain ⟨a, ca, ha, h1⟩ := h
  have e := (ha.inj hb).2
  subst e
  simp [h1] at hd
/-- Boxes of other types lie elsewhere. -/
theorem Boxes.off {W : World} {l : List (Nat × TypeId × Value)} (h : Boxes W l) {ts : List TypeId} (ht : ∀ p ∈ l, p.2.1 ∉ ts) {x : Nat} (hx : Typ W x ts) : ∀ p ∈ l, p.1 ≠ x := by
  rintro p hp rfl
  obtain ⟨ty, cur, h1, h2⟩ := hx
  have := ((h p hp).inj h1).2
  exact ht p hp (this ▸ h2)

/-- A book and the document's beside it, beyond so many blocks. -/
structure One (w0 w : World) (n : Nat) (B : Boo) (R : RBo) : Prop where
  fr : Fr [] w0 w
  hB : B.At w
  hR : R.At w
  bB : ∀ x ∈ B.rd, w0.heap.size ≤ x
  bR : ∀ x ∈ R.rd, w0.heap.size ≤ x
  bn : B.n = n
  oR : OfC (List.range n) B.con R.ls
theorem One.fr0 {w0 w w' : World} {n : Nat} {B : Boo} {R : RBo} (h : One w0 w n B R) (hf : Fr [] w w') : One w0 w' n B R :=
  ⟨h.fr.trans hf, h.hB.fr0 hf, h.hR.fr0 hf, h.bB, h.bR, h.bn, h.oR⟩
theorem One.turn {w0 w w1 w' : World} {n : Nat} {B B' : Boo} {R R' : RBo} (h : One w0 w n B R) (hT : Turn w w1 B B') (hU : RTurn w1 w' R R') (hO : OfC (List.range n) B'.con R'.ls) : One w0 w' n B' R' ∧ Fr (B.fp ++ R.fp) w w' ∧ B'.b = B.b ∧ R'.r = R.r := by
  have s1 := hT.fr.size
  have s0 := h.fr.size
  have hR1 := hT.rbo h.hB h.hR
  have hf : Fr (B.fp ++ R.fp) w w' := (hT.fr.mono (fun x hx => List.mem_append_left _ hx)).trans (hU.fr.mono (fun x hx => List.mem_append_right _ hx))
  refine ⟨⟨h.fr.trans' hf (fun x hx => ?_), hU.boo hR1 hT.at_, hU.at_, fun x hx => ?_, fun x hx => ?_, hT.n.trans h.bn, hO⟩, hf, hT.b, hU.r⟩
  · right
    rcases List.mem_append.1 hx with hx | hx
    · exact h.bB x (Boo.fp_rd hx)
    · exact h.bR x (RBo.fp_rd hx)
  · exact (hT.rd x hx).elim (h.bB x) (fun hl => by omega)
  · exact (hU.rd x hx).elim (h.bR x) (fun hl => by omega)
theorem One.typ {w0 w : World} {n : Nat} {B : Boo} {R : RBo} (h : One w0 w n B R) {x : Nat} (hx : x ∈ B.fp ++ R.fp) : Typ w x [77, 81, 91, 46] := by
  rcases List.mem_append.1 hx with hx | hx
  · exact (h.hB.typf hx).more (by simp)
  · exact (h.hR.typf hx).more (by simp)
theorem One.put1 {w0 w : World} {n : Nat} {B : Boo} {R : RBo} (h : One w0 w n B R) (num a : Int) (A : Option Addr) (cap : Nat) (xs : List Int) (hx : Rds w0 A (bvals xs)) (hx1 : Bytes xs) :
    Calls Try.prog 10 #[.pointer (some ⟨B.b, 0, none⟩), .int .i64 num, .int .i64 a, .slice A xs.length cap] w fun r w' => r = .returned (.int .i64 (putE n (lastC B.con n) num a xs.length)) ∧ ∃ B', Turn w w' B B' ∧ B'.con = putA B.con n num a xs := by
  have := Put_boo B num a A cap xs w h.hB (hx.fr h.fr (by simp)) hx1 (fun hne x hm hf => by
    have h1 := hx.lt hne x hm
    have h2 := h.bB x (Boo.fp_rd hf)
    omega)
  rw [h.bn] at this
  exact this
theorem One.put2 {w0 w w1 : World} {n : Nat} {B B' : Boo} {R : RBo} (h : One w0 w n B R) (num a : Int) (A : Option Addr) (cap : Nat) (xs : List Int) (hx : Rds w0 A (bvals xs)) (hl : xs.length ≤ 140737488351232) (hT : Turn w w1 B B') :
    Calls Try.prog 14 #[.pointer (some ⟨R.r, 0, none⟩), .int .i64 num, .int .i64 a, .slice A xs.length cap] w1 fun r w' => r = .returned (.int .i64 (putE n (lastC B.con n) num a xs.length)) ∧ RPut w1 w' R B.con n num a xs := by
  have hn64 := h.hB.n64
  have hbn := h.bn
  refine rPut_any R B.con n num a A cap xs w1 (hT.rbo h.hB h.hR) h.oR (by omega) (fun j hj => (h.hB.data (by omega)).2) ?_ hl
  exact hx.fr (h.fr.trans' hT.fr (fun x hx => .inr (h.bB x (Boo.fp_rd hx)))) (by simp)

theorem Snap_boo2 (B : Boo) (w : World) (hB : B.At w) : Calls Try.prog 15 #[.pointer (some ⟨B.b, 0, none⟩)] w fun r w' => ∃ S : Boo, r = .returned (.pointer (some ⟨S.b, 0, none⟩)) ∧ Turn w w' B B.shut ∧ S.At w' ∧ Apart B.shut S ∧ S.con = B.con ∧ S.n = B.n ∧ S.b = w.heap.size ∧ ∀ x ∈ S.rd, x = w.heap.size ∨ x ∈ B.rd := by
  refine (Snap_boo B w hB).mono ?_
  rintro r w' ⟨rfl, h1, h2, h3⟩
  refine ⟨{ B.shut with b := w.heap.size }, rfl, h1, h2, h3, rfl, rfl, rfl, fun x hx => ?_⟩
  rcases List.mem_cons.1 hx with rfl | hx
  · exact .inl rfl
  · exact .inr (List.mem_cons_of_mem _ hx)

/-- Behind Snap and the document's Snap, however the boxes were laid. -/
theorem One.snap {w0 w5 c1 w6 c2 w7 W : World} {n p q : Nat} {B S : Boo} {R Z : RBo} (h : One w0 w5 n B R) (hc1 : Fr [] w5 c1) (hT : Turn c1 w6 B B.shut) (hS : S.At w6) (hap : Apart B.shut S) (hcon : S.con = B.con) (hn : S.n = B.n) (hSb : ∀ x ∈ S.rd, x = c1.heap.size ∨ x ∈ B.rd)
    (hc2 : Fr [] w6 c2) (hZ : Z.At w7) (hZo : OfC (List.range n) B.con Z.ls) (hf7 : Fr [] c2 w7) (hZn : ∀ x ∈ Z.rd, c2.heap.size ≤ x) (hW : Fr [p, q] w7 W) (hp : w5.heap.size ≤ p ∧ p ≠ c1.heap.size ∧ (p < c2.heap.size ∨ w7.heap.size ≤ p)) (hq : w5.heap.size ≤ q ∧ q ≠ c1.heap.size ∧ (q < c2.heap.size ∨ w7.heap.size ≤ q)) :
    Quad w0 W n B.shut S R Z := by
  have hBl := h.hB.rd_lt
  have hRl := h.hR.rd_lt
  have hZl := hZ.rd_lt
  have s0 := h.fr.size
  have s1 := hc1.size
  have s2 := hT.fr.size
  have s3 := hc2.size
  have s4 := hf7.size
  have hB1 := h.hB.fr0 hc1
  have hR6 := hT.rbo hB1 (h.hR.fr0 hc1)
  have hf67 : Fr [] w6 w7 := hc2.trans hf7
  have hpq : ∀ x, x ∈ B.rd ∨ x ∈ R.rd ∨ x = c1.heap.size ∨ x ∈ Z.rd → x ∉ [p, q] := by
    intro x hx hm
    simp only [List.mem_cons, List.not_mem_nil, or_false] at hm
    rcases hx with hx | hx | hx | hx
    · have := hBl x hx; omega
    · have := hRl x hx; omega
    · omega
    · have := hZn x hx; have := hZl x hx; omega
  have hS7 := hS.fr0 hf67
  have hB7 := hT.at_.fr0 hf67
  have hR7 := hR6.fr0 hf67
  refine ⟨?_, hB7.fr hW (fun x hx => hpq x (.inl hx)), hS7.fr hW (fun x hx => hpq x ((hSb x hx).elim (fun e => .inr (.inr (.inl e))) .inl)), hR7.fr hW (fun x hx => hpq x (.inr (.inl hx))), hZ.fr hW (fun x hx => hpq x (.inr (.inr (.inr hx)))), hap, ⟨fun x hx hm => ?_, fun x hx hm => ?_⟩, h.bB, fun x hx => ?_, h.bR, fun x hx => ?_, h.bn, hn.trans h.bn, h.oR, ?_⟩
  · refine ((((h.fr.trans hc1).trans' hT.fr (fun x hx => .inr (h.bB x (Boo.fp_rd hx)))).trans hf67).trans' hW (fun x hx => ?_))
    simp only [List.mem_cons, List.not_mem_nil, or_false] at hx
    right; omega
  · have := hZn x hx; have := hRl x (RBo.fp_rd hm); omega
  · have := hZn x (RBo.fp_rd hm); have := hRl x hx; omega
  · rcases hSb x hx with e | e
    · omega
    · exact h.bB x e
  · have := hZn x hx; omega
  · rw [hcon]; exact hZo

set_option maxRecDepth 100000 in
set_option maxHeartbeats 4000000 in
theorem srange_bad (n : Int) (w : World) (h : n < 1 ∨ 64 < n) (A1 A2 : Option Addr) (l1 c1 c2 : Nat) (at_ : Int) (Ds : List Deed) (hD : Deeds w A2 Ds) :
    Calls Try.prog 4 #[.int .i64 n, .slice A1 l1 c1, .slice A2 Ds.length c2, .int .i64 at_] w fun r w' => r = .returned (.bool true) ∧ Fr [] w w' := by
  have H := Lib.hid h
  have DD := Lib.hid hD
  clear h hD
  refine (callsIn_wide (n := 0)).1 (callsIn_of_wp_marks Try.func4 rfl trivial (wpIn_wide.2 ?_) rfl)
  simp only [Try.ntmps4, List.size_toArray, List.length_cons, List.length_nil, Nat.reduceAdd, Nat.reduceSub, Array.replicate_succ, Array.replicate_zero, List.push_toArray, List.append_toArray, List.nil_append, List.cons_append]
  go_wp2_with fail
  refine (beyond_any A2 c2 Ds _ (DD.out.fr ((((Fr.refl [] w).alloc _).alloc _).alloc _))).mono ?_
  rintro r w1 ⟨⟨bb, rfl, hlen⟩, nq, rfl⟩
  have b8 : Blk ((((w.alloc (.cells #[.slice A2 Ds.length c2] 22)).alloc (.cells #[.int .i64 at_] 3)).alloc (.cells #[.bool false] 4)).drewN nq) (w.heap.size + 2) 4 [.bool false] := (Blk.new' (by simp)).drewN nq
  have hf1 : Fr [] w ((((w.alloc (.cells #[.slice A2 Ds.length c2] 22)).alloc (.cells #[.int .i64 at_] 3)).alloc (.cells #[.bool false] 4)).drewN nq) := ((((Fr.refl [] w).alloc _).alloc _).alloc _).drewN nq
  generalize (((w.alloc (.cells #[.slice A2 Ds.length c2] 22)).alloc (.cells #[.int .i64 at_] 3)).alloc (.cells #[.bool false] 4)).drewN nq = w1 at *
  have s8 := b8.lt
  have k8 : w1.cell? ⟨w.heap.size + 2, 0, none⟩ = some (.bool false) := b8.cell 0
  have z8 := b8.frozen 0
  cases bb with
  | true =>
    clear hlen
    go_wp2
    have c6 := (b8.set_ 0 (.bool true)).cell 0
    refine ⟨.bool true, ?_, rfl, hf1.setCell' (.inr (by omega))⟩
    simp at c6
    simp [results, Try.f4, go_sem, c6]
  | false =>
    clear hlen
    go_wp2_with fail
    refine (New_bad n _ H.out).mono ?_
    rintro r w2 ⟨rfl, hf2⟩
    have b8' := b8.fr hf2 (by simp)
    clear k8 z8
    go_wp2_with fail
    refine (rNew_bad n _ H.out).mono ?_
    rintro r w3 ⟨rfl, hf3⟩
    have b8'' := (b8'.alloc (.cells #[.pointer none] 23)).fr hf3 (by simp)
    have k8 : w3.cell? ⟨w.heap.size + 2, 0, none⟩ = some (.bool false) := b8''.cell 0
    have z8 := b8''.frozen 0
    have s8' := b8''.lt
    clear b8
    go_wp2
    have c6 : ((w3.setCell ⟨w.heap.size + 1 + 1, 0, none⟩ (.bool true)).alloc (.cells #[.pointer none] 39)).cell? ⟨w.heap.size + 1 + 1, 0, none⟩ = some (.bool true) := ((b8''.set_ 0 (.bool true)).alloc _).cell 0
    refine ⟨.bool true, ?_, rfl, ?_⟩
    · simp [results, Try.f4, go_sem, c6]
    · exact ((((hf1.trans hf2).alloc _).trans hf3).setCell' (.inr (by omega))).alloc _
end Go.Proofs.Ytaicpgkoailnkaa
