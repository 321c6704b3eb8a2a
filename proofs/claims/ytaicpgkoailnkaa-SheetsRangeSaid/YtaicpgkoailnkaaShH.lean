/- Two books and the document's two beside them; the law's turn. -/
import Derived.Test.YtaicpgkoailnkaaShG
import Derived.Test.YtaicpgkoailnkaaShC
namespace Go.Proofs.Ytaicpgkoailnkaa
open Go.RowKit

/-- The document's books keep off each other. -/
structure RApart (R Z : RBo) : Prop where
  l : ∀ x ∈ Z.rd, x ∉ R.fp
  r : ∀ x ∈ R.rd, x ∉ Z.fp
theorem RApart.symm {R Z : RBo} (h : RApart R Z) : RApart Z R := ⟨h.r, h.l⟩
theorem RTurn.other {w w' : World} {R R' Z : RBo} (h : RTurn w w' R R') (hZ : Z.At w) (ha : RApart R Z) : Z.At w' ∧ RApart R' Z := by
  have hl := hZ.rd_lt
  refine ⟨hZ.fr h.fr ha.l, fun x hx hm => (h.fp x hm).elim (ha.l x hx) (fun hn => by have := hl x hx; omega), fun x hx hm => (h.rd x hx).elim (fun h1 => ha.r x h1 hm) (fun hn => by have := hl x (RBo.fp_rd hm); omega)⟩
theorem Turn.rbo {w w' : World} {B B' : Boo} {R : RBo} (h : Turn w w' B B') (hB : B.At w) (hR : R.At w) : R.At w' := hR.fr h.fr (fun x hx hm => (hR.typ hx).no (hB.typf hm) (by decide))
theorem RTurn.boo {w w' : World} {R R' : RBo} {B : Boo} (h : RTurn w w' R R') (hR : R.At w) (hB : B.At w) : B.At w' := hB.fr h.fr (fun x hx hm => (hB.typ hx).no (hR.typf hm) (by decide))

/-- Two books, the document's two beside them, all beyond so many blocks. -/
structure Quad (w0 w : World) (n : Nat) (B S : Boo) (R Z : RBo) : Prop where
  fr : Fr [] w0 w
  hB : B.At w
  hS : S.At w
  hR : R.At w
  hZ : Z.At w
  ap : Apart B S
  rap : RApart R Z
  bB : ∀ x ∈ B.rd, w0.heap.size ≤ x
  bS : ∀ x ∈ S.rd, w0.heap.size ≤ x
  bR : ∀ x ∈ R.rd, w0.heap.size ≤ x
  bZ : ∀ x ∈ Z.rd, w0.heap.size ≤ x
  bn : B.n = n
  sn : S.n = n
  oR : OfC (List.range n) B.con R.ls
  oZ : OfC (List.range n) S.con Z.ls
/-- What the four may write. -/
def fpQ (B S : Boo) (R Z : RBo) : List Nat := (B.fp ++ S.fp) ++ (R.fp ++ Z.fp)
/-- The four, turned. -/
structure QTurn (w0 w w' : World) (n : Nat) (B S : Boo) (R Z : RBo) (B' S' : Boo) (R' Z' : RBo) : Prop where
  q : Quad w0 w' n B' S' R' Z'
  fr : Fr (fpQ B S R Z) w w'
  fp : ∀ x ∈ fpQ B' S' R' Z', x ∈ fpQ B S R Z ∨ w.heap.size ≤ x
  b : B'.b = B.b
  s : S'.b = S.b
  r : R'.r = R.r
  z : Z'.r = Z.r
theorem Quad.fr0 {w0 w w' : World} {n : Nat} {B S : Boo} {R Z : RBo} (h : Quad w0 w n B S R Z) (hf : Fr [] w w') : Quad w0 w' n B S R Z :=
  ⟨h.fr.trans hf, h.hB.fr0 hf, h.hS.fr0 hf, h.hR.fr0 hf, h.hZ.fr0 hf, h.ap, h.rap, h.bB, h.bS, h.bR, h.bZ, h.bn, h.sn, h.oR, h.oZ⟩
theorem QTurn.of_fr {w0 w w' : World} {n : Nat} {B S : Boo} {R Z : RBo} (h : Quad w0 w n B S R Z) (hf : Fr [] w w') : QTurn w0 w w' n B S R Z B S R Z := ⟨h.fr0 hf, hf.mono (by simp), fun _ h => .inl h, rfl, rfl, rfl, rfl⟩
theorem QTurn.trans {w0 w w1 w' : World} {n : Nat} {B S B1 S1 B' S' : Boo} {R Z R1 Z1 R' Z' : RBo} (h : QTurn w0 w w1 n B S R Z B1 S1 R1 Z1) (k : QTurn w0 w1 w' n B1 S1 R1 Z1 B' S' R' Z') : QTurn w0 w w' n B S R Z B' S' R' Z' :=
  ⟨k.q, h.fr.trans' k.fr h.fp, fun x hx => (k.fp x hx).elim (h.fp x) (fun hl => .inr (by have := h.fr.size; omega)), k.b.trans h.b, k.s.trans h.s, k.r.trans h.r, k.z.trans h.z⟩
/-- The first book and the document's turned. -/
theorem Quad.first {w0 w w1 w' : World} {n : Nat} {B S B' : Boo} {R Z R' : RBo} (h : Quad w0 w n B S R Z) (hT : Turn w w1 B B') (hU : RTurn w1 w' R R') (hO : OfC (List.range n) B'.con R'.ls) : QTurn w0 w w' n B S R Z B' S R' Z := by
  have s1 := hT.fr.size
  have s0 := h.fr.size
  have hR1 := hT.rbo h.hB h.hR
  have hZ1 := hT.rbo h.hB h.hZ
  obtain ⟨hS1, ap1⟩ := hT.other h.hS h.ap
  obtain ⟨hZ2, rap2⟩ := hU.other hZ1 h.rap
  have hf : Fr (fpQ B S R Z) w w' := (hT.fr.mono (fun x hx => List.mem_append_left _ (List.mem_append_left _ hx))).trans (hU.fr.mono (fun x hx => List.mem_append_right _ (List.mem_append_left _ hx)))
  refine ⟨⟨h.fr.trans' hf (fun x hx => ?_), hU.boo hR1 hT.at_, hU.boo hR1 hS1, hU.at_, hZ2, ap1, rap2, fun x hx => ?_, h.bS, fun x hx => ?_, h.bZ, hT.n.trans h.bn, h.sn, hO, h.oZ⟩, hf, fun x hx => ?_, hT.b, rfl, hU.r, rfl⟩
  · right
    rcases List.mem_append.1 hx with hx | hx
    · rcases List.mem_append.1 hx with hx | hx
      · exact h.bB x (Boo.fp_rd hx)
      · exact h.bS x (Boo.fp_rd hx)
    · rcases List.mem_append.1 hx with hx | hx
      · exact h.bR x (RBo.fp_rd hx)
      · exact h.bZ x (RBo.fp_rd hx)
  · exact (hT.rd x hx).elim (h.bB x) (fun hl => by omega)
  · exact (hU.rd x hx).elim (h.bR x) (fun hl => by omega)
  · rcases List.mem_append.1 hx with hx | hx
    · rcases List.mem_append.1 hx with hx | hx
      · exact (hT.fp x hx).imp (fun h => List.mem_append_left _ (List.mem_append_left _ h)) id
      · exact .inl (List.mem_append_left _ (List.mem_append_right _ hx))
    · rcases List.mem_append.1 hx with hx | hx
      · exact (hU.fp x hx).imp (fun h => List.mem_append_right _ (List.mem_append_left _ h)) (fun hl => by omega)
      · exact .inl (List.mem_append_right _ (List.mem_append_right _ hx))
/-- The two pairs, told the other way round. -/
theorem Quad.swap {w0 w : World} {n : Nat} {B S : Boo} {R Z : RBo} (h : Quad w0 w n B S R Z) : Quad w0 w n S B Z R := ⟨h.fr, h.hS, h.hB, h.hZ, h.hR, h.ap.symm, h.rap.symm, h.bS, h.bB, h.bZ, h.bR, h.sn, h.bn, h.oZ, h.oR⟩
theorem fpQ_swap {B S : Boo} {R Z : RBo} {x : Nat} (h : x ∈ fpQ B S R Z) : x ∈ fpQ S B Z R := by
  simp only [fpQ, List.mem_append] at h ⊢
  rcases h with (h | h) | (h | h)
  · exact .inl (.inr h)
  · exact .inl (.inl h)
  · exact .inr (.inr h)
  · exact .inr (.inl h)
theorem QTurn.swap {w0 w w' : World} {n : Nat} {B S B' S' : Boo} {R Z R' Z' : RBo} (h : QTurn w0 w w' n B S R Z B' S' R' Z') : QTurn w0 w w' n S B Z R S' B' Z' R' :=
  ⟨h.q.swap, h.fr.mono (fun x hx => fpQ_swap hx), fun x hx => (h.fp x (fpQ_swap hx)).imp fpQ_swap id, h.s, h.b, h.z, h.r⟩

/-- A Put on the first book and on the document's. -/
theorem Quad.put1 {w0 w : World} {n : Nat} {B S : Boo} {R Z : RBo} (h : Quad w0 w n B S R Z) (num a : Int) (A : Option Addr) (cap : Nat) (xs : List Int) (hx : Rds w0 A (bvals xs)) (hx1 : Bytes xs) :
    Calls Try.prog 10 #[.pointer (some ⟨B.b, 0, none⟩), .int .i64 num, .int .i64 a, .slice A xs.length cap] w fun r w' => r = .returned (.int .i64 (putE n (lastC B.con n) num a xs.length)) ∧ ∃ B', Turn w w' B B' ∧ B'.con = putA B.con n num a xs := by
  have := Put_boo B num a A cap xs w h.hB (hx.fr h.fr (by simp)) hx1 (fun hne x hm hf => by
    have h1 := hx.lt hne x hm
    have h2 := h.bB x (Boo.fp_rd hf)
    omega)
  rw [h.bn] at this
  exact this
theorem Quad.put2 {w0 w w1 : World} {n : Nat} {B S B' : Boo} {R Z : RBo} (h : Quad w0 w n B S R Z) (num a : Int) (A : Option Addr) (cap : Nat) (xs : List Int) (hx : Rds w0 A (bvals xs)) (hl : xs.length ≤ 140737488351232) (hT : Turn w w1 B B') :
    Calls Try.prog 14 #[.pointer (some ⟨R.r, 0, none⟩), .int .i64 num, .int .i64 a, .slice A xs.length cap] w1 fun r w' => r = .returned (.int .i64 (putE n (lastC B.con n) num a xs.length)) ∧ RPut w1 w' R B.con n num a xs := by
  have hn64 := h.hB.n64
  have hbn := h.bn
  refine rPut_any R B.con n num a A cap xs w1 (hT.rbo h.hB h.hR) h.oR (by omega) (fun j hj => (h.hB.data (by omega)).2) ?_ hl
  exact hx.fr (h.fr.trans' hT.fr (fun x hx => .inr (h.bB x (Boo.fp_rd hx)))) (by simp)
theorem Quad.done {w0 w w1 w' : World} {n : Nat} {B S B' : Boo} {R Z : RBo} {num a : Int} {xs : List Int} (h : Quad w0 w n B S R Z) (hT : Turn w w1 B B') (hc : B'.con = putA B.con n num a xs) (hP : RPut w1 w' R B.con n num a xs) : ∃ R', QTurn w0 w w' n B S R Z B' S R' Z := by
  obtain ⟨R', hU, hO⟩ := hP
  rw [← hc] at hO
  exact ⟨R', h.first hT hU hO⟩

set_option maxRecDepth 100000 in
set_option maxHeartbeats 8000000 in
theorem turn_put (w0 w : World) (n : Nat) (B S : Boo) (R Z : RBo) (d : Deed) (h : Quad w0 w n B S R Z) (hx : Rds w0 d.A (bvals d.xs)) (hx1 : Bytes d.xs) (hl : d.xs.length ≤ 140737488351232) (hk : I64 d.kd) (h0 : d.kd % 3 = 0) :
    Calls Try.prog 20 #[.pointer (some ⟨B.b, 0, none⟩), .pointer (some ⟨S.b, 0, none⟩), .pointer (some ⟨R.r, 0, none⟩), .pointer (some ⟨Z.r, 0, none⟩), .agg d.cells.toArray] w fun r w' => r = .returned (.bool true) ∧ ∃ B' S' R' Z', QTurn w0 w w' n B S R Z B' S' R' Z' := by
  have ham := fun W => among3 d.kd W hk.1 hk.2
  rw [h0] at ham
  have hbx : Blk (w.alloc (.cells d.cells.toArray 35)) w.heap.size 35 d.cells := Blk.new _ _ _
  have hq : Quad w0 (w.alloc (.cells d.cells.toArray 35)).drew n B S R Z := h.fr0 ((Fr.refl [] w).alloc _).drew
  have hp1 := hq.put1 d.num d.at_ d.A d.cap d.xs hx hx1
  have hp2 := fun (w1 : World) (B' : Boo) (hT : Turn (w.alloc (.cells d.cells.toArray 35)).drew w1 B B') => hq.put2 d.num d.at_ d.A d.cap d.xs hx hl hT
  have hb1 := h.hB.fp_lt
  have hb2 := h.hR.rd_lt
  obtain ⟨pe, hpe⟩ : ∃ z, putE n (lastC B.con n) d.num d.at_ d.xs.length = z := ⟨_, rfl⟩
  rw [hpe] at hp1 hp2
  have epe : (pe == pe) = true := by simp
  have HP := Lib.hid (And.intro hp1 (And.intro hp2 (And.intro hbx (And.intro hq (And.intro hb1 hb2)))))
  have HK := Lib.hid ham
  have HH := Lib.hid h
  clear h hx hx1 hl hp1 hp2 hbx hq ham hb1 hb2 h0 hk
  unfold Deed.cells at *
  go_enter Try.func20, Try.ntmps20
  go_upto_region 3 with (first | (go_at_call 41; (with_reducible refine (HK.out _).mono ?_); rintro r w1 ⟨rfl, rfl⟩))
  have DB := HP.out.2.2.1.drew
  have rb := fun (w' : World) (i : Nat) (hh : Blk w' w.heap.size 35 [.int .i64 d.kd, .int .i64 d.bk, .int .i64 d.num, .int .i64 d.at_, .slice d.A d.xs.length d.cap, .slice d.LA d.ls.length d.lcap]) => hh.cell i; have rb' := fun (w' : World) (i : Nat) (hh : Blk w' w.heap.size 35 [.int .i64 d.kd, .int .i64 d.bk, .int .i64 d.num, .int .i64 d.at_, .slice d.A d.xs.length d.cap, .slice d.LA d.ls.length d.lcap]) => hh.frozen i
  go_region_held3 (fun w' => Blk w' w.heap.size 35 [.int .i64 d.kd, .int .i64 d.bk, .int .i64 d.num, .int .i64 d.at_, .slice d.A d.xs.length d.cap, .slice d.LA d.ls.length d.lcap]) (simp [*, Blk.alloc, Blk.drew, Blk.drewN, Blk.far'])
    (first | (go_at_call 10; (with_reducible refine HP.out.1.mono ?_); rintro r w5 ⟨rfl, B', hT, hc⟩; have db := DB.fr hT.fr (fun hm => by have := HP.out.2.2.2.2.1 _ hm; omega)) | (go_at_call 14; (with_reducible refine (HP.out.2.1 w5 B' hT).mono ?_); rintro r w6 ⟨rfl, hP⟩; have ub : Blk w6 w.heap.size 35 [.int .i64 d.kd, .int .i64 d.bk, .int .i64 d.num, .int .i64 d.at_, .slice d.A d.xs.length d.cap, .slice d.LA d.ls.length d.lcap] := (by obtain ⟨R', hU, hO⟩ := hP; exact db.fr hU.fr (fun hm => by have := HP.out.2.2.2.2.2 _ (RBo.fp_rd hm); omega))))
  rename_i hHeld
  have hT := ‹Turn _ w5 B B'›
  have hc := ‹B'.con = putA B.con n d.num d.at_ d.xs›
  have hP := ‹RPut w5 w6 R B.con n d.num d.at_ d.xs›
  have HF := Lib.hid (HP.out.2.2.2.1.done hT hc hP)
  clear db ub hHeld rb rb' DB hT hc hP
  go_wp2
  go_ret
  obtain ⟨R', hQ⟩ := HF.out
  exact ⟨rfl, B', S, R', Z, (QTurn.of_fr HH.out (((Fr.refl [] w).alloc _).drew)).trans hQ⟩
end Go.Proofs.Ytaicpgkoailnkaa
