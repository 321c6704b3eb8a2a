/- What holds at each round of the range of SheetsRange. -/
import Derived.Test.YtaicpgkoailnkaaShJ
import Derived.Test.YtaicpgkoailnkaaRangeV
namespace Go.Proofs.Ytaicpgkoailnkaa
open Go.RowKit

theorem OfC.at {gl : List Nat} {c : Nat → Int × List Int} {l : List Sh} (h : OfC gl c l) {k j : Nat} (hj : gl[k]? = some j) : ∃ t, l[k]? = some t ∧ t.num = (j : Int) ∧ t.at_ = (c j).1 ∧ t.xs = (c j).2 := by
  have hk := (List.getElem?_eq_some_iff.1 hj).1
  have hkl : k < l.length := by rw [h.len]; exact hk
  refine ⟨l[k], List.getElem?_eq_getElem hkl, ?_⟩
  have hi := congrArg (fun z => z[k]?) h
  simp only [List.getElem?_map, List.getElem?_eq_getElem hkl, hj, Option.map_some, Option.some.injEq, Prod.mk.injEq] at hi
  exact hi
/-- One sheet of a told list, seen by itself. -/
theorem Told.one {w : World} {wb g cap : Nat} {l : List Sh} (h : Told w wb (some ⟨g, 0, none⟩) cap l) {k : Nat} {t : Sh} (ht : l[k]? = some t) (hl : t.xs.length ≤ 140737488351232) : Seen w (some ⟨g, k * 3, none⟩) [t] := by
  refine ⟨fun _ => ⟨g, k * 3, rfl, fun q u hu => ?_⟩, fun s hs => ?_⟩
  · have hq : q < 3 := by have := (List.getElem?_eq_some_iff.1 hu).1; simpa [flatS, Sh.cells] using this
    have h1 : (flatS l)[k * 3 + q]? = some u := by
      rw [flatS_get l k q t ht hq]
      simpa [flatS] using hu
    obtain ⟨g', hA, hc⟩ := h.row.cell h1
    simp only [Option.some.injEq, Addr.mk.injEq] at hA
    rw [hA.1]; exact hc
  · simp only [List.mem_singleton] at hs
    subst hs
    exact ⟨(h.data s (List.mem_of_getElem? ht)).rds, hl⟩
theorem Seen.new {w : World} {n₀ : Nat} {num a : Int} {A : Option Addr} {xl cap : Nat} {xs : List Int} (hb : Blk w n₀ 46 [.int .i64 num, .int .i64 a, .slice A xl cap]) (hx : xs.length = xl) (hr : Rds w A (bvals xs)) (hl : xs.length ≤ 140737488351232) : Seen w (some ⟨n₀, 0, none⟩) [⟨num, a, A, cap, xs⟩] := by
  refine ⟨fun _ => ⟨n₀, 0, rfl, fun q u hu => ?_⟩, fun s hs => ?_⟩
  · rw [Nat.zero_add]
    exact hb.cell' (by rw [← hx]; simpa [flatS, Sh.cells] using hu)
  · simp only [List.mem_singleton] at hs
    subst hs
    exact ⟨hr, hl⟩
theorem same_one (A1 A2 : Option Addr) (c1 c2 : Nat) (s t : Sh) (w : World) (h1 : Seen w A1 [s]) (h2 : Seen w A2 [t]) (h : s.key = t.key) :
    Calls Try.prog 18 #[.slice A1 1 c1, .slice A2 1 c2] w fun r w' => r = .returned (.bool true) ∧ ∃ n, w' = w.drewN n := by
  have hs := same_any A1 A2 c1 c2 [s] [t] w h1 h2 (by simp)
  rw [decide_eq_true (show [s].map Sh.key = [t].map Sh.key by simp [h])] at hs
  exact hs
/-- What the range holds at its start keeps off what the iterator reads. -/
theorem Quad.off_lies {w0 w : World} {n : Nat} {B S : Boo} {R Z : RBo} (h : Quad w0 w n B.shut S R Z) : ∀ x ∈ fpQ B.shut S R Z, x ∉ lies B.pc B.lf := fun x hx hm => by
  have hr : x ∈ B.shut.rd := List.mem_cons_of_mem _ hm
  rcases List.mem_append.1 hx with hx | hx
  · rcases List.mem_append.1 hx with hx | hx
    · rw [Boo.shut_fp] at hx
      simp only [List.mem_singleton] at hx
      subst hx
      exact h.hB.ne hm
    · exact h.ap.r x hr hx
  · rcases List.mem_append.1 hx with hx | hx
    · exact (h.hB.typ hr).no (h.hR.typf hx) (by decide)
    · exact (h.hB.typ hr).no (h.hZ.typf hx) (by decide)
theorem Quad.typ {w0 w : World} {n : Nat} {B S : Boo} {R Z : RBo} (h : Quad w0 w n B S R Z) {x : Nat} (hx : x ∈ fpQ B S R Z) : Typ w x [77, 81, 91, 46] := by
  rcases List.mem_append.1 hx with hx | hx
  · rcases List.mem_append.1 hx with hx | hx
    · exact (h.hB.typf hx).more (by simp)
    · exact (h.hS.typf hx).more (by simp)
  · rcases List.mem_append.1 hx with hx | hx
    · exact (h.hR.typf hx).more (by simp)
    · exact (h.hZ.typf hx).more (by simp)
theorem Quad.lt {w0 w : World} {n : Nat} {B S : Boo} {R Z : RBo} (h : Quad w0 w n B S R Z) {x : Nat} (hx : x ∈ fpQ B S R Z) : x < w.heap.size := by
  obtain ⟨ty, cur, h1, _⟩ := h.typ hx
  exact h1.lt
theorem fpQ_shut {B S : Boo} {R Z : RBo} {x : Nat} (h : x ∈ fpQ B.shut S R Z) : x ∈ fpQ B S R Z := by
  unfold fpQ at h ⊢
  rw [Boo.shut_fp] at h
  simp only [List.mem_append, List.mem_singleton] at h ⊢
  rcases h with (rfl | h) | h
  · exact .inl (.inl List.mem_cons_self)
  · exact .inl (.inr h)
  · exact .inr h
theorem Quad.ge {w0 w : World} {n : Nat} {B S : Boo} {R Z : RBo} (h : Quad w0 w n B S R Z) {x : Nat} (hx : x ∈ fpQ B S R Z) : w0.heap.size ≤ x := by
  rcases List.mem_append.1 hx with hx | hx
  · rcases List.mem_append.1 hx with hx | hx
    · exact h.bB x (Boo.fp_rd hx)
    · exact h.bS x (Boo.fp_rd hx)
  · rcases List.mem_append.1 hx with hx | hx
    · exact h.bR x (RBo.fp_rd hx)
    · exact h.bZ x (RBo.fp_rd hx)
theorem Quad.nc {w0 w w' : World} {n n₀ : Nat} {B S : Boo} {R Z : RBo} (h : Quad w0 w n B S R Z) (hn : NC n₀ w w') (hl : w0.heap.size ≤ n₀) : Quad w0 w' n B S R Z :=
  ⟨h.fr.nc hn hl, h.hB.nc hn, h.hS.nc hn, h.hR.nc hn, h.hZ.nc hn, h.ap, h.rap, h.bB, h.bS, h.bR, h.bZ, h.bn, h.sn, h.oR, h.oZ⟩
/-- Only blocks beyond those that it had turned. -/
theorem Quad.past {w0 A w w' : World} {n : Nat} {B S : Boo} {R Z : RBo} (hA : Quad w0 A n B S R Z) (h : Quad w0 w n B S R Z) {T : List Nat} (hf : Fr T w w') (hT : ∀ x ∈ T, A.heap.size ≤ x) : Quad w0 w' n B S R Z := by
  have s0 := hA.fr.size
  have off : ∀ x, x < A.heap.size → x ∉ T := fun x hx hm => by have := hT x hm; omega
  exact ⟨h.fr.trans' hf (fun x hx => .inr (by have := hT x hx; omega)), h.hB.fr hf (fun x hx => off x (hA.hB.rd_lt x hx)), h.hS.fr hf (fun x hx => off x (hA.hS.rd_lt x hx)), h.hR.fr hf (fun x hx => off x (hA.hR.rd_lt x hx)), h.hZ.fr hf (fun x hx => off x (hA.hZ.rd_lt x hx)),
    h.ap, h.rap, h.bB, h.bS, h.bR, h.bZ, h.bn, h.sn, h.oR, h.oZ⟩

/-- A round's state: the four books, the boxes, the counter, what is wanted. -/
structure Rg (w0 : World) (n : Nat) (BX : List (Nat × TypeId × Value)) (wb : Nat) (wA : Option Addr) (wcap : Nat) (wl : List Sh) (b s r z ti : Nat) (k : Nat) (W : World) (B S : Boo) (R Z : RBo) : Prop where
  q : Quad w0 W n B S R Z
  bx : Boxes W BX
  i : Blk W ti 3 [.int .i64 (k : Nat)]
  want : Told W wb wA wcap wl
  wo : ∀ x ∈ fpOf wA, x ∉ fpQ B S R Z
  eb : B.b = b
  es : S.b = s
  er : R.r = r
  ez : Z.r = z

section
variable {w0 W W' A : World} {n : Nat} {BX : List (Nat × TypeId × Value)} {wb : Nat} {wA : Option Addr} {wcap : Nat} {wl : List Sh} {b s r z ti k : Nat} {B S B' S' : Boo} {R Z R' Z' : RBo}
theorem Rg.fr0 (h : Rg w0 n BX wb wA wcap wl b s r z ti k W B S R Z) (hf : Fr [] W W') : Rg w0 n BX wb wA wcap wl b s r z ti k W' B S R Z :=
  ⟨h.q.fr0 hf, h.bx.fr0 hf, h.i.fr hf (by simp), h.want.fr0 hf, h.wo, h.eb, h.es, h.er, h.ez⟩
theorem Rg.nc {n₀ : Nat} (h : Rg w0 n BX wb wA wcap wl b s r z ti k W B S R Z) (hn : NC n₀ W W') (hl : w0.heap.size ≤ n₀) : Rg w0 n BX wb wA wcap wl b s r z ti k W' B S R Z :=
  ⟨h.q.nc hn hl, h.bx.nc hn, h.i.nc hn, h.want.nc hn, h.wo, h.eb, h.es, h.er, h.ez⟩
theorem Rg.past (hA : Rg w0 n BX wb wA wcap wl b s r z ti k A B S R Z) (h : Rg w0 n BX wb wA wcap wl b s r z ti k W B S R Z) {T : List Nat} (hf : Fr T W W') (hT : ∀ x ∈ T, A.heap.size ≤ x) : Rg w0 n BX wb wA wcap wl b s r z ti k W' B S R Z := by
  have off : ∀ x, x < A.heap.size → x ∉ T := fun x hx hm => by have := hT x hm; omega
  exact ⟨hA.q.past h.q hf hT, h.bx.fr hf (fun p hp => off _ (hA.bx p hp).lt), h.i.fr hf (off _ hA.i.lt), h.want.fr hf (fun x hx => off x (hA.want.row.lt x hx)) (fun s hs x hx => off x ((hA.want.data s hs).lt x hx)), h.wo, h.eb, h.es, h.er, h.ez⟩
theorem Rg.off (h : Rg w0 n BX wb wA wcap wl b s r z ti k W B S R Z) (hb : ∀ p ∈ BX, p.2.1 ∉ ([77, 81, 91, 46, 5] : List TypeId)) {x : Nat} {ty : TypeId} {v : Value} (hp : (x, ty, v) ∈ BX) : x ∉ fpQ B S R Z := fun hm =>
  h.bx.off (ts := [77, 81, 91, 46]) (fun p hp hm => hb p hp (by simp only [List.mem_cons, List.not_mem_nil, or_false] at hm; rcases hm with h | h | h | h <;> simp [h])) (h.q.typ hm) _ hp rfl
theorem Rg.offi (h : Rg w0 n BX wb wA wcap wl b s r z ti k W B S R Z) : ti ∉ fpQ B S R Z := fun hm => (h.q.typ hm).not h.i (by decide)
theorem Rg.turn (h : Rg w0 n BX wb wA wcap wl b s r z ti k W B S R Z) (hb : ∀ p ∈ BX, p.2.1 ∉ ([77, 81, 91, 46, 5] : List TypeId)) (hT : QTurn w0 W W' n B S R Z B' S' R' Z') : Rg w0 n BX wb wA wcap wl b s r z ti k W' B' S' R' Z' := by
  refine ⟨hT.q, h.bx.fr hT.fr (fun p hp hm => ?_), h.i.fr hT.fr (fun hm => (h.q.typ hm).not h.i (by decide)), h.want.fr hT.fr h.wo (fun s hs x hx hm => ?_), fun x hx hm => ?_, hT.b.trans h.eb, hT.s.trans h.es, hT.r.trans h.er, hT.z.trans h.ez⟩
  · exact h.bx.off (ts := [77, 81, 91, 46]) (fun p hp hm => hb p hp (by simp only [List.mem_cons, List.not_mem_nil, or_false] at hm; rcases hm with h | h | h | h <;> simp [h])) (h.q.typ hm) p hp rfl
  · obtain ⟨cur, hc⟩ := (h.want.data s hs).typ hx
    exact (h.q.typ hm).not hc (by decide)
  · rcases hT.fp x hm with h1 | h1
    · exact h.wo x hx h1
    · have := h.want.row.lt x hx; omega
/-- The first book's pieces are shared from now on. -/
theorem Quad.shut (h : Quad w0 W n B S R Z) (hf : Fr [B.b] W W') (hB : B.shut.At W') : QTurn w0 W W' n B S R Z B.shut S R Z := by
  have hT : Turn W W' B B.shut := Turn.shut hB hf
  exact h.first hT (RTurn.of_fr (hT.rbo h.hB h.hR) (Fr.refl _ _)) h.oR
theorem Rg.shut (h : Rg w0 n BX wb wA wcap wl b s r z ti k W B S R Z) (hb : ∀ p ∈ BX, p.2.1 ∉ ([77, 81, 91, 46, 5] : List TypeId)) (hf : Fr [B.b] W W') (hB : B.shut.At W') : Rg w0 n BX wb wA wcap wl b s r z ti k W' B.shut S R Z := h.turn hb (h.q.shut hf hB)
/-- A block of another type turns. -/
theorem Quad.box {cs : List Value} {ty : TypeId} (h : Quad w0 W n B S R Z) (hb : Blk W ti ty cs) (ht : ([77, 81, 91, 46, 5] : List TypeId).contains ty = false) (hl : w0.heap.size ≤ ti) (hf : Fr [ti] W W') : Quad w0 W' n B S R Z := by
  have e : ∀ ts : List TypeId, (∀ t ∈ ts, t ∈ ([77, 81, 91, 46, 5] : List TypeId)) → ∀ x, Typ W x ts → x ∉ [ti] := fun ts hs x hx hm => by
    simp only [List.mem_singleton] at hm
    subst hm
    exact (hx.more hs).not hb ht
  exact ⟨h.fr.trans' hf (fun x hx => by simp at hx; right; omega), h.hB.fr hf (fun x hx => e _ (by simp) x (h.hB.typ hx)), h.hS.fr hf (fun x hx => e _ (by simp) x (h.hS.typ hx)), h.hR.fr hf (fun x hx => e _ (by simp) x (h.hR.typ hx)), h.hZ.fr hf (fun x hx => e _ (by simp) x (h.hZ.typ hx)),
    h.ap, h.rap, h.bB, h.bS, h.bR, h.bZ, h.bn, h.sn, h.oR, h.oZ⟩
theorem Rg.tick (h : Rg w0 n BX wb wA wcap wl b s r z ti k W B S R Z) (hti : ∀ p ∈ BX, p.1 ≠ ti) (hl : w0.heap.size ≤ ti) (k' : Nat) : Rg w0 n BX wb wA wcap wl b s r z ti k' (W.setCell ⟨ti, 0, none⟩ (.int .i64 (k' : Nat))) B S R Z := by
  have hf : Fr [ti] W (W.setCell ⟨ti, 0, none⟩ (.int .i64 (k' : Nat))) := (Fr.refl _ _).setCell' (.inl (by simp))
  exact ⟨h.q.box h.i (by decide) hl hf, h.bx.fr hf (fun p hp => by simpa using hti p hp), h.i.set' rfl, h.want.fr hf (fun x hx hm => by simp at hm; exact h.want.row.ne_blk h.i (by decide) x hx hm) (fun s hs x hx hm => by simp at hm; exact (h.want.data s hs).ne_blk h.i (by decide) x hx hm), h.wo, h.eb, h.es, h.er, h.ez⟩
/-- Another box turns. -/
theorem Rg.other {tj : Nat} {cs : List Value} (h : Rg w0 n BX wb wA wcap wl b s r z ti k W B S R Z) (hb : Blk W tj 3 cs) (htj : ∀ p ∈ BX, p.1 ≠ tj) (hne : ti ≠ tj) (hl : w0.heap.size ≤ tj) (hf : Fr [tj] W W') : Rg w0 n BX wb wA wcap wl b s r z ti k W' B S R Z :=
  ⟨h.q.box hb (by decide) hl hf, h.bx.fr hf (fun p hp => by simpa using htj p hp), h.i.fr hf (by simpa using hne), h.want.fr hf (fun x hx hm => by simp at hm; exact h.want.row.ne_blk hb (by decide) x hx hm) (fun s hs x hx hm => by simp at hm; exact (h.want.data s hs).ne_blk hb (by decide) x hx hm), h.wo, h.eb, h.es, h.er, h.ez⟩
end
end Go.Proofs.Ytaicpgkoailnkaa
