/- The shelf as one thing; what lies where by its blocks' types; the law's alike. -/
import Derived.Test.YtaicpgkoailnkaaShE
namespace Go.Proofs.Ytaicpgkoailnkaa
open Go.RowKit

/-- Block x holds elements of one of these types. -/
def Typ (w : World) (x : Nat) (ts : List TypeId) : Prop := ∃ ty cur, Blk w x ty cur ∧ ty ∈ ts
theorem Typ.no {w : World} {x : Nat} {ts us : List TypeId} (h : Typ w x ts) (k : Typ w x us) (hd : ts.all (fun t => !us.contains t) = true) : False := by
  obtain ⟨a, ca, ha, h1⟩ := h
  obtain ⟨b, cb, hb, h2⟩ := k
  have e := (ha.inj hb).2
  subst e
  rw [List.all_eq_true] at hd
  have := hd a h1
  simp [h2] at this
theorem Row.typ {w : World} {e : TypeId} {size : Nat} {A : Option Addr} {n cap : Nat} {xs : List Value} (h : Row w e size A n cap xs) {x : Nat} (hx : x ∈ fpOf A) : ∃ cur, Blk w x e cur := h.blk_of hx
theorem Boo.At.typ {B : Boo} {w : World} (h : B.At w) {x : Nat} (hx : x ∈ B.rd) : Typ w x [77, 81, 5] := by
  obtain ⟨⟨f, g1, _⟩, g3, _, _⟩ := id h
  rcases List.mem_cons.1 hx with rfl | hm
  · exact ⟨_, _, g1, by simp⟩
  · rcases List.mem_append.1 hm with hm | hm
    · obtain ⟨k, hk, rfl⟩ := List.mem_map.1 hm
      exact ⟨_, _, g3.blk k (by simpa using hk), by simp⟩
    · obtain ⟨j, hj, hx⟩ := List.mem_flatMap.1 hm
      obtain ⟨cur, hc⟩ := (g3.row j (by simpa using hj)).typ hx
      exact ⟨_, _, hc, by simp⟩
theorem Boo.At.typf {B : Boo} {w : World} (h : B.At w) {x : Nat} (hx : x ∈ B.fp) : Typ w x [77, 81] := by
  obtain ⟨⟨f, g1, _⟩, g3, _, _⟩ := id h
  rcases List.mem_cons.1 hx with rfl | hm
  · exact ⟨_, _, g1, by simp⟩
  · obtain ⟨k, hk, rfl⟩ := List.mem_map.1 hm
    exact ⟨_, _, g3.blk k (List.mem_range.1 (List.mem_filter.1 hk).1), by simp⟩
theorem RBo.At.typf {R : RBo} {w : World} (h : R.At w) {x : Nat} (hx : x ∈ R.fp) : Typ w x [91, 46] := by
  rcases List.mem_cons.1 hx with rfl | hx
  · exact ⟨_, _, h.blk, by simp⟩
  · obtain ⟨cur, hc⟩ := h.row.typ hx
    exact ⟨_, _, hc, by simp⟩
theorem RBo.At.typ {R : RBo} {w : World} (h : R.At w) {x : Nat} (hx : x ∈ R.rd) : Typ w x [91, 46, 5] := by
  rcases List.mem_append.1 hx with hx | hx
  · obtain ⟨ty, cur, h1, h2⟩ := h.typf hx
    exact ⟨ty, cur, h1, by simp at h2 ⊢; exact h2.elim .inl (fun h => .inr (.inl h))⟩
  · obtain ⟨s, hs, hx⟩ := List.mem_flatMap.1 hx
    obtain ⟨cur, hc⟩ := (h.data s hs).typ hx
    exact ⟨_, _, hc, by simp⟩

/-- One thing on the shelf. -/
structure Ent where
  A : Option Addr
  cap : Nat
  xs : List Int
  A2 : Option Addr
  cap2 : Nat
def Ent.out (e : Ent) : Value := .slice e.A e.xs.length e.cap
def Ent.want (e : Ent) : Value := .slice e.A2 e.xs.length e.cap2
def Ent.fp (e : Ent) : List Nat := fpOf e.A ++ fpOf e.A2
/-- A shelf. -/
structure Shf where
  d : Nat
  off : Nat
  t : TypeId
  cs : List Value
  O : Option Addr
  oc : Nat
  W : Option Addr
  wc : Nat
  es : List Ent
structure Shf.At (H : Shf) (w : World) : Prop where
  racks : Racks w H.d H.off H.t H.cs H.O H.oc H.W H.wc (H.es.map Ent.out) (H.es.map Ent.want)
  ty : ([H.t, 32] : List TypeId).all (fun t => !([77, 81, 5, 91, 46] : List TypeId).contains t) = true
  rows : ∀ e ∈ H.es, Row w 5 1 e.A e.xs.length e.cap (bvals e.xs) ∧ Row w 5 1 e.A2 e.xs.length e.cap2 (bvals e.xs)
def Shf.own (H : Shf) : List Nat := H.d :: (fpOf H.O ++ fpOf H.W)
theorem Shf.At.typ {H : Shf} {w : World} (h : H.At w) {x : Nat} (hx : x ∈ H.own) : Typ w x [H.t, 32] := by
  rcases List.mem_cons.1 hx with rfl | hx
  · exact ⟨_, _, h.racks.blk, by simp⟩
  · rcases List.mem_append.1 hx with hx | hx
    · obtain ⟨cur, hc⟩ := h.racks.o.typ hx
      exact ⟨_, _, hc, by simp⟩
    · obtain ⟨cur, hc⟩ := h.racks.w_.typ hx
      exact ⟨_, _, hc, by simp⟩
theorem Typ.more {w : World} {x : Nat} {ts us : List TypeId} (h : Typ w x ts) (hs : ∀ t ∈ ts, t ∈ us) : Typ w x us := by
  obtain ⟨ty, cur, h1, h2⟩ := h
  exact ⟨ty, cur, h1, hs ty h2⟩
theorem Shf.At.off_typ {H : Shf} {w : World} (h : H.At w) {x : Nat} (hx : Typ w x [77, 81, 5, 91, 46]) : x ∉ H.own := fun hm => (h.typ hm).no hx h.ty
theorem Shf.At.off_boo {H : Shf} {w : World} (h : H.At w) {B : Boo} (hB : B.At w) : ∀ x ∈ B.rd, x ∉ H.own := fun x hx => h.off_typ ((hB.typ hx).more (by simp))
theorem Shf.At.off_rbo {H : Shf} {w : World} (h : H.At w) {R : RBo} (hR : R.At w) : ∀ x ∈ R.rd, x ∉ H.own := fun x hx => h.off_typ ((hR.typ hx).more (by simp))
theorem Shf.At.off_byte {H : Shf} {w : World} (h : H.At w) {A : Option Addr} {n cap : Nat} {xs : List Value} (hr : Row w 5 1 A n cap xs) : ∀ x ∈ fpOf A, x ∉ H.own := fun x hx => h.off_typ (by
  obtain ⟨cur, hc⟩ := hr.typ hx
  exact ⟨_, _, hc, by simp⟩)
theorem Shf.At.own_lt {H : Shf} {w : World} (h : H.At w) : ∀ x ∈ H.own, x < w.heap.size := fun x hx => by
  obtain ⟨ty, cur, h1, _⟩ := h.typ hx
  exact h1.lt
theorem Shf.At.fr {H : Shf} {w w' : World} (h : H.At w) {S : List Nat} (hf : Fr S w w') (h1 : ∀ x ∈ H.own, x ∉ S) (h2 : ∀ e ∈ H.es, ∀ x ∈ e.fp, x ∉ S) : H.At w' :=
  ⟨h.racks.fr hf (h1 _ List.mem_cons_self) (fun x hx => h1 x (List.mem_cons_of_mem _ (List.mem_append_left _ hx))) (fun x hx => h1 x (List.mem_cons_of_mem _ (List.mem_append_right _ hx))), h.ty,
    fun e he => ⟨(h.rows e he).1.fr hf (fun x hx => h2 e he x (List.mem_append_left _ hx)), (h.rows e he).2.fr hf (fun x hx => h2 e he x (List.mem_append_right _ hx))⟩⟩
theorem Shf.At.fr0 {H : Shf} {w w' : World} (h : H.At w) (hf : Fr [] w w') : H.At w' := h.fr hf (by simp) (by simp)

/-- More was laid on the shelf. -/
structure Laid (w w' : World) (H H' : Shf) (new : List Ent) : Prop where
  at_ : H'.At w'
  es : H'.es = H.es ++ new
  fr : Fr H.own w w'
  own : ∀ x ∈ H'.own, x ∈ H.own ∨ w.heap.size ≤ x
  fresh : ∀ e ∈ new, ∀ x ∈ e.fp, w.heap.size ≤ x
  self : ∀ e ∈ new, ∀ x ∈ fpOf e.A, x ∉ fpOf e.A2
  apart : new.Pairwise (fun e f => ∀ x ∈ e.fp, x ∉ f.fp)
  d : H'.d = H.d
  off : H'.off = H.off
  t : H'.t = H.t
  cs : ∀ i, i ≠ H.off → i ≠ H.off + 1 → H'.cs[i]? = H.cs[i]?
theorem Laid.of_fr {w w' : World} {H : Shf} (h : H.At w) (hf : Fr [] w w') : Laid w w' H H [] := ⟨h.fr0 hf, by simp, hf.mono (by simp), fun _ h => .inl h, by simp, by simp, .nil, rfl, rfl, rfl, fun _ _ _ => rfl⟩
theorem Laid.trans {w w1 w' : World} {H H1 H' : Shf} {a b : List Ent} (h : Laid w w1 H H1 a) (k : Laid w1 w' H1 H' b) : Laid w w' H H' (a ++ b) := by
  have hs := h.fr.size
  refine ⟨k.at_, by rw [k.es, h.es, List.append_assoc], h.fr.trans' k.fr h.own, fun x hx => (k.own x hx).elim (h.own x) (fun hl => .inr (by omega)), fun e he x hx => ?_, fun e he => ?_, ?_, k.d.trans h.d, k.off.trans h.off, k.t.trans h.t, fun i h1 h2 => (k.cs i (by rw [h.off]; exact h1) (by rw [h.off]; exact h2)).trans (h.cs i h1 h2)⟩
  · rcases List.mem_append.1 he with he | he
    · exact h.fresh e he x hx
    · have := k.fresh e he x hx; omega
  · rcases List.mem_append.1 he with he | he
    · exact h.self e he
    · exact k.self e he
  · rw [List.pairwise_append]
    refine ⟨h.apart, k.apart, fun e he f hf x hx hm => ?_⟩
    have h1 := k.fresh f hf x hm
    have h2 := h.at_.rows e (by rw [h.es]; exact List.mem_append_right _ he)
    rcases List.mem_append.1 hx with hx | hx
    · have := h2.1.lt x hx; omega
    · have := h2.2.lt x hx; omega

theorem keep_shf (H : Shf) (A : Option Addr) (cap : Nat) (xs : List Int) (w0 w : World) (hf : Fr [] w0 w) (h : H.At w) (h0 : H.At w0) (hx : Row w 5 1 A xs.length cap (bvals xs)) (hA : ∀ x ∈ fpOf A, w0.heap.size ≤ x) (hb : xs.length ≤ 140737488351232) (hl : H.es.length * 24 ≤ 140737488351232) :
    Calls Try.prog 44 #[.pointer (some ⟨H.d, H.off, none⟩), .slice A xs.length cap] w fun r w' => r = .returned (.tuple #[]) ∧ ∃ (H' : Shf) (e : Ent), Laid w0 w' H H' [e] ∧ e.xs = xs := by
  refine (keep_any H.d H.off H.t H.cs H.O H.oc H.W H.wc _ _ A cap xs w h.racks hx hb (by rw [List.length_map]; exact hl)).mono ?_
  rintro r w' ⟨rfl, O', oc', W', wc', A2, cap2, h1, h2, h3, h4, h5, h6⟩
  have hsz := hf.size
  refine ⟨rfl, ⟨H.d, H.off, H.t, (H.cs.set H.off (.slice O' ((H.es.map Ent.out).length + 1) oc')).set (H.off + 1) (.slice W' ((H.es.map Ent.out).length + 1) wc'), O', oc', W', wc', H.es ++ [⟨A, cap, xs, A2, cap2⟩]⟩, ⟨A, cap, xs, A2, cap2⟩, ⟨⟨?_, h.ty, fun e he => ?_⟩, rfl, (hf.mono (by simp)).trans h6, fun x hx => ?_, fun e he x hx => ?_, fun e he x hxx hm => ?_, List.pairwise_singleton _ _, rfl, rfl, rfl, fun i i1 i2 => ?_⟩, rfl⟩
  · rw [List.map_append, List.map_append]
    exact h1
  · rcases List.mem_append.1 he with he | he
    · exact ⟨(h.rows e he).1.fr h6 (h.off_byte (h.rows e he).1), (h.rows e he).2.fr h6 (h.off_byte (h.rows e he).2)⟩
    · simp only [List.mem_singleton] at he
      subst he
      exact ⟨hx.fr h6 (h.off_byte hx), h2⟩
  · rcases List.mem_cons.1 hx with rfl | hx
    · exact .inl List.mem_cons_self
    · rcases List.mem_append.1 hx with hx | hx
      · exact (h4 x hx).imp (fun h => List.mem_cons_of_mem _ (List.mem_append_left _ h)) (fun h => by omega)
      · exact (h5 x hx).imp (fun h => List.mem_cons_of_mem _ (List.mem_append_right _ h)) (fun h => by omega)
  · simp only [List.mem_singleton] at he
    subst he
    rcases List.mem_append.1 hx with hx | hx
    · exact hA x hx
    · have := h3 x hx; omega
  · simp only [List.mem_singleton] at he
    subst he
    have := h3 x hm
    have := hx.lt x hxx
    omega
  · show ((H.cs.set H.off _).set (H.off + 1) _)[i]? = _
    rw [List.getElem?_set_ne (Ne.symm i2), List.getElem?_set_ne (Ne.symm i1)]
end Go.Proofs.Ytaicpgkoailnkaa
