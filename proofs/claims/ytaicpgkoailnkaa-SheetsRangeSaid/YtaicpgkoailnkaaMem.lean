/- Words for memory, over any program: a block that is known whole (Blk), 'of what lay only the blocks of a list have turned' (Fr), a slice of the call's own (Row), and how each is carried over a draw, a new block, a store, a call. No statement of a law stands here. -/
import Derived.WalkKit
import Derived.WalkSpells
import Derived.WalkLawsBesides
import Derived.BigQuiet
import Derived.Deep.QuietTactic
import Derived.Deep.RegionHeld3
import Derived.Lib.Hide
import Derived.StillTailTactics
import Derived.Deep.DeepCutAuto
namespace Go.Proofs.Ytaicpgkoailnkaa
open Go.RowKit

theorem addr_add (b o k : Nat) : (⟨b, o, none⟩ : Addr).add k = ⟨b, o + k, none⟩ := by
  unfold Addr.add; split <;> simp_all

/-- Block g is just these cells, none frozen. -/
def Blk (w : World) (g : Nat) (t : TypeId) (cs : List Value) : Prop := w.heap[g]? = some (.cells cs.toArray t (0, 0))

section
variable {w w' : World} {g : Nat} {t : TypeId} {cs : List Value}
theorem Blk.lt (h : Blk w g t cs) : g < w.heap.size := by
  rcases Nat.lt_or_ge g w.heap.size with hlt | hge
  · exact hlt
  · unfold Blk at h; rw [Array.getElem?_eq_none hge] at h; cases h
theorem Blk.cell (h : Blk w g t cs) (i : Nat) : w.cell? ⟨g, i, none⟩ = cs[i]? := by
  unfold Blk at h; simp [World.cell?, h]
theorem Blk.cell' (h : Blk w g t cs) {i : Nat} {v : Value} (hv : cs[i]? = some v) : w.cell? ⟨g, i, none⟩ = some v := (h.cell i).trans hv
theorem Blk.frozen (h : Blk w g t cs) (i : Nat) : w.frozen? ⟨g, i, none⟩ = false := by
  unfold Blk at h; simp [World.frozen?, h]
theorem Blk.new (w : World) (t : TypeId) (cs : List Value) : Blk (w.alloc (.cells cs.toArray t)) w.heap.size t cs := heap_alloc_new w _
theorem Blk.drew (h : Blk w g t cs) : Blk w.drew g t cs := h
theorem Blk.drewN (h : Blk w g t cs) (n : Nat) : Blk (w.drewN n) g t cs := h
theorem Blk.alloc (h : Blk w g t cs) (o : Obj) : Blk (w.alloc o) g t cs := (Below.heap_alloc w o g h.lt).trans h
theorem Blk.set_ (h : Blk w g t cs) (i : Nat) (u : Value) : Blk (w.setCell ⟨g, i, none⟩ u) g t (cs.set i u) := by
  unfold Blk at h ⊢
  simp [World.setCell, Array.getElem?_modify, h]
theorem Blk.set' {i : Nat} {u : Value} {cs' : List Value} (h : Blk w g t cs) (hc : cs.set i u = cs') : Blk (w.setCell ⟨g, i, none⟩ u) g t cs' := hc ▸ h.set_ i u
theorem Blk.new' {n : Nat} (hn : n = w.heap.size) : Blk (w.alloc (.cells cs.toArray t)) n t cs := by subst hn; exact Blk.new w t cs
theorem Blk.far (h : Blk w g t cs) {p : Addr} (hp : g ≠ p.block) (u : Value) : Blk (w.setCell p u) g t cs := (Below.heap_setCell w p u g hp).trans h
theorem Blk.far' {b o : Nat} {u : Value} (h : Blk w g t cs) (hp : g ≠ b) : Blk (w.setCell ⟨b, o, none⟩ u) g t cs := h.far (p := ⟨b, o, none⟩) hp u
theorem Blk.inj {t' : TypeId} {cs' : List Value} (h : Blk w g t cs) (h' : Blk w g t' cs') : cs = cs' ∧ t = t' := by
  unfold Blk at h h'; rw [h] at h'; simp at h'; exact h'
/-- Blocks of different element types differ. -/
theorem Blk.ne {g' : Nat} {t' : TypeId} {cs' : List Value} (h : Blk w g t cs) (h' : Blk w g' t' cs') (ht : t ≠ t') : g ≠ g' := by
  rintro rfl; exact ht (h.inj h').2
end

/-- Of what lay in w only the blocks of S may have turned. -/
structure Fr (S : List Nat) (w w' : World) : Prop where
  os : w'.os = w.os
  tape : w'.tape = w.tape
  output : w'.output = w.output
  size : w.heap.size ≤ w'.heap.size
  block : ∀ k, k < w.heap.size → k ∉ S → w'.heap[k]? = w.heap[k]?

section
variable {S S' : List Nat} {w w1 w' : World}
theorem Fr.refl (S : List Nat) (w : World) : Fr S w w := ⟨rfl, rfl, rfl, Nat.le_refl _, fun _ _ _ => rfl⟩
theorem Fr.trans' (h : Fr S w w1) (k : Fr S' w1 w') (hs : ∀ b ∈ S', b ∈ S ∨ w.heap.size ≤ b) : Fr S w w' :=
  ⟨k.os.trans h.os, k.tape.trans h.tape, k.output.trans h.output, Nat.le_trans h.size k.size, fun b hb hn =>
    (k.block b (Nat.lt_of_lt_of_le hb h.size) (fun hm => (hs b hm).elim hn (fun hx => by omega))).trans (h.block b hb hn)⟩
theorem Fr.trans (h : Fr S w w1) (k : Fr S w1 w') : Fr S w w' := h.trans' k (fun _ hb => .inl hb)
theorem Fr.mono (h : Fr S w w') (hs : ∀ b ∈ S, b ∈ S') : Fr S' w w' := ⟨h.os, h.tape, h.output, h.size, fun b hb hn => h.block b hb (fun hm => hn (hs b hm))⟩
/-- What is beyond the heap's end need not be named. -/
theorem Fr.less (h : Fr S w w') (hs : ∀ b ∈ S, b ∈ S' ∨ w.heap.size ≤ b) : Fr S' w w' :=
  ⟨h.os, h.tape, h.output, h.size, fun b hb hn => h.block b hb (fun hm => (hs b hm).elim hn (fun hx => by omega))⟩
theorem Fr.drew (h : Fr S w w') : Fr S w w'.drew := ⟨h.os, h.tape, h.output, h.size, h.block⟩
theorem Fr.drewN (h : Fr S w w') (n : Nat) : Fr S w (w'.drewN n) := ⟨h.os, h.tape, h.output, h.size, h.block⟩
theorem Fr.alloc (h : Fr S w w') (o : Obj) : Fr S w (w'.alloc o) :=
  ⟨h.os, h.tape, h.output, Nat.le_trans h.size (by simp), fun b hb hn => (Below.heap_alloc w' o b (Nat.lt_of_lt_of_le hb h.size)).trans (h.block b hb hn)⟩
theorem Fr.setCell (h : Fr S w w') {p : Addr} (hp : p.block ∈ S ∨ w.heap.size ≤ p.block) (u : Value) : Fr S w (w'.setCell p u) :=
  ⟨h.os, h.tape, h.output, by simpa [World.setCell] using h.size, fun b hb hn => (Below.heap_setCell w' p u b (by
    rintro rfl
    rcases hp with hp | hp
    · exact hn hp
    · omega)).trans (h.block b hb hn)⟩
theorem Fr.grown {row : Option Nat} (h : Fr S w w1) (hg : w1.grownBy w' row) (hr : ∀ k, row = some k → k ∈ S ∨ w.heap.size ≤ k) : Fr S w w' :=
  ⟨hg.os.trans h.os, hg.tape.trans h.tape, hg.output.trans h.output, Nat.le_trans h.size hg.size, fun b hb hn =>
    (hg.block b (Nat.lt_of_lt_of_le hb h.size) (fun e => (hr b e.symm).elim hn (fun hx => by omega))).trans (h.block b hb hn)⟩
theorem Fr.of_below (h : Below w.heap.size w w') : Fr [] w w' := ⟨h.os, h.tape, h.output, h.size, fun k hk _ => h.block k hk⟩
theorem Fr.below (h : Fr [] w w') : Below w.heap.size w w' := ⟨h.os, h.tape, h.output, h.size, fun k hk => h.block k hk (by simp)⟩
theorem Fr.belowB {B : Nat} (h : Fr S w w') (hB : B ≤ w.heap.size) (hs : ∀ b ∈ S, B ≤ b) : Below B w w' :=
  ⟨h.os, h.tape, h.output, h.size, fun k hk => h.block k (by omega) (fun hm => by have := hs k hm; omega)⟩
theorem Fr.cell (h : Fr S w w') {b o : Nat} {v : Value} (hb : b ∉ S) (hc : w.cell? ⟨b, o, none⟩ = some v) : w'.cell? ⟨b, o, none⟩ = some v :=
  (World.cell?_of_block (w := w) (h.block b (World.block_lt_of_cell? w ⟨b, o, none⟩ hc) hb)).trans hc
theorem Fr.obj (h : Fr S w w') {b : Nat} {o : Obj} (hb : b ∉ S) (hc : w.heap[b]? = some o) : w'.heap[b]? = some o :=
  (h.block b (Array.getElem?_eq_some_iff.1 hc).1 hb).trans hc
theorem Blk.fr {g : Nat} {t : TypeId} {cs : List Value} (hc : Blk w g t cs) (h : Fr S w w') (hb : g ∉ S) : Blk w' g t cs := h.obj hb hc
theorem ownsRow_fr {base : Nat} {e : TypeId} {size : Nat} {v : Value} {n : Nat} {xs : List Value} (hr : w.ownsRow base e size v n xs) (h : Fr S w w')
    (hb : ∀ g, v.ownBlock = some g → g ∉ S) : w'.ownsRow base e size v n xs := by
  refine ⟨hr.1, ?_⟩
  rcases hr.2 with h2 | ⟨g, cap, cur, hv, hg, hh, r⟩
  · exact Or.inl h2
  · exact Or.inr ⟨g, cap, cur, hv, hg, h.obj (hb g (by rw [hv]; rfl)) hh, r⟩
theorem Fr.setCell' (h : Fr S w w') {b o : Nat} {u : Value} (hp : b ∈ S ∨ w.heap.size ≤ b) : Fr S w (w'.setCell ⟨b, o, none⟩ u) := h.setCell (p := ⟨b, o, none⟩) hp u
end

theorem setCell_drewN (w : World) (n : Nat) (a : Addr) (v : Value) : (w.drewN n).setCell a v = (w.setCell a v).drewN n := rfl
theorem alloc_drewN (w : World) (n : Nat) (o : Obj) : (w.drewN n).alloc o = (w.alloc o).drewN n := rfl

end Go.Proofs.Ytaicpgkoailnkaa
