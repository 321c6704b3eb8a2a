/- What comes in: lists of entries and scripts, opened to lists. -/
import Derived.Test.YtneinhhmhgdefaaLawA
import Derived.Test.YtneinhhmhgdefaaLift
namespace Go.Proofs.Ytneinhhmhgdefaa
open Go.ChangeShapes Go.WideShapes Go.ChangeAt Go.RowKit Go.Deep

section
variable {H : Type} {enc : TypeId × Value → H} {w : World} {base : Nat} {spare : Nat → Bool} {held : Bool}

theorem cells3 : Try.prog.cellsOf 3 = 1 := by kernel_rfl
theorem cells9 : Try.prog.cellsOf 9 = 1 := by kernel_rfl
theorem cells35 : Try.prog.cellsOf 35 = 5 := by kernel_rfl
theorem cells37 : Try.prog.cellsOf 37 = 7 := by kernel_rfl
theorem cells22 : Try.prog.cellsOf 22 = 1 := by kernel_rfl
theorem cells43 : Try.prog.cellsOf 43 = 12 := by kernel_rfl
theorem bytes37 : Try.prog.bytesOf 37 = 72 := by kernel_rfl

theorem open_op {fuel : Nat} {cs : List Value} {x : DataW H × List MemPlace} (h : DataW.trod enc Try.prog w base spare held fuel 35 cs = some x) :
    ∃ (k : Int) (nm tx : ByteArray) (u m : Int), cs = [.int .i64 k, .string nm, .string tx, .int .i64 u, .int .i64 m] := by
  obtain ⟨xs, n, _, _, hlen, hxl, hf⟩ := DataW.trod_struct Try.underlying35 h
  rw [cells35] at hlen
  match cs, hlen with
  | [a0, a1, a2, a3, a4], _ =>
    match xs, hxl with
    | [y0, y1, y2, y3, y4], _ =>
      have h0 := hf 0 _ rfl
      have h1 := hf 1 _ rfl
      have h2 := hf 2 _ rfl
      have h3 := hf 3 _ rfl
      have h4 := hf 4 _ rfl
      simp only [cells3, cells9, List.getElem_toArray, List.getElem_cons_zero, List.getElem_cons_succ, List.drop_zero, List.drop_succ_cons, List.take_succ_cons, List.take_zero, List.getElem?_cons_zero, List.getElem?_cons_succ] at h0 h1 h2 h3 h4
      obtain ⟨k, e0, _, _⟩ := DataW.trod_int Try.underlying3 h0
      obtain ⟨nm, e1, _, _⟩ := DataW.trod_string Try.underlying9 h1
      obtain ⟨tx, e2, _, _⟩ := DataW.trod_string Try.underlying9 h2
      obtain ⟨u, e3, _, _⟩ := DataW.trod_int Try.underlying3 h3
      obtain ⟨m, e4, _, _⟩ := DataW.trod_int Try.underlying3 h4
      simp at e0 e1 e2 e3 e4
      subst e0 e1 e2 e3 e4
      exact ⟨k, nm, tx, u, m, rfl⟩

theorem open_ent {fuel : Nat} {cs : List Value} {x : DataW H × List MemPlace} (h : DataW.trod enc Try.prog w base spare held fuel 37 cs = some x) : ∃ e : Ent, cs = e.cells := by
  obtain ⟨xs, n, _, _, hlen, hxl, hf⟩ := DataW.trod_struct Try.underlying37 h
  rw [cells37] at hlen
  match cs, hlen with
  | [a0, a1, a2, a3, a4, a5, a6], _ =>
    match xs, hxl with
    | [y0, y1, y2], _ =>
      have h0 := hf 0 _ rfl
      have h1 := hf 1 _ rfl
      have h2 := hf 2 _ rfl
      simp only [cells3, cells35, List.getElem_toArray, List.getElem_cons_zero, List.getElem_cons_succ, List.drop_zero, List.drop_succ_cons, List.take_succ_cons, List.take_zero, List.getElem?_cons_zero, List.getElem?_cons_succ] at h0 h1 h2
      obtain ⟨c, e0, _, _⟩ := DataW.trod_int Try.underlying3 h0
      obtain ⟨nn, e1, _, _⟩ := DataW.trod_int Try.underlying3 h1
      obtain ⟨k, nm, tx, u, m, e2⟩ := open_op h2
      simp at e0 e1 e2
      obtain ⟨rfl, rfl, rfl, rfl, rfl⟩ := e2
      subst e0 e1
      exact ⟨⟨c, nn, k, nm, tx, u, m⟩, rfl⟩

theorem ent_cells_length (e : Ent) : e.cells.length = 7 := rfl
theorem deed_cells_length (e : Deed) : e.cells.length = 12 := rfl

theorem open_ents {fuel : Nat} {cs : List Value} {x : DataW H × List MemPlace} (h : DataW.trod enc Try.prog w base spare held fuel 22 cs = some x) (hz : ∀ n ∈ x.1.weights Try.prog 22, n ≤ reachBytes) :
    ∃ (A : Option Addr) (M : List Ent) (cap : Nat), cs = [.slice A M.length cap] ∧ Rds w A (flat M) ∧ M.length * 72 ≤ 140737488351232 := by
  rcases open_slice Try.underlying22 h with ⟨rfl, rfl⟩ | ⟨a, len, cap, m, n, D, Pl, rfl, hb, hl, hm, hmm, rfl, hi⟩
  · exact ⟨none, [], 0, rfl, Rds.nil _ _, by simp⟩
  · have hlm : len ≤ m := by rw [hmm]; split <;> omega
    rw [cells37] at hi
    obtain ⟨M, hM, hR⟩ := list_of (fun i (e : Ent) => w.cells? base (a.add (i * 7)) 7 = some e.cells) len (fun i hi2 => by
      obtain ⟨cs', hc, ht⟩ := hi i (by omega)
      obtain ⟨e, rfl⟩ := open_ent ht
      exact ⟨e, hc⟩)
    refine ⟨some a, M, cap, by rw [hM], ?_, ?_⟩
    · exact rds_of (by omega) Ent.cells ent_cells_length M (fun i e he j hj => (World.cells?_some (hR i e he)).2.2 j hj)
    · have := hz _ (by rw [weights_slice Try.underlying22]; exact List.mem_cons_self)
      rw [bytes37] at this
      simp only [List.length_map, List.length_range, reachBytes] at this
      rw [hM]
      omega

theorem wf_i64 {n : Int} (h : (Lit.int .i64 n).wf = true) : -9223372036854775808 ≤ n ∧ n ≤ 9223372036854775807 := by
  simpa [Lit.wf, IntKind.min, IntKind.max, IntKind.signed, IntKind.bits] using h

theorem open_deed {fuel : Nat} {cs : List Value} {x : DataW H × List MemPlace} (h : DataW.trod enc Try.prog w base spare held fuel 43 cs = some x) (hz : ∀ n ∈ x.1.weights Try.prog 43, n ≤ reachBytes) :
    ∃ d : Deed, cs = d.cells ∧ Rds w d.A (flat d.xs) ∧ d.xs.length * 72 ≤ 140737488351232 ∧ (-9223372036854775808 ≤ d.kd ∧ d.kd ≤ 9223372036854775807) ∧ (-9223372036854775808 ≤ d.lg ∧ d.lg ≤ 9223372036854775807) ∧ (-9223372036854775808 ≤ d.op ∧ d.op ≤ 9223372036854775807) ∧ (-9223372036854775808 ≤ d.mo ∧ d.mo ≤ 9223372036854775807) := by
  obtain ⟨xs, n, _, rfl, hlen, hxl, hf⟩ := DataW.trod_struct Try.underlying43 h
  rw [cells43] at hlen
  match cs, hlen with
  | [a0, a1, a2, a3, a4, a5, a6, a7, a8, a9, a10, a11], _ =>
    match xs, hxl with
    | [y0, y1, y2, y3, y4, y5], _ =>
      have h0 := hf 0 _ rfl
      have h1 := hf 1 _ rfl
      have h2 := hf 2 _ rfl
      have h3 := hf 3 _ rfl
      have h4 := hf 4 _ rfl
      have h5 := hf 5 _ rfl
      simp only [cells3, cells37, cells22, List.getElem_toArray, List.getElem_cons_zero, List.getElem_cons_succ, List.drop_zero, List.drop_succ_cons, List.take_succ_cons, List.take_zero, List.getElem?_cons_zero, List.getElem?_cons_succ] at h0 h1 h2 h3 h4 h5
      obtain ⟨kd, e0, _, w0⟩ := DataW.trod_int Try.underlying3 h0
      obtain ⟨lg, e1, _, w1⟩ := DataW.trod_int Try.underlying3 h1
      obtain ⟨op, e2, _, w2⟩ := DataW.trod_int Try.underlying3 h2
      obtain ⟨mo, e3, _, w3⟩ := DataW.trod_int Try.underlying3 h3
      obtain ⟨e, e4⟩ := open_ent h4
      obtain ⟨A, M, cap, e5, hR, hL⟩ := open_ents h5 (fun n hn => hz n (weights_part (j := 5) Try.underlying43 rfl rfl hn))
      simp [Ent.cells] at e0 e1 e2 e3 e4 e5
      obtain ⟨rfl, rfl, rfl, rfl, rfl, rfl, rfl⟩ := e4
      subst e0 e1 e2 e3 e5
      exact ⟨⟨kd, lg, op, mo, e, A, M, cap⟩, rfl, hR, hL, wf_i64 w0, wf_i64 w1, wf_i64 w2, wf_i64 w3⟩

theorem open_deeds {fuel : Nat} {cs : List Value} {x : DataW H × List MemPlace} (h : DataW.trod enc Try.prog w base spare held fuel 23 cs = some x) (hz : ∀ n ∈ x.1.weights Try.prog 23, n ≤ reachBytes) :
    ∃ (A : Option Addr) (Ds : List Deed) (cap : Nat), cs = [.slice A Ds.length cap] ∧ Deeds w A Ds ∧ Ds.length * Try.prog.bytesOf 43 ≤ 140737488351232 ∧ ∀ d ∈ Ds, (-9223372036854775808 ≤ d.lg ∧ d.lg ≤ 9223372036854775807) ∧ (-9223372036854775808 ≤ d.op ∧ d.op ≤ 9223372036854775807) ∧ (-9223372036854775808 ≤ d.mo ∧ d.mo ≤ 9223372036854775807) := by
  rcases open_slice Try.underlying23 h with ⟨rfl, rfl⟩ | ⟨a, len, cap, m, n, D, Pl, rfl, hb, hl, hm, hmm, rfl, hi⟩
  · exact ⟨none, [], 0, rfl, ⟨Rds.nil _ _, by simp, by simp, by simp⟩, by simp, by simp⟩
  · have hlm : len ≤ m := by rw [hmm]; split <;> omega
    rw [cells43] at hi
    obtain ⟨M, hM, hR⟩ := list_of (fun i (e : Deed) => w.cells? base (a.add (i * 12)) 12 = some e.cells ∧ Rds w e.A (flat e.xs) ∧ e.xs.length * 72 ≤ 140737488351232 ∧ (-9223372036854775808 ≤ e.kd ∧ e.kd ≤ 9223372036854775807) ∧ (-9223372036854775808 ≤ e.lg ∧ e.lg ≤ 9223372036854775807) ∧ (-9223372036854775808 ≤ e.op ∧ e.op ≤ 9223372036854775807) ∧ (-9223372036854775808 ≤ e.mo ∧ e.mo ≤ 9223372036854775807)) len (fun i hi2 => by
      obtain ⟨cs', hc, ht⟩ := hi i (by omega)
      obtain ⟨e, rfl, r1⟩ := open_deed ht (fun n hn => hz n (weights_elem Try.underlying23 (List.mem_map.2 ⟨i, by simpa using hi2, rfl⟩) hn))
      exact ⟨e, hc, r1⟩)
    refine ⟨some a, M, cap, by rw [hM], ⟨?_, ?_, ?_, ?_⟩, ?_, ?_⟩
    · exact rds_of (by omega) Deed.cells deed_cells_length M (fun i e he j hj => (World.cells?_some (hR i e he).1).2.2 j hj)
    · intro d hd; obtain ⟨i, hi⟩ := mem_get hd; exact (hR i d hi).2.1
    · intro d hd; obtain ⟨i, hi⟩ := mem_get hd; exact (hR i d hi).2.2.1
    · intro d hd; obtain ⟨i, hi⟩ := mem_get hd; exact (hR i d hi).2.2.2.1
    · have := hz _ (by rw [weights_slice Try.underlying23]; exact List.mem_cons_self)
      simp only [List.length_map, List.length_range, reachBytes] at this
      rw [hM]
      refine Nat.le_trans (Nat.mul_le_mul_right _ (Nat.le_add_right _ _)) this
    · intro d hd; obtain ⟨i, hi⟩ := mem_get hd; exact (hR i d hi).2.2.2.2
end
end Go.Proofs.Ytneinhhmhgdefaa
