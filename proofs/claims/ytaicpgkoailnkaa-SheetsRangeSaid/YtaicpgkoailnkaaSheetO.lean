/- What comes in: bytes, lists of sheets and scripts, opened to lists. -/
import Derived.Test.YtaicpgkoailnkaaSheetL
import Derived.Test.YtaicpgkoailnkaaLift
namespace Go.Proofs.Ytaicpgkoailnkaa
open Go.ChangeShapes Go.WideShapes Go.ChangeAt Go.RowKit Go.Deep

section
variable {H : Type} {enc : TypeId × Value → H} {w : World} {base : Nat} {spare : Nat → Bool} {held : Bool}

theorem cells3 : Try.prog.cellsOf 3 = 1 := by kernel_rfl
theorem cells5 : Try.prog.cellsOf 5 = 1 := by kernel_rfl
theorem cells32 : Try.prog.cellsOf 32 = 1 := by kernel_rfl
theorem cells46 : Try.prog.cellsOf 46 = 3 := by kernel_rfl
theorem cells33 : Try.prog.cellsOf 33 = 1 := by kernel_rfl
theorem cells35 : Try.prog.cellsOf 35 = 6 := by kernel_rfl
theorem bytes5 : Try.prog.bytesOf 5 = 1 := by kernel_rfl
theorem bytes46 : Try.prog.bytesOf 46 = 40 := by kernel_rfl
theorem bytes35 : Try.prog.bytesOf 35 = 80 := by kernel_rfl

theorem bvals_flat : ∀ M : List Int, M.flatMap (fun v : Int => [Value.int .u8 v]) = bvals M
  | [] => rfl
  | v :: M => by rw [List.flatMap_cons, bvals_flat M]; rfl
theorem wf_i64 {n : Int} (h : (Lit.int .i64 n).wf = true) : I64 n := by
  simpa [I64, Lit.wf, IntKind.min, IntKind.max, IntKind.signed, IntKind.bits] using h
theorem wf_u8 {n : Int} (h : (Lit.int .u8 n).wf = true) : 0 ≤ n ∧ n ≤ 255 := by
  simpa [Lit.wf, IntKind.min, IntKind.max, IntKind.signed, IntKind.bits] using h

theorem open_bytes {fuel : Nat} {cs : List Value} {x : DataW H × List MemPlace} (h : DataW.trod enc Try.prog w base spare held fuel 32 cs = some x) (hz : ∀ n ∈ x.1.weights Try.prog 32, n ≤ reachBytes) :
    ∃ (A : Option Addr) (xs : List Int) (cap : Nat), cs = [.slice A xs.length cap] ∧ Rds w A (bvals xs) ∧ Bytes xs ∧ xs.length ≤ 140737488351232 := by
  rcases open_slice Try.underlying32 h with ⟨rfl, rfl⟩ | ⟨a, len, cap, m, n, D, Pl, rfl, hb, hl, hm, hmm, rfl, hi⟩
  · exact ⟨none, [], 0, rfl, Rds.nil _ _, by simp [Bytes], by simp⟩
  · have hlm : len ≤ m := by rw [hmm]; split <;> omega
    rw [cells5] at hi
    obtain ⟨M, hM, hR⟩ := list_of (fun i (v : Int) => w.cells? base (a.add (i * 1)) 1 = some [.int .u8 v] ∧ 0 ≤ v ∧ v ≤ 255) len (fun i hi2 => by
      obtain ⟨cs', hc, ht⟩ := hi i (by omega)
      obtain ⟨v, e, _, w1⟩ := DataW.trod_int Try.underlying5 ht
      subst e
      exact ⟨v, hc, wf_u8 w1⟩)
    refine ⟨some a, M, cap, by rw [hM], ?_, ?_, ?_⟩
    · have h9 := rds_of (a := a) (w := w) (size := 1) (by decide) (fun v : Int => [Value.int .u8 v]) (fun _ => rfl) M (fun i e he j hj => (World.cells?_some (hR i e he).1).2.2 j hj)
      rwa [bvals_flat] at h9
    · intro v hv; obtain ⟨i, hi⟩ := mem_get hv; exact (hR i v hi).2
    · have := hz _ (by rw [weights_slice Try.underlying32]; exact List.mem_cons_self)
      rw [bytes5] at this
      simp only [List.length_map, List.length_range, reachBytes] at this
      rw [hM]
      omega

set_option maxRecDepth 100000 in
theorem open_sh {fuel : Nat} {cs : List Value} {x : DataW H × List MemPlace} (h : DataW.trod enc Try.prog w base spare held fuel 46 cs = some x) (hz : ∀ n ∈ x.1.weights Try.prog 46, n ≤ reachBytes) :
    ∃ s : Sh, cs = s.cells ∧ (Rds w s.A (bvals s.xs) ∧ Bytes s.xs ∧ s.xs.length ≤ 140737488351232) ∧ I64 s.num ∧ I64 s.at_ := by
  obtain ⟨xs, n, _, rfl, hlen, hxl, hf⟩ := DataW.trod_struct Try.underlying46 h
  rw [cells46] at hlen
  match cs, hlen with
  | [a0, a1, a2], _ =>
    match xs, hxl with
    | [y0, y1, y2], _ =>
      have h0 := hf 0 _ rfl
      have h1 := hf 1 _ rfl
      have h2 := hf 2 _ rfl
      simp only [cells3, cells32, List.getElem_toArray, List.getElem_cons_zero, List.getElem_cons_succ, List.drop_zero, List.drop_succ_cons, List.take_succ_cons, List.take_zero, List.getElem?_cons_zero, List.getElem?_cons_succ] at h0 h1 h2
      obtain ⟨num, e0, _, w0⟩ := DataW.trod_int Try.underlying3 h0
      obtain ⟨at_, e1, _, w1⟩ := DataW.trod_int Try.underlying3 h1
      obtain ⟨A, M, cap, e2, hR, hB, hL⟩ := open_bytes h2 (fun n hn => hz n (weights_part (j := 2) Try.underlying46 rfl rfl hn))
      simp at e0 e1 e2
      subst e0 e1 e2
      exact ⟨⟨num, at_, A, cap, M⟩, rfl, ⟨hR, hB, hL⟩, wf_i64 w0, wf_i64 w1⟩

theorem sh_cells_length (e : Sh) : e.cells.length = 3 := rfl
theorem deed_cells_length (e : Deed) : e.cells.length = 6 := rfl

theorem open_sheets {fuel : Nat} {cs : List Value} {x : DataW H × List MemPlace} (h : DataW.trod enc Try.prog w base spare held fuel 33 cs = some x) (hz : ∀ n ∈ x.1.weights Try.prog 33, n ≤ reachBytes) :
    ∃ (A : Option Addr) (M : List Sh) (cap : Nat), cs = [.slice A M.length cap] ∧ Lent w A M := by
  rcases open_slice Try.underlying33 h with ⟨rfl, rfl⟩ | ⟨a, len, cap, m, n, D, Pl, rfl, hb, hl, hm, hmm, rfl, hi⟩
  · exact ⟨none, [], 0, rfl, ⟨Rds.nil _ _, by simp, by simp, by simp⟩⟩
  · have hlm : len ≤ m := by rw [hmm]; split <;> omega
    rw [cells46] at hi
    obtain ⟨M, hM, hR⟩ := list_of (fun i (e : Sh) => w.cells? base (a.add (i * 3)) 3 = some e.cells ∧ (Rds w e.A (bvals e.xs) ∧ Bytes e.xs ∧ e.xs.length ≤ 140737488351232) ∧ I64 e.num ∧ I64 e.at_) len (fun i hi2 => by
      obtain ⟨cs', hc, ht⟩ := hi i (by omega)
      obtain ⟨e, rfl, r1⟩ := open_sh ht (fun n hn => hz n (weights_elem Try.underlying33 (List.mem_map.2 ⟨i, by simpa using hi2, rfl⟩) hn))
      exact ⟨e, hc, r1⟩)
    refine ⟨some a, M, cap, by rw [hM], ⟨?_, ?_, ?_, ?_⟩⟩
    · exact rds_of (by omega) Sh.cells sh_cells_length M (fun i e he j hj => (World.cells?_some (hR i e he).1).2.2 j hj)
    · intro d hd; obtain ⟨i, hi⟩ := mem_get hd; exact (hR i d hi).2.1
    · intro d hd; obtain ⟨i, hi⟩ := mem_get hd; exact (hR i d hi).2.2
    · have := hz _ (by rw [weights_slice Try.underlying33]; exact List.mem_cons_self)
      rw [bytes46] at this
      simp only [List.length_map, List.length_range, reachBytes] at this
      rw [hM]
      omega

set_option maxRecDepth 100000 in
theorem open_deed {fuel : Nat} {cs : List Value} {x : DataW H × List MemPlace} (h : DataW.trod enc Try.prog w base spare held fuel 35 cs = some x) (hz : ∀ n ∈ x.1.weights Try.prog 35, n ≤ reachBytes) :
    ∃ d : Deed, cs = d.cells ∧ (Rds w d.A (bvals d.xs) ∧ Bytes d.xs ∧ d.xs.length ≤ 140737488351232) ∧ Lent w d.LA d.ls ∧ I64 d.kd ∧ I64 d.bk ∧ I64 d.num ∧ I64 d.at_ := by
  obtain ⟨xs, n, _, rfl, hlen, hxl, hf⟩ := DataW.trod_struct Try.underlying35 h
  rw [cells35] at hlen
  match cs, hlen with
  | [a0, a1, a2, a3, a4, a5], _ =>
    match xs, hxl with
    | [y0, y1, y2, y3, y4, y5], _ =>
      have h0 := hf 0 _ rfl
      have h1 := hf 1 _ rfl
      have h2 := hf 2 _ rfl
      have h3 := hf 3 _ rfl
      have h4 := hf 4 _ rfl
      have h5 := hf 5 _ rfl
      simp only [cells3, cells32, cells33, List.getElem_toArray, List.getElem_cons_zero, List.getElem_cons_succ, List.drop_zero, List.drop_succ_cons, List.take_succ_cons, List.take_zero, List.getElem?_cons_zero, List.getElem?_cons_succ] at h0 h1 h2 h3 h4 h5
      obtain ⟨kd, e0, _, w0⟩ := DataW.trod_int Try.underlying3 h0
      obtain ⟨bk, e1, _, w1⟩ := DataW.trod_int Try.underlying3 h1
      obtain ⟨num, e2, _, w2⟩ := DataW.trod_int Try.underlying3 h2
      obtain ⟨at_, e3, _, w3⟩ := DataW.trod_int Try.underlying3 h3
      obtain ⟨A, M, cap, e4, hR⟩ := open_bytes h4 (fun n hn => hz n (weights_part (j := 4) Try.underlying35 rfl rfl hn))
      obtain ⟨LA, L, lcap, e5, hL⟩ := open_sheets h5 (fun n hn => hz n (weights_part (j := 5) Try.underlying35 rfl rfl hn))
      simp at e0 e1 e2 e3 e4 e5
      subst e0 e1 e2 e3 e4 e5
      exact ⟨⟨kd, bk, num, at_, A, cap, M, LA, lcap, L⟩, rfl, hR, hL, wf_i64 w0, wf_i64 w1, wf_i64 w2, wf_i64 w3⟩

theorem open_deeds {fuel : Nat} {cs : List Value} {x : DataW H × List MemPlace} (h : DataW.trod enc Try.prog w base spare held fuel 22 cs = some x) (hz : ∀ n ∈ x.1.weights Try.prog 22, n ≤ reachBytes) :
    ∃ (A : Option Addr) (Ds : List Deed) (cap : Nat), cs = [.slice A Ds.length cap] ∧ Deeds w A Ds := by
  rcases open_slice Try.underlying22 h with ⟨rfl, rfl⟩ | ⟨a, len, cap, m, n, D, Pl, rfl, hb, hl, hm, hmm, rfl, hi⟩
  · exact ⟨none, [], 0, rfl, ⟨Rds.nil _ _, by simp, by simp, by simp, by simp⟩⟩
  · have hlm : len ≤ m := by rw [hmm]; split <;> omega
    rw [cells35] at hi
    obtain ⟨M, hM, hR⟩ := list_of (fun i (e : Deed) => w.cells? base (a.add (i * 6)) 6 = some e.cells ∧ (Rds w e.A (bvals e.xs) ∧ Bytes e.xs ∧ e.xs.length ≤ 140737488351232) ∧ Lent w e.LA e.ls ∧ I64 e.kd ∧ I64 e.bk ∧ I64 e.num ∧ I64 e.at_) len (fun i hi2 => by
      obtain ⟨cs', hc, ht⟩ := hi i (by omega)
      obtain ⟨e, rfl, r1⟩ := open_deed ht (fun n hn => hz n (weights_elem Try.underlying22 (List.mem_map.2 ⟨i, by simpa using hi2, rfl⟩) hn))
      exact ⟨e, hc, r1⟩)
    refine ⟨some a, M, cap, by rw [hM], ⟨?_, ?_, ?_, ?_, ?_⟩⟩
    · exact rds_of (by omega) Deed.cells deed_cells_length M (fun i e he j hj => (World.cells?_some (hR i e he).1).2.2 j hj)
    · intro d hd; obtain ⟨i, hi⟩ := mem_get hd; exact (hR i d hi).2.1
    · intro d hd; obtain ⟨i, hi⟩ := mem_get hd; exact (hR i d hi).2.2.1
    · intro d hd; obtain ⟨i, hi⟩ := mem_get hd; exact (hR i d hi).2.2.2
    · have := hz _ (by rw [weights_slice Try.underlying22]; exact List.mem_cons_self)
      rw [bytes35] at this
      simp only [List.length_map, List.length_range, reachBytes] at this
      rw [hM]
      omega
end
end Go.Proofs.Ytaicpgkoailnkaa
