/- The law's own function that gathers what Since tells. -/
import Derived.Test.YtaicpgkoailnkaaSheetJ
import Derived.Laws.EntriesVeiled
import Derived.Outline
import Derived.Sort.QuietIn
import Derived.Sort.CutIn
namespace Go.Proofs.Ytaicpgkoailnkaa
open Go.RowKit Go.Shelf

theorem eql_seq_nil (a b : Value) (W : World) : (binOp .eql 28 (.func (.func 30) #[] #[a, b]) .nilFunc).run Try.prog W = .ok (.bool false) W := by kernel_rfl

section
variable {F : Fence} {n : Nat} {P : Program}
theorem wpListIn_append2 {w : World} {ops : Array Oper} {rest : List Oper} {o : Oper} {a : Act} {Q : Exit → Act → World → Prop} (hgd : o.guard = none) (s x : Operand) (t : TypeId)
    (ho : o.op = .call { callee := .builtin .append, args := #[s, x], argTypes := #[t, t] })
    (e : TypeId) (i : TypeInfo) (z : Value) (size bytes : Nat) (ht : P.underlying t = some (.slice e)) (hi : P.info? e = some i) (hz : i.zero = some z)
    (hsize : i.size = size) (hby : i.bytes = bytes) (hzs : z.cells.size = size) (hsz : 0 < size)
    (A : Option Addr) (k cap : Nat) (xs : List Value) (hs : a.eval s = .slice A k cap) (hown : Row w e size A k cap xs)
    (sp : Option Addr) (m c : Nat) (news : List Value) (hx : a.eval x = .slice sp m c) (hl : news.length = m * size) (hnews : 0 < m → ∃ ad, sp = some ad ∧ ∀ j u, news[j]? = some u → w.cell? (ad.add j) = some u) (h1 : ∀ u ∈ news, u.oneCell' = true)
    (h63 : k + m ≤ maxLen) (hbytes : (k + m) * bytes ≤ 140737488355328)
    (h : ∀ A' cap' w', Row w' e size A' (k + m) cap' (xs ++ news) → Fr (fpOf A) w w' → (∀ b ∈ fpOf A', b ∈ fpOf A ∨ w.heap.size ≤ b) → Hid (A' = none ↔ A = none ∧ m = 0) → wpListIn F n P ops Q rest (a.put o.dst (.slice A' (k + m) cap')) w') :
    wpListIn F n P ops Q (o :: rest) a w := by
  refine wpListIn_plain hgd fun K hK' => ?_
  obtain ⟨A', cap', w', hr, h2, h3, h4, h5⟩ := run_append2 (P := P) w t o.type e i z size bytes ht hi hz hsize hby hzs hsz A k cap xs hown sp m c news hl hnews h1 h63 hbytes
  unfold Oper.wpIn
  refine ⟨?_, ?_⟩
  · simp [Oper.about, ho, resolve, Target.leads, Sem.run_pure]
  · rw [Oper.semAt_plain F _ _ (by rw [ho]; intro c hc'; cases hc')]
    simp [execOp, ho, resolve, invoke, builtin, hs, hx, hr, Result.andThen]
    exact hK' _ _ (h A' cap' w' h2 h3 h4 h5)
end

theorem Try.uSheets : Try.prog.underlying 33 = some (.slice 46) := by kernel_rfl
theorem Try.iSheet : (Try.prog.info? 46).map (fun i => (i.zero, i.size, i.bytes)) = some (some (.agg #[.int .i64 0, .int .i64 0, .slice none 0 0]), 3, 40) := by kernel_rfl

theorem Bk.fr {w w' : World} {b n h : Nat} {pc : Nat → Nat} {tp : Nat → Int} {ow : Nat → Bool} {lf : Nat → Leaf} (hb : Bk w b n h pc tp ow lf) {S : List Nat} (hf : Fr S w w') (h0 : b ∉ S) (h1 : ∀ k, k < 8 → pc k ∉ S) (h2 : ∀ j, j < 64 → ∀ x ∈ fpOf (lf j).A, x ∉ S) : Bk w' b n h pc tp ow lf := by
  obtain ⟨⟨f, g1, g2⟩, g3, g4, g5⟩ := hb
  exact ⟨⟨f, g1.fr hf h0, g2⟩, g3.fr hf h1 h2, g4, g5⟩
theorem Bk.lt {w : World} {b n h : Nat} {pc : Nat → Nat} {tp : Nat → Int} {ow : Nat → Bool} {lf : Nat → Leaf} (hb : Bk w b n h pc tp ow lf) : b < w.heap.size ∧ ∀ x ∈ lies pc lf, x < w.heap.size := by
  obtain ⟨⟨f, g1, g2⟩, g3, g4, g5⟩ := hb
  refine ⟨g1.lt, fun x hx => ?_⟩
  rcases List.mem_append.1 hx with hx | hx
  · obtain ⟨k, hk, rfl⟩ := List.mem_map.1 hx
    exact (g3.blk k (by simpa using hk)).lt
  · obtain ⟨j, hj, hx⟩ := List.mem_flatMap.1 hx
    exact (g3.row j (by simpa using hj)).lt x hx

/-- At most so many (below 0: all). -/
def cutTo (lim : Int) (gl : List Nat) : List Nat := if lim < 0 then gl else gl.take lim.toNat

/-- What a gathering holds behind k rounds. -/
def Gath (w : World) (b n h O L : Nat) (pc : Nat → Nat) (tp : Nat → Int) (lf : Nat → Leaf) (gl : List Nat) (lim : Int) (k : Nat) (F : List Nat) (W : World) : Prop :=
  ∃ (A : Option Addr) (cap : Nat) (l : List Sh), l.length = k ∧ F = O :: fpOf A ∧ OfL (gl.take k) lf l ∧ Blk W O 33 [.slice A k cap] ∧ Blk W L 3 [.int .i64 lim] ∧ Told W w.heap.size A cap l ∧ Bk W b n h pc tp (fun _ => false) lf ∧ Fr [b] w W ∧ (0 < lim → (k : Int) < lim)
/-- What it holds where it was left. -/
def GathX (w : World) (b n h O : Nat) (pc : Nat → Nat) (tp : Nat → Int) (lf : Nat → Leaf) (gl : List Nat) (lim : Int) (W : World) : Prop :=
  ∃ (A : Option Addr) (cap : Nat) (l : List Sh), 0 < lim ∧ OfL (gl.take lim.toNat) lf l ∧ Blk W O 33 [.slice A l.length cap] ∧ Told W w.heap.size A cap l ∧ Bk W b n h pc tp (fun _ => false) lf ∧ Fr [b] w W

attribute [local go_sem] Oper.semAt_some

set_option maxRecDepth 100000 in
set_option maxHeartbeats 4000000 in
theorem given_any (b n h : Nat) (pc : Nat → Nat) (tp : Nat → Int) (ow : Nat → Bool) (lf : Nat → Leaf) (a lim : Int) (w : World) (hb : Bk w b n h pc tp ow lf) :
    Calls Try.prog 11 #[.pointer (some ⟨b, 0, none⟩), .int .i64 a, .int .i64 lim] w fun r w' => ∃ (A : Option Addr) (cap : Nat) (l : List Sh) (ow' : Nat → Bool), r = .returned (.slice A l.length cap) ∧ Told w' w.heap.size A cap l ∧
      OfL (cutTo lim (sl tp a h)) lf l ∧ Bk w' b n h pc tp ow' lf ∧ Fr [b] w w' ∧ (∀ k, ow' k = true → ow k = true) := by
  have hnil := fun (W : World) (x y : Value) => eql_seq_nil x y W
  have hbl := hb.lt
  obtain ⟨gl, hgl⟩ : ∃ gl, sl tp a h = gl := ⟨_, rfl⟩
  have HGL := Lib.hid hgl
  rw [hgl]
  clear hgl
  have HB := Lib.hid hb
  clear hb
  refine (callsIn_wide (n := 0)).1 (callsIn_of_wp_marks Try.func11 rfl trivial (wpIn_wide.2 ?_) rfl)
  simp only [Try.ntmps11, List.size_toArray, List.length_cons, List.length_nil, Nat.reduceAdd, Nat.reduceSub, Array.replicate_succ, Array.replicate_zero, List.push_toArray, List.append_toArray, List.nil_append, List.cons_append]
  by_cases hl0 : lim = 0
  · subst hl0
    go_wp2_with fail
    refine (Since_any b a _).mono ?_
    rintro r w1 ⟨rfl, hb1, hb2, hf1⟩
    have b5 : Blk w1 w.heap.size 3 [.int .i64 0] := Blk.fr ((Blk.new _ _ _).alloc _) hf1 (by simp)
    have k5 := b5.cell 0
    simp only [List.getElem?_cons_zero] at k5
    have HH := Lib.hid (And.intro hf1 b5)
    clear hb1 hb2 hf1 b5
    go_wp2_with fail
    have hf : Fr [] w w1 := (((Fr.refl [] w).alloc _).alloc _).trans HH.out.1
    refine ⟨.slice none 0 0, by simp [results, Try.f11, go_sem], none, 0, [], ow, rfl, Told.nil _ _, by simp [cutTo, OfL], HB.out.fr hf (by simp) (by simp) (by simp), hf.mono (by simp), fun _ h => h⟩
  · go_wp2_with fail
    refine (Since_any b a _).mono ?_
    rintro r w1 ⟨rfl, hb1, hb2, hf1⟩
    simp only [World.size_alloc] at hb1 hb2
    have b5 : Blk w1 w.heap.size 3 [.int .i64 lim] := Blk.fr ((Blk.new _ _ _).alloc _) hf1 (by simp)
    have bO : Blk w1 (w.heap.size + 1) 33 [.slice none 0 0] := Blk.fr (Blk.new' (by simp)) hf1 (by simp)
    have k5 := b5.cell 0
    simp only [List.getElem?_cons_zero] at k5
    have t1 : (lim == 0) = false := by simpa using hl0
    have hfw : Fr [] w w1 := (((Fr.refl [] w).alloc _).alloc _).trans hf1
    have hB1 : Bk w1 b n h pc tp ow lf := HB.out.fr hfw (by simp) (by simp) (by simp)
    have hok := hB1.ok
    have s1 : w.heap.size + 4 ≤ w1.heap.size := by have := hb2.lt; omega
    have HH := Lib.hid (And.intro hb1 (And.intro hb2 (And.intro bO (And.intro b5 (And.intro hfw (And.intro hB1 hok))))))
    have H0 := Lib.hid hl0
    clear hb1 hb2 hf1 bO b5 hB1 hok hl0 hfw
    go_wp2_with fail
    obtain ⟨hb1, hb2, bO, b5, hfw, hB1, hok⟩ := HH.out
    have hgl := HGL.out
    have hg64 : gl.length ≤ 64 := by rw [← hgl]; exact sl_len hok a
    have hgn : ∀ j ∈ gl, j < n := by rw [← hgl]; exact fun j hj => sl_mem hok a hj
    have hit := Since1_iter b (w.heap.size + 2) (w.heap.size + 3) n h a pc tp ow lf w1 hB1 hb1 hb2
    rw [hgl] at hit
    refine (wpIn_wide (n := 0)).1 ?_
    refine range_outerV (gf := 30) (lb := #[.pointer (some ⟨w.heap.size + 2, 0, none⟩), .pointer (some ⟨w.heap.size + 3, 0, none⟩)]) rfl ?eg gl.length (Gives gl lf) ?hps (Shared b n h pc tp ow lf) ?hE hit
      (Gath w b n h (w.heap.size + 1) w.heap.size pc tp lf gl lim) (fun c W => c = .exit 0 ∧ GathX w b n h (w.heap.size + 1) pc tp lf gl lim W) [w.heap.size + 1] ?hJ ?hJx ?h0 ?hF0 ?hround ?hdone ?hstop
    case eg => intro args w'; kernel_rfl
    case hps => rintro k x A B ⟨j, A', cap', _, rfl, _⟩; rfl
    case hE =>
      rintro A B ⟨hf, hA, _⟩ j o ho hc
      refine hf.obj ?_ ho
      intro hm
      simp at hm; subst hm
      obtain ⟨⟨f, h1, _⟩, _⟩ := hA
      unfold Blf Blk at h1
      rw [ho] at h1; cases h1; cases hc
    case hJ =>
      rintro k F A B ⟨A0, cap, l, e1, e2, e3, e4, e5, e6, e7, e8, e9⟩ hnc
      exact ⟨A0, cap, l, e1, e2, e3, e4.nc hnc, e5.nc hnc, e6.nc hnc, e7.nc hnc, e8.nc hnc (by have := hfw.size; omega), e9⟩
    case hJx =>
      rintro c A B ⟨hc, A0, cap, l, e1, e3, e4, e6, e7, e8⟩ hnc
      exact ⟨hc, A0, cap, l, e1, e3, e4.nc hnc, e6.nc hnc, e7.nc hnc, e8.nc hnc (by have := hfw.size; omega)⟩
    case h0 =>
      rintro A B hnc ⟨hf, hA, hB⟩
      refine ⟨none, 0, [], rfl, rfl, by simp [OfL], (bO.nc hnc).fr hf (by simp; omega), (b5.nc hnc).fr hf (by simp; omega), Told.nil _ _, hB, ?_, fun h => by omega⟩
      exact ((hfw.mono (by simp)).nc hnc hfw.size).trans hf
    case hF0 =>
      intro x hx
      simp at hx; subst hx
      refine ⟨bO.lt, fun hm => ?_⟩
      have := hbl.2 _ hm; omega
    case hround =>
      rintro l k F A W xk hk hl hlo hlF ⟨A0, cap, ll, e1, e2, e3, e4, e5, e6, e7, e8, e9⟩ hfA ⟨j, A', cap', hj, rfl, hrow, hnew⟩
      have hwf : ∀ f, Fence.wide.fn f := fun _ => trivial
      have hwd : Fence.wide.depth = none := rfl
      simp only [List.zip_toArray, List.zip_cons_cons, List.zip_nil_right, List.foldl_toArray, List.foldl_cons, List.foldl_nil, List.setIfInBounds_toArray, List.set_cons_zero, List.set_cons_succ]
      gi_wp2
      refine ⟨(Fr.refl _ _).alloc _, fun W2 hnc hszW hlo2 => ?_⟩
      have hfA2 : Fr [] A (W.alloc (.cells #[.int .i64 (j : Nat), .int .i64 (lf j).at_, .slice A' (lf j).xs.length cap'] 46)) := hfA.alloc _
      have i4 := (e4.fr hfA2 (by simp)).nc hnc
      have i5 := (e5.fr hfA2 (by simp)).nc hnc
      have i6 := (e6.fr hfA2 (by simp) (by simp)).nc hnc
      have i7 := (e7.fr hfA2 (by simp) (by simp) (by simp)).nc hnc
      have i8 := (e8.trans (hfA2.mono (by simp))).nc hnc (by have := hfw.size; omega)
      have iS : Blk W2 W.heap.size 46 [.int .i64 (j : Nat), .int .i64 (lf j).at_, .slice A' (lf j).xs.length cap'] := (Blk.new _ _ _).nc hnc
      have iR := (hrow.alloc (.cells #[.int .i64 (j : Nat), .int .i64 (lf j).at_, .slice A' (lf j).xs.length cap'] 46)).nc hnc
      rw [World.size_alloc] at hszW
      have l4 := e4.lt
      have lA := hfA.size
      have lsz := e8.size
      have lT := e6.row.lt
      have lD := fun s hs => (e6.data s hs).lt
      have g0 := iS.cell 0
      have g1 := iS.cell 1
      have g2 := iS.cell 2
      have c7 := i4.cell 0
      have c5 := i5.cell 0
      have z7 := i4.frozen 0
      simp only [List.getElem?_cons_zero, List.getElem?_cons_succ] at g0 g1 g2 c7 c5
      obtain ⟨i0, hi, hz0, hz1, hz2⟩ := info_parts Try.iSheet
      have HI := Lib.hid (And.intro hi (And.intro hz0 (And.intro hz1 hz2)))
      have hone : ∀ u ∈ [Value.int .i64 (j : Nat), .int .i64 (lf j).at_, .slice A' (lf j).xs.length cap'], u.oneCell' = true := by simp [Value.oneCell']
      have HONE := Lib.hid hone
      have HE := Lib.hid (And.intro e1 (And.intro e2 (And.intro e3 (And.intro i4 (And.intro i5 (And.intro i6 (And.intro i7 (And.intro i8 (And.intro e9 (And.intro hj (And.intro iR (And.intro hnew iS))))))))))))
      have hk64 : k < 64 := by omega
      have hOA : w.heap.size + 1 ∉ fpOf A0 := fun hm => i6.row.ne_blk i4 (by decide) _ hm rfl
      have hLA : w.heap.size ∉ fpOf A0 := fun hm => i6.row.ne_blk i5 (by decide) _ hm rfl
      have hrw : Row W2 46 3 A0 k cap (flatS ll) := by have := i6.row; rw [e1] at this; exact this
      have HR := Lib.hid hrw
      have h4a := fun o => Blk.alloc i4 o
      have h5a := fun o => Blk.alloc i5 o
      have HA := Lib.hid (And.intro h4a h5a)
      clear e1 e2 e3 e4 e5 e6 e7 e8 e9 hj hrow hnew hfA hfA2 hnc i4 i5 i6 i7 i8 iS iR hi hz0 hz1 hz2 hone hb1 hb2 bO b5 hfw hB1 hok hgl hit hgn hg64 hlo2 hrw h4a h5a
      gi_upto_region 10 with (gi_at_builtin; refine wpListIn_append2 rfl (.tmp 21) (.tmp 23) 33 rfl 46 i0 _ 3 40 Try.uSheets HI.out.1 HI.out.2.1 HI.out.2.2.1 HI.out.2.2.2 rfl (by decide) A0 k cap (flatS ll) rfl ?_ (some ⟨W2.heap.size, 0, none⟩) 1 1 [Value.int .i64 (j : Nat), .int .i64 (lf j).at_, .slice A' (lf j).xs.length cap'] rfl rfl ?_ HONE.out ?_ ?_ ?_; (exact HR.out.alloc _); (exact fun _ => ⟨_, rfl, fun q u hu => by rw [addr_add, Nat.zero_add]; exact (Blk.new _ _ _).cell' hu⟩); (unfold maxLen; omega); (omega); (intro A9 cap9 w9 hr9 hf9 hfp9 hn9; have d7 := (HA.out.1 _).fr hf9 hOA; have d5 := (HA.out.2 _).fr hf9 hLA; have dd7 := d7.cell 0; have dd5 := d5.cell 0; have dz7 := d7.frozen 0; simp only [List.getElem?_cons_zero] at dd7 dd5; have HR9 := Lib.hid (And.intro hr9 (And.intro hf9 (And.intro hfp9 (And.intro d7 d5)))); clear hr9 hf9 hfp9 hn9 d7 d5))
      have FIN : Told (w9.setCell ⟨w.heap.size + 1, 0, none⟩ (.slice A9 (k + 1) cap9)) w.heap.size A9 cap9 (ll ++ [⟨(j : Int), (lf j).at_, A', cap', (lf j).xs⟩]) ∧ OfL (gl.take (k + 1)) lf (ll ++ [⟨(j : Int), (lf j).at_, A', cap', (lf j).xs⟩])
          ∧ Blk (w9.setCell ⟨w.heap.size + 1, 0, none⟩ (.slice A9 (k + 1) cap9)) (w.heap.size + 1) 33 [.slice A9 (k + 1) cap9] ∧ Blk (w9.setCell ⟨w.heap.size + 1, 0, none⟩ (.slice A9 (k + 1) cap9)) w.heap.size 3 [.int .i64 lim]
          ∧ Bk (w9.setCell ⟨w.heap.size + 1, 0, none⟩ (.slice A9 (k + 1) cap9)) b n h pc tp (fun _ => false) lf ∧ Fr [b] w (w9.setCell ⟨w.heap.size + 1, 0, none⟩ (.slice A9 (k + 1) cap9))
          ∧ Fr ((w.heap.size + 1) :: fpOf A0) W2 (w9.setCell ⟨w.heap.size + 1, 0, none⟩ (.slice A9 (k + 1) cap9)) ∧ (∀ x ∈ (w.heap.size + 1) :: fpOf A9, x ∈ (w.heap.size + 1) :: fpOf A0 ∨ W2.heap.size ≤ x) := by
        obtain ⟨e1, e2, e3, i4, i5, i6, i7, i8, e9, hj, iR, hnew, iS⟩ := HE.out
        obtain ⟨hr9, hf9, hfp9, d7, d5⟩ := HR9.out
        rw [World.size_alloc] at hfp9
        have hf2 : Fr (fpOf A0) W2 w9 := ((Fr.refl _ W2).alloc _).trans hf9
        have fall : Fr ((w.heap.size + 1) :: fpOf A0) W2 (w9.setCell ⟨w.heap.size + 1, 0, none⟩ (.slice A9 (k + 1) cap9)) := (hf2.mono (by simp +contextual)).setCell' (.inl (by simp))
        have hown := i6.own
        have hbn : b ≠ w.heap.size + 1 := by omega
        have hO9 : w.heap.size + 1 ∉ fpOf A9 := fun hm => (hfp9 _ hm).elim hOA (fun h => by omega)
        have hdn : ∀ s ∈ ll, w.heap.size + 1 ∉ fpOf s.A := fun s hs hm => (i6.data s hs).ne_blk i4 (by decide) _ hm rfl
        refine ⟨⟨?_, ?_, ?_, ?_, ?_⟩, OfL.snoc e3 hj A' cap', ?_, d5.far' (by omega), ?_, ?_, fall, ?_⟩
        · rw [flatS_append, List.length_append, List.length_singleton, e1]
          have h9 := hr9.far (b := w.heap.size + 1) (o := 0) (u := .slice A9 (k + 1) cap9) hO9
          exact h9
        · intro x hx
          rcases hfp9 x hx with h | h
          · exact hown x h
          · omega
        · intro s hs
          rcases List.mem_append.1 hs with hs | hs
          · refine (i6.data s hs).fr fall (fun x hx hm => ?_)
            rcases List.mem_cons.1 hm with rfl | hm
            · exact hdn s hs hx
            · exact i6.ne s hs x hx hm
          · simp only [List.mem_singleton] at hs
            subst hs
            refine iR.fr fall (fun x hx hm => ?_)
            have h1 := hnew x hx
            rcases List.mem_cons.1 hm with rfl | hm
            · omega
            · have := lT x hm; omega
        · intro s hs x hx
          rcases List.mem_append.1 hs with hs | hs
          · exact i6.new s hs x hx
          · simp only [List.mem_singleton] at hs
            subst hs
            have h1 := hnew x hx
            omega
        · rw [List.pairwise_append]
          refine ⟨i6.apart, List.pairwise_singleton _ _, fun s hs t ht x hx hm => ?_⟩
          simp only [List.mem_singleton] at ht
          subst ht
          have h1 := hnew x hm
          have h2 := lD s hs x hx
          omega
        · exact d7.set' rfl
        · refine i7.fr fall ?_ ?_ ?_
          · intro hm
            rcases List.mem_cons.1 hm with hm | hm
            · exact hbn hm
            · have := hown _ hm; omega
          · intro q hq hm
            have h1 := hbl.2 (pc q) (List.mem_append_left _ (List.mem_map.2 ⟨q, List.mem_range.2 hq, rfl⟩))
            rcases List.mem_cons.1 hm with hm | hm
            · omega
            · have := hown _ hm; omega
          · intro q hq x hx hm
            have h1 := hbl.2 x (List.mem_append_right _ (List.mem_flatMap.2 ⟨q, List.mem_range.2 hq, hx⟩))
            rcases List.mem_cons.1 hm with hm | hm
            · omega
            · have := hown _ hm; omega
        · exact i8.trans' fall (fun x hx => by
            right
            rcases List.mem_cons.1 hx with hm | hm
            · omega
            · exact hown _ hm)
        · intro x hx
          rcases List.mem_cons.1 hx with hm | hm
          · left; rw [hm]; simp
          · rcases hfp9 x hm with h | h
            · left; exact List.mem_cons_of_mem _ h
            · right; omega
      have HFIN := Lib.hid FIN
      have HLL := Lib.hid HE.out.1
      clear FIN
      by_cases hq : (k : Int) + 1 = lim
      · have t2 : ((k : Int) + 1 == lim) = true := by simpa using hq
        have HQ := Lib.hid hq
        gi_wp2_with fail
        obtain ⟨f1, f2, f3, f4, f5, f6, f7, f8⟩ := HFIN.out
        have hq := HQ.out
        have e2 := HE.out.2.1
        subst e2
        refine ⟨f7, rfl, A9, cap9, _, by omega, by rw [show lim.toNat = k + 1 by omega]; exact f2, ?_, f1, f5, f6⟩
        rw [List.length_append, List.length_singleton, HLL.out]
        exact f3
      · have t2 : ((k : Int) + 1 == lim) = false := by simpa using hq
        have HQ := Lib.hid hq
        gi_wp2_with fail
        obtain ⟨f1, f2, f3, f4, f5, f6, f7, f8⟩ := HFIN.out
        have hq := HQ.out
        have e2 := HE.out.2.1
        have e9 := HE.out.2.2.2.2.2.2.2.2.1
        subst e2
        refine ⟨_, f7, ⟨A9, cap9, _, ?_, rfl, f2, f3, f4, f1, f5, f6, fun h => by have := e9 h; omega⟩, f8⟩
        rw [List.length_append, List.length_singleton, HLL.out]
    case hdone =>
      rintro D F W hD hDF ⟨A0, cap, ll, e1, e2, e3, e4, e5, e6, e7, e8, e9⟩ hK
      have c7 := e4.cell 0
      simp only [List.getElem?_cons_zero] at c7
      simp only [Exit.inBlock]
      have HE := Lib.hid (And.intro e1 (And.intro e2 (And.intro e3 (And.intro e4 (And.intro e5 (And.intro e6 (And.intro e7 (And.intro e8 e9))))))))
      clear e1 e2 e3 e4 e5 e6 e7 e8 e9
      go_wp2
      obtain ⟨e1, e2, e3, e4, e5, e6, e7, e8, e9⟩ := HE.out
      have hnc : NC w1.heap.size W (W.putObj D (.deferred none)) := NC.putObj hD hK rfl
      refine ⟨by simp, .inl ⟨_, _, rfl, run_takeDeferred hK, ?_⟩⟩
      refine ⟨.slice A0 gl.length cap, by simp [results, Try.f11, go_sem], A0, cap, ll, fun _ => false, by rw [e1], e6.nc hnc, ?_, e7.nc hnc, e8.nc hnc (by have := hfw.size; omega), by simp⟩
      rw [List.take_length] at e3
      unfold cutTo
      by_cases hlim : lim < 0
      · rw [if_pos hlim]; exact e3
      · rw [if_neg hlim, List.take_of_length_le (by have := H0.out; have := e9 (by omega); omega)]; exact e3
    case hstop =>
      rintro D c W hD ⟨rfl, A0, cap, ll, e1, e3, e4, e6, e7, e8⟩ hK
      have c7 := e4.cell 0
      simp only [List.getElem?_cons_zero] at c7
      have HE := Lib.hid (And.intro e1 (And.intro e3 (And.intro e4 (And.intro e6 (And.intro e7 e8)))))
      clear e1 e3 e4 e6 e7 e8
      refine wpIn_wide.2 ?_
      go_wp2
      obtain ⟨e1, e3, e4, e6, e7, e8⟩ := HE.out
      have hnc : NC w1.heap.size W (W.putObj D (.deferred none)) := NC.putObj hD hK rfl
      refine ⟨by simp, .inl ⟨_, _, rfl, run_takeDeferred hK, ?_⟩⟩
      refine ⟨.slice A0 ll.length cap, by simp [results, Try.f11, go_sem], A0, cap, ll, fun _ => false, rfl, e6.nc hnc, ?_, e7.nc hnc, e8.nc hnc (by have := hfw.size; omega), by simp⟩
      unfold cutTo
      rw [if_neg (by omega)]; exact e3
end Go.Proofs.Ytaicpgkoailnkaa
