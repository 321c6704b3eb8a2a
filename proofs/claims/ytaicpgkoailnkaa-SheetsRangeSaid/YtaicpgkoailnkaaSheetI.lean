/- Package sheets, walked: the function that Since hands back, as what a range over it meets. -/
import Derived.Test.YtaicpgkoailnkaaSheetE
import Derived.Test.YtaicpgkoailnkaaSheetF
import Derived.Test.YtaicpgkoailnkaaSheetH
import Derived.Laws.Rows
import Derived.Outline
namespace Go.Proofs.Ytaicpgkoailnkaa
open Go.RowKit Go.Shelf

/-- A struct or array type. -/
def rowDesc (d : TypeDesc) : Bool := match d with | .struct _ | .array _ _ => true | _ => false
section
variable {P : Program}
/-- A struct or array loaded from the beginning of a block. -/
theorem run_loadVar_pre (w : World) (g : Nat) (ty : TypeId) (cs : List Value) (d : TypeDesc) (hc : ∀ j v, cs[j]? = some v → w.cell? ⟨g, j, none⟩ = some v)
    (hu : P.underlying ty = some d) (hd : rowDesc d = true) (hi : (P.info? ty).map (·.size) = some cs.length) :
    (loadVar ty ⟨g, 0, none⟩).run P w = .ok (.agg cs.toArray) w := by
  have hl : (loadCells ⟨g, 0, none⟩ cs.length).run P w = .ok cs.toArray w :=
    run_loadCells_list (P := P) w ⟨g, 0, none⟩ cs (fun j v hv => by rw [addr_add, Nat.zero_add]; exact hc j v hv)
  cases hq : P.info? ty with
  | none => simp [hq] at hi
  | some i =>
    have hs : i.size = cs.length := by simpa [hq] using hi
    have hagg : (isAgg ty).run P w = .ok true w := by
      unfold isAgg
      rw [Sem.run_bind, run_underlying hu w]
      cases d <;> simp_all [rowDesc]
    simp [loadVar, Sem.run_bind, hagg, sizeOf, typeInfo, hq, hs, hl]
theorem wpList_load_pre {ops : Array Oper} {rest : List Oper} {o : Oper} {a : Act} {w : World} {Q : Exit → Act → World → Prop} (hgd : o.guard = none) (ty : TypeId) (x : Operand) (ho : o.op = .load ty x)
    (g : Nat) (hx : a.eval x = .pointer (some ⟨g, 0, none⟩)) (cs : List Value) (d : TypeDesc) (hc : ∀ j v, cs[j]? = some v → w.cell? ⟨g, j, none⟩ = some v)
    (hu : P.underlying ty = some d) (hd : rowDesc d = true) (hi : (P.info? ty).map (·.size) = some cs.length)
    (h : wpList P ops Q rest (a.put o.dst (.agg cs.toArray)) w) : wpList P ops Q (o :: rest) a w :=
  wpList_plain hgd fun _ hK => by
    unfold Oper.wp execOp
    simp only [ho, hx, Instr.loadAt, Instr.sureAddr, Sem.run_bind, Sem.run_pure, Result.andThen_ok, run_loadVar_pre w g ty cs d hc hu hd hi]
    exact hK _ _ h
end

/-- An empty tree's cells. -/
def zt : Array Value := ((List.range 138).map fun i => if i < 2 then Value.int .i64 0 else if i < 10 then .pointer none else .int .i64 0).toArray
set_option maxRecDepth 100000 in
theorem zero_tree2 (W : World) : (zeroValue 74).run Try.prog W = .ok (.agg zt) W := by kernel_rfl
theorem zt_size : zt.size = 138 := by simp [zt]
theorem Try.iTree : (Try.prog.info? 74).map (·.size) = some 138 := by kernel_rfl
theorem Try.uTree : (Try.prog.underlying 74).map rowDesc = some true := by kernel_rfl
theorem Try.uTree' : ∃ d, Try.prog.underlying 74 = some d ∧ rowDesc d = true := by
  have h := Try.uTree
  cases hd : Try.prog.underlying 74 with
  | none => rw [hd] at h; cases h
  | some d => rw [hd] at h; exact ⟨d, rfl, by simpa using h⟩

theorem Leaves.nc {n₀ : Nat} {A B : World} {pc : Nat → Nat} {lf : Nat → Leaf} (h : Leaves A pc lf) (hn : NC n₀ A B) : Leaves B pc lf :=
  ⟨fun k hk => (h.blk k hk : Blk _ _ _ _).nc hn, fun j hj => (h.row j hj).nc hn, h.byt⟩
theorem Bk.nc {n₀ : Nat} {A B : World} {b n h : Nat} {pc : Nat → Nat} {tp : Nat → Int} {ow : Nat → Bool} {lf : Nat → Leaf} (hb : Bk A b n h pc tp ow lf) (hn : NC n₀ A B) : Bk B b n h pc tp ow lf := by
  obtain ⟨⟨f, h1, h2⟩, h3, h4, h5⟩ := hb
  exact ⟨⟨f, (h1 : Blk _ _ _ _).nc hn, h2⟩, h3.nc hn, h4, h5⟩

/-- The sheets that Since tells, by rising numbers. -/
def sl (tp : Nat → Int) (a : Int) (h : Nat) : List Nat := wl tp (max a 0) (2 ^ h) h 1
/-- What a book's sheets lie in. -/
def lies (pc : Nat → Nat) (lf : Nat → Leaf) : List Nat := (List.range 8).map pc ++ (List.range 64).flatMap fun j => fpOf (lf j).A
/-- What the function does ahead of the first sheet: the book's pieces are shared from here on. -/
def Shared (b n h : Nat) (pc : Nat → Nat) (tp : Nat → Int) (ow : Nat → Bool) (lf : Nat → Leaf) (A B : World) : Prop := Fr [b] A B ∧ Bk A b n h pc tp ow lf ∧ Bk B b n h pc tp (fun _ => false) lf

theorem TreeF.one {f : Nat → Value} {n h : Nat} {pc : Nat → Nat} {tp : Nat → Int} (ht : TreeF f n h pc tp) {i : Nat} (hi : i < 138) : (f i).oneCell' = true := by
  by_cases h0 : i = 0
  · rw [h0, ht.n]; rfl
  · by_cases h1 : i = 1
    · rw [h1, ht.wd]; rfl
    · by_cases h2 : i < 10
      · have := ht.pc (i - 2) (by omega)
        rw [show 2 + (i - 2) = i by omega] at this
        rw [this]; rfl
      · have := ht.tp (i - 10) (by omega)
        rw [show 10 + (i - 10) = i by omega] at this
        rw [this]; rfl

theorem setRow_new (w : World) (old : Array Value) (t : TypeId) (cs : Array Value) : Fr [] w ((w.alloc (.cells old t)).setRow w.heap.size cs) :=
  ((Fr.refl [] w).alloc _).trans' (S' := [w.heap.size]) ⟨rfl, rfl, rfl, by simp [World.setRow], fun k _ hk => setRow_other _ _ k _ (by simpa using hk)⟩ (fun b hb => by simp at hb; right; omega)
theorem fin_went {N : Nat} {J : Nat → List Nat → World → Prop} {Jx : World → Prop} {F : List Nat} {A B : World} {bb : Bool} (h : (bb = true ∧ ∃ F', J N F' B ∧ Kept F A B ∧ ∀ b ∈ F', b ∈ F ∨ A.heap.size ≤ b) ∨ (bb = false ∧ Jx B)) : (∃ F, J N F B) ∨ Jx B := by
  rcases h with ⟨_, F', h, _⟩ | ⟨_, h⟩
  · exact .inl ⟨F', h⟩
  · exact .inr h

set_option maxRecDepth 100000 in
set_option maxHeartbeats 2000000 in
theorem Since1_iter (b bb ab n h : Nat) (a : Int) (pc : Nat → Nat) (tp : Nat → Int) (ow : Nat → Bool) (lf : Nat → Leaf) (w0 : World) (hb0 : Bk w0 b n h pc tp ow lf) (hbb0 : Blk w0 bb 23 [.pointer (some ⟨b, 0, none⟩)]) (hab0 : Blk w0 ab 3 [.int .i64 a]) :
    IterV Try.prog 30 #[.pointer (some ⟨bb, 0, none⟩), .pointer (some ⟨ab, 0, none⟩)] (sl tp a h).length (Gives (sl tp a h) lf) w0 (Shared b n h pc tp ow lf) (lies pc lf) := by
  obtain ⟨gl, hgl9⟩ : ∃ gl, sl tp a h = gl := ⟨_, rfl⟩
  rw [hgl9]
  have HGL := Lib.hid hgl9
  clear hgl9
  intro l J Jx W hnc hJ hJx hy h0
  have hb := hb0.nc hnc
  have hbb := hbb0.nc hnc
  have hab := hab0.nc hnc
  obtain ⟨⟨f, hf, hft, hfo⟩, hlv, hok, hinj⟩ := id hb
  have HB := Lib.hid hb
  have HY := Lib.hid (And.intro hJ (And.intro hy h0))
  have hbs := hf.lt
  have hbbs := hbb.lt
  have habs := hab.lt
  have hbbb : bb ≠ b := Blk.ne hbb hf (by decide)
  have habb : ab ≠ b := Blk.ne hab hf (by decide)
  clear hJ hJx hy h0 hb hb0 hbb0 hab0 hnc
  refine callsIn_wide.2 ?_
  simp only [List.append_toArray, List.cons_append, List.nil_append]
  go_enter Try.func30, Try.ntmps30
  go_wp2
  go_loopw [6] (fun i wr => ∃ (k : Nat) (g : Nat → Value), k ≤ 8 ∧ i = .int .i64 k ∧ Blf wr b 77 146 g ∧ TreeF g n h pc tp ∧ (∀ j, j < 8 → g (138 + j) = .bool (if j < k then false else ow j)) ∧ Leaves wr pc lf ∧ Blk wr W.heap.size 82 [.func (.yield l) #[] #[]] ∧ Fr [b] W wr) (fun i _ => 8 - (intOf i).toNat)
  case atStart => 
    refine ⟨0, f, by omega, rfl, hf.alloc _, hft, fun j hj => by rw [hfo j hj]; simp, hlv.fr ((Fr.refl [] W).alloc _) (by simp) (by simp), Blk.new _ _ _, (Fr.refl [b] W).alloc _⟩
  case round =>
    obtain ⟨k, g, hk, rfl, hg, hgt, hgo, hgl, hgy, hgf⟩ := hrel
    have cbb : wr.cell? ⟨bb, 0, none⟩ = some (.pointer (some ⟨b, 0, none⟩)) := (hbb.fr hgf (by simpa using hbbb)).cell 0
    by_cases hk8 : k < 8
    · have k0 : (0 : Int) ≤ (k : Int) := by omega
      have k1 : (k : Int) < 8 := by omega
      have cO := hg.cell (i := 138 + k) (by omega)
      have zO := hg.frozen (138 + k)
      have hgl2 := hgl.setB (o := 138 + k) (u := .bool false) hg
      have hne : W.heap.size ≠ b := by omega
      go_wp2
      go_roundw
      case rel =>
        refine ⟨k + 1, upd g (138 + k) (.bool false), by omega, by go_num, hg.set_ _ _, ⟨?_, ?_, fun j hj => ?_, fun i hi => ?_⟩, fun j hj => ?_, hgl2, hgy.far' hne, hgf.setCell' (.inl (by simp))⟩
        · rw [upd_ne (by omega)]; exact hgt.n
        · rw [upd_ne (by omega)]; exact hgt.wd
        · rw [upd_ne (by omega)]; exact hgt.pc j hj
        · rw [upd_ne (by omega)]; exact hgt.tp i hi
        · by_cases e : j = k
          · subst e; rw [upd_eq]; simp
          · rw [upd_ne (by omega), hgo j hj]
            by_cases e2 : j < k
            · rw [if_pos e2, if_pos (by omega)]
            · rw [if_neg e2, if_neg (by omega)]
      case measure => simp [intOf]; omega
    · have hk9 : k = 8 := by omega
      subst hk9
      have hbk : Bk wr b n h pc tp (fun _ => false) lf := ⟨⟨g, hg, hgt, fun j hj => by rw [hgo j hj, if_pos hj]⟩, hgl, hok, hinj⟩
      obtain ⟨F, hjF, hFd⟩ := HY.out.2.2 wr ⟨hgf, HB.out, hbk⟩
      have cab : wr.cell? ⟨ab, 0, none⟩ = some (.int .i64 a) := (hab.fr hgf (by simpa using habb)).cell 0
      have hsz := hgf.size
      obtain ⟨cs, hcs⟩ : ∃ cs, (List.range 138).map g = cs := ⟨_, rfl⟩
      have hcl : cs.length = 138 := by rw [← hcs]; simp
      have hpre : ∀ (j : Nat) (v : Value), cs[j]? = some v → wr.cell? ⟨b, j, none⟩ = some v := by
        intro j v hv
        rw [← hcs] at hv
        have hj : j < 138 := by have := (List.getElem?_eq_some_iff.1 hv).1; simpa using this
        rw [hg.cell (by omega)]
        simpa [hj] using hv
      have hone : cs.toArray.all (·.oneCell') = true := by
        rw [List.all_toArray, List.all_eq_true, ← hcs]
        intro v hv
        obtain ⟨i, hi, rfl⟩ := List.mem_map.1 hv
        exact hgt.one (by simpa using hi)
      obtain ⟨d, hd1, hd2⟩ := Try.uTree'
      have hi8 : (Try.prog.info? 74).map (·.size) = some cs.length := by rw [Try.iTree, hcl]
      have hi9 : (Try.prog.info? 74).map (·.size) = some cs.toArray.size := by rw [Try.iTree, List.size_toArray, hcl]
      have hz9 : zt.size = cs.toArray.size := by rw [zt_size, List.size_toArray, hcl]
      have HI := Lib.hid (And.intro hi8 (And.intro hi9 hz9))
      have HG := Lib.hid (And.intro hg (And.intro hgt (And.intro hgl (And.intro hgy (And.intro hone (And.intro hpre (And.intro hd1 hd2)))))))
      have HF := Lib.hid (And.intro hjF (And.intro hFd (And.intro hgf (And.intro hcs hcl))))
      have HO := Lib.hid hok
      have z1 := fun W => zero_tree2 W
      have cy := hgy.cell 0
      clear hi8 hi9 hz9 hg hgt hgl hgy hgf hgo hbk hjF hFd hone hpre hd1 hd2 hf hft hfo hlv hok hinj hbb hab hcs hcl
      go_upto_region 7 with (first | (refine wpList_load_pre rfl 74 (.tmp 17) rfl b rfl cs d HG.out.2.2.2.2.2.1 HG.out.2.2.2.2.2.2.1 HG.out.2.2.2.2.2.2.2 HI.out.1 ?_) | (refine wpList_store_row rfl 74 (.tmp 5) (.tmp 18) rfl wr.heap.size cs.toArray rfl rfl 74 zt (heap_alloc_new _ _) HI.out.2.1 HI.out.2.2 HG.out.2.2.2.2.1 ?_))
      have hf9 : Fr [] wr ((wr.alloc (.cells zt 74)).setRow wr.heap.size cs.toArray) := setRow_new wr zt 74 cs.toArray
      have hT9 : Blk ((wr.alloc (.cells zt 74)).setRow wr.heap.size cs.toArray) wr.heap.size 74 cs := setRow_heap _ _ _ _ _ _ (heap_alloc_new _ _)
      obtain ⟨hg, hgt, hgl, hgy, _⟩ := HG.out
      obtain ⟨hjF, hFd, hgf, hcs, hcl⟩ := HF.out
      have cab9 := hf9.cell (by simp) cab
      have hR : Reads ((wr.alloc (.cells zt 74)).setRow wr.heap.size cs.toArray) wr.heap.size W.heap.size l n h pc tp lf := by
        refine ⟨⟨g, ?_, hgt⟩, hgl.fr hf9 (by simp) (by simp), hgy.fr hf9 (by simp)⟩
        unfold Blf
        rw [hcs]; exact hT9
      have hJ9 := HY.out.1 0 F _ _ hjF hf9
      have hO9 : Off F wr.heap.size W.heap.size pc lf := by
        refine ⟨fun hm => by have := (hFd _ hm).1; omega, fun hm => by have := (hFd _ hm).1; omega, fun k hk hm => ?_, fun j hj x hx hm => ?_⟩
        · refine (hFd _ hm).2 ?_
          unfold lies
          exact List.mem_append_left _ (List.mem_map.2 ⟨k, List.mem_range.2 hk, rfl⟩)
        · refine (hFd _ hm).2 ?_
          unfold lies
          exact List.mem_append_right _ (List.mem_flatMap.2 ⟨j, List.mem_range.2 hj, hx⟩)
      generalize (wr.alloc (.cells zt 74)).setRow wr.heap.size cs.toArray = w9 at *
      have hh6 := HO.out.h6'
      have hw := walk_down l wr.heap.size W.heap.size n h pc tp lf (max a 0) gl J Jx hh6 HY.out.1 HY.out.2.1 h 0 1 0 F w9 (by omega) (by simp) (by simp) hJ9 hR hO9 (fun i j hi => by rw [Nat.zero_add, ← HGL.out]; exact hi)
      rw [Nat.zero_add, show ((1 : Nat) : Int) = 1 from rfl, show wl tp (max a 0) (2 ^ h) h 1 = sl tp a h from rfl, HGL.out] at hw
      have HW := Lib.hid (callsIn_wide.1 hw)
      clear hw hh6 hJ9 hR hO9 hg hgt hgl hgy hjF hFd hgf hcs hcl hf9 hT9 cy cab
      by_cases ha : a < 0
      · rw [Int.max_eq_right (by omega)] at HW
        go_wp2_with (first | (go_at_call 31; (with_reducible refine HW.out.mono ?_); rintro r w' ⟨bb, rfl, hwent⟩))
        go_end0
        exact ⟨⟨_, rfl⟩, fin_went hwent⟩
      · rw [Int.max_eq_left (by omega)] at HW
        go_wp2_with (first | (go_at_call 31; (with_reducible refine HW.out.mono ?_); rintro r w' ⟨bb, rfl, hwent⟩))
        go_end0
        exact ⟨⟨_, rfl⟩, fin_went hwent⟩
end Go.Proofs.Ytaicpgkoailnkaa
