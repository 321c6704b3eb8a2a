/- The iterator of Since once more: what it gives belongs to the round. -/
import Derived.Test.YtaicpgkoailnkaaRangeW
import Derived.Test.YtaicpgkoailnkaaSheetK
namespace Go.Proofs.Ytaicpgkoailnkaa
open Go.RowKit Go.Shelf

set_option maxRecDepth 100000 in
set_option maxHeartbeats 2000000 in
theorem walk_in2 (l now yb n h : Nat) (pc : Nat → Nat) (tp : Nat → Int) (lf : Nat → Leaf) (a : Int) (gl : List Nat) (J : Nat → List Nat → World → Prop) (Jx : World → Prop) (h6 : h ≤ 6)
    (hJ : ∀ k F A B, J k F A → Fr [] A B → J k F B)
    (hy : ∀ (k : Nat) (F : List Nat) (A B : World) (xk : Array Value), k < gl.length → J k F A → Fr [] A B → Gives gl lf k xk A B → YieldAt Fence.wide 0 Try.prog l xk B fun e C =>
      (e = .returned (.bool true) ∧ ∃ F', J (k + 1) F' C ∧ Kept F A C ∧ ∀ b ∈ F', b ∈ F ∨ A.heap.size ≤ b) ∨ (e = .returned (.bool false) ∧ Jx C)) :
    ∀ (d e node k : Nat) (F : List Nat) (A : World), e + d = h → 2 ^ e ≤ node → node < 2 * 2 ^ e → J k F A → Reads A now yb l n h pc tp lf → Off F now yb pc lf → (∀ i j, (wl tp a (2 ^ h) d node)[i]? = some j → gl[k + i]? = some j) →
      CallsIn Fence.wide 0 Try.prog 31 #[.pointer (some ⟨now, 0, none⟩), .int .i64 (node : Nat), .int .i64 a, .func (.func 32) #[] #[.pointer (some ⟨now, 0, none⟩), .pointer (some ⟨yb, 0, none⟩)]] A
        (Went J Jx (k + (wl tp a (2 ^ h) d node).length) F A) := by
  intro d
  induction d with
  | zero =>
    intro e node k F A he h1 h2 hj hr ho hg
    obtain ⟨⟨f, hf, hft⟩, hlv, hyb⟩ := id hr
    have hh : e = h := by omega
    subst hh
    have h64 : 2 ^ e ≤ 2 ^ 6 := Nat.pow_le_pow_right (by omega) h6
    have c1 : A.cell? ⟨now, 1, none⟩ = some (.int .i64 ((2 ^ e : Nat) : Int)) := by rw [hf.cell (by omega), hft.wd]
    have ct : A.cell? ⟨now, 10 + node, none⟩ = some (.int .i64 (tp node)) := by rw [hf.cell (by omega), hft.tp node (by omega)]
    have hwf : ∀ f, Fence.wide.fn f := fun _ => trivial
    have hwd : Fence.wide.depth = none := rfl
    have k0 : (0 : Int) ≤ (node : Int) := by omega
    have k1 : (node : Int) < 128 := by omega
    by_cases ht : tp node ≤ a
    · have t1 : decide (tp node ≤ a) = true := by simpa using ht
      refine callsIn_of_wp Try.func31 rfl trivial ?_ rfl
      simp only [Try.ntmps31, List.size_toArray, List.length_cons, List.length_nil, Nat.reduceAdd, Nat.reduceSub, Array.replicate_succ, Array.replicate_zero, List.push_toArray, List.append_toArray, List.nil_append, List.cons_append]
      gi_wp2
      go_ret
      refine ⟨true, rfl, .inl ⟨rfl, F, ?_, ⟨Nat.le_refl _, fun _ _ h _ _ => h⟩, fun b hb => .inl hb⟩⟩
      simpa [wl, ht] using hj
    · have t1 : decide (tp node ≤ a) = false := by simpa using ht
      have t2 : decide (((2 ^ e : Nat) : Int) ≤ (node : Int)) = true := by simp; exact_mod_cast h1
      obtain ⟨num, hnum⟩ : ∃ num, node - 2 ^ e = num := ⟨_, rfl⟩
      have hn64 : num < 64 := by omega
      have cP : A.cell? ⟨now, 2 + num / 8, none⟩ = some (.pointer (some ⟨pc (num / 8), 0, none⟩)) := by rw [hf.cell (by omega), hft.pc _ (by omega)]
      have e1 : IntKind.i64.wrap ((node : Int) - ((2 ^ e : Nat) : Int)) = (num : Int) := by rw [IntWalk.i64_in _ (by omega)]; omega
      have hgk : gl[k]? = some num := by
        have := hg 0 num (by simp [wl, ht, hnum])
        simpa using this
      have hkl : k < gl.length := (List.getElem?_eq_some_iff.1 hgk).1
      have hleaf := Leaf1_in l now yb num pc lf A (Went J Jx (k + 1) F A) hn64 hlv cP hyb (fun A' cap' B hB hrow hfp => by
        obtain ⟨fn, tmps, assign, body, hyy, hRR⟩ := hy k F A B _ hkl hj hB ⟨num, A', cap', hgk, rfl, hrow, hfp⟩
        refine ⟨fn, tmps, assign, body, hyy, hRR.mono ?_⟩
        rintro e C (⟨rfl, F', hj', hk', hF'⟩ | ⟨rfl, hx⟩)
        · exact ⟨true, rfl, true, rfl, .inl ⟨rfl, F', hj', hk', hF'⟩⟩
        · exact ⟨false, rfl, false, rfl, .inr ⟨rfl, hx⟩⟩)
      have hw1 : (wl tp a (2 ^ e) 0 node).length = 1 := by simp [wl, ht]
      rw [hw1]
      have HL := Lib.hid hleaf
      clear hleaf hg hj hr ho hlv hyb hgk hkl hy hJ hw1
      generalize hW : 2 ^ e = W at *
      refine callsIn_of_wp Try.func31 rfl trivial ?_ rfl
      simp only [Try.ntmps31, List.size_toArray, List.length_cons, List.length_nil, Nat.reduceAdd, Nat.reduceSub, Array.replicate_succ, Array.replicate_zero, List.push_toArray, List.append_toArray, List.nil_append, List.cons_append]
      gi_wp2_with (gi_at_call 32; (with_reducible refine HL.out.mono ?_); rintro r w' ⟨bb, rfl, hwent⟩)
      go_ret
      exact ⟨bb, rfl, hwent⟩
  | succ d ih =>
    intro e node k F A he h1 h2 hj hr ho hg
    obtain ⟨⟨f, hf, hft⟩, hlv, hyb⟩ := id hr
    have hp : 2 ^ (e + 1) = 2 * 2 ^ e := by rw [Nat.pow_succ]; omega
    have hle : 2 ^ (e + 1) ≤ 2 ^ h := Nat.pow_le_pow_right (by omega) (by omega)
    have h64 : 2 ^ h ≤ 2 ^ 6 := Nat.pow_le_pow_right (by omega) h6
    have hnode : node < 64 := by omega
    have c1 : A.cell? ⟨now, 1, none⟩ = some (.int .i64 ((2 ^ h : Nat) : Int)) := by rw [hf.cell (by omega), hft.wd]
    have ct : A.cell? ⟨now, 10 + node, none⟩ = some (.int .i64 (tp node)) := by rw [hf.cell (by omega), hft.tp node (by omega)]
    have hwf : ∀ f, Fence.wide.fn f := fun _ => trivial
    have hwd : Fence.wide.depth = none := rfl
    have k0 : (0 : Int) ≤ (node : Int) := by omega
    have k1 : (node : Int) < 128 := by omega
    by_cases ht : tp node ≤ a
    · have t1 : decide (tp node ≤ a) = true := by simpa using ht
      refine callsIn_of_wp Try.func31 rfl trivial ?_ rfl
      simp only [Try.ntmps31, List.size_toArray, List.length_cons, List.length_nil, Nat.reduceAdd, Nat.reduceSub, Array.replicate_succ, Array.replicate_zero, List.push_toArray, List.append_toArray, List.nil_append, List.cons_append]
      gi_wp2
      go_ret
      refine ⟨true, rfl, .inl ⟨rfl, F, ?_, ⟨Nat.le_refl _, fun _ _ h _ _ => h⟩, fun b hb => .inl hb⟩⟩
      simpa [wl, ht] using hj
    · have t1 : decide (tp node ≤ a) = false := by simpa using ht
      have t2 : decide (((2 ^ h : Nat) : Int) ≤ (node : Int)) = false := by
        simp only [decide_eq_false_iff_not]
        have : node < 2 ^ h := by omega
        exact_mod_cast Nat.not_le.2 this
      have t3 : decide (2 ^ h ≤ node) = false := by simp; omega
      have hwl : wl tp a (2 ^ h) (d + 1) node = wl tp a (2 ^ h) d (2 * node) ++ wl tp a (2 ^ h) d (2 * node + 1) := by rw [wl, if_neg ht]
      rw [hwl] at hg ⊢
      rw [List.length_append]
      have i1 := ih (e + 1) (2 * node) k F A (by omega) (by omega) (by omega) hj hr ho (fun i j hi => hg i j (by rw [List.getElem?_append_left ((List.getElem?_eq_some_iff.1 hi).1)]; exact hi))
      have i2 : ∀ (F' : List Nat) (B : World), J (k + (wl tp a (2 ^ h) d (2 * node)).length) F' B → Kept F A B → (∀ b ∈ F', b ∈ F ∨ A.heap.size ≤ b) → CallsIn Fence.wide 0 Try.prog 31 #[.pointer (some ⟨now, 0, none⟩), .int .i64 (2 * node + 1 : Nat), .int .i64 a, .func (.func 32) #[] #[.pointer (some ⟨now, 0, none⟩), .pointer (some ⟨yb, 0, none⟩)]] B
          (Went J Jx (k + ((wl tp a (2 ^ h) d (2 * node)).length + (wl tp a (2 ^ h) d (2 * node + 1)).length)) F A) := by
        intro F' B hj' hk' hF'
        have := ih (e + 1) (2 * node + 1) _ F' B (by omega) (by omega) (by omega) hj' (hr.kept hk' ho) (ho.more hr hF') (fun i j hi => by
          have h9 := hg ((wl tp a (2 ^ h) d (2 * node)).length + i) j (by rw [List.getElem?_append_right (by omega)]; rw [Nat.add_sub_cancel_left]; exact hi)
          rw [← Nat.add_assoc] at h9; exact h9)
        rw [Nat.add_assoc] at this
        exact this.mono (fun e C hC => hC.after hk' hF')
      generalize wl tp a (2 ^ h) d (2 * node) = l1 at *
      generalize wl tp a (2 ^ h) d (2 * node + 1) = l2 at *
      have e1 : IntKind.i64.wrap (2 * (node : Int)) = 2 * (node : Int) := IntWalk.i64_in _ (by omega)
      have e2 : IntKind.i64.wrap (2 * (node : Int) + 1) = 2 * (node : Int) + 1 := IntWalk.i64_in _ (by omega)
      rw [show ((2 * node : Nat) : Int) = 2 * (node : Int) by omega] at i1
      rw [show ((2 * node + 1 : Nat) : Int) = 2 * (node : Int) + 1 by omega] at i2
      have I1 := Lib.hid i1
      have I2 := Lib.hid i2
      clear ih i1 i2 hle hp h64 hg hj hr ho hlv hyb hf hft hy hJ hwl
      generalize hW : 2 ^ h = W at *
      refine callsIn_of_wp Try.func31 rfl trivial ?_ rfl
      simp only [Try.ntmps31, List.size_toArray, List.length_cons, List.length_nil, Nat.reduceAdd, Nat.reduceSub, Array.replicate_succ, Array.replicate_zero, List.push_toArray, List.append_toArray, List.nil_append, List.cons_append]
      gi_wp2_with fail
      refine I1.out.mono ?_
      rintro r w' ⟨bb, rfl, (⟨rfl, F', hj', hk', hF'⟩ | ⟨rfl, hx⟩)⟩
      · gi_wp2_with (gi_at_call 31; (with_reducible refine (I2.out F' _ hj' hk' hF').mono ?_); rintro r w5 ⟨b2, rfl, hwent⟩)
        go_ret
        exact ⟨_, rfl, hwent⟩
      · gi_wp2
        go_ret
        exact ⟨false, rfl, .inr ⟨rfl, hx⟩⟩

set_option maxRecDepth 100000 in
set_option maxHeartbeats 2000000 in
theorem Since1_iter2 (b bb ab n h : Nat) (a : Int) (pc : Nat → Nat) (tp : Nat → Int) (ow : Nat → Bool) (lf : Nat → Leaf) (w0 : World) (hb0 : Bk w0 b n h pc tp ow lf) (hbb0 : Blk w0 bb 23 [.pointer (some ⟨b, 0, none⟩)]) (hab0 : Blk w0 ab 3 [.int .i64 a]) :
    IterW Try.prog 30 #[.pointer (some ⟨bb, 0, none⟩), .pointer (some ⟨ab, 0, none⟩)] (sl tp a h).length (Gives (sl tp a h) lf) w0 (Shared b n h pc tp ow lf) (lies pc lf) := by
  obtain ⟨gl, hgl9⟩ : ∃ gl, sl tp a h = gl := ⟨_, rfl⟩
  rw [hgl9]
  have HGL := Lib.hid hgl9
  clear hgl9
  intro l J Jx W hnc hJ hJx hy h0
  have hb := hb0.nc hnc
  have hbb := hbb0.nc hnc
  have hab := hab0.nc hnc
  obtain ⟨⟨f, hf, hft, hfo⟩, hlv, hok, hinj⟩ := id hb
  have HB := Lib.hid hb
  have HY := Lib.hid (And.intro hJ (And.intro hy h0))
  have hbs := hf.lt
  have hbbs := hbb.lt
  have habs := hab.lt
  have hbbb : bb ≠ b := Blk.ne hbb hf (by decide)
  have habb : ab ≠ b := Blk.ne hab hf (by decide)
  clear hJ hJx hy h0 hb hb0 hbb0 hab0 hnc
  refine callsIn_wide.2 ?_
  simp only [List.append_toArray, List.cons_append, List.nil_append]
  go_enter Try.func30, Try.ntmps30
  go_wp2
  go_loopw [6] (fun i wr => ∃ (k : Nat) (g : Nat → Value), k ≤ 8 ∧ i = .int .i64 k ∧ Blf wr b 77 146 g ∧ TreeF g n h pc tp ∧ (∀ j, j < 8 → g (138 + j) = .bool (if j < k then false else ow j)) ∧ Leaves wr pc lf ∧ Blk wr W.heap.size 82 [.func (.yield l) #[] #[]] ∧ Fr [b] W wr) (fun i _ => 8 - (intOf i).toNat)
  case atStart => 
    refine ⟨0, f, by omega, rfl, hf.alloc _, hft, fun j hj => by rw [hfo j hj]; simp, hlv.fr ((Fr.refl [] W).alloc _) (by simp) (by simp), Blk.new _ _ _, (Fr.refl [b] W).alloc _⟩
  case round =>
    obtain ⟨k, g, hk, rfl, hg, hgt, hgo, hgl, hgy, hgf⟩ := hrel
    have cbb : wr.cell? ⟨bb, 0, none⟩ = some (.pointer (some ⟨b, 0, none⟩)) := (hbb.fr hgf (by simpa using hbbb)).cell 0
    by_cases hk8 : k < 8
    · have k0 : (0 : Int) ≤ (k : Int) := by omega
      have k1 : (k : Int) < 8 := by omega
      have cO := hg.cell (i := 138 + k) (by omega)
      have zO := hg.frozen (138 + k)
      have hgl2 := hgl.setB (o := 138 + k) (u := .bool false) hg
      have hne : W.heap.size ≠ b := by omega
      go_wp2
      go_roundw
      case rel =>
        refine ⟨k + 1, upd g (138 + k) (.bool false), by omega, by go_num, hg.set_ _ _, ⟨?_, ?_, fun j hj => ?_, fun i hi => ?_⟩, fun j hj => ?_, hgl2, hgy.far' hne, hgf.setCell' (.inl (by simp))⟩
        · rw [upd_ne (by omega)]; exact hgt.n
        · rw [upd_ne (by omega)]; exact hgt.wd
        · rw [upd_ne (by omega)]; exact hgt.pc j hj
        · rw [upd_ne (by omega)]; exact hgt.tp i hi
        · by_cases e : j = k
          · subst e; rw [upd_eq]; simp
          · rw [upd_ne (by omega), hgo j hj]
            by_cases e2 : j < k
            · rw [if_pos e2, if_pos (by omega)]
            · rw [if_neg e2, if_neg (by omega)]
      case measure => simp [intOf]; omega
    · have hk9 : k = 8 := by omega
      subst hk9
      have hbk : Bk wr b n h pc tp (fun _ => false) lf := ⟨⟨g, hg, hgt, fun j hj => by rw [hgo j hj, if_pos hj]⟩, hgl, hok, hinj⟩
      obtain ⟨F, hjF, hFd⟩ := HY.out.2.2 wr ⟨hgf, HB.out, hbk⟩
      have cab : wr.cell? ⟨ab, 0, none⟩ = some (.int .i64 a) := (hab.fr hgf (by simpa using habb)).cell 0
      have hsz := hgf.size
      obtain ⟨cs, hcs⟩ : ∃ cs, (List.range 138).map g = cs := ⟨_, rfl⟩
      have hcl : cs.length = 138 := by rw [← hcs]; simp
      have hpre : ∀ (j : Nat) (v : Value), cs[j]? = some v → wr.cell? ⟨b, j, none⟩ = some v := by
        intro j v hv
        rw [← hcs] at hv
        have hj : j < 138 := by have := (List.getElem?_eq_some_iff.1 hv).1; simpa using this
        rw [hg.cell (by omega)]
        simpa [hj] using hv
      have hone : cs.toArray.all (·.oneCell') = true := by
        rw [List.all_toArray, List.all_eq_true, ← hcs]
        intro v hv
        obtain ⟨i, hi, rfl⟩ := List.mem_map.1 hv
        exact hgt.one (by simpa using hi)
      obtain ⟨d, hd1, hd2⟩ := Try.uTree'
      have hi8 : (Try.prog.info? 74).map (·.size) = some cs.length := by rw [Try.iTree, hcl]
      have hi9 : (Try.prog.info? 74).map (·.size) = some cs.toArray.size := by rw [Try.iTree, List.size_toArray, hcl]
      have hz9 : zt.size = cs.toArray.size := by rw [zt_size, List.size_toArray, hcl]
      have HI := Lib.hid (And.intro hi8 (And.intro hi9 hz9))
      have HG := Lib.hid (And.intro hg (And.intro hgt (And.intro hgl (And.intro hgy (And.intro hone (And.intro hpre (And.intro hd1 hd2)))))))
      have HF := Lib.hid (And.intro hjF (And.intro hFd (And.intro hgf (And.intro hcs hcl))))
      have HO := Lib.hid hok
      have z1 := fun W => zero_tree2 W
      have cy := hgy.cell 0
      clear hi8 hi9 hz9 hg hgt hgl hgy hgf hgo hbk hjF hFd hone hpre hd1 hd2 hf hft hfo hlv hok hinj hbb hab hcs hcl
      go_upto_region 7 with (first | (refine wpList_load_pre rfl 74 (.tmp 17) rfl b rfl cs d HG.out.2.2.2.2.2.1 HG.out.2.2.2.2.2.2.1 HG.out.2.2.2.2.2.2.2 HI.out.1 ?_) | (refine wpList_store_row rfl 74 (.tmp 5) (.tmp 18) rfl wr.heap.size cs.toArray rfl rfl 74 zt (heap_alloc_new _ _) HI.out.2.1 HI.out.2.2 HG.out.2.2.2.2.1 ?_))
      have hf9 : Fr [] wr ((wr.alloc (.cells zt 74)).setRow wr.heap.size cs.toArray) := setRow_new wr zt 74 cs.toArray
      have hT9 : Blk ((wr.alloc (.cells zt 74)).setRow wr.heap.size cs.toArray) wr.heap.size 74 cs := setRow_heap _ _ _ _ _ _ (heap_alloc_new _ _)
      obtain ⟨hg, hgt, hgl, hgy, _⟩ := HG.out
      obtain ⟨hjF, hFd, hgf, hcs, hcl⟩ := HF.out
      have cab9 := hf9.cell (by simp) cab
      have hR : Reads ((wr.alloc (.cells zt 74)).setRow wr.heap.size cs.toArray) wr.heap.size W.heap.size l n h pc tp lf := by
        refine ⟨⟨g, ?_, hgt⟩, hgl.fr hf9 (by simp) (by simp), hgy.fr hf9 (by simp)⟩
        unfold Blf
        rw [hcs]; exact hT9
      have hJ9 := HY.out.1 0 F _ _ hjF hf9
      have hO9 : Off F wr.heap.size W.heap.size pc lf := by
        refine ⟨fun hm => by have := (hFd _ hm).1; omega, fun hm => by have := (hFd _ hm).1; omega, fun k hk hm => ?_, fun j hj x hx hm => ?_⟩
        · refine (hFd _ hm).2 ?_
          unfold lies
          exact List.mem_append_left _ (List.mem_map.2 ⟨k, List.mem_range.2 hk, rfl⟩)
        · refine (hFd _ hm).2 ?_
          unfold lies
          exact List.mem_append_right _ (List.mem_flatMap.2 ⟨j, List.mem_range.2 hj, hx⟩)
      generalize (wr.alloc (.cells zt 74)).setRow wr.heap.size cs.toArray = w9 at *
      have hh6 := HO.out.h6'
      have hw := walk_in2 l wr.heap.size W.heap.size n h pc tp lf (max a 0) gl J Jx hh6 HY.out.1 HY.out.2.1 h 0 1 0 F w9 (by omega) (by simp) (by simp) hJ9 hR hO9 (fun i j hi => by rw [Nat.zero_add, ← HGL.out]; exact hi)
      rw [Nat.zero_add, show ((1 : Nat) : Int) = 1 from rfl, show wl tp (max a 0) (2 ^ h) h 1 = sl tp a h from rfl, HGL.out] at hw
      have HW := Lib.hid (callsIn_wide.1 hw)
      clear hw hh6 hJ9 hR hO9 hg hgt hgl hgy hjF hFd hgf hcs hcl hf9 hT9 cy cab
      by_cases ha : a < 0
      · rw [Int.max_eq_right (by omega)] at HW
        go_wp2_with (first | (go_at_call 31; (with_reducible refine HW.out.mono ?_); rintro r w' ⟨bb, rfl, hwent⟩))
        go_end0
        exact ⟨⟨_, rfl⟩, fin_went hwent⟩
      · rw [Int.max_eq_left (by omega)] at HW
        go_wp2_with (first | (go_at_call 31; (with_reducible refine HW.out.mono ?_); rintro r w' ⟨bb, rfl, hwent⟩))
        go_end0
        exact ⟨⟨_, rfl⟩, fin_went hwent⟩
end Go.Proofs.Ytaicpgkoailnkaa
