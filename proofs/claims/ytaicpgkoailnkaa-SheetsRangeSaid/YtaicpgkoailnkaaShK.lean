/- The law SheetsRange, walked. -/
import Derived.Test.YtaicpgkoailnkaaShL
import Derived.Test.YtaicpgkoailnkaaSheetW
namespace Go.Proofs.Ytaicpgkoailnkaa
open Go.RowKit

attribute [local go_sem] Oper.semAt_some

set_option maxRecDepth 100000 in
set_option maxHeartbeats 16000000 in
theorem srange_good (n : Nat) (hn0 : 1 ≤ n) (hn : n ≤ 64) (A1 A2 : Option Addr) (c1 c2 : Nat) (D1 Ds : List Deed) (at_ : Int) (w : World) (hD1 : Deeds w A1 D1) (hD : Deeds w A2 Ds) :
    Calls Try.prog 4 #[.int .i64 (n : Int), .slice A1 D1.length c1, .slice A2 Ds.length c2, .int .i64 at_] w fun r w' => r = .returned (.bool true) ∧ Fr [] w w' := by
  have DD1 := Lib.hid hD1
  have DD := Lib.hid hD
  have hlong1 := hD1.long
  have hlong2 := hD.long
  have hnil := fun (W : World) (x y : Value) => eql_seq_nil x y W
  clear hD1 hD
  refine (callsIn_wide (n := 0)).1 (callsIn_of_wp_marks Try.func4 rfl trivial (wpIn_wide.2 ?_) rfl)
  simp only [Try.ntmps4, List.size_toArray, List.length_cons, List.length_nil, Nat.reduceAdd, Nat.reduceSub, Array.replicate_succ, Array.replicate_zero, List.push_toArray, List.append_toArray, List.nil_append, List.cons_append]
  go_wp2_with fail
  refine (beyond_any A2 c2 Ds _ (DD.out.fr ((((Fr.refl [] w).alloc _).alloc _).alloc _))).mono ?_
  rintro r w1 ⟨⟨bb, rfl, hlen⟩, nq, rfl⟩
  have hbs1 : Boxes ((((w.alloc (.cells #[.slice A2 Ds.length c2] 22)).alloc (.cells #[.int .i64 at_] 3)).alloc (.cells #[.bool false] 4)).drewN nq) [(w.heap.size, 22, .slice A2 Ds.length c2), (w.heap.size + 1, 3, .int .i64 at_), (w.heap.size + 2, 4, .bool false)] := by
    intro p hp
    simp only [List.mem_cons, List.not_mem_nil, or_false] at hp
    rcases hp with rfl | rfl | rfl
    · exact (((Blk.new _ _ _).alloc _).alloc _).drewN nq
    · exact ((Blk.new' (by simp)).alloc _).drewN nq
    · exact (Blk.new' (by simp)).drewN nq
  have hf1 : Fr [] w ((((w.alloc (.cells #[.slice A2 Ds.length c2] 22)).alloc (.cells #[.int .i64 at_] 3)).alloc (.cells #[.bool false] 4)).drewN nq) := ((((Fr.refl [] w).alloc _).alloc _).alloc _).drewN nq
  generalize (((w.alloc (.cells #[.slice A2 Ds.length c2] 22)).alloc (.cells #[.int .i64 at_] 3)).alloc (.cells #[.bool false] 4)).drewN nq = w1 at *
  have b8 := hbs1 (w.heap.size + 2, 4, .bool false) (by simp)
  have s8 := b8.lt
  have k8 : w1.cell? ⟨w.heap.size + 2, 0, none⟩ = some (.bool false) := b8.cell 0
  have z8 := b8.frozen 0
  cases bb with
  | true =>
    clear hlen
    go_wp2
    have c6 := (b8.set_ 0 (.bool true)).cell 0
    refine ⟨.bool true, ?_, rfl, hf1.setCell' (.inr (by omega))⟩
    simp at c6
    simp [results, Try.f4, go_sem, c6]
  | false =>
    have hlen2 : Ds.length ≤ 2147483647 := hlen rfl
    clear hlen k8 z8 b8
    go_wp2_with fail
    refine (New_boo n _ hn0 hn).mono ?_
    rintro r w2 ⟨rfl, B2, hB2, hbb, hbn, hbc⟩
    obtain ⟨b, hbe⟩ : ∃ b, w1.heap.size = b := ⟨_, rfl⟩
    rw [hbe] at hbb ⊢
    have hf2 := hB2.fr
    have hbs2 := hbs1.fr0 hf2
    have s2 : w1.heap.size < w2.heap.size := by have := hB2.at_.rd_lt B2.b List.mem_cons_self; omega
    have HB2 := Lib.hid (And.intro hB2 (And.intro hbb (And.intro hbn hbc)))
    clear hB2 hbb hbn hbc hbs1
    go_wp2_with fail
    refine (rNew_good n _ hn0 hn).mono ?_
    rintro r w3 ⟨rfl, R3, hR3, hf3, hr3, hO3, hrd3⟩
    simp only [World.size_alloc] at hr3 hrd3
    obtain ⟨r, hre⟩ : ∃ r, (w2.alloc (.cells #[.pointer (some ⟨b, 0, none⟩)] 23)).heap.size = r := ⟨_, rfl⟩
    rw [hre] at ⊢
    have hre2 : w2.heap.size + 1 = r := by rw [← hre]; simp
    rw [hre2] at hr3
    have hb9 : Blk w3 w2.heap.size 23 [.pointer (some ⟨b, 0, none⟩)] := (Blk.new _ _ _).fr hf3 (by simp)
    have hbs3 : Boxes w3 [(w.heap.size, 22, .slice A2 Ds.length c2), (w.heap.size + 1, 3, .int .i64 at_), (w.heap.size + 2, 4, .bool false), (w2.heap.size, 23, .pointer (some ⟨b, 0, none⟩))] := by
      intro p hp
      simp only [List.mem_cons, List.not_mem_nil, or_false] at hp
      rcases hp with rfl | rfl | rfl | rfl
      · exact ((hbs2 _ (by simp)).alloc _).fr hf3 (by simp)
      · exact ((hbs2 _ (by simp)).alloc _).fr hf3 (by simp)
      · exact ((hbs2 _ (by simp)).alloc _).fr hf3 (by simp)
      · exact hb9
    have s3 : w2.heap.size < w3.heap.size := hb9.lt
    obtain ⟨hB2, hbb, hbn, hbc⟩ := HB2.out
    have hOne3 : One w w3 n B2 R3 := ⟨((hf1.trans hB2.fr).alloc _).trans hf3, (hB2.at_.fr0 ((Fr.refl _ _).alloc _)).fr0 hf3, hR3, fun x hx => by have := hB2.rd x hx; have := hf1.size; omega, fun x hx => by have := hrd3 x hx; have := hf1.size; omega, hbn, by rw [hbc]; exact hO3⟩
    have H3 := Lib.hid (And.intro hOne3 (And.intro hbb hr3))
    have t9 : w3.cell? ⟨w2.heap.size, 0, none⟩ = some (.pointer (some ⟨b, 0, none⟩)) := hb9.cell 0
    clear HB2 hB2 hbb hbn hbc hR3 hf3 hO3 hr3 hrd3 hre hre2 hbs2 hf2 hOne3 hb9
    go_upto_region 9 with fail
    obtain ⟨BX, hBX⟩ : ∃ BX : List (Nat × TypeId × Value), BX = [(w.heap.size, 22, .slice A2 Ds.length c2), (w.heap.size + 1, 3, .int .i64 at_), (w.heap.size + 2, 4, .bool false), (w2.heap.size, 23, .pointer (some ⟨b, 0, none⟩)), (w3.heap.size, 39, .pointer (some ⟨r, 0, none⟩))] := ⟨_, rfl⟩
    have hBXt : ∀ p ∈ BX, p.2.1 ∉ ([77, 81, 91, 46, 5] : List TypeId) := by
      rw [hBX]; simp
    have hBXl : ∀ p ∈ BX, p.1 ≤ w3.heap.size := by
      rw [hBX]
      intro p hp
      simp only [List.mem_cons, List.not_mem_nil, or_false] at hp
      rcases hp with rfl | rfl | rfl | rfl | rfl <;> simp only <;> omega
    have hbs4 : Boxes (w3.alloc (.cells #[.pointer (some ⟨r, 0, none⟩)] 39)) BX := by
      rw [hBX]
      intro p hp
      simp only [List.mem_cons, List.not_mem_nil, or_false] at hp
      rcases hp with rfl | rfl | rfl | rfl | rfl
      · exact (hbs3 _ (by simp)).alloc _
      · exact (hbs3 _ (by simp)).alloc _
      · exact (hbs3 _ (by simp)).alloc _
      · exact (hbs3 _ (by simp)).alloc _
      · exact Blk.new _ _ _
    have m9 : (w2.heap.size, 23, Value.pointer (some ⟨b, 0, none⟩)) ∈ BX := by rw [hBX]; simp
    have m11 : (w3.heap.size, 39, Value.pointer (some ⟨r, 0, none⟩)) ∈ BX := by rw [hBX]; simp
    have HBX := Lib.hid (And.intro hBX (And.intro hBXt (And.intro hBXl (And.intro m9 m11))))
    have H4 := Lib.hid hbs4
    clear hBX hBXt hBXl hbs3 hbs4 m9 m11 t9
    go_wp2
    go_loopw [49] (fun i wr => ∃ (k : Nat) (B : Boo) (R : RBo), k ≤ D1.length ∧ i = .int .i64 k ∧ Boxes wr BX ∧ One w wr n B R ∧ B.b = b ∧ R.r = r ∧ w3.heap.size < wr.heap.size) (fun i _ => D1.length - (intOf i).toNat)
    case atStart => exact ⟨0, B2, R3, Nat.zero_le _, rfl, H4.out, H3.out.1.fr0 ((Fr.refl _ _).alloc _), H3.out.2.1, H3.out.2.2, by simp⟩
    case round =>
      clear H3 H4
      obtain ⟨k, B, R, hk, rfl, hbs, hO, hBb, hRr, hsz⟩ := hrel
      by_cases hlt : k < D1.length
      · obtain ⟨d, hd⟩ : ∃ d, D1[k]? = some d := ⟨D1[k], List.getElem?_eq_getElem hlt⟩
        have hdm : d ∈ D1 := List.mem_of_getElem? hd
        obtain ⟨hdr, hdb, hdl⟩ := DD1.out.data d hdm
        obtain ⟨ab, ao, rfl, hab, g0, g1, g2, g3, g4, g5⟩ := (DD1.out.fr hO.fr).cells hd
        have hOa := hO.fr0 (((Fr.refl [] wr).alloc (.cells #[.int .i64 d.kd, .int .i64 d.bk, .int .i64 d.num, .int .i64 d.at_, .slice d.A d.xs.length d.cap, .slice d.LA d.ls.length d.lcap] 35)).drew)
        have hp1 := hOa.put1 d.num d.at_ d.A d.cap d.xs hdr hdb
        have hp2 := fun (w1 : World) (B' : Boo) (hT : Turn _ w1 B B') => hOa.put2 d.num d.at_ d.A d.cap d.xs hdr hdl hT
        rw [hBb] at hp1
        rw [hRr] at hp2
        obtain ⟨pe, hpe⟩ : ∃ z, putE n (lastC B.con n) d.num d.at_ d.xs.length = z := ⟨_, rfl⟩
        rw [hpe] at hp1 hp2
        have epe : (pe != pe) = false := by simp
        have hbx : Blk (wr.alloc (.cells #[.int .i64 d.kd, .int .i64 d.bk, .int .i64 d.num, .int .i64 d.at_, .slice d.A d.xs.length d.cap, .slice d.LA d.ls.length d.lcap] 35)) wr.heap.size 35 [.int .i64 d.kd, .int .i64 d.bk, .int .i64 d.num, .int .i64 d.at_, .slice d.A d.xs.length d.cap, .slice d.LA d.ls.length d.lcap] := Blk.new _ _ _
        have hB9 : Blk (wr.alloc (.cells #[.int .i64 d.kd, .int .i64 d.bk, .int .i64 d.num, .int .i64 d.at_, .slice d.A d.xs.length d.cap, .slice d.LA d.ls.length d.lcap] 35)) w2.heap.size 23 [.pointer (some ⟨b, 0, none⟩)] := (hbs _ HBX.out.2.2.2.1).alloc (.cells #[.int .i64 d.kd, .int .i64 d.bk, .int .i64 d.num, .int .i64 d.at_, .slice d.A d.xs.length d.cap, .slice d.LA d.ls.length d.lcap] 35)
        have hB11 : Blk (wr.alloc (.cells #[.int .i64 d.kd, .int .i64 d.bk, .int .i64 d.num, .int .i64 d.at_, .slice d.A d.xs.length d.cap, .slice d.LA d.ls.length d.lcap] 35)) w3.heap.size 39 [.pointer (some ⟨r, 0, none⟩)] := (hbs _ HBX.out.2.2.2.2).alloc (.cells #[.int .i64 d.kd, .int .i64 d.bk, .int .i64 d.num, .int .i64 d.at_, .slice d.A d.xs.length d.cap, .slice d.LA d.ls.length d.lcap] 35)
        have hbl := hO.hB.rd_lt
        have hrl := hO.hR.rd_lt
        have k0 : (0 : Int) ≤ (k : Int) := by omega
        have k1 : (k : Int) < (D1.length : Int) := by omega
        have HP := Lib.hid (And.intro hp1 (And.intro hp2 (And.intro hbs (And.intro hO (And.intro hBb (And.intro hRr (And.intro hOa (And.intro hbl hrl))))))))
        have D9 := hB9.drew
        have D11 := hB11.drew
        have DB := hbx.drew
        have hsz2 : wr.heap.size < (wr.alloc (.cells #[.int .i64 d.kd, .int .i64 d.bk, .int .i64 d.num, .int .i64 d.at_, .slice d.A d.xs.length d.cap, .slice d.LA d.ls.length d.lcap] 35)).heap.size := by simp
        clear hd hdm hdr hdb hdl hOa hp1 hp2 hbs hO hBb hRr hB9 hB11 hbx hpe hbl hrl
        go_upto_region 12 with fail
        have r9 := fun (w' : World) (i : Nat) (hh : Blk w' w2.heap.size 23 [.pointer (some ⟨b, 0, none⟩)]) => hh.cell i; have r9' := fun (w' : World) (i : Nat) (hh : Blk w' w2.heap.size 23 [.pointer (some ⟨b, 0, none⟩)]) => hh.frozen i
        have r11 := fun (w' : World) (i : Nat) (hh : Blk w' w3.heap.size 39 [.pointer (some ⟨r, 0, none⟩)]) => hh.cell i; have r11' := fun (w' : World) (i : Nat) (hh : Blk w' w3.heap.size 39 [.pointer (some ⟨r, 0, none⟩)]) => hh.frozen i
        have rb := fun (w' : World) (i : Nat) (hh : Blk w' wr.heap.size 35 [.int .i64 d.kd, .int .i64 d.bk, .int .i64 d.num, .int .i64 d.at_, .slice d.A d.xs.length d.cap, .slice d.LA d.ls.length d.lcap]) => hh.cell i; have rb' := fun (w' : World) (i : Nat) (hh : Blk w' wr.heap.size 35 [.int .i64 d.kd, .int .i64 d.bk, .int .i64 d.num, .int .i64 d.at_, .slice d.A d.xs.length d.cap, .slice d.LA d.ls.length d.lcap]) => hh.frozen i
        go_region_held3 (fun w' => Blk w' w2.heap.size 23 [.pointer (some ⟨b, 0, none⟩)] ∧ Blk w' w3.heap.size 39 [.pointer (some ⟨r, 0, none⟩)] ∧ Blk w' wr.heap.size 35 [.int .i64 d.kd, .int .i64 d.bk, .int .i64 d.num, .int .i64 d.at_, .slice d.A d.xs.length d.cap, .slice d.LA d.ls.length d.lcap]) (simp [*, Blk.alloc, Blk.drew, Blk.drewN, Blk.far'])
          (first | (go_at_call 10; (with_reducible refine HP.out.1.mono ?_); rintro rr w5 ⟨rfl, B', hT, hc⟩; have d9 := D9.fr hT.fr (fun hm => (HP.out.2.2.2.2.2.2.1.hB.typf hm).not D9 (by decide)); have d11 := D11.fr hT.fr (fun hm => (HP.out.2.2.2.2.2.2.1.hB.typf hm).not D11 (by decide)); have db := DB.fr hT.fr (fun hm => (HP.out.2.2.2.2.2.2.1.hB.typf hm).not DB (by decide))) | (go_at_call 14; (with_reducible refine (HP.out.2.1 w5 B' hT).mono ?_); rintro rr w6 ⟨rfl, hP⟩; have hRt := hT.rbo HP.out.2.2.2.2.2.2.1.hB HP.out.2.2.2.2.2.2.1.hR; have u9 : Blk w6 w2.heap.size 23 [.pointer (some ⟨b, 0, none⟩)] := (by obtain ⟨R', hU, hO⟩ := hP; exact d9.fr hU.fr (fun hm => (hRt.typf hm).not d9 (by decide))); have u11 : Blk w6 w3.heap.size 39 [.pointer (some ⟨r, 0, none⟩)] := (by obtain ⟨R', hU, hO⟩ := hP; exact d11.fr hU.fr (fun hm => (hRt.typf hm).not d11 (by decide))); have ub : Blk w6 wr.heap.size 35 [.int .i64 d.kd, .int .i64 d.bk, .int .i64 d.num, .int .i64 d.at_, .slice d.A d.xs.length d.cap, .slice d.LA d.ls.length d.lcap] := (by obtain ⟨R', hU, hO⟩ := hP; exact db.fr hU.fr (fun hm => (hRt.typf hm).not db (by decide)))))
        rename_i hHeld
        have hT := ‹Turn _ w5 B B'›
        have hc := ‹B'.con = putA B.con n d.num d.at_ d.xs›
        have hP := ‹RPut w5 w6 R B.con n d.num d.at_ d.xs›
        have HT := Lib.hid (And.intro hT (And.intro hc hP))
        clear d9 d11 db u9 u11 ub hHeld rb rb' r9 r9' r11 r11' DB D9 D11 hT hc hP hRt
        go_wp2
        go_roundw
        case rel =>
          obtain ⟨_, _, hbs, hO, hBb, hRr, hOa, _, _⟩ := HP.out
          obtain ⟨hT, hc, R', hU, hOf⟩ := HT.out
          rw [← hc] at hOf
          obtain ⟨hO6, hf6, e1, e2⟩ := hOa.turn hT hU hOf
          have hbsa := hbs.fr0 (((Fr.refl [] wr).alloc (.cells #[.int .i64 d.kd, .int .i64 d.bk, .int .i64 d.num, .int .i64 d.at_, .slice d.A d.xs.length d.cap, .slice d.LA d.ls.length d.lcap] 35)).drew)
          have hs6 := hf6.size
          simp at hs6
          refine ⟨k + 1, B', R', hlt, by go_num, hbsa.fr hf6 (fun p hp hm => ?_), hO6, e1.trans hBb, e2.trans hRr, by omega⟩
          have := (hOa.typ hm)
          exact hbsa.off (ts := [77, 81, 91, 46]) (fun p hp hm => HBX.out.2.1 p hp (by simp only [List.mem_cons, List.not_mem_nil, or_false] at hm; rcases hm with h | h | h | h <;> simp [h])) this p hp rfl
        case measure => simp [intOf]; omega
      · have hkl : k = D1.length := by omega
        subst hkl
        have k9 : wr.cell? ⟨w2.heap.size, 0, none⟩ = some (.pointer (some ⟨b, 0, none⟩)) := (hbs _ HBX.out.2.2.2.1).cell 0
        have m7 : (w.heap.size + 1, 3, Value.int .i64 at_) ∈ BX := by rw [HBX.out.1]; simp
        have k7 : wr.cell? ⟨w.heap.size + 1, 0, none⟩ = some (.int .i64 at_) := (hbs _ m7).cell 0
        have HQ := Lib.hid (And.intro hbs (And.intro hO (And.intro hBb hRr)))
        clear hbs hO hBb hRr hk hlt m7
        go_upto_region 18 with (first | (go_at_call 8; (with_reducible refine (Since_any b at_ _).mono ?_); rintro rr w4 ⟨rfl, hb1, hb2, hf4⟩))
        have sz4 := hb2.lt
        obtain ⟨BY, hBY⟩ : ∃ BY : List (Nat × TypeId × Value), BY = BX ++ [(wr.heap.size, 23, .pointer (some ⟨b, 0, none⟩)), (wr.heap.size + 1, 3, .int .i64 at_), (w4.heap.size, 28, .func (.func 30) #[] #[.pointer (some ⟨wr.heap.size, 0, none⟩), .pointer (some ⟨wr.heap.size + 1, 0, none⟩)])] := ⟨_, rfl⟩
        have hbs5 : Boxes (w4.alloc (.cells #[.func (.func 30) #[] #[.pointer (some ⟨wr.heap.size, 0, none⟩), .pointer (some ⟨wr.heap.size + 1, 0, none⟩)]] 28)) BY := by
          intro p hp
          rw [hBY] at hp
          rcases List.mem_append.1 hp with hp | hp
          · exact ((HQ.out.1 p hp).fr hf4 (by simp)).alloc _
          · simp only [List.mem_cons, List.not_mem_nil, or_false] at hp
            rcases hp with rfl | rfl | rfl
            · exact hb1.alloc _
            · exact hb2.alloc _
            · exact Blk.new _ _ _
        have hBYt : ∀ p ∈ BY, p.2.1 ∉ ([77, 81, 91, 46, 5] : List TypeId) := by
          intro p hp
          rw [hBY] at hp
          rcases List.mem_append.1 hp with hp | hp
          · exact HBX.out.2.1 p hp
          · simp only [List.mem_cons, List.not_mem_nil, or_false] at hp
            rcases hp with rfl | rfl | rfl <;> simp
        have hmb : ∀ p ∈ BX, p ∈ BY := fun p hp => by rw [hBY]; exact List.mem_append_left _ hp
        have hO5 := (HQ.out.2.1.fr0 hf4).fr0 ((Fr.refl [] w4).alloc (.cells #[.func (.func 30) #[] #[.pointer (some ⟨wr.heap.size, 0, none⟩), .pointer (some ⟨wr.heap.size + 1, 0, none⟩)]] 28))
        have mseq : (w4.heap.size, 28, Value.func (.func 30) #[] #[.pointer (some ⟨wr.heap.size, 0, none⟩), .pointer (some ⟨wr.heap.size + 1, 0, none⟩)]) ∈ BY := by rw [hBY]; simp
        have mbb : (wr.heap.size, 23, Value.pointer (some ⟨b, 0, none⟩)) ∈ BY := by rw [hBY]; simp
        have mab : (wr.heap.size + 1, 3, Value.int .i64 at_) ∈ BY := by rw [hBY]; simp
        have HY := Lib.hid (And.intro hBYt (And.intro hmb (And.intro mseq (And.intro mbb mab))))
        obtain ⟨bb, hbbe⟩ : ∃ bb, wr.heap.size = bb := ⟨_, rfl⟩
        obtain ⟨b15, hb15⟩ : ∃ b15, w4.heap.size = b15 := ⟨_, rfl⟩
        obtain ⟨w5, hw5⟩ : ∃ w5, w4.alloc (.cells #[.func (.func 30) #[] #[.pointer (some ⟨wr.heap.size, 0, none⟩), .pointer (some ⟨wr.heap.size + 1, 0, none⟩)]] 28) = w5 := ⟨_, rfl⟩
        have s5 : b15 < w5.heap.size := by rw [← hw5, ← hb15]; simp
        rw [hw5] at hbs5 hO5
        rw [hw5]
        rw [hb15, hbbe] at HY ⊢
        have HZ := Lib.hid (And.intro hbs5 (And.intro hO5 (And.intro HQ.out.2.2.1 HQ.out.2.2.2)))
        clear hb1 hb2 hf4 hbs5 hO5 hBYt hmb mseq mbb mab hBY hw5 HQ sz4 hb15
        have hsn := fun (W : World) (h : B.At W) => Snap_boo2 B W h
        rw [HZ.out.2.2.1] at hsn
        have hrs := fun (W : World) (h : R.At W) => rSnap_any R B.con n W h HZ.out.2.1.oR hn (fun j hj => (HZ.out.2.1.hB.data (by omega)).2)
        rw [HZ.out.2.2.2] at hrs
        have hRoff : ∀ x ∈ R.rd, x ∉ B.fp := fun x hx hm => (HZ.out.2.1.hR.typ hx).no (HZ.out.2.1.hB.typf hm) (by decide)
        have HSN := Lib.hid (And.intro hsn (And.intro hrs (And.intro hRoff (And.intro HZ.out.2.1.hB.fp_lt HZ.out.2.1.hR.rd_lt))))
        have m9 : Blk w5 w2.heap.size 23 [.pointer (some ⟨b, 0, none⟩)] := HZ.out.1 _ (HY.out.2.1 _ HBX.out.2.2.2.1)
        have m11 : Blk w5 w3.heap.size 39 [.pointer (some ⟨r, 0, none⟩)] := HZ.out.1 _ (HY.out.2.1 _ HBX.out.2.2.2.2)
        have k9 : w5.cell? ⟨w2.heap.size, 0, none⟩ = some (.pointer (some ⟨b, 0, none⟩)) := m9.cell 0
        have k11 : w5.cell? ⟨w3.heap.size, 0, none⟩ = some (.pointer (some ⟨r, 0, none⟩)) := m11.cell 0
        have n9 : w2.heap.size ∉ B.fp := fun hm => (HZ.out.2.1.hB.typf hm).not m9 (by decide)
        have n11 : w3.heap.size ∉ B.fp := fun hm => (HZ.out.2.1.hB.typf hm).not m11 (by decide)
        clear hsn hrs hRoff m9 m11
        go_cut [16, 17] from 76 to 79 (fun s16 s17 wx => ∃ (p q : Nat) (S : Boo) (Z : RBo), s16 = .pointer (some ⟨p, 0, none⟩) ∧ s17 = .pointer (some ⟨q, 0, none⟩) ∧ Blk wx p 23 [.pointer (some ⟨S.b, 0, none⟩)] ∧ Blk wx q 39 [.pointer (some ⟨Z.r, 0, none⟩)] ∧ Quad w wx n B.shut S R Z ∧ Fr B.fp w5 wx ∧ w5.heap.size ≤ p ∧ w5.heap.size ≤ q)
        case first =>
          have r9 := fun (w' : World) (h : Fr B.fp w5 w') => h.cell n9 k9
          have r11 := fun (w' : World) (h : Fr B.fp w5 w') => h.cell n11 k11
          refine wp_region_noPanic ?_
          refine wp_region_held_drew (S := fun w' => Fr B.fp w5 w') (by kernel_rfl) ((Fr.refl _ _).drew) (fun hHeld => ?_)
          refine wpAnyH_takeL 0 (v := ?_) (by rfl) (by kernel_rfl) (by kernel_rfl) (by kernel_rfl) (fun _ _ _ h => h) (by rfl) ?_ (by assumption) ?_; rotate_left; (next => (intro w' hSw; (try dsimp only at hSw); go_simp; (try with_reducible rfl))); (try simp only [Act.put, List.setIfInBounds_toArray, List.set_cons_zero, List.set_cons_succ])
          refine wpAnyH_takeL 2 (v := ?_) (by rfl) (by kernel_rfl) (by kernel_rfl) (by kernel_rfl) (fun _ _ _ h => h) (by rfl) ?_ (by assumption) ?_; rotate_left; (next => (intro w' hSw; (try dsimp only at hSw); go_simp; (try with_reducible rfl))); (try simp only [Act.put, List.setIfInBounds_toArray, List.set_cons_zero, List.set_cons_succ])
          refine wpAnyH_ready (rs := [1, 4, 5]) (by kernel_rfl) (by simp) ?_
          refine AllReadyH_consL 1 (by rfl) (by rfl) (fun K hK => ?_) ?_
          · go_simp
            go_at_call 15
            (with_reducible refine (HSN.out.1 _ (HZ.out.2.1.hB.fr0 (by repeat' (first | (with_reducible exact Fr.refl _ _) | (with_reducible refine Fr.drew ?_) | (with_reducible refine Fr.alloc ?_ _))))).mono ?_)
            rintro rr w6 ⟨S, rfl, hT6, hS6, hap6, hcon6, hn6, hSb6, hSrd6⟩
            have F6 : Fr B.fp w5 w6 := Fr.trans (by repeat' (first | (with_reducible exact Fr.refl _ _) | (with_reducible refine Fr.drew ?_) | (with_reducible refine Fr.alloc ?_ _))) hT6.fr
            have s6 := hT6.fr.size
            have sS := hS6.rd_lt S.b List.mem_cons_self
            rw [hSb6] at sS
            clear hSb6
            try simp at s6
            try simp at sS
            refine hK.out _ _ ?_ (fun hHeld => ?_); (next => (exact F6)); clear hK K; (try simp only [Act.put, List.setIfInBounds_toArray, List.set_cons_zero, List.set_cons_succ])
            refine wpAnyH_ready (rs := [3, 4, 5]) (by kernel_rfl) (by simp) ?_
            refine AllReadyH_consL 3 (by rfl) (by rfl) (fun K hK => ?_) ?_
            · go_simp
              go_at_call 16
              (with_reducible refine (HSN.out.2.1 _ (HZ.out.2.1.hR.fr (S := B.fp) (by assumption) HSN.out.2.2.1)).mono ?_)
              rintro rr w7 ⟨Z, rfl, hZ7, hZo7, hf7, hZn7⟩
              have F7 : Fr B.fp w5 w7 := Fr.trans (by assumption) (hf7.mono (by simp))
              have s7 := hf7.size
              try simp at s7
              refine hK.out _ _ ?_ (fun hHeld => ?_); (next => (exact F7)); clear hK K; (try simp only [Act.put, List.setIfInBounds_toArray, List.set_cons_zero, List.set_cons_succ])
              refine wpAnyH_ready (rs := [4, 5]) (by kernel_rfl) (by simp) ?_
              refine AllReadyH_consL 4 (by rfl) (by rfl) (fun K hK => ?_) ?_
              · go_simp
                refine hK.out _ _ ?_ (fun hHeld => ?_); (next => ((repeat' (first | (with_reducible exact Fr.refl _ _) | (with_reducible assumption) | (with_reducible refine Fr.setCell' ?_ ?_) | (with_reducible refine Fr.drewN ?_ _) | (with_reducible refine Fr.drew ?_) | (with_reducible refine Fr.alloc ?_ _))); all_goals (right; (first | omega | (simp; try omega))))); clear hK K; (try simp only [Act.put, List.setIfInBounds_toArray, List.set_cons_zero, List.set_cons_succ])
                refine wpAnyH_oneL 5 (by rfl) (by kernel_rfl) (by rfl) (fun K hK => ?_); go_simp
                refine hK.out _ _ ?_ (fun hHeld => ?_); (next => ((repeat' (first | (with_reducible exact Fr.refl _ _) | (with_reducible assumption) | (with_reducible refine Fr.setCell' ?_ ?_) | (with_reducible refine Fr.drewN ?_ _) | (with_reducible refine Fr.drew ?_) | (with_reducible refine Fr.alloc ?_ _))); all_goals (right; (first | omega | (simp; try omega))))); clear hK K; (try simp only [Act.put, List.setIfInBounds_toArray, List.set_cons_zero, List.set_cons_succ])
                have d16 : Blk ((w7.alloc (.cells #[.pointer none] 23)).alloc (.cells #[.pointer none] 39)) (w7.heap.size) 23 [.pointer none] := ((Blk.new' (by first | rfl | simp)).alloc _)
                have d17 : Blk ((w7.alloc (.cells #[.pointer none] 23)).alloc (.cells #[.pointer none] 39)) (w7.heap.size + 1) 39 [.pointer none] := (Blk.new' (by first | rfl | simp))
                obtain ⟨W8, hW8⟩ : ∃ W8, ((w7.alloc (.cells #[.pointer none] 23)).alloc (.cells #[.pointer none] 39)) = W8 := ⟨_, rfl⟩
                have F8 : Fr B.fp w5 W8 := by rw [← hW8]; assumption
                have G8 : Fr [] w7 W8 := by rw [← hW8]; (repeat' (first | (with_reducible exact Fr.refl _ _) | (with_reducible refine Fr.alloc ?_ _)))
                have s8 : w7.heap.size + 2 = W8.heap.size := by rw [← hW8]; simp
                rw [hW8] at d16 d17 ⊢
                clear hW8
                have c16 := d16.cell' (i := 0) rfl
                have z16 := d16.frozen 0
                have e17 := d17.far' (b := w7.heap.size) (o := 0) (u := .pointer (some ⟨S.b, 0, none⟩)) (by omega)
                have c17 := e17.cell' (i := 0) rfl
                have z17 := e17.frozen 0
                refine wpAnyH_oneL 6 (by rfl) (by kernel_rfl) (by rfl) (fun K hK => ?_); go_simp
                refine hK.out _ _ ?_ (fun hHeld => ?_); (next => ((repeat' (first | (with_reducible exact Fr.refl _ _) | (with_reducible assumption) | (with_reducible refine Fr.setCell' ?_ ?_) | (with_reducible refine Fr.drewN ?_ _) | (with_reducible refine Fr.drew ?_) | (with_reducible refine Fr.alloc ?_ _))); all_goals (right; (first | omega | (simp; try omega))))); clear hK K; (try simp only [Act.put, List.setIfInBounds_toArray, List.set_cons_zero, List.set_cons_succ])
                refine wpAnyH_oneL 7 (by rfl) (by kernel_rfl) (by rfl) (fun K hK => ?_); go_simp
                refine hK.out _ _ ?_ (fun hHeld => ?_); (next => ((repeat' (first | (with_reducible exact Fr.refl _ _) | (with_reducible assumption) | (with_reducible refine Fr.setCell' ?_ ?_) | (with_reducible refine Fr.drewN ?_ _) | (with_reducible refine Fr.drew ?_) | (with_reducible refine Fr.alloc ?_ _))); all_goals (right; (first | omega | (simp; try omega))))); clear hK K; (try simp only [Act.put, List.setIfInBounds_toArray, List.set_cons_zero, List.set_cons_succ])
                refine wpAnyH_done (by kernel_rfl) ?_ _
                refine NoPanic.normal ?_
                have f16 := (d16.set' (i := 0) (u := .pointer (some ⟨S.b, 0, none⟩)) rfl).far' (b := w7.heap.size + 1) (o := 0) (u := .pointer (some ⟨Z.r, 0, none⟩)) (by omega)
                have f17 := e17.set' (i := 0) (u := .pointer (some ⟨Z.r, 0, none⟩)) rfl
                have HF := Lib.hid (And.intro f16 f17)
                clear d16 d17 c16 z16 e17 c17 z17 f16 f17
                go_wp2_with fail
                go_meet
                refine ⟨_, _, S, Z, rfl, rfl, HF.out.1, HF.out.2, HZ.out.2.1.snap (p := w7.heap.size) (q := w7.heap.size + 1) (w7 := w7) (by repeat' (first | (with_reducible exact Fr.refl _ _) | (with_reducible refine Fr.drew ?_) | (with_reducible refine Fr.alloc ?_ _))) hT6 hS6 hap6 hcon6 hn6 hSrd6 (by repeat' (first | (with_reducible exact Fr.refl _ _) | (with_reducible refine Fr.alloc ?_ _))) hZ7 hZo7 hf7 hZn7 (((G8.mono (by simp)).setCell' (.inl (by simp))).setCell' (.inl (by simp))) (by have hd : w5.drew.heap.size = w5.heap.size := rfl; (try simp); omega) (by have hd : w5.drew.heap.size = w5.heap.size := rfl; (try simp); omega), ?_, by omega, by omega⟩
                ((repeat' (first | (with_reducible exact Fr.refl _ _) | (with_reducible assumption) | (with_reducible refine Fr.setCell' ?_ ?_) | (with_reducible refine Fr.drewN ?_ _) | (with_reducible refine Fr.drew ?_) | (with_reducible refine Fr.alloc ?_ _))); all_goals (right; (first | omega | (simp; try omega))))
              refine AllReadyH_consL 5 (by rfl) (by rfl) (fun K hK => ?_) ?_
              · go_simp
                refine hK.out _ _ ?_ (fun hHeld => ?_); (next => ((repeat' (first | (with_reducible exact Fr.refl _ _) | (with_reducible assumption) | (with_reducible refine Fr.setCell' ?_ ?_) | (with_reducible refine Fr.drewN ?_ _) | (with_reducible refine Fr.drew ?_) | (with_reducible refine Fr.alloc ?_ _))); all_goals (right; (first | omega | (simp; try omega))))); clear hK K; (try simp only [Act.put, List.setIfInBounds_toArray, List.set_cons_zero, List.set_cons_succ])
                refine wpAnyH_oneL 4 (by rfl) (by kernel_rfl) (by rfl) (fun K hK => ?_); go_simp
                refine hK.out _ _ ?_ (fun hHeld => ?_); (next => ((repeat' (first | (with_reducible exact Fr.refl _ _) | (with_reducible assumption) | (with_reducible refine Fr.setCell' ?_ ?_) | (with_reducible refine Fr.drewN ?_ _) | (with_reducible refine Fr.drew ?_) | (with_reducible refine Fr.alloc ?_ _))); all_goals (right; (first | omega | (simp; try omega))))); clear hK K; (try simp only [Act.put, List.setIfInBounds_toArray, List.set_cons_zero, List.set_cons_succ])
                have d16 : Blk ((w7.alloc (.cells #[.pointer none] 39)).alloc (.cells #[.pointer none] 23)) (w7.heap.size + 1) 23 [.pointer none] := (Blk.new' (by first | rfl | simp))
                have d17 : Blk ((w7.alloc (.cells #[.pointer none] 39)).alloc (.cells #[.pointer none] 23)) (w7.heap.size) 39 [.pointer none] := ((Blk.new' (by first | rfl | simp)).alloc _)
                obtain ⟨W8, hW8⟩ : ∃ W8, ((w7.alloc (.cells #[.pointer none] 39)).alloc (.cells #[.pointer none] 23)) = W8 := ⟨_, rfl⟩
                have F8 : Fr B.fp w5 W8 := by rw [← hW8]; assumption
                have G8 : Fr [] w7 W8 := by rw [← hW8]; (repeat' (first | (with_reducible exact Fr.refl _ _) | (with_reducible refine Fr.alloc ?_ _)))
                have s8 : w7.heap.size + 2 = W8.heap.size := by rw [← hW8]; simp
                rw [hW8] at d16 d17 ⊢
                clear hW8
                have c16 := d16.cell' (i := 0) rfl
                have z16 := d16.frozen 0
                have e17 := d17.far' (b := w7.heap.size + 1) (o := 0) (u := .pointer (some ⟨S.b, 0, none⟩)) (by omega)
                have c17 := e17.cell' (i := 0) rfl
                have z17 := e17.frozen 0
                refine wpAnyH_oneL 6 (by rfl) (by kernel_rfl) (by rfl) (fun K hK => ?_); go_simp
                refine hK.out _ _ ?_ (fun hHeld => ?_); (next => ((repeat' (first | (with_reducible exact Fr.refl _ _) | (with_reducible assumption) | (with_reducible refine Fr.setCell' ?_ ?_) | (with_reducible refine Fr.drewN ?_ _) | (with_reducible refine Fr.drew ?_) | (with_reducible refine Fr.alloc ?_ _))); all_goals (right; (first | omega | (simp; try omega))))); clear hK K; (try simp only [Act.put, List.setIfInBounds_toArray, List.set_cons_zero, List.set_cons_succ])
                refine wpAnyH_oneL 7 (by rfl) (by kernel_rfl) (by rfl) (fun K hK => ?_); go_simp
                refine hK.out _ _ ?_ (fun hHeld => ?_); (next => ((repeat' (first | (with_reducible exact Fr.refl _ _) | (with_reducible assumption) | (with_reducible refine Fr.setCell' ?_ ?_) | (with_reducible refine Fr.drewN ?_ _) | (with_reducible refine Fr.drew ?_) | (with_reducible refine Fr.alloc ?_ _))); all_goals (right; (first | omega | (simp; try omega))))); clear hK K; (try simp only [Act.put, List.setIfInBounds_toArray, List.set_cons_zero, List.set_cons_succ])
                refine wpAnyH_done (by kernel_rfl) ?_ _
                refine NoPanic.normal ?_
                have f16 := (d16.set' (i := 0) (u := .pointer (some ⟨S.b, 0, none⟩)) rfl).far' (b := w7.heap.size) (o := 0) (u := .pointer (some ⟨Z.r, 0, none⟩)) (by omega)
                have f17 := e17.set' (i := 0) (u := .pointer (some ⟨Z.r, 0, none⟩)) rfl
                have HF := Lib.hid (And.intro f16 f17)
                clear d16 d17 c16 z16 e17 c17 z17 f16 f17
                go_wp2_with fail
                go_meet
                refine ⟨_, _, S, Z, rfl, rfl, HF.out.1, HF.out.2, HZ.out.2.1.snap (p := w7.heap.size + 1) (q := w7.heap.size) (w7 := w7) (by repeat' (first | (with_reducible exact Fr.refl _ _) | (with_reducible refine Fr.drew ?_) | (with_reducible refine Fr.alloc ?_ _))) hT6 hS6 hap6 hcon6 hn6 hSrd6 (by repeat' (first | (with_reducible exact Fr.refl _ _) | (with_reducible refine Fr.alloc ?_ _))) hZ7 hZo7 hf7 hZn7 (((G8.mono (by simp)).setCell' (.inl (by simp))).setCell' (.inl (by simp))) (by have hd : w5.drew.heap.size = w5.heap.size := rfl; (try simp); omega) (by have hd : w5.drew.heap.size = w5.heap.size := rfl; (try simp); omega), ?_, by omega, by omega⟩
                ((repeat' (first | (with_reducible exact Fr.refl _ _) | (with_reducible assumption) | (with_reducible refine Fr.setCell' ?_ ?_) | (with_reducible refine Fr.drewN ?_ _) | (with_reducible refine Fr.drew ?_) | (with_reducible refine Fr.alloc ?_ _))); all_goals (right; (first | omega | (simp; try omega))))
              exact AllReadyH.nil
            refine AllReadyH_consL 4 (by rfl) (by rfl) (fun K hK => ?_) ?_
            · go_simp
              refine hK.out _ _ ?_ (fun hHeld => ?_); (next => ((repeat' (first | (with_reducible exact Fr.refl _ _) | (with_reducible assumption) | (with_reducible refine Fr.setCell' ?_ ?_) | (with_reducible refine Fr.drewN ?_ _) | (with_reducible refine Fr.drew ?_) | (with_reducible refine Fr.alloc ?_ _))); all_goals (right; (first | omega | (simp; try omega))))); clear hK K; (try simp only [Act.put, List.setIfInBounds_toArray, List.set_cons_zero, List.set_cons_succ])
              refine wpAnyH_ready (rs := [3, 5]) (by kernel_rfl) (by simp) ?_
              refine AllReadyH_consL 3 (by rfl) (by rfl) (fun K hK => ?_) ?_
              · go_simp
                go_at_call 16
                (with_reducible refine (HSN.out.2.1 _ (HZ.out.2.1.hR.fr (S := B.fp) (by assumption) HSN.out.2.2.1)).mono ?_)
                rintro rr w7 ⟨Z, rfl, hZ7, hZo7, hf7, hZn7⟩
                have F7 : Fr B.fp w5 w7 := Fr.trans (by assumption) (hf7.mono (by simp))
                have s7 := hf7.size
                try simp at s7
                refine hK.out _ _ ?_ (fun hHeld => ?_); (next => (exact F7)); clear hK K; (try simp only [Act.put, List.setIfInBounds_toArray, List.set_cons_zero, List.set_cons_succ])
                refine wpAnyH_oneL 5 (by rfl) (by kernel_rfl) (by rfl) (fun K hK => ?_); go_simp
                refine hK.out _ _ ?_ (fun hHeld => ?_); (next => ((repeat' (first | (with_reducible exact Fr.refl _ _) | (with_reducible assumption) | (with_reducible refine Fr.setCell' ?_ ?_) | (with_reducible refine Fr.drewN ?_ _) | (with_reducible refine Fr.drew ?_) | (with_reducible refine Fr.alloc ?_ _))); all_goals (right; (first | omega | (simp; try omega))))); clear hK K; (try simp only [Act.put, List.setIfInBounds_toArray, List.set_cons_zero, List.set_cons_succ])
                have d16 : Blk (w7.alloc (.cells #[.pointer none] 39)) (w6.heap.size) 23 [.pointer none] := (((Blk.new' (by first | rfl | simp)).fr hf7 (by simp)).alloc _)
                have d17 : Blk (w7.alloc (.cells #[.pointer none] 39)) (w7.heap.size) 39 [.pointer none] := (Blk.new' (by first | rfl | simp))
                obtain ⟨W8, hW8⟩ : ∃ W8, (w7.alloc (.cells #[.pointer none] 39)) = W8 := ⟨_, rfl⟩
                have F8 : Fr B.fp w5 W8 := by rw [← hW8]; assumption
                have G8 : Fr [] w7 W8 := by rw [← hW8]; (repeat' (first | (with_reducible exact Fr.refl _ _) | (with_reducible refine Fr.alloc ?_ _)))
                have s8 : w7.heap.size + 1 = W8.heap.size := by rw [← hW8]; simp
                rw [hW8] at d16 d17 ⊢
                clear hW8
                have c16 := d16.cell' (i := 0) rfl
                have z16 := d16.frozen 0
                have e17 := d17.far' (b := w6.heap.size) (o := 0) (u := .pointer (some ⟨S.b, 0, none⟩)) (by omega)
                have c17 := e17.cell' (i := 0) rfl
                have z17 := e17.frozen 0
                refine wpAnyH_oneL 6 (by rfl) (by kernel_rfl) (by rfl) (fun K hK => ?_); go_simp
                refine hK.out _ _ ?_ (fun hHeld => ?_); (next => ((repeat' (first | (with_reducible exact Fr.refl _ _) | (with_reducible assumption) | (with_reducible refine Fr.setCell' ?_ ?_) | (with_reducible refine Fr.drewN ?_ _) | (with_reducible refine Fr.drew ?_) | (with_reducible refine Fr.alloc ?_ _))); all_goals (right; (first | omega | (simp; try omega))))); clear hK K; (try simp only [Act.put, List.setIfInBounds_toArray, List.set_cons_zero, List.set_cons_succ])
                refine wpAnyH_oneL 7 (by rfl) (by kernel_rfl) (by rfl) (fun K hK => ?_); go_simp
                refine hK.out _ _ ?_ (fun hHeld => ?_); (next => ((repeat' (first | (with_reducible exact Fr.refl _ _) | (with_reducible assumption) | (with_reducible refine Fr.setCell' ?_ ?_) | (with_reducible refine Fr.drewN ?_ _) | (with_reducible refine Fr.drew ?_) | (with_reducible refine Fr.alloc ?_ _))); all_goals (right; (first | omega | (simp; try omega))))); clear hK K; (try simp only [Act.put, List.setIfInBounds_toArray, List.set_cons_zero, List.set_cons_succ])
                refine wpAnyH_done (by kernel_rfl) ?_ _
                refine NoPanic.normal ?_
                have f16 := (d16.set' (i := 0) (u := .pointer (some ⟨S.b, 0, none⟩)) rfl).far' (b := w7.heap.size) (o := 0) (u := .pointer (some ⟨Z.r, 0, none⟩)) (by omega)
                have f17 := e17.set' (i := 0) (u := .pointer (some ⟨Z.r, 0, none⟩)) rfl
                have HF := Lib.hid (And.intro f16 f17)
                clear d16 d17 c16 z16 e17 c17 z17 f16 f17
                go_wp2_with fail
                go_meet
                refine ⟨_, _, S, Z, rfl, rfl, HF.out.1, HF.out.2, HZ.out.2.1.snap (p := w6.heap.size) (q := w7.heap.size) (w7 := w7) (by repeat' (first | (with_reducible exact Fr.refl _ _) | (with_reducible refine Fr.drew ?_) | (with_reducible refine Fr.alloc ?_ _))) hT6 hS6 hap6 hcon6 hn6 hSrd6 (by repeat' (first | (with_reducible exact Fr.refl _ _) | (with_reducible refine Fr.alloc ?_ _))) hZ7 hZo7 hf7 hZn7 (((G8.mono (by simp)).setCell' (.inl (by simp))).setCell' (.inl (by simp))) (by have hd : w5.drew.heap.size = w5.heap.size := rfl; (try simp); omega) (by have hd : w5.drew.heap.size = w5.heap.size := rfl; (try simp); omega), ?_, by omega, by omega⟩
                ((repeat' (first | (with_reducible exact Fr.refl _ _) | (with_reducible assumption) | (with_reducible refine Fr.setCell' ?_ ?_) | (with_reducible refine Fr.drewN ?_ _) | (with_reducible refine Fr.drew ?_) | (with_reducible refine Fr.alloc ?_ _))); all_goals (right; (first | omega | (simp; try omega))))
              refine AllReadyH_consL 5 (by rfl) (by rfl) (fun K hK => ?_) ?_
              · go_simp
                refine hK.out _ _ ?_ (fun hHeld => ?_); (next => ((repeat' (first | (with_reducible exact Fr.refl _ _) | (with_reducible assumption) | (with_reducible refine Fr.setCell' ?_ ?_) | (with_reducible refine Fr.drewN ?_ _) | (with_reducible refine Fr.drew ?_) | (with_reducible refine Fr.alloc ?_ _))); all_goals (right; (first | omega | (simp; try omega))))); clear hK K; (try simp only [Act.put, List.setIfInBounds_toArray, List.set_cons_zero, List.set_cons_succ])
                refine wpAnyH_oneL 3 (by rfl) (by kernel_rfl) (by rfl) (fun K hK => ?_); go_simp
                go_at_call 16
                (with_reducible refine (HSN.out.2.1 _ (HZ.out.2.1.hR.fr (S := B.fp) (by assumption) HSN.out.2.2.1)).mono ?_)
                rintro rr w7 ⟨Z, rfl, hZ7, hZo7, hf7, hZn7⟩
                have F7 : Fr B.fp w5 w7 := Fr.trans (by assumption) (hf7.mono (by simp))
                have s7 := hf7.size
                try simp at s7
                refine hK.out _ _ ?_ (fun hHeld => ?_); (next => (exact F7)); clear hK K; (try simp only [Act.put, List.setIfInBounds_toArray, List.set_cons_zero, List.set_cons_succ])
                have d16 : Blk w7 (w6.heap.size) 23 [.pointer none] := (((Blk.new' (by first | rfl | simp)).alloc _).fr hf7 (by simp))
                have d17 : Blk w7 (w6.heap.size + 1) 39 [.pointer none] := ((Blk.new' (by first | rfl | simp)).fr hf7 (by simp))
                obtain ⟨W8, hW8⟩ : ∃ W8, w7 = W8 := ⟨_, rfl⟩
                have F8 : Fr B.fp w5 W8 := by rw [← hW8]; assumption
                have G8 : Fr [] w7 W8 := by rw [← hW8]; (repeat' (first | (with_reducible exact Fr.refl _ _) | (with_reducible refine Fr.alloc ?_ _)))
                have s8 : w7.heap.size + 0 = W8.heap.size := by rw [← hW8]; simp
                rw [hW8] at d16 d17 ⊢
                clear hW8
                have c16 := d16.cell' (i := 0) rfl
                have z16 := d16.frozen 0
                have e17 := d17.far' (b := w6.heap.size) (o := 0) (u := .pointer (some ⟨S.b, 0, none⟩)) (by omega)
                have c17 := e17.cell' (i := 0) rfl
                have z17 := e17.frozen 0
                refine wpAnyH_oneL 6 (by rfl) (by kernel_rfl) (by rfl) (fun K hK => ?_); go_simp
                refine hK.out _ _ ?_ (fun hHeld => ?_); (next => ((repeat' (first | (with_reducible exact Fr.refl _ _) | (with_reducible assumption) | (with_reducible refine Fr.setCell' ?_ ?_) | (with_reducible refine Fr.drewN ?_ _) | (with_reducible refine Fr.drew ?_) | (with_reducible refine Fr.alloc ?_ _))); all_goals (right; (first | omega | (simp; try omega))))); clear hK K; (try simp only [Act.put, List.setIfInBounds_toArray, List.set_cons_zero, List.set_cons_succ])
                refine wpAnyH_oneL 7 (by rfl) (by kernel_rfl) (by rfl) (fun K hK => ?_); go_simp
                refine hK.out _ _ ?_ (fun hHeld => ?_); (next => ((repeat' (first | (with_reducible exact Fr.refl _ _) | (with_reducible assumption) | (with_reducible refine Fr.setCell' ?_ ?_) | (with_reducible refine Fr.drewN ?_ _) | (with_reducible refine Fr.drew ?_) | (with_reducible refine Fr.alloc ?_ _))); all_goals (right; (first | omega | (simp; try omega))))); clear hK K; (try simp only [Act.put, List.setIfInBounds_toArray, List.set_cons_zero, List.set_cons_succ])
                refine wpAnyH_done (by kernel_rfl) ?_ _
                refine NoPanic.normal ?_
                have f16 := (d16.set' (i := 0) (u := .pointer (some ⟨S.b, 0, none⟩)) rfl).far' (b := w6.heap.size + 1) (o := 0) (u := .pointer (some ⟨Z.r, 0, none⟩)) (by omega)
                have f17 := e17.set' (i := 0) (u := .pointer (some ⟨Z.r, 0, none⟩)) rfl
                have HF := Lib.hid (And.intro f16 f17)
                clear d16 d17 c16 z16 e17 c17 z17 f16 f17
                go_wp2_with fail
                go_meet
                refine ⟨_, _, S, Z, rfl, rfl, HF.out.1, HF.out.2, HZ.out.2.1.snap (p := w6.heap.size) (q := w6.heap.size + 1) (w7 := w7) (by repeat' (first | (with_reducible exact Fr.refl _ _) | (with_reducible refine Fr.drew ?_) | (with_reducible refine Fr.alloc ?_ _))) hT6 hS6 hap6 hcon6 hn6 hSrd6 (by repeat' (first | (with_reducible exact Fr.refl _ _) | (with_reducible refine Fr.alloc ?_ _))) hZ7 hZo7 hf7 hZn7 (((G8.mono (by simp)).setCell' (.inl (by simp))).setCell' (.inl (by simp))) (by have hd : w5.drew.heap.size = w5.heap.size := rfl; (try simp); omega) (by have hd : w5.drew.heap.size = w5.heap.size := rfl; (try simp); omega), ?_, by omega, by omega⟩
                ((repeat' (first | (with_reducible exact Fr.refl _ _) | (with_reducible assumption) | (with_reducible refine Fr.setCell' ?_ ?_) | (with_reducible refine Fr.drewN ?_ _) | (with_reducible refine Fr.drew ?_) | (with_reducible refine Fr.alloc ?_ _))); all_goals (right; (first | omega | (simp; try omega))))
              exact AllReadyH.nil
            refine AllReadyH_consL 5 (by rfl) (by rfl) (fun K hK => ?_) ?_
            · go_simp
              refine hK.out _ _ ?_ (fun hHeld => ?_); (next => ((repeat' (first | (with_reducible exact Fr.refl _ _) | (with_reducible assumption) | (with_reducible refine Fr.setCell' ?_ ?_) | (with_reducible refine Fr.drewN ?_ _) | (with_reducible refine Fr.drew ?_) | (with_reducible refine Fr.alloc ?_ _))); all_goals (right; (first | omega | (simp; try omega))))); clear hK K; (try simp only [Act.put, List.setIfInBounds_toArray, List.set_cons_zero, List.set_cons_succ])
              refine wpAnyH_ready (rs := [3, 4]) (by kernel_rfl) (by simp) ?_
              refine AllReadyH_consL 3 (by rfl) (by rfl) (fun K hK => ?_) ?_
              · go_simp
                go_at_call 16
                (with_reducible refine (HSN.out.2.1 _ (HZ.out.2.1.hR.fr (S := B.fp) (by assumption) HSN.out.2.2.1)).mono ?_)
                rintro rr w7 ⟨Z, rfl, hZ7, hZo7, hf7, hZn7⟩
                have F7 : Fr B.fp w5 w7 := Fr.trans (by assumption) (hf7.mono (by simp))
                have s7 := hf7.size
                try simp at s7
                refine hK.out _ _ ?_ (fun hHeld => ?_); (next => (exact F7)); clear hK K; (try simp only [Act.put, List.setIfInBounds_toArray, List.set_cons_zero, List.set_cons_succ])
                refine wpAnyH_oneL 4 (by rfl) (by kernel_rfl) (by rfl) (fun K hK => ?_); go_simp
                refine hK.out _ _ ?_ (fun hHeld => ?_); (next => ((repeat' (first | (with_reducible exact Fr.refl _ _) | (with_reducible assumption) | (with_reducible refine Fr.setCell' ?_ ?_) | (with_reducible refine Fr.drewN ?_ _) | (with_reducible refine Fr.drew ?_) | (with_reducible refine Fr.alloc ?_ _))); all_goals (right; (first | omega | (simp; try omega))))); clear hK K; (try simp only [Act.put, List.setIfInBounds_toArray, List.set_cons_zero, List.set_cons_succ])
                have d16 : Blk (w7.alloc (.cells #[.pointer none] 23)) (w7.heap.size) 23 [.pointer none] := (Blk.new' (by first | rfl | simp))
                have d17 : Blk (w7.alloc (.cells #[.pointer none] 23)) (w6.heap.size) 39 [.pointer none] := (((Blk.new' (by first | rfl | simp)).fr hf7 (by simp)).alloc _)
                obtain ⟨W8, hW8⟩ : ∃ W8, (w7.alloc (.cells #[.pointer none] 23)) = W8 := ⟨_, rfl⟩
                have F8 : Fr B.fp w5 W8 := by rw [← hW8]; assumption
                have G8 : Fr [] w7 W8 := by rw [← hW8]; (repeat' (first | (with_reducible exact Fr.refl _ _) | (with_reducible refine Fr.alloc ?_ _)))
                have s8 : w7.heap.size + 1 = W8.heap.size := by rw [← hW8]; simp
                rw [hW8] at d16 d17 ⊢
                clear hW8
                have c16 := d16.cell' (i := 0) rfl
                have z16 := d16.frozen 0
                have e17 := d17.far' (b := w7.heap.size) (o := 0) (u := .pointer (some ⟨S.b, 0, none⟩)) (by omega)
                have c17 := e17.cell' (i := 0) rfl
                have z17 := e17.frozen 0
                refine wpAnyH_oneL 6 (by rfl) (by kernel_rfl) (by rfl) (fun K hK => ?_); go_simp
                refine hK.out _ _ ?_ (fun hHeld => ?_); (next => ((repeat' (first | (with_reducible exact Fr.refl _ _) | (with_reducible assumption) | (with_reducible refine Fr.setCell' ?_ ?_) | (with_reducible refine Fr.drewN ?_ _) | (with_reducible refine Fr.drew ?_) | (with_reducible refine Fr.alloc ?_ _))); all_goals (right; (first | omega | (simp; try omega))))); clear hK K; (try simp only [Act.put, List.setIfInBounds_toArray, List.set_cons_zero, List.set_cons_succ])
                refine wpAnyH_oneL 7 (by rfl) (by kernel_rfl) (by rfl) (fun K hK => ?_); go_simp
                refine hK.out _ _ ?_ (fun hHeld => ?_); (next => ((repeat' (first | (with_reducible exact Fr.refl _ _) | (with_reducible assumption) | (with_reducible refine Fr.setCell' ?_ ?_) | (with_reducible refine Fr.drewN ?_ _) | (with_reducible refine Fr.drew ?_) | (with_reducible refine Fr.alloc ?_ _))); all_goals (right; (first | omega | (simp; try omega))))); clear hK K; (try simp only [Act.put, List.setIfInBounds_toArray, List.set_cons_zero, List.set_cons_succ])
                refine wpAnyH_done (by kernel_rfl) ?_ _
                refine NoPanic.normal ?_
                have f16 := (d16.set' (i := 0) (u := .pointer (some ⟨S.b, 0, none⟩)) rfl).far' (b := w6.heap.size) (o := 0) (u := .pointer (some ⟨Z.r, 0, none⟩)) (by omega)
                have f17 := e17.set' (i := 0) (u := .pointer (some ⟨Z.r, 0, none⟩)) rfl
                have HF := Lib.hid (And.intro f16 f17)
                clear d16 d17 c16 z16 e17 c17 z17 f16 f17
                go_wp2_with fail
                go_meet
                refine ⟨_, _, S, Z, rfl, rfl, HF.out.1, HF.out.2, HZ.out.2.1.snap (p := w7.heap.size) (q := w6.heap.size) (w7 := w7) (by repeat' (first | (with_reducible exact Fr.refl _ _) | (with_reducible refine Fr.drew ?_) | (with_reducible refine Fr.alloc ?_ _))) hT6 hS6 hap6 hcon6 hn6 hSrd6 (by repeat' (first | (with_reducible exact Fr.refl _ _) | (with_reducible refine Fr.alloc ?_ _))) hZ7 hZo7 hf7 hZn7 (((G8.mono (by simp)).setCell' (.inl (by simp))).setCell' (.inl (by simp))) (by have hd : w5.drew.heap.size = w5.heap.size := rfl; (try simp); omega) (by have hd : w5.drew.heap.size = w5.heap.size := rfl; (try simp); omega), ?_, by omega, by omega⟩
                ((repeat' (first | (with_reducible exact Fr.refl _ _) | (with_reducible assumption) | (with_reducible refine Fr.setCell' ?_ ?_) | (with_reducible refine Fr.drewN ?_ _) | (with_reducible refine Fr.drew ?_) | (with_reducible refine Fr.alloc ?_ _))); all_goals (right; (first | omega | (simp; try omega))))
              refine AllReadyH_consL 4 (by rfl) (by rfl) (fun K hK => ?_) ?_
              · go_simp
                refine hK.out _ _ ?_ (fun hHeld => ?_); (next => ((repeat' (first | (with_reducible exact Fr.refl _ _) | (with_reducible assumption) | (with_reducible refine Fr.setCell' ?_ ?_) | (with_reducible refine Fr.drewN ?_ _) | (with_reducible refine Fr.drew ?_) | (with_reducible refine Fr.alloc ?_ _))); all_goals (right; (first | omega | (simp; try omega))))); clear hK K; (try simp only [Act.put, List.setIfInBounds_toArray, List.set_cons_zero, List.set_cons_succ])
                refine wpAnyH_oneL 3 (by rfl) (by kernel_rfl) (by rfl) (fun K hK => ?_); go_simp
                go_at_call 16
                (with_reducible refine (HSN.out.2.1 _ (HZ.out.2.1.hR.fr (S := B.fp) (by assumption) HSN.out.2.2.1)).mono ?_)
                rintro rr w7 ⟨Z, rfl, hZ7, hZo7, hf7, hZn7⟩
                have F7 : Fr B.fp w5 w7 := Fr.trans (by assumption) (hf7.mono (by simp))
                have s7 := hf7.size
                try simp at s7
                refine hK.out _ _ ?_ (fun hHeld => ?_); (next => (exact F7)); clear hK K; (try simp only [Act.put, List.setIfInBounds_toArray, List.set_cons_zero, List.set_cons_succ])
                have d16 : Blk w7 (w6.heap.size + 1) 23 [.pointer none] := ((Blk.new' (by first | rfl | simp)).fr hf7 (by simp))
                have d17 : Blk w7 (w6.heap.size) 39 [.pointer none] := (((Blk.new' (by first | rfl | simp)).alloc _).fr hf7 (by simp))
                obtain ⟨W8, hW8⟩ : ∃ W8, w7 = W8 := ⟨_, rfl⟩
                have F8 : Fr B.fp w5 W8 := by rw [← hW8]; assumption
                have G8 : Fr [] w7 W8 := by rw [← hW8]; (repeat' (first | (with_reducible exact Fr.refl _ _) | (with_reducible refine Fr.alloc ?_ _)))
                have s8 : w7.heap.size + 0 = W8.heap.size := by rw [← hW8]; simp
                rw [hW8] at d16 d17 ⊢
                clear hW8
                have c16 := d16.cell' (i := 0) rfl
                have z16 := d16.frozen 0
                have e17 := d17.far' (b := w6.heap.size + 1) (o := 0) (u := .pointer (some ⟨S.b, 0, none⟩)) (by omega)
                have c17 := e17.cell' (i := 0) rfl
                have z17 := e17.frozen 0
                refine wpAnyH_oneL 6 (by rfl) (by kernel_rfl) (by rfl) (fun K hK => ?_); go_simp
                refine hK.out _ _ ?_ (fun hHeld => ?_); (next => ((repeat' (first | (with_reducible exact Fr.refl _ _) | (with_reducible assumption) | (with_reducible refine Fr.setCell' ?_ ?_) | (with_reducible refine Fr.drewN ?_ _) | (with_reducible refine Fr.drew ?_) | (with_reducible refine Fr.alloc ?_ _))); all_goals (right; (first | omega | (simp; try omega))))); clear hK K; (try simp only [Act.put, List.setIfInBounds_toArray, List.set_cons_zero, List.set_cons_succ])
                refine wpAnyH_oneL 7 (by rfl) (by kernel_rfl) (by rfl) (fun K hK => ?_); go_simp
                refine hK.out _ _ ?_ (fun hHeld => ?_); (next => ((repeat' (first | (with_reducible exact Fr.refl _ _) | (with_reducible assumption) | (with_reducible refine Fr.setCell' ?_ ?_) | (with_reducible refine Fr.drewN ?_ _) | (with_reducible refine Fr.drew ?_) | (with_reducible refine Fr.alloc ?_ _))); all_goals (right; (first | omega | (simp; try omega))))); clear hK K; (try simp only [Act.put, List.setIfInBounds_toArray, List.set_cons_zero, List.set_cons_succ])
                refine wpAnyH_done (by kernel_rfl) ?_ _
                refine NoPanic.normal ?_
                have f16 := (d16.set' (i := 0) (u := .pointer (some ⟨S.b, 0, none⟩)) rfl).far' (b := w6.heap.size) (o := 0) (u := .pointer (some ⟨Z.r, 0, none⟩)) (by omega)
                have f17 := e17.set' (i := 0) (u := .pointer (some ⟨Z.r, 0, none⟩)) rfl
                have HF := Lib.hid (And.intro f16 f17)
                clear d16 d17 c16 z16 e17 c17 z17 f16 f17
                go_wp2_with fail
                go_meet
                refine ⟨_, _, S, Z, rfl, rfl, HF.out.1, HF.out.2, HZ.out.2.1.snap (p := w6.heap.size + 1) (q := w6.heap.size) (w7 := w7) (by repeat' (first | (with_reducible exact Fr.refl _ _) | (with_reducible refine Fr.drew ?_) | (with_reducible refine Fr.alloc ?_ _))) hT6 hS6 hap6 hcon6 hn6 hSrd6 (by repeat' (first | (with_reducible exact Fr.refl _ _) | (with_reducible refine Fr.alloc ?_ _))) hZ7 hZo7 hf7 hZn7 (((G8.mono (by simp)).setCell' (.inl (by simp))).setCell' (.inl (by simp))) (by have hd : w5.drew.heap.size = w5.heap.size := rfl; (try simp); omega) (by have hd : w5.drew.heap.size = w5.heap.size := rfl; (try simp); omega), ?_, by omega, by omega⟩
                ((repeat' (first | (with_reducible exact Fr.refl _ _) | (with_reducible assumption) | (with_reducible refine Fr.setCell' ?_ ?_) | (with_reducible refine Fr.drewN ?_ _) | (with_reducible refine Fr.drew ?_) | (with_reducible refine Fr.alloc ?_ _))); all_goals (right; (first | omega | (simp; try omega))))
              exact AllReadyH.nil
            exact AllReadyH.nil
          refine AllReadyH_consL 4 (by rfl) (by rfl) (fun K hK => ?_) ?_
          · go_simp
            refine hK.out _ _ ?_ (fun hHeld => ?_); (next => ((repeat' (first | (with_reducible exact Fr.refl _ _) | (with_reducible assumption) | (with_reducible refine Fr.setCell' ?_ ?_) | (with_reducible refine Fr.drewN ?_ _) | (with_reducible refine Fr.drew ?_) | (with_reducible refine Fr.alloc ?_ _))); all_goals (right; (first | omega | (simp; try omega))))); clear hK K; (try simp only [Act.put, List.setIfInBounds_toArray, List.set_cons_zero, List.set_cons_succ])
            refine wpAnyH_ready (rs := [1, 5]) (by kernel_rfl) (by simp) ?_
            refine AllReadyH_consL 1 (by rfl) (by rfl) (fun K hK => ?_) ?_
            · go_simp
              go_at_call 15
              (with_reducible refine (HSN.out.1 _ (HZ.out.2.1.hB.fr0 (by repeat' (first | (with_reducible exact Fr.refl _ _) | (with_reducible refine Fr.drew ?_) | (with_reducible refine Fr.alloc ?_ _))))).mono ?_)
              rintro rr w6 ⟨S, rfl, hT6, hS6, hap6, hcon6, hn6, hSb6, hSrd6⟩
              have F6 : Fr B.fp w5 w6 := Fr.trans (by repeat' (first | (with_reducible exact Fr.refl _ _) | (with_reducible refine Fr.drew ?_) | (with_reducible refine Fr.alloc ?_ _))) hT6.fr
              have s6 := hT6.fr.size
              have sS := hS6.rd_lt S.b List.mem_cons_self
              rw [hSb6] at sS
              clear hSb6
              try simp at s6
              try simp at sS
              refine hK.out _ _ ?_ (fun hHeld => ?_); (next => (exact F6)); clear hK K; (try simp only [Act.put, List.setIfInBounds_toArray, List.set_cons_zero, List.set_cons_succ])
              refine wpAnyH_ready (rs := [3, 5]) (by kernel_rfl) (by simp) ?_
              refine AllReadyH_consL 3 (by rfl) (by rfl) (fun K hK => ?_) ?_
              · go_simp
                go_at_call 16
                (with_reducible refine (HSN.out.2.1 _ (HZ.out.2.1.hR.fr (S := B.fp) (by assumption) HSN.out.2.2.1)).mono ?_)
                rintro rr w7 ⟨Z, rfl, hZ7, hZo7, hf7, hZn7⟩
                have F7 : Fr B.fp w5 w7 := Fr.trans (by assumption) (hf7.mono (by simp))
                have s7 := hf7.size
                try simp at s7
                refine hK.out _ _ ?_ (fun hHeld => ?_); (next => (exact F7)); clear hK K; (try simp only [Act.put, List.setIfInBounds_toArray, List.set_cons_zero, List.set_cons_succ])
                refine wpAnyH_oneL 5 (by rfl) (by kernel_rfl) (by rfl) (fun K hK => ?_); go_simp
                refine hK.out _ _ ?_ (fun hHeld => ?_); (next => ((repeat' (first | (with_reducible exact Fr.refl _ _) | (with_reducible assumption) | (with_reducible refine Fr.setCell' ?_ ?_) | (with_reducible refine Fr.drewN ?_ _) | (with_reducible refine Fr.drew ?_) | (with_reducible refine Fr.alloc ?_ _))); all_goals (right; (first | omega | (simp; try omega))))); clear hK K; (try simp only [Act.put, List.setIfInBounds_toArray, List.set_cons_zero, List.set_cons_succ])
                have d16 : Blk (w7.alloc (.cells #[.pointer none] 39)) (w5.heap.size) 23 [.pointer none] := ((((Blk.new' (by first | rfl | simp)).drew.fr hT6.fr (fun hm => by have := HSN.out.2.2.2.1 _ hm; omega)).fr hf7 (by simp)).alloc _)
                have d17 : Blk (w7.alloc (.cells #[.pointer none] 39)) (w7.heap.size) 39 [.pointer none] := (Blk.new' (by first | rfl | simp))
                obtain ⟨W8, hW8⟩ : ∃ W8, (w7.alloc (.cells #[.pointer none] 39)) = W8 := ⟨_, rfl⟩
                have F8 : Fr B.fp w5 W8 := by rw [← hW8]; assumption
                have G8 : Fr [] w7 W8 := by rw [← hW8]; (repeat' (first | (with_reducible exact Fr.refl _ _) | (with_reducible refine Fr.alloc ?_ _)))
                have s8 : w7.heap.size + 1 = W8.heap.size := by rw [← hW8]; simp
                rw [hW8] at d16 d17 ⊢
                clear hW8
                have c16 := d16.cell' (i := 0) rfl
                have z16 := d16.frozen 0
                have e17 := d17.far' (b := w5.heap.size) (o := 0) (u := .pointer (some ⟨S.b, 0, none⟩)) (by omega)
                have c17 := e17.cell' (i := 0) rfl
                have z17 := e17.frozen 0
                refine wpAnyH_oneL 6 (by rfl) (by kernel_rfl) (by rfl) (fun K hK => ?_); go_simp
                refine hK.out _ _ ?_ (fun hHeld => ?_); (next => ((repeat' (first | (with_reducible exact Fr.refl _ _) | (with_reducible assumption) | (with_reducible refine Fr.setCell' ?_ ?_) | (with_reducible refine Fr.drewN ?_ _) | (with_reducible refine Fr.drew ?_) | (with_reducible refine Fr.alloc ?_ _))); all_goals (right; (first | omega | (simp; try omega))))); clear hK K; (try simp only [Act.put, List.setIfInBounds_toArray, List.set_cons_zero, List.set_cons_succ])
                refine wpAnyH_oneL 7 (by rfl) (by kernel_rfl) (by rfl) (fun K hK => ?_); go_simp
                refine hK.out _ _ ?_ (fun hHeld => ?_); (next => ((repeat' (first | (with_reducible exact Fr.refl _ _) | (with_reducible assumption) | (with_reducible refine Fr.setCell' ?_ ?_) | (with_reducible refine Fr.drewN ?_ _) | (with_reducible refine Fr.drew ?_) | (with_reducible refine Fr.alloc ?_ _))); all_goals (right; (first | omega | (simp; try omega))))); clear hK K; (try simp only [Act.put, List.setIfInBounds_toArray, List.set_cons_zero, List.set_cons_succ])
                refine wpAnyH_done (by kernel_rfl) ?_ _
                refine NoPanic.normal ?_
                have f16 := (d16.set' (i := 0) (u := .pointer (some ⟨S.b, 0, none⟩)) rfl).far' (b := w7.heap.size) (o := 0) (u := .pointer (some ⟨Z.r, 0, none⟩)) (by omega)
                have f17 := e17.set' (i := 0) (u := .pointer (some ⟨Z.r, 0, none⟩)) rfl
                have HF := Lib.hid (And.intro f16 f17)
                clear d16 d17 c16 z16 e17 c17 z17 f16 f17
                go_wp2_with fail
                go_meet
                refine ⟨_, _, S, Z, rfl, rfl, HF.out.1, HF.out.2, HZ.out.2.1.snap (p := w5.heap.size) (q := w7.heap.size) (w7 := w7) (by repeat' (first | (with_reducible exact Fr.refl _ _) | (with_reducible refine Fr.drew ?_) | (with_reducible refine Fr.alloc ?_ _))) hT6 hS6 hap6 hcon6 hn6 hSrd6 (by repeat' (first | (with_reducible exact Fr.refl _ _) | (with_reducible refine Fr.alloc ?_ _))) hZ7 hZo7 hf7 hZn7 (((G8.mono (by simp)).setCell' (.inl (by simp))).setCell' (.inl (by simp))) (by have hd : w5.drew.heap.size = w5.heap.size := rfl; (try simp); omega) (by have hd : w5.drew.heap.size = w5.heap.size := rfl; (try simp); omega), ?_, by omega, by omega⟩
                ((repeat' (first | (with_reducible exact Fr.refl _ _) | (with_reducible assumption) | (with_reducible refine Fr.setCell' ?_ ?_) | (with_reducible refine Fr.drewN ?_ _) | (with_reducible refine Fr.drew ?_) | (with_reducible refine Fr.alloc ?_ _))); all_goals (right; (first | omega | (simp; try omega))))
              refine AllReadyH_consL 5 (by rfl) (by rfl) (fun K hK => ?_) ?_
              · go_simp
                refine hK.out _ _ ?_ (fun hHeld => ?_); (next => ((repeat' (first | (with_reducible exact Fr.refl _ _) | (with_reducible assumption) | (with_reducible refine Fr.setCell' ?_ ?_) | (with_reducible refine Fr.drewN ?_ _) | (with_reducible refine Fr.drew ?_) | (with_reducible refine Fr.alloc ?_ _))); all_goals (right; (first | omega | (simp; try omega))))); clear hK K; (try simp only [Act.put, List.setIfInBounds_toArray, List.set_cons_zero, List.set_cons_succ])
                refine wpAnyH_oneL 3 (by rfl) (by kernel_rfl) (by rfl) (fun K hK => ?_); go_simp
                go_at_call 16
                (with_reducible refine (HSN.out.2.1 _ (HZ.out.2.1.hR.fr (S := B.fp) (by assumption) HSN.out.2.2.1)).mono ?_)
                rintro rr w7 ⟨Z, rfl, hZ7, hZo7, hf7, hZn7⟩
                have F7 : Fr B.fp w5 w7 := Fr.trans (by assumption) (hf7.mono (by simp))
                have s7 := hf7.size
                try simp at s7
                refine hK.out _ _ ?_ (fun hHeld => ?_); (next => (exact F7)); clear hK K; (try simp only [Act.put, List.setIfInBounds_toArray, List.set_cons_zero, List.set_cons_succ])
                have d16 : Blk w7 (w5.heap.size) 23 [.pointer none] := ((((Blk.new' (by first | rfl | simp)).drew.fr hT6.fr (fun hm => by have := HSN.out.2.2.2.1 _ hm; omega)).alloc _).fr hf7 (by simp))
                have d17 : Blk w7 (w6.heap.size) 39 [.pointer none] := ((Blk.new' (by first | rfl | simp)).fr hf7 (by simp))
                obtain ⟨W8, hW8⟩ : ∃ W8, w7 = W8 := ⟨_, rfl⟩
                have F8 : Fr B.fp w5 W8 := by rw [← hW8]; assumption
                have G8 : Fr [] w7 W8 := by rw [← hW8]; (repeat' (first | (with_reducible exact Fr.refl _ _) | (with_reducible refine Fr.alloc ?_ _)))
                have s8 : w7.heap.size + 0 = W8.heap.size := by rw [← hW8]; simp
                rw [hW8] at d16 d17 ⊢
                clear hW8
                have c16 := d16.cell' (i := 0) rfl
                have z16 := d16.frozen 0
                have e17 := d17.far' (b := w5.heap.size) (o := 0) (u := .pointer (some ⟨S.b, 0, none⟩)) (by omega)
                have c17 := e17.cell' (i := 0) rfl
                have z17 := e17.frozen 0
                refine wpAnyH_oneL 6 (by rfl) (by kernel_rfl) (by rfl) (fun K hK => ?_); go_simp
                refine hK.out _ _ ?_ (fun hHeld => ?_); (next => ((repeat' (first | (with_reducible exact Fr.refl _ _) | (with_reducible assumption) | (with_reducible refine Fr.setCell' ?_ ?_) | (with_reducible refine Fr.drewN ?_ _) | (with_reducible refine Fr.drew ?_) | (with_reducible refine Fr.alloc ?_ _))); all_goals (right; (first | omega | (simp; try omega))))); clear hK K; (try simp only [Act.put, List.setIfInBounds_toArray, List.set_cons_zero, List.set_cons_succ])
                refine wpAnyH_oneL 7 (by rfl) (by kernel_rfl) (by rfl) (fun K hK => ?_); go_simp
                refine hK.out _ _ ?_ (fun hHeld => ?_); (next => ((repeat' (first | (with_reducible exact Fr.refl _ _) | (with_reducible assumption) | (with_reducible refine Fr.setCell' ?_ ?_) | (with_reducible refine Fr.drewN ?_ _) | (with_reducible refine Fr.drew ?_) | (with_reducible refine Fr.alloc ?_ _))); all_goals (right; (first | omega | (simp; try omega))))); clear hK K; (try simp only [Act.put, List.setIfInBounds_toArray, List.set_cons_zero, List.set_cons_succ])
                refine wpAnyH_done (by kernel_rfl) ?_ _
                refine NoPanic.normal ?_
                have f16 := (d16.set' (i := 0) (u := .pointer (some ⟨S.b, 0, none⟩)) rfl).far' (b := w6.heap.size) (o := 0) (u := .pointer (some ⟨Z.r, 0, none⟩)) (by omega)
                have f17 := e17.set' (i := 0) (u := .pointer (some ⟨Z.r, 0, none⟩)) rfl
                have HF := Lib.hid (And.intro f16 f17)
                clear d16 d17 c16 z16 e17 c17 z17 f16 f17
                go_wp2_with fail
                go_meet
                refine ⟨_, _, S, Z, rfl, rfl, HF.out.1, HF.out.2, HZ.out.2.1.snap (p := w5.heap.size) (q := w6.heap.size) (w7 := w7) (by repeat' (first | (with_reducible exact Fr.refl _ _) | (with_reducible refine Fr.drew ?_) | (with_reducible refine Fr.alloc ?_ _))) hT6 hS6 hap6 hcon6 hn6 hSrd6 (by repeat' (first | (with_reducible exact Fr.refl _ _) | (with_reducible refine Fr.alloc ?_ _))) hZ7 hZo7 hf7 hZn7 (((G8.mono (by simp)).setCell' (.inl (by simp))).setCell' (.inl (by simp))) (by have hd : w5.drew.heap.size = w5.heap.size := rfl; (try simp); omega) (by have hd : w5.drew.heap.size = w5.heap.size := rfl; (try simp); omega), ?_, by omega, by omega⟩
                ((repeat' (first | (with_reducible exact Fr.refl _ _) | (with_reducible assumption) | (with_reducible refine Fr.setCell' ?_ ?_) | (with_reducible refine Fr.drewN ?_ _) | (with_reducible refine Fr.drew ?_) | (with_reducible refine Fr.alloc ?_ _))); all_goals (right; (first | omega | (simp; try omega))))
              exact AllReadyH.nil
            refine AllReadyH_consL 5 (by rfl) (by rfl) (fun K hK => ?_) ?_
            · go_simp
              refine hK.out _ _ ?_ (fun hHeld => ?_); (next => ((repeat' (first | (with_reducible exact Fr.refl _ _) | (with_reducible assumption) | (with_reducible refine Fr.setCell' ?_ ?_) | (with_reducible refine Fr.drewN ?_ _) | (with_reducible refine Fr.drew ?_) | (with_reducible refine Fr.alloc ?_ _))); all_goals (right; (first | omega | (simp; try omega))))); clear hK K; (try simp only [Act.put, List.setIfInBounds_toArray, List.set_cons_zero, List.set_cons_succ])
              refine wpAnyH_oneL 1 (by rfl) (by kernel_rfl) (by rfl) (fun K hK => ?_); go_simp
              go_at_call 15
              (with_reducible refine (HSN.out.1 _ (HZ.out.2.1.hB.fr0 (by repeat' (first | (with_reducible exact Fr.refl _ _) | (with_reducible refine Fr.drew ?_) | (with_reducible refine Fr.alloc ?_ _))))).mono ?_)
              rintro rr w6 ⟨S, rfl, hT6, hS6, hap6, hcon6, hn6, hSb6, hSrd6⟩
              have F6 : Fr B.fp w5 w6 := Fr.trans (by repeat' (first | (with_reducible exact Fr.refl _ _) | (with_reducible refine Fr.drew ?_) | (with_reducible refine Fr.alloc ?_ _))) hT6.fr
              have s6 := hT6.fr.size
              have sS := hS6.rd_lt S.b List.mem_cons_self
              rw [hSb6] at sS
              clear hSb6
              try simp at s6
              try simp at sS
              refine hK.out _ _ ?_ (fun hHeld => ?_); (next => (exact F6)); clear hK K; (try simp only [Act.put, List.setIfInBounds_toArray, List.set_cons_zero, List.set_cons_succ])
              refine wpAnyH_oneL 3 (by rfl) (by kernel_rfl) (by rfl) (fun K hK => ?_); go_simp
              go_at_call 16
              (with_reducible refine (HSN.out.2.1 _ (HZ.out.2.1.hR.fr (S := B.fp) (by assumption) HSN.out.2.2.1)).mono ?_)
              rintro rr w7 ⟨Z, rfl, hZ7, hZo7, hf7, hZn7⟩
              have F7 : Fr B.fp w5 w7 := Fr.trans (by assumption) (hf7.mono (by simp))
              have s7 := hf7.size
              try simp at s7
              refine hK.out _ _ ?_ (fun hHeld => ?_); (next => (exact F7)); clear hK K; (try simp only [Act.put, List.setIfInBounds_toArray, List.set_cons_zero, List.set_cons_succ])
              have d16 : Blk w7 (w5.heap.size) 23 [.pointer none] := ((((Blk.new' (by first | rfl | simp)).alloc _).drew.fr hT6.fr (fun hm => by have := HSN.out.2.2.2.1 _ hm; omega)).fr hf7 (by simp))
              have d17 : Blk w7 (w5.heap.size + 1) 39 [.pointer none] := (((Blk.new' (by first | rfl | simp)).drew.fr hT6.fr (fun hm => by have := HSN.out.2.2.2.1 _ hm; omega)).fr hf7 (by simp))
              obtain ⟨W8, hW8⟩ : ∃ W8, w7 = W8 := ⟨_, rfl⟩
              have F8 : Fr B.fp w5 W8 := by rw [← hW8]; assumption
              have G8 : Fr [] w7 W8 := by rw [← hW8]; (repeat' (first | (with_reducible exact Fr.refl _ _) | (with_reducible refine Fr.alloc ?_ _)))
              have s8 : w7.heap.size + 0 = W8.heap.size := by rw [← hW8]; simp
              rw [hW8] at d16 d17 ⊢
              clear hW8
              have c16 := d16.cell' (i := 0) rfl
              have z16 := d16.frozen 0
              have e17 := d17.far' (b := w5.heap.size) (o := 0) (u := .pointer (some ⟨S.b, 0, none⟩)) (by omega)
              have c17 := e17.cell' (i := 0) rfl
              have z17 := e17.frozen 0
              refine wpAnyH_oneL 6 (by rfl) (by kernel_rfl) (by rfl) (fun K hK => ?_); go_simp
              refine hK.out _ _ ?_ (fun hHeld => ?_); (next => ((repeat' (first | (with_reducible exact Fr.refl _ _) | (with_reducible assumption) | (with_reducible refine Fr.setCell' ?_ ?_) | (with_reducible refine Fr.drewN ?_ _) | (with_reducible refine Fr.drew ?_) | (with_reducible refine Fr.alloc ?_ _))); all_goals (right; (first | omega | (simp; try omega))))); clear hK K; (try simp only [Act.put, List.setIfInBounds_toArray, List.set_cons_zero, List.set_cons_succ])
              refine wpAnyH_oneL 7 (by rfl) (by kernel_rfl) (by rfl) (fun K hK => ?_); go_simp
              refine hK.out _ _ ?_ (fun hHeld => ?_); (next => ((repeat' (first | (with_reducible exact Fr.refl _ _) | (with_reducible assumption) | (with_reducible refine Fr.setCell' ?_ ?_) | (with_reducible refine Fr.drewN ?_ _) | (with_reducible refine Fr.drew ?_) | (with_reducible refine Fr.alloc ?_ _))); all_goals (right; (first | omega | (simp; try omega))))); clear hK K; (try simp only [Act.put, List.setIfInBounds_toArray, List.set_cons_zero, List.set_cons_succ])
              refine wpAnyH_done (by kernel_rfl) ?_ _
              refine NoPanic.normal ?_
              have f16 := (d16.set' (i := 0) (u := .pointer (some ⟨S.b, 0, none⟩)) rfl).far' (b := w5.heap.size + 1) (o := 0) (u := .pointer (some ⟨Z.r, 0, none⟩)) (by omega)
              have f17 := e17.set' (i := 0) (u := .pointer (some ⟨Z.r, 0, none⟩)) rfl
              have HF := Lib.hid (And.intro f16 f17)
              clear d16 d17 c16 z16 e17 c17 z17 f16 f17
              go_wp2_with fail
              go_meet
              refine ⟨_, _, S, Z, rfl, rfl, HF.out.1, HF.out.2, HZ.out.2.1.snap (p := w5.heap.size) (q := w5.heap.size + 1) (w7 := w7) (by repeat' (first | (with_reducible exact Fr.refl _ _) | (with_reducible refine Fr.drew ?_) | (with_reducible refine Fr.alloc ?_ _))) hT6 hS6 hap6 hcon6 hn6 hSrd6 (by repeat' (first | (with_reducible exact Fr.refl _ _) | (with_reducible refine Fr.alloc ?_ _))) hZ7 hZo7 hf7 hZn7 (((G8.mono (by simp)).setCell' (.inl (by simp))).setCell' (.inl (by simp))) (by have hd : w5.drew.heap.size = w5.heap.size := rfl; (try simp); omega) (by have hd : w5.drew.heap.size = w5.heap.size := rfl; (try simp); omega), ?_, by omega, by omega⟩
              ((repeat' (first | (with_reducible exact Fr.refl _ _) | (with_reducible assumption) | (with_reducible refine Fr.setCell' ?_ ?_) | (with_reducible refine Fr.drewN ?_ _) | (with_reducible refine Fr.drew ?_) | (with_reducible refine Fr.alloc ?_ _))); all_goals (right; (first | omega | (simp; try omega))))
            exact AllReadyH.nil
          refine AllReadyH_consL 5 (by rfl) (by rfl) (fun K hK => ?_) ?_
          · go_simp
            refine hK.out _ _ ?_ (fun hHeld => ?_); (next => ((repeat' (first | (with_reducible exact Fr.refl _ _) | (with_reducible assumption) | (with_reducible refine Fr.setCell' ?_ ?_) | (with_reducible refine Fr.drewN ?_ _) | (with_reducible refine Fr.drew ?_) | (with_reducible refine Fr.alloc ?_ _))); all_goals (right; (first | omega | (simp; try omega))))); clear hK K; (try simp only [Act.put, List.setIfInBounds_toArray, List.set_cons_zero, List.set_cons_succ])
            refine wpAnyH_ready (rs := [1, 4]) (by kernel_rfl) (by simp) ?_
            refine AllReadyH_consL 1 (by rfl) (by rfl) (fun K hK => ?_) ?_
            · go_simp
              go_at_call 15
              (with_reducible refine (HSN.out.1 _ (HZ.out.2.1.hB.fr0 (by repeat' (first | (with_reducible exact Fr.refl _ _) | (with_reducible refine Fr.drew ?_) | (with_reducible refine Fr.alloc ?_ _))))).mono ?_)
              rintro rr w6 ⟨S, rfl, hT6, hS6, hap6, hcon6, hn6, hSb6, hSrd6⟩
              have F6 : Fr B.fp w5 w6 := Fr.trans (by repeat' (first | (with_reducible exact Fr.refl _ _) | (with_reducible refine Fr.drew ?_) | (with_reducible refine Fr.alloc ?_ _))) hT6.fr
              have s6 := hT6.fr.size
              have sS := hS6.rd_lt S.b List.mem_cons_self
              rw [hSb6] at sS
              clear hSb6
              try simp at s6
              try simp at sS
              refine hK.out _ _ ?_ (fun hHeld => ?_); (next => (exact F6)); clear hK K; (try simp only [Act.put, List.setIfInBounds_toArray, List.set_cons_zero, List.set_cons_succ])
              refine wpAnyH_ready (rs := [3, 4]) (by kernel_rfl) (by simp) ?_
              refine AllReadyH_consL 3 (by rfl) (by rfl) (fun K hK => ?_) ?_
              · go_simp
                go_at_call 16
                (with_reducible refine (HSN.out.2.1 _ (HZ.out.2.1.hR.fr (S := B.fp) (by assumption) HSN.out.2.2.1)).mono ?_)
                rintro rr w7 ⟨Z, rfl, hZ7, hZo7, hf7, hZn7⟩
                have F7 : Fr B.fp w5 w7 := Fr.trans (by assumption) (hf7.mono (by simp))
                have s7 := hf7.size
                try simp at s7
                refine hK.out _ _ ?_ (fun hHeld => ?_); (next => (exact F7)); clear hK K; (try simp only [Act.put, List.setIfInBounds_toArray, List.set_cons_zero, List.set_cons_succ])
                refine wpAnyH_oneL 4 (by rfl) (by kernel_rfl) (by rfl) (fun K hK => ?_); go_simp
                refine hK.out _ _ ?_ (fun hHeld => ?_); (next => ((repeat' (first | (with_reducible exact Fr.refl _ _) | (with_reducible assumption) | (with_reducible refine Fr.setCell' ?_ ?_) | (with_reducible refine Fr.drewN ?_ _) | (with_reducible refine Fr.drew ?_) | (with_reducible refine Fr.alloc ?_ _))); all_goals (right; (first | omega | (simp; try omega))))); clear hK K; (try simp only [Act.put, List.setIfInBounds_toArray, List.set_cons_zero, List.set_cons_succ])
                have d16 : Blk (w7.alloc (.cells #[.pointer none] 23)) (w7.heap.size) 23 [.pointer none] := (Blk.new' (by first | rfl | simp))
                have d17 : Blk (w7.alloc (.cells #[.pointer none] 23)) (w5.heap.size) 39 [.pointer none] := ((((Blk.new' (by first | rfl | simp)).drew.fr hT6.fr (fun hm => by have := HSN.out.2.2.2.1 _ hm; omega)).fr hf7 (by simp)).alloc _)
                obtain ⟨W8, hW8⟩ : ∃ W8, (w7.alloc (.cells #[.pointer none] 23)) = W8 := ⟨_, rfl⟩
                have F8 : Fr B.fp w5 W8 := by rw [← hW8]; assumption
                have G8 : Fr [] w7 W8 := by rw [← hW8]; (repeat' (first | (with_reducible exact Fr.refl _ _) | (with_reducible refine Fr.alloc ?_ _)))
                have s8 : w7.heap.size + 1 = W8.heap.size := by rw [← hW8]; simp
                rw [hW8] at d16 d17 ⊢
                clear hW8
                have c16 := d16.cell' (i := 0) rfl
                have z16 := d16.frozen 0
                have e17 := d17.far' (b := w7.heap.size) (o := 0) (u := .pointer (some ⟨S.b, 0, none⟩)) (by omega)
                have c17 := e17.cell' (i := 0) rfl
                have z17 := e17.frozen 0
                refine wpAnyH_oneL 6 (by rfl) (by kernel_rfl) (by rfl) (fun K hK => ?_); go_simp
                refine hK.out _ _ ?_ (fun hHeld => ?_); (next => ((repeat' (first | (with_reducible exact Fr.refl _ _) | (with_reducible assumption) | (with_reducible refine Fr.setCell' ?_ ?_) | (with_reducible refine Fr.drewN ?_ _) | (with_reducible refine Fr.drew ?_) | (with_reducible refine Fr.alloc ?_ _))); all_goals (right; (first | omega | (simp; try omega))))); clear hK K; (try simp only [Act.put, List.setIfInBounds_toArray, List.set_cons_zero, List.set_cons_succ])
                refine wpAnyH_oneL 7 (by rfl) (by kernel_rfl) (by rfl) (fun K hK => ?_); go_simp
                refine hK.out _ _ ?_ (fun hHeld => ?_); (next => ((repeat' (first | (with_reducible exact Fr.refl _ _) | (with_reducible assumption) | (with_reducible refine Fr.setCell' ?_ ?_) | (with_reducible refine Fr.drewN ?_ _) | (with_reducible refine Fr.drew ?_) | (with_reducible refine Fr.alloc ?_ _))); all_goals (right; (first | omega | (simp; try omega))))); clear hK K; (try simp only [Act.put, List.setIfInBounds_toArray, List.set_cons_zero, List.set_cons_succ])
                refine wpAnyH_done (by kernel_rfl) ?_ _
                refine NoPanic.normal ?_
                have f16 := (d16.set' (i := 0) (u := .pointer (some ⟨S.b, 0, none⟩)) rfl).far' (b := w5.heap.size) (o := 0) (u := .pointer (some ⟨Z.r, 0, none⟩)) (by omega)
                have f17 := e17.set' (i := 0) (u := .pointer (some ⟨Z.r, 0, none⟩)) rfl
                have HF := Lib.hid (And.intro f16 f17)
                clear d16 d17 c16 z16 e17 c17 z17 f16 f17
                go_wp2_with fail
                go_meet
                refine ⟨_, _, S, Z, rfl, rfl, HF.out.1, HF.out.2, HZ.out.2.1.snap (p := w7.heap.size) (q := w5.heap.size) (w7 := w7) (by repeat' (first | (with_reducible exact Fr.refl _ _) | (with_reducible refine Fr.drew ?_) | (with_reducible refine Fr.alloc ?_ _))) hT6 hS6 hap6 hcon6 hn6 hSrd6 (by repeat' (first | (with_reducible exact Fr.refl _ _) | (with_reducible refine Fr.alloc ?_ _))) hZ7 hZo7 hf7 hZn7 (((G8.mono (by simp)).setCell' (.inl (by simp))).setCell' (.inl (by simp))) (by have hd : w5.drew.heap.size = w5.heap.size := rfl; (try simp); omega) (by have hd : w5.drew.heap.size = w5.heap.size := rfl; (try simp); omega), ?_, by omega, by omega⟩
                ((repeat' (first | (with_reducible exact Fr.refl _ _) | (with_reducible assumption) | (with_reducible refine Fr.setCell' ?_ ?_) | (with_reducible refine Fr.drewN ?_ _) | (with_reducible refine Fr.drew ?_) | (with_reducible refine Fr.alloc ?_ _))); all_goals (right; (first | omega | (simp; try omega))))
              refine AllReadyH_consL 4 (by rfl) (by rfl) (fun K hK => ?_) ?_
              · go_simp
                refine hK.out _ _ ?_ (fun hHeld => ?_); (next => ((repeat' (first | (with_reducible exact Fr.refl _ _) | (with_reducible assumption) | (with_reducible refine Fr.setCell' ?_ ?_) | (with_reducible refine Fr.drewN ?_ _) | (with_reducible refine Fr.drew ?_) | (with_reducible refine Fr.alloc ?_ _))); all_goals (right; (first | omega | (simp; try omega))))); clear hK K; (try simp only [Act.put, List.setIfInBounds_toArray, List.set_cons_zero, List.set_cons_succ])
                refine wpAnyH_oneL 3 (by rfl) (by kernel_rfl) (by rfl) (fun K hK => ?_); go_simp
                go_at_call 16
                (with_reducible refine (HSN.out.2.1 _ (HZ.out.2.1.hR.fr (S := B.fp) (by assumption) HSN.out.2.2.1)).mono ?_)
                rintro rr w7 ⟨Z, rfl, hZ7, hZo7, hf7, hZn7⟩
                have F7 : Fr B.fp w5 w7 := Fr.trans (by assumption) (hf7.mono (by simp))
                have s7 := hf7.size
                try simp at s7
                refine hK.out _ _ ?_ (fun hHeld => ?_); (next => (exact F7)); clear hK K; (try simp only [Act.put, List.setIfInBounds_toArray, List.set_cons_zero, List.set_cons_succ])
                have d16 : Blk w7 (w6.heap.size) 23 [.pointer none] := ((Blk.new' (by first | rfl | simp)).fr hf7 (by simp))
                have d17 : Blk w7 (w5.heap.size) 39 [.pointer none] := ((((Blk.new' (by first | rfl | simp)).drew.fr hT6.fr (fun hm => by have := HSN.out.2.2.2.1 _ hm; omega)).alloc _).fr hf7 (by simp))
                obtain ⟨W8, hW8⟩ : ∃ W8, w7 = W8 := ⟨_, rfl⟩
                have F8 : Fr B.fp w5 W8 := by rw [← hW8]; assumption
                have G8 : Fr [] w7 W8 := by rw [← hW8]; (repeat' (first | (with_reducible exact Fr.refl _ _) | (with_reducible refine Fr.alloc ?_ _)))
                have s8 : w7.heap.size + 0 = W8.heap.size := by rw [← hW8]; simp
                rw [hW8] at d16 d17 ⊢
                clear hW8
                have c16 := d16.cell' (i := 0) rfl
                have z16 := d16.frozen 0
                have e17 := d17.far' (b := w6.heap.size) (o := 0) (u := .pointer (some ⟨S.b, 0, none⟩)) (by omega)
                have c17 := e17.cell' (i := 0) rfl
                have z17 := e17.frozen 0
                refine wpAnyH_oneL 6 (by rfl) (by kernel_rfl) (by rfl) (fun K hK => ?_); go_simp
                refine hK.out _ _ ?_ (fun hHeld => ?_); (next => ((repeat' (first | (with_reducible exact Fr.refl _ _) | (with_reducible assumption) | (with_reducible refine Fr.setCell' ?_ ?_) | (with_reducible refine Fr.drewN ?_ _) | (with_reducible refine Fr.drew ?_) | (with_reducible refine Fr.alloc ?_ _))); all_goals (right; (first | omega | (simp; try omega))))); clear hK K; (try simp only [Act.put, List.setIfInBounds_toArray, List.set_cons_zero, List.set_cons_succ])
                refine wpAnyH_oneL 7 (by rfl) (by kernel_rfl) (by rfl) (fun K hK => ?_); go_simp
                refine hK.out _ _ ?_ (fun hHeld => ?_); (next => ((repeat' (first | (with_reducible exact Fr.refl _ _) | (with_reducible assumption) | (with_reducible refine Fr.setCell' ?_ ?_) | (with_reducible refine Fr.drewN ?_ _) | (with_reducible refine Fr.drew ?_) | (with_reducible refine Fr.alloc ?_ _))); all_goals (right; (first | omega | (simp; try omega))))); clear hK K; (try simp only [Act.put, List.setIfInBounds_toArray, List.set_cons_zero, List.set_cons_succ])
                refine wpAnyH_done (by kernel_rfl) ?_ _
                refine NoPanic.normal ?_
                have f16 := (d16.set' (i := 0) (u := .pointer (some ⟨S.b, 0, none⟩)) rfl).far' (b := w5.heap.size) (o := 0) (u := .pointer (some ⟨Z.r, 0, none⟩)) (by omega)
                have f17 := e17.set' (i := 0) (u := .pointer (some ⟨Z.r, 0, none⟩)) rfl
                have HF := Lib.hid (And.intro f16 f17)
                clear d16 d17 c16 z16 e17 c17 z17 f16 f17
                go_wp2_with fail
                go_meet
                refine ⟨_, _, S, Z, rfl, rfl, HF.out.1, HF.out.2, HZ.out.2.1.snap (p := w6.heap.size) (q := w5.heap.size) (w7 := w7) (by repeat' (first | (with_reducible exact Fr.refl _ _) | (with_reducible refine Fr.drew ?_) | (with_reducible refine Fr.alloc ?_ _))) hT6 hS6 hap6 hcon6 hn6 hSrd6 (by repeat' (first | (with_reducible exact Fr.refl _ _) | (with_reducible refine Fr.alloc ?_ _))) hZ7 hZo7 hf7 hZn7 (((G8.mono (by simp)).setCell' (.inl (by simp))).setCell' (.inl (by simp))) (by have hd : w5.drew.heap.size = w5.heap.size := rfl; (try simp); omega) (by have hd : w5.drew.heap.size = w5.heap.size := rfl; (try simp); omega), ?_, by omega, by omega⟩
                ((repeat' (first | (with_reducible exact Fr.refl _ _) | (with_reducible assumption) | (with_reducible refine Fr.setCell' ?_ ?_) | (with_reducible refine Fr.drewN ?_ _) | (with_reducible refine Fr.drew ?_) | (with_reducible refine Fr.alloc ?_ _))); all_goals (right; (first | omega | (simp; try omega))))
              exact AllReadyH.nil
            refine AllReadyH_consL 4 (by rfl) (by rfl) (fun K hK => ?_) ?_
            · go_simp
              refine hK.out _ _ ?_ (fun hHeld => ?_); (next => ((repeat' (first | (with_reducible exact Fr.refl _ _) | (with_reducible assumption) | (with_reducible refine Fr.setCell' ?_ ?_) | (with_reducible refine Fr.drewN ?_ _) | (with_reducible refine Fr.drew ?_) | (with_reducible refine Fr.alloc ?_ _))); all_goals (right; (first | omega | (simp; try omega))))); clear hK K; (try simp only [Act.put, List.setIfInBounds_toArray, List.set_cons_zero, List.set_cons_succ])
              refine wpAnyH_oneL 1 (by rfl) (by kernel_rfl) (by rfl) (fun K hK => ?_); go_simp
              go_at_call 15
              (with_reducible refine (HSN.out.1 _ (HZ.out.2.1.hB.fr0 (by repeat' (first | (with_reducible exact Fr.refl _ _) | (with_reducible refine Fr.drew ?_) | (with_reducible refine Fr.alloc ?_ _))))).mono ?_)
              rintro rr w6 ⟨S, rfl, hT6, hS6, hap6, hcon6, hn6, hSb6, hSrd6⟩
              have F6 : Fr B.fp w5 w6 := Fr.trans (by repeat' (first | (with_reducible exact Fr.refl _ _) | (with_reducible refine Fr.drew ?_) | (with_reducible refine Fr.alloc ?_ _))) hT6.fr
              have s6 := hT6.fr.size
              have sS := hS6.rd_lt S.b List.mem_cons_self
              rw [hSb6] at sS
              clear hSb6
              try simp at s6
              try simp at sS
              refine hK.out _ _ ?_ (fun hHeld => ?_); (next => (exact F6)); clear hK K; (try simp only [Act.put, List.setIfInBounds_toArray, List.set_cons_zero, List.set_cons_succ])
              refine wpAnyH_oneL 3 (by rfl) (by kernel_rfl) (by rfl) (fun K hK => ?_); go_simp
              go_at_call 16
              (with_reducible refine (HSN.out.2.1 _ (HZ.out.2.1.hR.fr (S := B.fp) (by assumption) HSN.out.2.2.1)).mono ?_)
              rintro rr w7 ⟨Z, rfl, hZ7, hZo7, hf7, hZn7⟩
              have F7 : Fr B.fp w5 w7 := Fr.trans (by assumption) (hf7.mono (by simp))
              have s7 := hf7.size
              try simp at s7
              refine hK.out _ _ ?_ (fun hHeld => ?_); (next => (exact F7)); clear hK K; (try simp only [Act.put, List.setIfInBounds_toArray, List.set_cons_zero, List.set_cons_succ])
              have d16 : Blk w7 (w5.heap.size + 1) 23 [.pointer none] := (((Blk.new' (by first | rfl | simp)).drew.fr hT6.fr (fun hm => by have := HSN.out.2.2.2.1 _ hm; omega)).fr hf7 (by simp))
              have d17 : Blk w7 (w5.heap.size) 39 [.pointer none] := ((((Blk.new' (by first | rfl | simp)).alloc _).drew.fr hT6.fr (fun hm => by have := HSN.out.2.2.2.1 _ hm; omega)).fr hf7 (by simp))
              obtain ⟨W8, hW8⟩ : ∃ W8, w7 = W8 := ⟨_, rfl⟩
              have F8 : Fr B.fp w5 W8 := by rw [← hW8]; assumption
              have G8 : Fr [] w7 W8 := by rw [← hW8]; (repeat' (first | (with_reducible exact Fr.refl _ _) | (with_reducible refine Fr.alloc ?_ _)))
              have s8 : w7.heap.size + 0 = W8.heap.size := by rw [← hW8]; simp
              rw [hW8] at d16 d17 ⊢
              clear hW8
              have c16 := d16.cell' (i := 0) rfl
              have z16 := d16.frozen 0
              have e17 := d17.far' (b := w5.heap.size + 1) (o := 0) (u := .pointer (some ⟨S.b, 0, none⟩)) (by omega)
              have c17 := e17.cell' (i := 0) rfl
              have z17 := e17.frozen 0
              refine wpAnyH_oneL 6 (by rfl) (by kernel_rfl) (by rfl) (fun K hK => ?_); go_simp
              refine hK.out _ _ ?_ (fun hHeld => ?_); (next => ((repeat' (first | (with_reducible exact Fr.refl _ _) | (with_reducible assumption) | (with_reducible refine Fr.setCell' ?_ ?_) | (with_reducible refine Fr.drewN ?_ _) | (with_reducible refine Fr.drew ?_) | (with_reducible refine Fr.alloc ?_ _))); all_goals (right; (first | omega | (simp; try omega))))); clear hK K; (try simp only [Act.put, List.setIfInBounds_toArray, List.set_cons_zero, List.set_cons_succ])
              refine wpAnyH_oneL 7 (by rfl) (by kernel_rfl) (by rfl) (fun K hK => ?_); go_simp
              refine hK.out _ _ ?_ (fun hHeld => ?_); (next => ((repeat' (first | (with_reducible exact Fr.refl _ _) | (with_reducible assumption) | (with_reducible refine Fr.setCell' ?_ ?_) | (with_reducible refine Fr.drewN ?_ _) | (with_reducible refine Fr.drew ?_) | (with_reducible refine Fr.alloc ?_ _))); all_goals (right; (first | omega | (simp; try omega))))); clear hK K; (try simp only [Act.put, List.setIfInBounds_toArray, List.set_cons_zero, List.set_cons_succ])
              refine wpAnyH_done (by kernel_rfl) ?_ _
              refine NoPanic.normal ?_
              have f16 := (d16.set' (i := 0) (u := .pointer (some ⟨S.b, 0, none⟩)) rfl).far' (b := w5.heap.size) (o := 0) (u := .pointer (some ⟨Z.r, 0, none⟩)) (by omega)
              have f17 := e17.set' (i := 0) (u := .pointer (some ⟨Z.r, 0, none⟩)) rfl
              have HF := Lib.hid (And.intro f16 f17)
              clear d16 d17 c16 z16 e17 c17 z17 f16 f17
              go_wp2_with fail
              go_meet
              refine ⟨_, _, S, Z, rfl, rfl, HF.out.1, HF.out.2, HZ.out.2.1.snap (p := w5.heap.size + 1) (q := w5.heap.size) (w7 := w7) (by repeat' (first | (with_reducible exact Fr.refl _ _) | (with_reducible refine Fr.drew ?_) | (with_reducible refine Fr.alloc ?_ _))) hT6 hS6 hap6 hcon6 hn6 hSrd6 (by repeat' (first | (with_reducible exact Fr.refl _ _) | (with_reducible refine Fr.alloc ?_ _))) hZ7 hZo7 hf7 hZn7 (((G8.mono (by simp)).setCell' (.inl (by simp))).setCell' (.inl (by simp))) (by have hd : w5.drew.heap.size = w5.heap.size := rfl; (try simp); omega) (by have hd : w5.drew.heap.size = w5.heap.size := rfl; (try simp); omega), ?_, by omega, by omega⟩
              ((repeat' (first | (with_reducible exact Fr.refl _ _) | (with_reducible assumption) | (with_reducible refine Fr.setCell' ?_ ?_) | (with_reducible refine Fr.drewN ?_ _) | (with_reducible refine Fr.drew ?_) | (with_reducible refine Fr.alloc ?_ _))); all_goals (right; (first | omega | (simp; try omega))))
            exact AllReadyH.nil
          exact AllReadyH.nil
        case rest =>
          obtain ⟨p16, p17, S, Z, rfl, rfl, h16, h17, hq, hf5, hp16, hp17⟩ := hcut
          obtain ⟨w6, rfl⟩ : ∃ w6 : World, w6 = wc := ⟨_, rfl⟩
          have hs6 := hf5.size
          have hbs6 : Boxes w6 BY := HZ.out.1.fr hf5 (fun p hp hm => HZ.out.1.off (ts := [77, 81]) (fun p hp hm => HY.out.1 p hp (by simp only [List.mem_cons, List.not_mem_nil, or_false] at hm; rcases hm with h | h <;> simp [h])) (HZ.out.2.1.hB.typf hm) p hp rfl)
          have k16 := h16.cell' (i := 0) rfl
          have m11 : Blk w6 w3.heap.size 39 [.pointer (some ⟨r, 0, none⟩)] := hbs6 _ (HY.out.2.1 _ HBX.out.2.2.2.2)
          have k11' : w6.cell? ⟨w3.heap.size, 0, none⟩ = some (.pointer (some ⟨r, 0, none⟩)) := m11.cell 0
          have m7 : Blk w6 (w.heap.size + 1) 3 [.int .i64 at_] := hbs6 (w.heap.size + 1, 3, .int .i64 at_) (HY.out.2.1 _ (by rw [HBX.out.1]; simp))
          have k7' : w6.cell? ⟨w.heap.size + 1, 0, none⟩ = some (.int .i64 at_) := m7.cell 0
          have hrs := rSince_any R B.con n at_ w6 hq.hR hq.oR hn (fun j hj => (HZ.out.2.1.hB.data (by omega)).2)
          rw [HZ.out.2.2.2] at hrs
          have HRS := Lib.hid hrs
          have HQ6 := Lib.hid (And.intro hq (And.intro h16 (And.intro h17 hbs6)))
          clear hq h16 h17 hbs6 hrs m11 m7 k9 k11 n9 n11 k7 HSN
          go_upto_region 23 with (first | (go_at_call 17; (with_reducible refine HRS.out.mono ?_); rintro rr w7 ⟨wA, wcap, wl, rfl, hw7, ho7, hf7⟩))
          obtain ⟨hq, h16, h17, hbs6⟩ := HQ6.out
          obtain ⟨b18, hb18⟩ : ∃ b18, w7.heap.size = b18 := ⟨_, rfl⟩
          obtain ⟨BZ, hBZ⟩ : ∃ BZ : List (Nat × TypeId × Value), BZ = BY ++ [(p16, 23, .pointer (some ⟨S.b, 0, none⟩)), (p17, 39, .pointer (some ⟨Z.r, 0, none⟩)), (b18, 33, .slice wA wl.length wcap)] := ⟨_, rfl⟩
          have hBZt : ∀ p ∈ BZ, p.2.1 ∉ ([77, 81, 91, 46, 5] : List TypeId) := by
            intro p hp
            rw [hBZ] at hp
            rcases List.mem_append.1 hp with hp | hp
            · exact HY.out.1 p hp
            · simp only [List.mem_cons, List.not_mem_nil, or_false] at hp
              rcases hp with rfl | rfl | rfl <;> simp
          obtain ⟨ti, hti⟩ : ∃ ti, w7.heap.size + 1 = ti := ⟨_, rfl⟩
          obtain ⟨w8, hw8⟩ : ∃ w8, (w7.alloc (.cells #[.slice wA wl.length wcap] 33)).alloc (.cells #[.int .i64 0] 3) = w8 := ⟨_, rfl⟩
          have hf78 : Fr [] w7 w8 := by rw [← hw8]; exact ((Fr.refl _ _).alloc _).alloc _
          have hbs8 : Boxes w8 BZ := by
            intro p hp
            rw [hBZ] at hp
            rcases List.mem_append.1 hp with hp | hp
            · exact ((hbs6 p hp).fr hf7 (by simp)).fr hf78 (by simp)
            · simp only [List.mem_cons, List.not_mem_nil, or_false] at hp
              rcases hp with rfl | rfl | rfl
              · exact (h16.fr hf7 (by simp)).fr hf78 (by simp)
              · exact (h17.fr hf7 (by simp)).fr hf78 (by simp)
              · rw [← hw8, ← hb18]
                exact (Blk.new _ _ _).alloc _
          have hi8 : Blk w8 ti 3 [.int .i64 ((0 : Nat) : Int)] := by
            rw [← hw8, ← hti]
            exact Blk.new' (by simp)
          have hRg : Rg w n BZ w6.heap.size wA wcap wl b S.b r Z.r ti 0 w8 B.shut S R Z := ⟨(hq.fr0 hf7).fr0 hf78, hbs8, hi8, hw7.fr0 hf78, fun x hx hm => by have := hw7.own x hx; have := hq.lt hm; omega, HZ.out.2.2.1, rfl, HZ.out.2.2.2, rfl⟩
          have hti0 : w.heap.size ≤ ti := by have := hq.fr.size; have := hf7.size; omega
          have htiB : ∀ p ∈ BZ, p.1 ≠ ti := by
            intro p hp
            have hp0 := hp
            rw [hBZ] at hp
            rcases List.mem_append.1 hp with hp | hp
            · have := (hbs6 p hp).lt; have := hf7.size; omega
            · simp only [List.mem_cons, List.not_mem_nil, or_false] at hp
              rcases hp with rfl | rfl | rfl
              · have := h16.lt; have := hf7.size; simp only; omega
              · have := h17.lt; have := hf7.size; simp only; omega
              · simp only; omega
          have hmy : ∀ p ∈ BY, p ∈ BZ := fun p hp => by rw [hBZ]; exact List.mem_append_left _ hp
          have hmx : ∀ p ∈ BX, p ∈ BZ := fun p hp => hmy p (HY.out.2.1 p hp)
          have e9 := hmx _ HBX.out.2.2.2.1
          have e11 := hmx _ HBX.out.2.2.2.2
          have e6 : (w.heap.size, 22, Value.slice A2 Ds.length c2) ∈ BZ := hmx _ (by rw [HBX.out.1]; simp)
          have e7 : (w.heap.size + 1, 3, Value.int .i64 at_) ∈ BZ := hmx _ (by rw [HBX.out.1]; simp)
          have e8 : (w.heap.size + 2, 4, Value.bool false) ∈ BZ := hmx _ (by rw [HBX.out.1]; simp)
          have e15 := hmy _ HY.out.2.2.1
          have ebb := hmy _ HY.out.2.2.2.1
          have eab := hmy _ HY.out.2.2.2.2
          have e16 : (p16, 23, Value.pointer (some ⟨S.b, 0, none⟩)) ∈ BZ := by rw [hBZ]; simp
          have e17 : (p17, 39, Value.pointer (some ⟨Z.r, 0, none⟩)) ∈ BZ := by rw [hBZ]; simp
          have e18 : (b18, 33, Value.slice wA wl.length wcap) ∈ BZ := by rw [hBZ]; simp
          have hBl := HZ.out.2.1.hB.fp_lt
          have hb := HZ.out.2.1.hB
          have hbn := HZ.out.2.1.bn
          have hgl := sl_since hb at_
          rw [hbn] at hgl
          obtain ⟨gl, hgl2⟩ : ∃ gl, sinceC B.con n at_ = gl := ⟨_, rfl⟩
          have hglen : gl.length ≤ n := by rw [← hgl2]; exact sinceC_len _ _ _
          have HGL := Lib.hid hgl2
          rw [hgl2] at hgl ho7
          have hwll := ho7.len
          have hit := Since1_iter2 B.b bb (bb + 1) B.n B.h at_ B.pc B.tp (fun _ => false) B.lf w8 hRg.q.hB (by rw [HZ.out.2.2.1]; exact hRg.bx _ ebb) (hRg.bx _ eab)
          rw [hgl] at hit
          have hwsz := hf1.size
          have hw08 := hRg.q.fr.size
          have hF0 := hRg.q.off_lies
          have t15 : w8.cell? ⟨b15, 0, none⟩ = some (.func (.func 30) #[] #[.pointer (some ⟨bb, 0, none⟩), .pointer (some ⟨bb + 1, 0, none⟩)]) := hRg.bx.cell e15
          rw [hw8, hti, hb18]
          have HE := Lib.hid (And.intro e6 (And.intro e7 (And.intro e8 (And.intro e9 (And.intro e11 (And.intro e15 (And.intro ebb (And.intro eab (And.intro e16 (And.intro e17 e18))))))))))
          have HR8 := Lib.hid (And.intro hRg (And.intro hBZt (And.intro htiB (And.intro ho7 (And.intro hF0 hit)))))
          clear hq h16 h17 hbs6 hf78 hbs8 hi8 hBl hb hgl hgl2 hit hF0 hRg hBZt htiB hmy hmx e6 e7 e8 e9 e11 e15 ebb eab e16 e17 e18 ho7 hw7 hf7 hw8 hb18 hti HQ6 k16 k11' k7' HRS hBZ
          go_wp2_with fail
          refine (wpIn_wide (n := 0)).1 ?_
          refine range_outerW (gf := 30) (lb := #[.pointer (some ⟨bb, 0, none⟩), .pointer (some ⟨bb + 1, 0, none⟩)]) rfl ?eg gl.length (Gives gl B.lf) ?hps (Shared B.b B.n B.h B.pc B.tp (fun _ => false) B.lf) ?hE HR8.out.2.2.2.2.2
            (fun k F W => ∃ (B' S' : Boo) (R' Z' : RBo), Rg w n BZ w6.heap.size wA wcap wl b S.b r Z.r ti k W B' S' R' Z' ∧ F = ti :: fpQ B' S' R' Z') (fun _ _ => False) (ti :: fpQ B.shut S R Z) ?hJ ?hJx ?h0 ?hF0 ?hround ?hdone ?hstop
          case eg => intro args w'; kernel_rfl
          case hps => rintro k x A B' ⟨j, A', cap', _, rfl, _⟩; rfl
          case hE =>
            rintro A B' ⟨hf, hA, _⟩ j o ho hc
            refine hf.obj ?_ ho
            intro hm
            simp at hm; subst hm
            obtain ⟨⟨f, h1, _⟩, _⟩ := hA
            unfold Blf Blk at h1
            rw [ho] at h1; cases h1; cases hc
          case hJ =>
            rintro k F A B' ⟨B1, S1, R1, Z1, hr, rfl⟩ hnc
            exact ⟨B1, S1, R1, Z1, hr.nc hnc hw08, rfl⟩
          case hJx => exact fun _ _ _ h _ => h
          case h0 =>
            rintro A B' hnc ⟨hf, hA, hB⟩
            exact ⟨B.shut, S, R, Z, (HR8.out.1.nc hnc hw08).shut HR8.out.2.1 hf hB, rfl⟩
          case hF0 =>
            intro x hx
            rcases List.mem_cons.1 hx with rfl | hx
            · refine ⟨HR8.out.1.i.lt, fun hm => ?_⟩
              have hr : x ∈ B.shut.rd := List.mem_cons_of_mem _ hm
              exact (HR8.out.1.q.hB.typ hr).not HR8.out.1.i (by decide)
            · exact ⟨HR8.out.1.q.lt hx, HR8.out.2.2.2.2.1 x hx⟩
          case hstop => exact fun _ _ _ _ h _ => h.elim
          case hround =>
            rintro l k F A W xk hk hl hlo hlF ⟨B1, S1, R1, Z1, hr, rfl⟩ hfA ⟨j, A', cap', hj, rfl, hrow, hnew⟩
            have hwf : ∀ f, Fence.wide.fn f := fun _ => trivial
            have hwd : Fence.wide.depth = none := rfl
            simp only [List.zip_toArray, List.zip_cons_cons, List.zip_nil_right, List.foldl_toArray, List.foldl_cons, List.foldl_nil, List.setIfInBounds_toArray, List.set_cons_zero, List.set_cons_succ]
            gi_wp2
            refine ⟨(Fr.refl _ _).alloc _, fun W2 hnc hszW hlo2 => ?_⟩
            have hfAW : Fr [] A (W.alloc (.cells #[.int .i64 (j : Nat), .int .i64 (B.lf j).at_, .slice A' (B.lf j).xs.length cap'] 46)) := hfA.alloc _
            have hr2 := (hr.fr0 hfAW).nc hnc hw08
            have iS : Blk W2 W.heap.size 46 [.int .i64 (j : Nat), .int .i64 (B.lf j).at_, .slice A' (B.lf j).xs.length cap'] := (Blk.new _ _ _).nc hnc
            have iR := (hrow.alloc (.cells #[.int .i64 (j : Nat), .int .i64 (B.lf j).at_, .slice A' (B.lf j).xs.length cap'] 46)).nc hnc
            rw [World.size_alloc] at hszW
            have lA := hfA.size
            obtain ⟨t, ht, ht1, ht2, ht3⟩ := HR8.out.2.2.2.1.at hj
            have htl : k < wl.length := (List.getElem?_eq_some_iff.1 ht).1
            obtain ⟨g, rfl, _⟩ := hr2.want.row.cell (by rw [flatS_get wl k 0 t ht (by omega)]; rfl : (flatS wl)[k * 3 + 0]? = some (.int .i64 t.num))
            have hcapw := hr2.want.row.cap_le
            rw [hwll] at hcapw
            have hxl : (B.lf j).xs.length ≤ 2304 := by
              have hj9 := List.mem_of_getElem? hj
              rw [← HGL.out] at hj9
              have := (sinceC_mem.1 hj9).1
              exact (HZ.out.2.1.hB.data (j := j) (by omega)).2
            obtain ⟨xs, hxs⟩ : ∃ z, (B.lf j).xs = z := ⟨_, rfl⟩
            obtain ⟨sa, hsa⟩ : ∃ z, (B.lf j).at_ = z := ⟨_, rfl⟩
            rw [hxs] at iS iR hxl hfAW
            rw [hsa] at iS hfAW
            rw [hxs, hsa]
            have ht2' : t.at_ = sa := by rw [ht2, ← hsa]; rfl
            have ht3' : t.xs = xs := by rw [ht3, ← hxs]; rfl
            clear ht2 ht3 hxs hsa
            obtain ⟨xl, hxl2⟩ : ∃ z, xs.length = z := ⟨_, rfl⟩
            have hmade : ∀ x ∈ fpOf A', x ∈ made A W := fun x hx => made_mem.2 ⟨hnew x hx, by have := hrow.lt x hx; omega⟩
            have HROW := Lib.hid (And.intro hxl2 (And.intro iR (And.intro hnew hmade)))
            rw [hxl2] at iS hxl
            rw [hxl2]
            have k0 : (0 : Int) ≤ (k : Int) := by omega
            have k1 : (k : Int) < (gl.length : Int) := by omega
            have k2 : (k : Int) + 1 ≤ (wcap : Int) := by omega
            have k3 : (k : Int) ≤ (k : Int) + 1 := by omega
            have k4 : ¬ wcap = k := by omega
            have tge : decide (gl.length ≤ k) = false := by simp; omega
            have tge2 : decide ((gl.length : Int) ≤ (k : Int)) = false := by simp; omega
            have e1 : IntKind.i64.wrap ((k : Int) + 1) = (k : Int) + 1 := IntWalk.i64_in _ (by omega)
            have D19 := hr2.i
            have D18 : Blk W2 b18 33 [.slice (some ⟨g, 0, none⟩) gl.length wcap] := by
              have := hr2.bx _ HE.out.2.2.2.2.2.2.2.2.2.2
              rw [hwll] at this
              exact this
            have HRr := Lib.hid (And.intro hr (And.intro hr2 (And.intro iS (And.intro ht (And.intro ht1 (And.intro ht2' (And.intro ht3' (And.intro lA (And.intro hfAW hnc)))))))))
            have r19 := fun (w' : World) (i : Nat) (hh : Blk w' ti 3 [.int .i64 (k : Nat)]) => hh.cell i; have r19' := fun (w' : World) (i : Nat) (hh : Blk w' ti 3 [.int .i64 (k : Nat)]) => hh.frozen i
            have r18 := fun (w' : World) (i : Nat) (hh : Blk w' b18 33 [.slice (some ⟨g, 0, none⟩) gl.length wcap]) => hh.cell i; have r18' := fun (w' : World) (i : Nat) (hh : Blk w' b18 33 [.slice (some ⟨g, 0, none⟩) gl.length wcap]) => hh.frozen i
            have rb := fun (w' : World) (i : Nat) (hh : Blk w' W.heap.size 46 [.int .i64 (j : Nat), .int .i64 sa, .slice A' xl cap']) => hh.cell i; have rb' := fun (w' : World) (i : Nat) (hh : Blk w' W.heap.size 46 [.int .i64 (j : Nat), .int .i64 sa, .slice A' xl cap']) => hh.frozen i
            have hmix : Try.prog.follows .mixedOrders = true := by kernel_rfl
            clear hr hr2 iR hnew hmade hrow hj ht ht1 ht2' ht3' hfA hfAW hnc hlo
            have HLO := Lib.hid hlo2
            clear hlo2
            gi_upto_region 25 with fail
            refine wpIn_region_heldR (S := fun w' => Blk w' ti 3 [.int .i64 (k : Nat)] ∧ Blk w' b18 33 [.slice (some ⟨g, 0, none⟩) gl.length wcap] ∧ Blk w' W.heap.size 46 [.int .i64 (j : Nat), .int .i64 sa, .slice A' xl cap']) hmix (by kernel_rfl) (by intro _ _ h; exact h) ⟨D19.drew, D18.drew, iS.drew⟩ (fun hHeld => ?_)
            refine wpAnyH_takeL 0 (v := ?_) (by rfl) (by kernel_rfl) (by kernel_rfl) (by kernel_rfl) (fun _ _ _ h => h) (by rfl) ?_ (by assumption) ?_; rotate_left; (next => (intro w' hSw; (try dsimp only at hSw); go_simp; (try with_reducible rfl))); (try simp only [Act.put, List.setIfInBounds_toArray, List.set_cons_zero, List.set_cons_succ])
            refine wpAnyH_takeL 1 (v := ?_) (by rfl) (by kernel_rfl) (by kernel_rfl) (by kernel_rfl) (fun _ _ _ h => h) (by rfl) ?_ (by assumption) ?_; rotate_left; (next => (intro w' hSw; (try dsimp only at hSw); go_simp; (try with_reducible rfl))); (try simp only [Act.put, List.setIfInBounds_toArray, List.set_cons_zero, List.set_cons_succ])
            refine wpAnyH_takeL 2 (v := ?_) (by rfl) (by kernel_rfl) (by kernel_rfl) (by kernel_rfl) (fun _ _ _ h => h) (by rfl) ?_ (by assumption) ?_; rotate_left; (next => (intro w' hSw; (try dsimp only at hSw); go_simp; (try with_reducible rfl))); (try simp only [Act.put, List.setIfInBounds_toArray, List.set_cons_zero, List.set_cons_succ])
            refine wpAnyH_takeL 3 (v := ?_) (by rfl) (by kernel_rfl) (by kernel_rfl) (by kernel_rfl) (fun _ _ _ h => h) (by rfl) ?_ (by assumption) ?_; rotate_left; (next => (intro w' hSw; (try dsimp only at hSw); go_simp; (try with_reducible rfl))); (try simp only [Act.put, List.setIfInBounds_toArray, List.set_cons_zero, List.set_cons_succ])
            refine wpAnyH_takeL 4 (v := ?_) (by rfl) (by kernel_rfl) (by kernel_rfl) (by kernel_rfl) (fun _ _ _ h => h) (by rfl) ?_ (by assumption) ?_; rotate_left; (next => (intro w' hSw; (try dsimp only at hSw); go_simp; (try with_reducible rfl))); (try simp only [Act.put, List.setIfInBounds_toArray, List.set_cons_zero, List.set_cons_succ])
            refine wpAnyH_takeL 5 (v := ?_) (by rfl) (by kernel_rfl) (by kernel_rfl) (by kernel_rfl) (fun _ _ _ h => h) (by rfl) ?_ (by assumption) ?_; rotate_left; (next => (intro w' hSw; (try dsimp only at hSw); go_simp; (try with_reducible rfl))); (try simp only [Act.put, List.setIfInBounds_toArray, List.set_cons_zero, List.set_cons_succ])
            refine wpAnyH_takeL 7 (v := ?_) (by rfl) (by kernel_rfl) (by kernel_rfl) (by kernel_rfl) (fun _ _ _ h => h) (by rfl) ?_ (by assumption) ?_; rotate_left; (next => (intro w' hSw; (try dsimp only at hSw); go_simp; (try with_reducible rfl))); (try simp only [Act.put, List.setIfInBounds_toArray, List.set_cons_zero, List.set_cons_succ])
            refine wpAnyH_takeL 8 (v := ?_) (by rfl) (by kernel_rfl) (by kernel_rfl) (by kernel_rfl) (fun _ _ _ h => h) (by rfl) ?_ (by assumption) ?_; rotate_left; (next => (intro w' hSw; (try dsimp only at hSw); go_simp; (try with_reducible rfl))); (try simp only [Act.put, List.setIfInBounds_toArray, List.set_cons_zero, List.set_cons_succ])
            refine wpAnyH_takeL 9 (v := ?_) (by rfl) (by kernel_rfl) (by kernel_rfl) (by kernel_rfl) (fun _ _ _ h => h) (by rfl) ?_ (by assumption) ?_; rotate_left; (next => (intro w' hSw; (try dsimp only at hSw); go_simp; (try with_reducible rfl))); (try simp only [Act.put, List.setIfInBounds_toArray, List.set_cons_zero, List.set_cons_succ])
            refine wpAnyH_takeL 10 (v := ?_) (by rfl) (by kernel_rfl) (by kernel_rfl) (by kernel_rfl) (fun _ _ _ h => h) (by rfl) ?_ (by assumption) ?_; rotate_left; (next => (intro w' hSw; (try dsimp only at hSw); go_simp; (try with_reducible rfl))); (try simp only [Act.put, List.setIfInBounds_toArray, List.set_cons_zero, List.set_cons_succ])
            refine wpAnyH_takeL 11 (v := ?_) (by rfl) (by kernel_rfl) (by kernel_rfl) (by kernel_rfl) (fun _ _ _ h => h) (by rfl) ?_ (by assumption) ?_; rotate_left; (next => (intro w' hSw; (try dsimp only at hSw); go_simp; (try with_reducible rfl))); (try simp only [Act.put, List.setIfInBounds_toArray, List.set_cons_zero, List.set_cons_succ])
            refine wpAnyH_oneL 6 (by rfl) (by kernel_rfl) (by rfl) (fun K hK => ?_); go_simp
            have q19 := D19.drew.alloc (.cells #[.int .i64 (j : Nat), .int .i64 sa, .slice A' xl cap'] 46)
            have q18 := D18.drew.alloc (.cells #[.int .i64 (j : Nat), .int .i64 sa, .slice A' xl cap'] 46)
            have qb := HRr.out.2.2.1.drew.alloc (.cells #[.int .i64 (j : Nat), .int .i64 sa, .slice A' xl cap'] 46)
            refine hK.out _ _ ?_ (fun hHeld => ?_); (next => (exact ⟨q19, q18, qb⟩)); clear hK K; (try simp only [Act.put, List.setIfInBounds_toArray, List.set_cons_zero, List.set_cons_succ])
            refine wpAnyH_oneL 12 (by rfl) (by kernel_rfl) (by rfl) (fun K hK => ?_); go_simp
            have hsm := same_one (some ⟨W2.heap.size, 0, none⟩) (some ⟨g, k * 3, none⟩) 1 (wcap - k) ⟨(j : Int), sa, A', cap', xs⟩ t (W2.alloc (.cells #[.int .i64 (j : Nat), .int .i64 sa, .slice A' xl cap'] 46)).drew
              (Seen.new (Blk.new _ _ _).drew HROW.out.1 (HROW.out.2.1.rds.fr (((Fr.refl [] W2).alloc _).drew) (by simp)) (by have := HROW.out.1; omega))
              ((HRr.out.2.1.want.fr0 (((Fr.refl [] W2).alloc _).drew)).one HRr.out.2.2.2.1 (by rw [HRr.out.2.2.2.2.2.2.1]; have := HROW.out.1; omega))
              (by simp only [Sh.key, HRr.out.2.2.2.2.1, HRr.out.2.2.2.2.2.1, HRr.out.2.2.2.2.2.2.1])
            go_at_call 18
            (with_reducible refine hsm.mono ?_)
            rintro rr w9 ⟨rfl, nq2, hw9⟩
            dsimp only
            have F9 : Fr [] W2 w9 := by rw [hw9]; exact (((Fr.refl _ _).alloc _).drew).drewN _
            have S9 : W2.heap.size < w9.heap.size := by rw [hw9]; exact Nat.lt_of_lt_of_eq (Nat.lt_succ_self _) (World.size_alloc W2 _).symm
            clear hsm hw9 q19 q18 qb
            have q19 := D19.fr F9 (by simp)
            have q18 := D18.fr F9 (by simp)
            have qb := HRr.out.2.2.1.fr F9 (by simp)
            refine hK.out _ _ ?_ (fun hHeld => ?_); (next => (exact ⟨q19, q18, qb⟩)); clear hK K; (try simp only [Act.put, List.setIfInBounds_toArray, List.set_cons_zero, List.set_cons_succ])
            refine wpAnyH_takeL 13 (v := ?_) (by rfl) (by kernel_rfl) (by kernel_rfl) (by kernel_rfl) (fun _ _ _ h => h) (by rfl) ?_ (by assumption) ?_; rotate_left; (next => (intro w' hSw; (try dsimp only at hSw); go_simp; (try with_reducible rfl))); (try simp only [Act.put, List.setIfInBounds_toArray, List.set_cons_zero, List.set_cons_succ])
            refine wpAnyH_takeL 14 (v := ?_) (by rfl) (by kernel_rfl) (by kernel_rfl) (by kernel_rfl) (fun _ _ _ h => h) (by rfl) ?_ (by assumption) ?_; rotate_left; (next => (intro w' hSw; (try dsimp only at hSw); go_simp; (try with_reducible rfl))); (try simp only [Act.put, List.setIfInBounds_toArray, List.set_cons_zero, List.set_cons_succ])
            refine wpAnyH_done (by kernel_rfl) ?_ _
            have y2 := qb.cell' (i := 2) rfl
            have hsp := spoil_any A' cap' 204 xl xs w9 (by have := HROW.out.2.1.fr F9 (by simp); rw [HROW.out.1] at this; exact this) (by omega)
            have HSP := Lib.hid hsp
            clear hsp hHeld q18 qb D18 D19 iS r18 r18' r19 r19' rb rb'
            gi_upto_region 28 with (gi_at_call 19; refine (CallsIn.inRound l (callsIn_wide.2 HSP.out)).mono ?_; rintro rr w10 ⟨rfl, hf10⟩)
            have r10 := HRr.out.1.past (HRr.out.2.1.fr0 F9) hf10 HROW.out.2.2.1
            have d19 : w10.cell? ⟨ti, 0, none⟩ = some (.int .i64 (k : Nat)) := r10.i.cell 0
            have d6 : w10.cell? ⟨w.heap.size, 0, none⟩ = some (.slice A2 Ds.length c2) := r10.bx.cell HE.out.1
            have F10 : Fr (fpOf A') W2 w10 := (F9.mono (by simp)).trans hf10
            have hl2 : ∃ r, w10.heap[l]? = some (.loop r) := by
              obtain ⟨rl, hrl⟩ := HLO.out
              refine ⟨rl, F10.obj (fun hm => ?_) hrl⟩
              obtain ⟨cur, hc⟩ := HROW.out.2.1.typ hm
              unfold Blk at hc
              rw [hrl] at hc; cases hc
            have HS := Lib.hid (And.intro r10 (And.intro F10 hl2))
            clear r10 F10 hf10 hl2 y2 q19
            by_cases hlt : k < Ds.length
            · obtain ⟨d, hd⟩ : ∃ d, Ds[k]? = some d := ⟨Ds[k], List.getElem?_eq_getElem hlt⟩
              have hdm : d ∈ Ds := List.mem_of_getElem? hd
              obtain ⟨hdr, hdb, hdl⟩ := DD.out.data d hdm
              have hdL := DD.out.lists d hdm
              have hdk := (DD.out.ints d hdm).1
              obtain ⟨r10, F10, hl2⟩ := HS.out
              obtain ⟨ab, ao, rfl, hab, g0, g1, g2, g3, g4, g5⟩ := (DD.out.fr r10.q.fr).cells hd
              have habw : ab < w.heap.size := by
                obtain ⟨_, _, hA, hab', _⟩ := DD.out.cells hd
                simp at hA; omega
              obtain ⟨T, hT⟩ : ∃ T, fpQ B1 S1 R1 Z1 = T := ⟨_, rfl⟩
              have oD : ab ∉ T := fun hm => by rw [← hT] at hm; have := r10.q.ge hm; omega
              have o9 : w2.heap.size ∉ T := by rw [← hT]; exact r10.off HR8.out.2.1 HE.out.2.2.2.1
              have o11 : w3.heap.size ∉ T := by rw [← hT]; exact r10.off HR8.out.2.1 HE.out.2.2.2.2.1
              have o16 : p16 ∉ T := by rw [← hT]; exact r10.off HR8.out.2.1 HE.out.2.2.2.2.2.2.2.2.1
              have o17 : p17 ∉ T := by rw [← hT]; exact r10.off HR8.out.2.1 HE.out.2.2.2.2.2.2.2.2.2.1
              have o6 : w.heap.size ∉ T := by rw [← hT]; exact r10.off HR8.out.2.1 HE.out.1
              have oi : ti ∉ T := by rw [← hT]; exact r10.offi
              have d9 := r10.bx.cell HE.out.2.2.2.1
              have d11 := r10.bx.cell HE.out.2.2.2.2.1
              have d16 := r10.bx.cell HE.out.2.2.2.2.2.2.2.2.1
              have d17 := r10.bx.cell HE.out.2.2.2.2.2.2.2.2.2.1
              have v9 := fun (w' : World) (h : Fr T w10 w') => h.cell o9 d9
              have v11 := fun (w' : World) (h : Fr T w10 w') => h.cell o11 d11
              have v16 := fun (w' : World) (h : Fr T w10 w') => h.cell o16 d16
              have v17 := fun (w' : World) (h : Fr T w10 w') => h.cell o17 d17
              have v6 := fun (w' : World) (h : Fr T w10 w') => h.cell o6 d6
              have vi := fun (w' : World) (h : Fr T w10 w') => h.cell oi d19
              have x0 := fun (w' : World) (h : Fr T w10 w') => h.cell oD g0
              have x1 := fun (w' : World) (h : Fr T w10 w') => h.cell oD g1
              have x2 := fun (w' : World) (h : Fr T w10 w') => h.cell oD g2
              have x3 := fun (w' : World) (h : Fr T w10 w') => h.cell oD g3
              have x4 := fun (w' : World) (h : Fr T w10 w') => h.cell oD g4
              have x5 := fun (w' : World) (h : Fr T w10 w') => h.cell oD g5
              have htn := turn_any w w10.drew n B1 S1 R1 Z1 d (r10.q.fr0 (Fr.refl _ _).drew) hdr hdb hdl hdL hdk
              rw [r10.eb, r10.es, r10.er, r10.ez] at htn
              unfold Deed.cells at htn
              have kd1 : (k : Int) < (Ds.length : Int) := by omega
              have kd2 : decide ((k : Int) < (Ds.length : Int)) = true := decide_eq_true kd1
              have HTN := Lib.hid (And.intro htn hT)
              have HS2 := Lib.hid (And.intro r10 (And.intro F10 hl2))
              clear hd hdm hdr hdb hdl hdL hdk g0 g1 g2 g3 g4 g5 o9 o11 o16 o17 o6 oi oD d9 d11 d16 d17 htn hT r10 F10 hl2 HS hab habw
              gi_upto_region 29 with fail
              refine wpIn_region_heldR (S := fun w' => Fr T w10 w') hmix (by kernel_rfl) (by intro _ _ h; exact h) ((Fr.refl _ _).drew) (fun hHeld => ?_)
              refine wpAnyH_takeL 0 (v := ?_) (by rfl) (by kernel_rfl) (by kernel_rfl) (by kernel_rfl) (fun _ _ _ h => h) (by rfl) ?_ (by assumption) ?_; rotate_left; (next => (intro w' hSw; (try dsimp only at hSw); go_simp; (try with_reducible rfl))); (try simp only [Act.put, List.setIfInBounds_toArray, List.set_cons_zero, List.set_cons_succ])
              refine wpAnyH_takeL 1 (v := ?_) (by rfl) (by kernel_rfl) (by kernel_rfl) (by kernel_rfl) (fun _ _ _ h => h) (by rfl) ?_ (by assumption) ?_; rotate_left; (next => (intro w' hSw; (try dsimp only at hSw); go_simp; (try with_reducible rfl))); (try simp only [Act.put, List.setIfInBounds_toArray, List.set_cons_zero, List.set_cons_succ])
              refine wpAnyH_takeL 2 (v := ?_) (by rfl) (by kernel_rfl) (by kernel_rfl) (by kernel_rfl) (fun _ _ _ h => h) (by rfl) ?_ (by assumption) ?_; rotate_left; (next => (intro w' hSw; (try dsimp only at hSw); go_simp; (try with_reducible rfl))); (try simp only [Act.put, List.setIfInBounds_toArray, List.set_cons_zero, List.set_cons_succ])
              refine wpAnyH_takeL 3 (v := ?_) (by rfl) (by kernel_rfl) (by kernel_rfl) (by kernel_rfl) (fun _ _ _ h => h) (by rfl) ?_ (by assumption) ?_; rotate_left; (next => (intro w' hSw; (try dsimp only at hSw); go_simp; (try with_reducible rfl))); (try simp only [Act.put, List.setIfInBounds_toArray, List.set_cons_zero, List.set_cons_succ])
              refine wpAnyH_takeL 4 (v := ?_) (by rfl) (by kernel_rfl) (by kernel_rfl) (by kernel_rfl) (fun _ _ _ h => h) (by rfl) ?_ (by assumption) ?_; rotate_left; (next => (intro w' hSw; (try dsimp only at hSw); go_simp; (try with_reducible rfl))); (try simp only [Act.put, List.setIfInBounds_toArray, List.set_cons_zero, List.set_cons_succ])
              refine wpAnyH_takeL 5 (v := ?_) (by rfl) (by kernel_rfl) (by kernel_rfl) (by kernel_rfl) (fun _ _ _ h => h) (by rfl) ?_ (by assumption) ?_; rotate_left; (next => (intro w' hSw; (try dsimp only at hSw); go_simp; (try with_reducible rfl))); (try simp only [Act.put, List.setIfInBounds_toArray, List.set_cons_zero, List.set_cons_succ])
              refine wpAnyH_takeL 6 (v := ?_) (by rfl) (by kernel_rfl) (by kernel_rfl) (by kernel_rfl) (fun _ _ _ h => h) (by rfl) ?_ (by assumption) ?_; rotate_left; (next => (intro w' hSw; (try dsimp only at hSw); go_simp; (try with_reducible rfl))); (try simp only [Act.put, List.setIfInBounds_toArray, List.set_cons_zero, List.set_cons_succ])
              refine wpAnyH_takeL 7 (v := ?_) (by rfl) (by kernel_rfl) (by kernel_rfl) (by kernel_rfl) (fun _ _ _ h => h) (by rfl) ?_ (by assumption) ?_; rotate_left; (next => (intro w' hSw; (try dsimp only at hSw); go_simp; (try with_reducible rfl))); (try simp only [Act.put, List.setIfInBounds_toArray, List.set_cons_zero, List.set_cons_succ])
              refine wpAnyH_oneL 8 (by rfl) (by kernel_rfl) (by rfl) (fun K hK => ?_); go_simp
              go_at_call 20
              (with_reducible refine HTN.out.1.mono ?_)
              rintro rr w11 ⟨rfl, B3, S3, R3, Z3, hQT⟩
              dsimp only
              have F11 : Fr T w10 w11 := by rw [← HTN.out.2]; exact ((Fr.refl _ _).drew).trans hQT.fr
              refine hK.out _ _ ?_ (fun hHeld => ?_); (next => (exact F11)); clear hK K; (try simp only [Act.put, List.setIfInBounds_toArray, List.set_cons_zero, List.set_cons_succ])
              refine wpAnyH_takeL 9 (v := ?_) (by rfl) (by kernel_rfl) (by kernel_rfl) (by kernel_rfl) (fun _ _ _ h => h) (by rfl) ?_ (by assumption) ?_; rotate_left; (next => (intro w' hSw; (try dsimp only at hSw); go_simp; (try with_reducible rfl))); (try simp only [Act.put, List.setIfInBounds_toArray, List.set_cons_zero, List.set_cons_succ])
              refine wpAnyH_done (by kernel_rfl) ?_ _
              obtain ⟨r10, F10, hl2⟩ := HS2.out
              have r11 := (r10.fr0 (Fr.refl _ _).drew).turn HR8.out.2.1 hQT
              have hl11 : ∃ r, w11.heap[l]? = some (.loop r) := by
                obtain ⟨rl, hrl⟩ := hl2
                exact ⟨rl, F11.obj (fun hm => hlF (List.mem_cons_of_mem _ (by rw [HTN.out.2]; exact hm))) hrl⟩
              have G11 : Fr (ti :: fpQ B1 S1 R1 Z1 ++ made A W) W2 w11 := (F10.mono (fun x hx => List.mem_append_right _ (HROW.out.2.2.2 x hx))).trans (F11.mono (fun x hx => List.mem_append_left _ (List.mem_cons_of_mem _ (by rw [HTN.out.2]; exact hx))))
              have hsb : ∀ x ∈ fpQ B3 S3 R3 Z3, x ∈ fpQ B1 S1 R1 Z1 ∨ W2.heap.size ≤ x := fun x hx => (hQT.fp x hx).imp id (fun h => Nat.le_trans F10.size h)
              have d11 := r11.bx.cell HE.out.2.2.2.2.1
              have d7 := r11.bx.cell HE.out.2.1
              have hrs := rSince_any R3 B3.con n at_ w11 r11.q.hR r11.q.oR hn (fun j hj => (r11.q.hB.data (by omega)).2)
              rw [r11.er] at hrs
              have HRS := Lib.hid hrs
              have d15 := r11.bx.cell HE.out.2.2.2.2.2.1
              have HU := Lib.hid (And.intro r11 (And.intro hl11 (And.intro G11 (And.intro hsb hQT.b))))
              clear r10 F10 hl2 r11 hl11 G11 hsb hQT F11 hrs hHeld v9 v11 v16 v17 v6 vi x0 x1 x2 x3 x4 x5 HS2
              gi_upto_region 33 with (gi_at_call 17; refine (CallsIn.inRound l (callsIn_wide.2 HRS.out)).mono ?_; rintro rr w12 ⟨iA, icap, il, rfl, hit, hio, hf12⟩; have d15' := hf12.cell (by simp) d15)
              obtain ⟨r11, hl11, G11, hsb, hQb⟩ := HU.out
              obtain ⟨b21, hb21⟩ : ∃ b21, w12.heap.size = b21 := ⟨_, rfl⟩
              obtain ⟨tj, htj⟩ : ∃ tj, w12.heap.size + 1 = tj := ⟨_, rfl⟩
              obtain ⟨w13, hw13⟩ : ∃ w13, (w12.alloc (.cells #[.slice iA il.length icap] 33)).alloc (.cells #[.int .i64 0] 3) = w13 := ⟨_, rfl⟩
              have hf13 : Fr [] w12 w13 := by rw [← hw13]; exact ((Fr.refl _ _).alloc _).alloc _
              have hfa : Fr [] w11 w13 := hf12.trans hf13
              have hsz := hf12.size
              obtain ⟨BV, hBV⟩ : ∃ BV : List (Nat × TypeId × Value), BV = BZ ++ [(b21, 33, .slice iA il.length icap)] := ⟨_, rfl⟩
              have hBVt : ∀ p ∈ BV, p.2.1 ∉ ([77, 81, 91, 46, 5] : List TypeId) := by
                intro p hp
                rw [hBV] at hp
                rcases List.mem_append.1 hp with hp | hp
                · exact HR8.out.2.1 p hp
                · simp only [List.mem_cons, List.not_mem_nil, or_false] at hp
                  rcases hp with rfl; simp
              have hbv : Boxes w13 BV := by
                intro p hp
                rw [hBV] at hp
                rcases List.mem_append.1 hp with hp | hp
                · exact (r11.bx p hp).fr hfa (by simp)
                · simp only [List.mem_cons, List.not_mem_nil, or_false] at hp
                  rcases hp with rfl
                  rw [← hw13, ← hb21]
                  exact (Blk.new _ _ _).alloc _
              have hjb : Blk w13 tj 3 [.int .i64 ((0 : Nat) : Int)] := by
                rw [← hw13, ← htj]
                exact Blk.new' (by simp)
              have r13z := r11.fr0 hfa
              have r13 : Rg w n BV w6.heap.size (some ⟨g, 0, none⟩) wcap wl b S.b r Z.r ti k w13 B3 S3 R3 Z3 := ⟨r13z.q, hbv, r13z.i, r13z.want, r13z.wo, r13z.eb, r13z.es, r13z.er, r13z.ez⟩
              have htjB : ∀ p ∈ BV, p.1 ≠ tj := by
                intro p hp
                have hp0 := hp
                rw [hBV] at hp
                rcases List.mem_append.1 hp with hp | hp
                · have := (r11.bx p hp).lt; omega
                · simp only [List.mem_cons, List.not_mem_nil, or_false] at hp
                  rcases hp with rfl
                  simp only; omega
              have htji : ti ≠ tj := by have := r11.i.lt; omega
              have htj0 : w.heap.size ≤ tj := by have := r11.i.lt; omega
              have htj2 : W2.heap.size ≤ tj := by have := G11.size; omega
              have hmv : ∀ p ∈ BZ, p ∈ BV := fun p hp => by rw [hBV]; exact List.mem_append_left _ hp
              have e21 : (b21, 33, Value.slice iA il.length icap) ∈ BV := by rw [hBV]; simp
              have hit13 := hit.fr0 hf13
              have hio2 := hio
              have hbn3 := r13.q.bn
              have hgl3 := sl_since r13.q.hB at_
              rw [hbn3] at hgl3
              obtain ⟨gl2, hgl4⟩ : ∃ gl2, sinceC B3.con n at_ = gl2 := ⟨_, rfl⟩
              rw [hgl4] at hgl3 hio
              have hill := hio.len
              have hiter := Since1_iter2 B3.b bb (bb + 1) B3.n B3.h at_ B3.pc B3.tp B3.ow B3.lf w13 r13.q.hB (by rw [r13.eb]; exact r13.bx _ (hmv _ HE.out.2.2.2.2.2.2.1)) (r13.bx _ (hmv _ HE.out.2.2.2.2.2.2.2.1))
              rw [hgl3] at hiter
              obtain ⟨rl, hrl⟩ := hl11
              have hrl13 := hfa.obj (by simp) hrl
              have G13 := G11.trans (hfa.mono (by simp))
              have hwsz13 : W2.heap.size ≤ w13.heap.size := G13.size
              have hw0 : w.heap.size ≤ w13.heap.size := r13.q.fr.size
              have hg4l : gl2.length ≤ n := by rw [← hgl4]; exact sinceC_len _ _ _
              have HGL2 := Lib.hid hgl4
              have HV := Lib.hid (And.intro r13 (And.intro hBVt (And.intro htjB (And.intro htji (And.intro hmv (And.intro e21 (And.intro hit13 (And.intro hio (And.intro G13 (And.intro hsb (And.intro hQb (And.intro hjb hiter))))))))))))
              rw [hw13, htj, hb21]
              have d15'' : w13.cell? ⟨b15, 0, none⟩ = some (.func (.func 30) #[] #[.pointer (some ⟨bb, 0, none⟩), .pointer (some ⟨bb + 1, 0, none⟩)]) := hfa.cell (by simp) d15
              clear r11 G11 hsb hQb hf13 hbv hjb r13z r13 hBVt htjB hmv e21 hit hit13 hio hio2 hgl3 hgl4 hiter hrl hfa hf12 hsz HU HRS hw13 hBV d15' d15 d11 d7 G13
              gi_wp2_with fail
              refine range_innerW (r₀ := rl) hrl13 (gf := 30) (lb := #[.pointer (some ⟨bb, 0, none⟩), .pointer (some ⟨bb + 1, 0, none⟩)]) rfl ?eg2 gl2.length (Gives gl2 B3.lf) ?hps2 (Shared B3.b B3.n B3.h B3.pc B3.tp B3.ow B3.lf) ?hE2 HV.out.2.2.2.2.2.2.2.2.2.2.2.2
                (fun kk F W' => F = [tj] ∧ Rg w n BV w6.heap.size (some ⟨g, 0, none⟩) wcap wl b S.b r Z.r ti k W' B3.shut S3 R3 Z3 ∧ Blk W' tj 3 [.int .i64 (kk : Nat)] ∧ Told W' w11.heap.size iA icap il ∧ Fr (ti :: fpQ B1 S1 R1 Z1 ++ made A W) W2 W') (fun _ _ => False) [tj] ?hJ2 ?hJx2 ?h02 ?hF02 ?hround2 ?hdone2 ?hstop2
              case eg2 => intro args w'; kernel_rfl
              case hps2 => rintro k x A B' ⟨j, A', cap', _, rfl, _⟩; rfl
              case hE2 =>
                rintro A B' ⟨hf, hA, _⟩ j o ho hc
                refine hf.obj ?_ ho
                intro hm
                simp at hm; subst hm
                obtain ⟨⟨f, h1, _⟩, _⟩ := hA
                unfold Blf Blk at h1
                rw [ho] at h1; cases h1; cases hc
              case hJ2 =>
                rintro kk F A B' ⟨rfl, a1, a2, a3, a4⟩ hnc
                exact ⟨rfl, a1.nc hnc hw0, a2.nc hnc, a3.nc hnc, a4.nc hnc hwsz13⟩
              case hJx2 => exact fun _ _ _ h _ => h
              case h02 =>
                rintro A B' hnc ⟨hf, hA, hB⟩
                obtain ⟨r13, hBVt, htjB, htji, hmv, e21, hit13, hio, G13, hsb, hQb, hjb, hiter⟩ := HV.out
                refine ⟨rfl, (r13.nc hnc hw0).shut hBVt hf hB, (hjb.nc hnc).fr hf (fun hm => ?_), (hit13.nc hnc).fr hf (fun x hx hm => ?_) (fun s hs x hx hm => ?_), (G13.nc hnc hwsz13).trans (hf.mono (fun x hx => ?_))⟩
                · exact (r13.q.hB.typf (x := tj) (by rw [List.mem_singleton.1 hm]; exact List.mem_cons_self)).not hjb (by decide)
                · obtain ⟨cur, hc⟩ := hit13.row.typ hx
                  exact (r13.q.hB.typf (x := x) (by rw [List.mem_singleton.1 hm]; exact List.mem_cons_self)).not hc (by decide)
                · obtain ⟨cur, hc⟩ := (hit13.data s hs).typ hx
                  exact (r13.q.hB.typf (x := x) (by rw [List.mem_singleton.1 hm]; exact List.mem_cons_self)).not hc (by decide)
                · rw [List.mem_singleton.1 hx, hQb]
                  exact List.mem_append_left _ (List.mem_cons_of_mem _ (List.mem_append_left _ (List.mem_append_left _ List.mem_cons_self)))
              case hF02 =>
                intro x hx
                simp only [List.mem_singleton] at hx
                subst hx
                obtain ⟨r13, hBVt, htjB, htji, hmv, e21, hit13, hio, G13, hsb, hQb, hjb, hiter⟩ := HV.out
                refine ⟨hjb.lt, fun hm => ?_⟩
                have hr : x ∈ B3.rd := List.mem_cons_of_mem _ hm
                exact (r13.q.hB.typ hr).not hjb (by decide)
              case hstop2 => exact fun _ _ h => h.elim
              case hround2 =>
                rintro l2 kk F A4 W4 xk hk2 hl4 hlo4 hlF4 ⟨rfl, a1, a2, a3, a4⟩ hfA4 ⟨j4, A5, cap5, hj4, rfl, hrow4, hnew4⟩
                simp only [List.zip_toArray, List.zip_cons_cons, List.zip_nil_right, List.foldl_toArray, List.foldl_cons, List.foldl_nil, List.setIfInBounds_toArray, List.set_cons_zero, List.set_cons_succ]
                gi_wp2
                refine ⟨(Fr.refl _ _).alloc _, fun W5 hnc5 hszW5 hlo5 => ?_⟩
                obtain ⟨r13, hBVt, htjB, htji, hmv, e21, hit13, hio, G13, hsb, hQb, hjb, hiter⟩ := HV.out
                have hfAW : Fr [] A4 (W4.alloc (.cells #[.int .i64 (j4 : Nat), .int .i64 (B3.lf j4).at_, .slice A5 (B3.lf j4).xs.length cap5] 46)) := hfA4.alloc _
                have b1 := (a1.fr0 hfAW).nc hnc5 hw0
                have b2 := (a2.fr hfAW (by simp)).nc hnc5
                have b3 := (a3.fr0 hfAW).nc hnc5
                have b4 := (a4.trans (hfAW.mono (by simp))).nc hnc5 hwsz13
                have iS : Blk W5 W4.heap.size 46 [.int .i64 (j4 : Nat), .int .i64 (B3.lf j4).at_, .slice A5 (B3.lf j4).xs.length cap5] := (Blk.new _ _ _).nc hnc5
                have iR := (hrow4.alloc (.cells #[.int .i64 (j4 : Nat), .int .i64 (B3.lf j4).at_, .slice A5 (B3.lf j4).xs.length cap5] 46)).nc hnc5
                have lA := hfA4.size
                obtain ⟨t, ht, ht1, ht2, ht3⟩ := hio.at hj4
                have htl : kk < il.length := (List.getElem?_eq_some_iff.1 ht).1
                obtain ⟨g4, rfl, _⟩ := b3.row.cell (by rw [flatS_get il kk 0 t ht (by omega)]; rfl : (flatS il)[kk * 3 + 0]? = some (.int .i64 t.num))
                have hcapw4 := b3.row.cap_le
                rw [hill] at hcapw4
                have hxl4 : (B3.lf j4).xs.length ≤ 2304 := by
                  have hj9 := List.mem_of_getElem? hj4
                  rw [← HGL2.out] at hj9
                  have := (sinceC_mem.1 hj9).1
                  exact (r13.q.hB.data (j := j4) (by omega)).2
                obtain ⟨xs4, hxs⟩ : ∃ z, (B3.lf j4).xs = z := ⟨_, rfl⟩
                obtain ⟨sa4, hsa⟩ : ∃ z, (B3.lf j4).at_ = z := ⟨_, rfl⟩
                rw [hxs] at iS iR hxl4
                rw [hsa] at iS
                rw [hxs, hsa]
                have ht2' : t.at_ = sa4 := by rw [ht2, ← hsa]; rfl
                have ht3' : t.xs = xs4 := by rw [ht3, ← hxs]; rfl
                have hmade : ∀ x ∈ fpOf A5, x ∈ made A4 W4 := fun x hx => made_mem.2 ⟨hnew4 x hx, by have := hrow4.lt x hx; omega⟩
                clear ht2 ht3 hxs hsa
                obtain ⟨xl4, hxl2⟩ : ∃ z, xs4.length = z := ⟨_, rfl⟩
                rw [hxl2] at iS hxl4
                rw [hxl2]
                have HROW4 := Lib.hid (And.intro hxl2 (And.intro iR (And.intro hnew4 hmade)))
                have k0 : (0 : Int) ≤ (kk : Int) := by omega
                have k1 : (kk : Int) < (gl2.length : Int) := by omega
                have k2 : (kk : Int) + 1 ≤ (icap : Int) := by omega
                have k3 : (kk : Int) ≤ (kk : Int) + 1 := by omega
                have k4 : ¬ icap = kk := by omega
                have tge : decide (gl2.length ≤ kk) = false := by simp; omega
                have tge2 : decide ((gl2.length : Int) ≤ (kk : Int)) = false := by simp; omega
                have e1 : IntKind.i64.wrap ((kk : Int) + 1) = (kk : Int) + 1 := IntWalk.i64_in _ (by omega)
                have D19 := b2
                have D18 : Blk W5 b21 33 [.slice (some ⟨g4, 0, none⟩) gl2.length icap] := by
                  have := b1.bx _ e21
                  rw [hill] at this
                  exact this
                have HR5 := Lib.hid (And.intro a1 (And.intro b1 (And.intro iS (And.intro ht (And.intro ht1 (And.intro ht2' (And.intro ht3' (And.intro b2 (And.intro b3 (And.intro b4 (And.intro a2 (And.intro a3 a4))))))))))))
                have r19 := fun (w' : World) (i : Nat) (hh : Blk w' tj 3 [.int .i64 (kk : Nat)]) => hh.cell i; have r19' := fun (w' : World) (i : Nat) (hh : Blk w' tj 3 [.int .i64 (kk : Nat)]) => hh.frozen i
                have r18 := fun (w' : World) (i : Nat) (hh : Blk w' b21 33 [.slice (some ⟨g4, 0, none⟩) gl2.length icap]) => hh.cell i; have r18' := fun (w' : World) (i : Nat) (hh : Blk w' b21 33 [.slice (some ⟨g4, 0, none⟩) gl2.length icap]) => hh.frozen i
                have rb := fun (w' : World) (i : Nat) (hh : Blk w' W4.heap.size 46 [.int .i64 (j4 : Nat), .int .i64 sa4, .slice A5 xl4 cap5]) => hh.cell i; have rb' := fun (w' : World) (i : Nat) (hh : Blk w' W4.heap.size 46 [.int .i64 (j4 : Nat), .int .i64 sa4, .slice A5 xl4 cap5]) => hh.frozen i
                clear a1 a2 a3 a4 b1 b2 b3 b4 iR hnew4 hmade hrow4 hj4 ht ht1 ht2' ht3' hfA4 hfAW hnc5 hlo4 hlo5 r13 hBVt htjB hmv e21 hit13 hio G13 hsb hQb hjb hiter hszW5 hxl2
                gi_upto_region 35 with fail
                refine wpIn_region_heldR (S := fun w' => Blk w' tj 3 [.int .i64 (kk : Nat)] ∧ Blk w' b21 33 [.slice (some ⟨g4, 0, none⟩) gl2.length icap] ∧ Blk w' W4.heap.size 46 [.int .i64 (j4 : Nat), .int .i64 sa4, .slice A5 xl4 cap5]) hmix (by kernel_rfl) (by intro _ _ h; exact h) ⟨D19.drew, D18.drew, iS.drew⟩ (fun hHeld => ?_)
                refine wpAnyH_takeL 0 (v := ?_) (by rfl) (by kernel_rfl) (by kernel_rfl) (by kernel_rfl) (fun _ _ _ h => h) (by rfl) ?_ (by assumption) ?_; rotate_left; (next => (intro w' hSw; (try dsimp only at hSw); go_simp; (try with_reducible rfl))); (try simp only [Act.put, List.setIfInBounds_toArray, List.set_cons_zero, List.set_cons_succ])
                refine wpAnyH_takeL 1 (v := ?_) (by rfl) (by kernel_rfl) (by kernel_rfl) (by kernel_rfl) (fun _ _ _ h => h) (by rfl) ?_ (by assumption) ?_; rotate_left; (next => (intro w' hSw; (try dsimp only at hSw); go_simp; (try with_reducible rfl))); (try simp only [Act.put, List.setIfInBounds_toArray, List.set_cons_zero, List.set_cons_succ])
                refine wpAnyH_takeL 2 (v := ?_) (by rfl) (by kernel_rfl) (by kernel_rfl) (by kernel_rfl) (fun _ _ _ h => h) (by rfl) ?_ (by assumption) ?_; rotate_left; (next => (intro w' hSw; (try dsimp only at hSw); go_simp; (try with_reducible rfl))); (try simp only [Act.put, List.setIfInBounds_toArray, List.set_cons_zero, List.set_cons_succ])
                refine wpAnyH_takeL 3 (v := ?_) (by rfl) (by kernel_rfl) (by kernel_rfl) (by kernel_rfl) (fun _ _ _ h => h) (by rfl) ?_ (by assumption) ?_; rotate_left; (next => (intro w' hSw; (try dsimp only at hSw); go_simp; (try with_reducible rfl))); (try simp only [Act.put, List.setIfInBounds_toArray, List.set_cons_zero, List.set_cons_succ])
                refine wpAnyH_takeL 4 (v := ?_) (by rfl) (by kernel_rfl) (by kernel_rfl) (by kernel_rfl) (fun _ _ _ h => h) (by rfl) ?_ (by assumption) ?_; rotate_left; (next => (intro w' hSw; (try dsimp only at hSw); go_simp; (try with_reducible rfl))); (try simp only [Act.put, List.setIfInBounds_toArray, List.set_cons_zero, List.set_cons_succ])
                refine wpAnyH_takeL 5 (v := ?_) (by rfl) (by kernel_rfl) (by kernel_rfl) (by kernel_rfl) (fun _ _ _ h => h) (by rfl) ?_ (by assumption) ?_; rotate_left; (next => (intro w' hSw; (try dsimp only at hSw); go_simp; (try with_reducible rfl))); (try simp only [Act.put, List.setIfInBounds_toArray, List.set_cons_zero, List.set_cons_succ])
                refine wpAnyH_takeL 7 (v := ?_) (by rfl) (by kernel_rfl) (by kernel_rfl) (by kernel_rfl) (fun _ _ _ h => h) (by rfl) ?_ (by assumption) ?_; rotate_left; (next => (intro w' hSw; (try dsimp only at hSw); go_simp; (try with_reducible rfl))); (try simp only [Act.put, List.setIfInBounds_toArray, List.set_cons_zero, List.set_cons_succ])
                refine wpAnyH_takeL 8 (v := ?_) (by rfl) (by kernel_rfl) (by kernel_rfl) (by kernel_rfl) (fun _ _ _ h => h) (by rfl) ?_ (by assumption) ?_; rotate_left; (next => (intro w' hSw; (try dsimp only at hSw); go_simp; (try with_reducible rfl))); (try simp only [Act.put, List.setIfInBounds_toArray, List.set_cons_zero, List.set_cons_succ])
                refine wpAnyH_takeL 9 (v := ?_) (by rfl) (by kernel_rfl) (by kernel_rfl) (by kernel_rfl) (fun _ _ _ h => h) (by rfl) ?_ (by assumption) ?_; rotate_left; (next => (intro w' hSw; (try dsimp only at hSw); go_simp; (try with_reducible rfl))); (try simp only [Act.put, List.setIfInBounds_toArray, List.set_cons_zero, List.set_cons_succ])
                refine wpAnyH_takeL 10 (v := ?_) (by rfl) (by kernel_rfl) (by kernel_rfl) (by kernel_rfl) (fun _ _ _ h => h) (by rfl) ?_ (by assumption) ?_; rotate_left; (next => (intro w' hSw; (try dsimp only at hSw); go_simp; (try with_reducible rfl))); (try simp only [Act.put, List.setIfInBounds_toArray, List.set_cons_zero, List.set_cons_succ])
                refine wpAnyH_takeL 11 (v := ?_) (by rfl) (by kernel_rfl) (by kernel_rfl) (by kernel_rfl) (fun _ _ _ h => h) (by rfl) ?_ (by assumption) ?_; rotate_left; (next => (intro w' hSw; (try dsimp only at hSw); go_simp; (try with_reducible rfl))); (try simp only [Act.put, List.setIfInBounds_toArray, List.set_cons_zero, List.set_cons_succ])
                refine wpAnyH_oneL 6 (by rfl) (by kernel_rfl) (by rfl) (fun K hK => ?_); go_simp
                have q19 := D19.drew.alloc (.cells #[.int .i64 (j4 : Nat), .int .i64 sa4, .slice A5 xl4 cap5] 46)
                have q18 := D18.drew.alloc (.cells #[.int .i64 (j4 : Nat), .int .i64 sa4, .slice A5 xl4 cap5] 46)
                have qb := HR5.out.2.2.1.drew.alloc (.cells #[.int .i64 (j4 : Nat), .int .i64 sa4, .slice A5 xl4 cap5] 46)
                refine hK.out _ _ ?_ (fun hHeld => ?_); (next => (exact ⟨q19, q18, qb⟩)); clear hK K; (try simp only [Act.put, List.setIfInBounds_toArray, List.set_cons_zero, List.set_cons_succ])
                refine wpAnyH_oneL 12 (by rfl) (by kernel_rfl) (by rfl) (fun K hK => ?_); go_simp
                have hsm := same_one (some ⟨W5.heap.size, 0, none⟩) (some ⟨g4, kk * 3, none⟩) 1 (icap - kk) ⟨(j4 : Int), sa4, A5, cap5, xs4⟩ t (W5.alloc (.cells #[.int .i64 (j4 : Nat), .int .i64 sa4, .slice A5 xl4 cap5] 46)).drew
                  (Seen.new (Blk.new _ _ _).drew HROW4.out.1 (HROW4.out.2.1.rds.fr (((Fr.refl [] W5).alloc _).drew) (by simp)) (by have := HROW4.out.1; omega))
                  ((HR5.out.2.2.2.2.2.2.2.2.1.fr0 (((Fr.refl [] W5).alloc _).drew)).one HR5.out.2.2.2.1 (by rw [HR5.out.2.2.2.2.2.2.1]; have := HROW4.out.1; omega))
                  (by simp only [Sh.key, HR5.out.2.2.2.2.1, HR5.out.2.2.2.2.2.1, HR5.out.2.2.2.2.2.2.1])
                go_at_call 18
                (with_reducible refine hsm.mono ?_)
                rintro rr w9 ⟨rfl, nq2, hw9⟩
                dsimp only
                have F9 : Fr [] W5 w9 := by rw [hw9]; exact (((Fr.refl _ _).alloc _).drew).drewN _
                clear hsm hw9 q19 q18 qb
                have q19 := D19.fr F9 (by simp)
                have q18 := D18.fr F9 (by simp)
                have qb := HR5.out.2.2.1.fr F9 (by simp)
                refine hK.out _ _ ?_ (fun hHeld => ?_); (next => (exact ⟨q19, q18, qb⟩)); clear hK K; (try simp only [Act.put, List.setIfInBounds_toArray, List.set_cons_zero, List.set_cons_succ])
                refine wpAnyH_takeL 13 (v := ?_) (by rfl) (by kernel_rfl) (by kernel_rfl) (by kernel_rfl) (fun _ _ _ h => h) (by rfl) ?_ (by assumption) ?_; rotate_left; (next => (intro w' hSw; (try dsimp only at hSw); go_simp; (try with_reducible rfl))); (try simp only [Act.put, List.setIfInBounds_toArray, List.set_cons_zero, List.set_cons_succ])
                refine wpAnyH_takeL 14 (v := ?_) (by rfl) (by kernel_rfl) (by kernel_rfl) (by kernel_rfl) (fun _ _ _ h => h) (by rfl) ?_ (by assumption) ?_; rotate_left; (next => (intro w' hSw; (try dsimp only at hSw); go_simp; (try with_reducible rfl))); (try simp only [Act.put, List.setIfInBounds_toArray, List.set_cons_zero, List.set_cons_succ])
                refine wpAnyH_done (by kernel_rfl) ?_ _
                have y2 := qb.cell' (i := 2) rfl
                have hsp := spoil_any A5 cap5 221 xl4 xs4 w9 (by have := HROW4.out.2.1.fr F9 (by simp); rw [HROW4.out.1] at this; exact this) (by omega)
                have HSP := Lib.hid hsp
                clear hsp hHeld q18 qb D18 D19 iS r18 r18' r19 r19' rb rb'
                gi_upto_region 38 with (gi_at_call 19; refine (CallsIn.inRound l2 (callsIn_wide.2 HSP.out)).mono ?_; rintro rr w10' ⟨rfl, hf10⟩)
                have r10 := HR5.out.1.past (HR5.out.2.1.fr0 F9) hf10 HROW4.out.2.2.1
                have F10 : Fr (fpOf A5) W5 w10' := (F9.mono (by simp)).trans hf10
                have hlt5 : ∀ x ∈ fpOf A5, A4.heap.size ≤ x := HROW4.out.2.2.1
                have c2 : Blk w10' tj 3 [.int .i64 (kk : Nat)] := HR5.out.2.2.2.2.2.2.2.1.fr F10 (fun hm => by have := hlt5 _ hm; have := HR5.out.2.2.2.2.2.2.2.2.2.2.1.lt; omega)
                have c3 := HR5.out.2.2.2.2.2.2.2.2.1.fr F10 (fun x hx hm => by have := hlt5 _ hm; have := HR5.out.2.2.2.2.2.2.2.2.2.2.2.1.row.lt x hx; omega) (fun s hs x hx hm => by have := hlt5 _ hm; have := (HR5.out.2.2.2.2.2.2.2.2.2.2.2.1.data s hs).lt x hx; omega)
                have d20 : w10'.cell? ⟨tj, 0, none⟩ = some (.int .i64 (kk : Nat)) := c2.cell 0
                have z20 := c2.frozen 0
                have HX := Lib.hid (And.intro r10 (And.intro F10 (And.intro c2 c3)))
                clear r10 F10 hlt5 c2 c3 hf10 y2 q19 F9
                gi_wp2_with fail
                obtain ⟨r10, F10, c2, c3⟩ := HX.out
                obtain ⟨_, _, htjB, _⟩ := HV.out
                have hz : Fr [tj] w10' (w10'.setCell ⟨tj, 0, none⟩ (.int .i64 ((kk : Int) + 1))) := (Fr.refl _ _).setCell' (.inl (by simp))
                refine ⟨[tj], (F10.mono (fun x hx => List.mem_append_right _ (HROW4.out.2.2.2 x hx))).setCell' (.inl (List.mem_append_left _ List.mem_cons_self)), ⟨rfl, r10.other c2 htjB htji htj0 hz, ?_, c3.fr hz (fun x hx hm => ?_) (fun s hs x hx hm => ?_), ?_⟩, fun x hx => .inl (List.mem_append_left _ hx)⟩
                · rw [show (((kk + 1 : Nat)) : Int) = (kk : Int) + 1 from by omega]
                  exact c2.set_ 0 _
                · simp only [List.mem_singleton] at hm
                  exact c3.row.ne_blk c2 (by decide) x hx hm
                · simp only [List.mem_singleton] at hm
                  exact (c3.data s hs).ne_blk c2 (by decide) x hx hm
                · have hA4 := HR5.out.2.2.2.2.2.2.2.2.2.2.2.2.size
                  exact (HR5.out.2.2.2.2.2.2.2.2.2.1.trans' F10 (fun x hx => .inr (by have := HROW4.out.2.2.1 x hx; omega))).setCell' (.inr htj2)
              case hdone2 =>
                rintro F W' ⟨rfl, a1, a2, a3, a4⟩
                obtain ⟨r13, hBVt, htjB, htji, hmv, e21, hit13, hio, G13, hsb, hQb, hjb, hiter⟩ := HV.out
                have d22 : W'.cell? ⟨tj, 0, none⟩ = some (.int .i64 (gl2.length : Nat)) := a2.cell 0
                have d21 := a1.bx.cell e21
                rw [hill] at d21
                have d19' : W'.cell? ⟨ti, 0, none⟩ = some (.int .i64 (k : Nat)) := a1.i.cell 0
                have z19 := a1.i.frozen 0
                have ene : ((gl2.length : Int) != (gl2.length : Int)) = false := by simp
                have HW := Lib.hid (And.intro a1 (And.intro a4 (And.intro hsb hmv)))
                clear a1 a2 a3 a4 r13 hBVt htjB htji hmv e21 hit13 hio G13 hsb hQb hjb hiter
                simp only [Exit.inBlock]
                gi_wp2_with fail
                obtain ⟨a1, a4, hsb, hmv⟩ := HW.out
                have a1' : Rg w n BZ w6.heap.size (some ⟨g, 0, none⟩) wcap wl b S.b r Z.r ti k W' B3.shut S3 R3 Z3 := ⟨a1.q, fun p hp => a1.bx p (hmv p hp), a1.i, a1.want, a1.wo, a1.eb, a1.es, a1.er, a1.ez⟩
                have ht := a1'.tick HR8.out.2.2.1 (by omega) (k + 1)
                rw [show (((k + 1 : Nat)) : Int) = (k : Int) + 1 from by omega] at ht
                refine ⟨ti :: fpQ B3.shut S3 R3 Z3, a4.setCell' (.inl (List.mem_append_left _ List.mem_cons_self)), ⟨B3.shut, S3, R3, Z3, ht, rfl⟩, fun x hx => ?_⟩
                rcases List.mem_cons.1 hx with rfl | hx
                · exact .inl (List.mem_append_left _ List.mem_cons_self)
                · exact (hsb x (fpQ_shut hx)).imp (fun h => List.mem_append_left _ (List.mem_cons_of_mem _ h)) id
            · have tlt : decide (k < Ds.length) = false := by simpa using hlt
              have tlt2 : decide ((k : Int) < (Ds.length : Int)) = false := by simpa using hlt
              have z19 := HS.out.1.i.frozen 0
              gi_wp2_with fail
              obtain ⟨r10, F10, _⟩ := HS.out
              have ht := r10.tick HR8.out.2.2.1 (by omega) (k + 1)
              rw [show (((k + 1 : Nat)) : Int) = (k : Int) + 1 from by omega] at ht
              refine ⟨ti :: fpQ B1 S1 R1 Z1, (F10.mono (fun x hx => List.mem_append_right _ (HROW.out.2.2.2 x hx))).setCell' (.inl (List.mem_append_left _ List.mem_cons_self)), ⟨B1, S1, R1, Z1, ht, rfl⟩, fun x hx => .inl (List.mem_append_left _ hx)⟩
          case hdone =>
            rintro D F W hD hDF ⟨B1, S1, R1, Z1, hr, rfl⟩ hK
            obtain ⟨e6, e7, e8, e9, e11, e15, ebb, eab, e16, e17, e18⟩ := HE.out
            have d19 : W.cell? ⟨ti, 0, none⟩ = some (.int .i64 (gl.length : Nat)) := hr.i.cell 0
            have d18 := hr.bx.cell e18
            rw [hwll] at d18
            have d9 := hr.bx.cell e9
            have d11 := hr.bx.cell e11
            have d16 := hr.bx.cell e16
            have d17 := hr.bx.cell e17
            have ee : ((gl.length : Int) == (gl.length : Int)) = true := by simp
            obtain ⟨H0, hH0⟩ : ∃ H0 : Shf, H0 = ⟨W.heap.size, 0, 53, [.slice none 0 0, .slice none 0 0, .int .i64 0], none, 0, none, 0, []⟩ := ⟨_, rfl⟩
            have hA0 : H0.At (W.alloc (.cells #[.slice none 0 0, .slice none 0 0, .int .i64 0] 53)) := by
              rw [hH0]
              exact ⟨⟨Blk.new _ _ _, (by show (53 : TypeId) ≠ 32; decide), (by show (53 : TypeId) ≠ 5; decide), rfl, rfl, rfl, Row.nil _ _ _, Row.nil _ _ _, by simp [fpOf]⟩, (by show ([53, 32] : List TypeId).all (fun t => !([77, 81, 5, 91, 46] : List TypeId).contains t) = true; decide), by simp⟩
            have hal1 := alike_any B1 R1 H0 _ (hr.q.hB.fr0 ((Fr.refl _ _).alloc _)) (hr.q.hR.fr0 ((Fr.refl _ _).alloc _)) (by rw [hr.q.bn]; exact hr.q.oR) hA0 (by rw [hH0]; simp)
            rw [hr.eb, hr.er] at hal1
            have hown : ∀ x ∈ H0.own, W.heap.size ≤ x := by
              rw [hH0]; intro x hx
              simp [Shf.own, fpOf] at hx
              omega
            have hal2 := fun (w10 : World) (H1 : Shf) (new : List Ent) (hn1 : new.length = B1.n) (hL : Laid (W.alloc (.cells #[.slice none 0 0, .slice none 0 0, .int .i64 0] 53)) w10 H0 H1 new) => alike_any S1 Z1 H1 w10
              ((hr.q.hS.fr0 ((Fr.refl _ _).alloc _)).fr hL.fr (hA0.off_boo (hr.q.hS.fr0 ((Fr.refl _ _).alloc _)))) ((hr.q.hZ.fr0 ((Fr.refl _ _).alloc _)).fr hL.fr (hA0.off_rbo (hr.q.hZ.fr0 ((Fr.refl _ _).alloc _)))) (by rw [hr.q.sn]; exact hr.q.oZ) hL.at_ (by
                rw [hL.es, hH0, List.nil_append, hn1]
                have := hr.q.bn
                omega)
            rw [hr.es, hr.ez] at hal2
            have hd0 : H0.d = W.heap.size := by rw [hH0]
            have ho0 : H0.off = 0 := by rw [hH0]
            rw [hd0, ho0] at hal1
            have HA := Lib.hid (And.intro hal1 (And.intro hal2 (And.intro hown (And.intro hd0 ho0))))
            have HRr := Lib.hid (And.intro hr hK)
            have fW : Fr [] W (W.alloc (.cells #[.slice none 0 0, .slice none 0 0, .int .i64 0] 53)) := (Fr.refl _ _).alloc _
            have v19 := fW.cell (by simp) d19
            have v18 := fW.cell (by simp) d18
            have v9 := fW.cell (by simp) d9
            have v11 := fW.cell (by simp) d11
            clear hal1 hal2 hown hH0 hA0 hd0 ho0 hr hK d19 d18 d9 d11
            simp only [Exit.inBlock]
            go_wp2_with fail
            refine HA.out.1.mono ?_
            rintro rr w10 ⟨rfl, H1, new1, hL1, hn1⟩
            have f10 : Fr [] W w10 := fW.trans' hL1.fr (fun x hx => .inr (HA.out.2.2.1 x hx))
            have y16 := f10.cell (by simp) d16
            have y17 := f10.cell (by simp) d17
            have hal := HA.out.2.1 w10 H1 new1 (hn1.trans rfl) hL1
            rw [hL1.d, hL1.off, HA.out.2.2.2.1, HA.out.2.2.2.2] at hal
            have HAL := Lib.hid hal
            have HL1 := Lib.hid hL1
            clear hal hL1 v19 v18 v9 v11 d16 d17
            go_wp2_with fail
            refine HAL.out.mono ?_
            rintro rr w11 ⟨rfl, H2, new2, hL2, hn2⟩
            have f11 : Fr [] W w11 := f10.trans' hL2.fr (fun x hx => (HL1.out.own x hx).elim (fun h => .inr (HA.out.2.2.1 x h)) (fun h => .inr (by simp at h; omega)))
            obtain ⟨hr, hK⟩ := HRr.out
            have b8 : Blk w11 (w.heap.size + 2) 4 [.bool false] := (hr.bx _ e8).fr f11 (by simp)
            have d8 : w11.cell? ⟨w.heap.size + 2, 0, none⟩ = some (.bool false) := b8.cell 0
            have z8 := b8.frozen 0
            clear HAL HA hL2 hn2 hn1 y16 y17
            go_wp2
            have hne : D ≠ w.heap.size + 2 := by have := (HR8.out.1.bx _ e8).lt; simp at this; omega
            have hK2 : (w11.setCell ⟨w.heap.size + 2, 0, none⟩ (.bool true)).heap[D]? = some (.deferred (some [])) := (Below.heap_setCell w11 ⟨w.heap.size + 2, 0, none⟩ (.bool true) D hne).trans (f11.obj (by simp) hK)
            have hnc : NC w8.heap.size (w11.setCell ⟨w.heap.size + 2, 0, none⟩ (.bool true)) ((w11.setCell ⟨w.heap.size + 2, 0, none⟩ (.bool true)).putObj D (.deferred none)) := NC.putObj hD hK2 rfl
            have c6 := ((b8.set_ 0 (.bool true)).nc hnc).cell 0
            refine ⟨by simp, .inl ⟨_, _, rfl, run_takeDeferred hK2, ?_⟩⟩
            refine ⟨.bool true, ?_, rfl, ((hr.q.fr.trans f11).setCell' (.inr (by omega))).nc hnc hw08⟩
            simp at c6
            simp [results, Try.f4, go_sem, c6]
end Go.Proofs.Ytaicpgkoailnkaa
