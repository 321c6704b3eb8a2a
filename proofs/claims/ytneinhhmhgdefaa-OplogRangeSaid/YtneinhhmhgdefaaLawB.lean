/- The law OplogRange where there is a room. -/
import Derived.Laws.EntriesVeiled
import Derived.Sort.QuietIn
import Derived.Sort.CutIn
import Derived.Test.YtneinhhmhgdefaaLawA
namespace Go.Proofs.Ytneinhhmhgdefaa
open Go.RowKit Go.Shelf

/-- Boxes: blocks of one cell each. -/
def Boxes (W : World) (l : List (Nat × TypeId × Value)) : Prop := ∀ p ∈ l, Blk W p.1 p.2.1 [p.2.2]
theorem Boxes.fr {W W' : World} {l : List (Nat × TypeId × Value)} (h : Boxes W l) {S : List Nat} (hf : Fr S W W') (hd : ∀ p ∈ l, p.1 ∉ S) : Boxes W' l := fun p hp => (h p hp).fr hf (hd p hp)
theorem Boxes.nc {n₀ : Nat} {W W' : World} {l : List (Nat × TypeId × Value)} (h : Boxes W l) (hn : NC n₀ W W') : Boxes W' l := fun p hp => (h p hp).nc hn
theorem Boxes.cell {W : World} {l : List (Nat × TypeId × Value)} (h : Boxes W l) {b : Nat} {t : TypeId} {v : Value} (hm : (b, t, v) ∈ l) : W.cell? ⟨b, 0, none⟩ = some v := (h _ hm).cell 0
theorem Boxes.free {W : World} {l : List (Nat × TypeId × Value)} (h : Boxes W l) {b : Nat} {t : TypeId} {v : Value} (hm : (b, t, v) ∈ l) : W.frozen? ⟨b, 0, none⟩ = false := (h _ hm).frozen 0
theorem Boxes.lt {W : World} {l : List (Nat × TypeId × Value)} (h : Boxes W l) {b : Nat} {t : TypeId} {v : Value} (hm : (b, t, v) ∈ l) : b < W.heap.size := (h _ hm).lt
theorem Boxes.drew {W : World} {l : List (Nat × TypeId × Value)} (h : Boxes W l) : Boxes W.drew l := h

theorem RLog.nc {n₀ : Nat} {w w' : World} {r n base : Nat} {L : List Ent} {S : List Nat} (h : RLog w r n base L S) (hn : NC n₀ w w') : RLog w' r n base L S := by
  obtain ⟨h1, h2, h3, h4, A, cap, h5, h6, rfl⟩ := h
  exact ⟨h1, h2, h3, h4, A, cap, h5.nc hn, h6.nc hn, rfl⟩

/-- What has been added, one by one. -/
def addAll (n base : Nat) (L : List Ent) : List Ent → List Ent
  | [] => L
  | e :: r => addAll n base (addL n base L e) r
theorem addAll_snoc (n base : Nat) (L M : List Ent) (e : Ent) : addAll n base L (M ++ [e]) = addL n base (addAll n base L M) e := by
  induction M generalizing L with
  | nil => rfl
  | cons x M ih => exact ih _

/-- The blocks of S are none of F, and none below n. -/
def Away (S F : List Nat) (n : Nat) : Prop := ∀ x ∈ S, x ∉ F ∧ n ≤ x

theorem eql_fn_nil (a : Value) (W : World) : (binOp .eql 32 (.func (.func 27) #[] #[a]) .nilFunc).run Try.prog W = .ok (.bool false) W := by kernel_rfl

attribute [local go_sem] Oper.semAt_some

set_option maxRecDepth 100000 in
set_option maxHeartbeats 4000000 in
theorem range_good (n : Nat) (hn0 : 0 < n) (hn : n ≤ 64) (A1 A2 : Option Addr) (M1 : List Ent) (c1 c2 : Nat) (Ds : List Deed) (w : World) (h1 : Rds w A1 (flat M1)) (hm1 : M1.length * 72 ≤ 140737488351232) (hD : Deeds w A2 Ds) :
    Calls Try.prog 3 #[.int .i64 (n : Int), .slice A1 M1.length c1, .slice A2 Ds.length c2] w fun r w' => r = .returned (.bool true) ∧ Fr [] w w' := by
  have H1 := Lib.hid h1
  have DD := Lib.hid hD
  clear h1 hD
  refine (callsIn_wide (n := 0)).1 (callsIn_of_wp_marks Try.func3 rfl trivial (wpIn_wide.2 ?_) rfl)
  simp only [Try.ntmps3, List.size_toArray, List.length_cons, List.length_nil, Nat.reduceAdd, Nat.reduceSub, Array.replicate_succ, Array.replicate_zero, List.push_toArray, List.append_toArray, List.nil_append, List.cons_append]
  go_wp2_with fail
  refine (New_good n _ hn0 hn).mono ?_
  rintro r w1 ⟨bx, bp, rfl, hbx, hbp, hx1, hf1⟩
  simp only [World.size_alloc] at hbx hbp
  have b5 : Blk w1 w.heap.size 23 [.slice A2 Ds.length c2] := Blk.fr ((Blk.new _ _ _).alloc _) hf1 (by simp)
  have b6 : Blk w1 (w.heap.size + 1) 4 [.bool false] := Blk.fr (Blk.new' (by simp)) hf1 (by simp)
  have s1 : w.heap.size + 2 ≤ w1.heap.size := by have := hf1.size; simp at this; omega
  obtain ⟨hbx1, hbp1, hbxp⟩ := hx1.lt
  go_wp2_with fail
  refine (rNew_good n _ hn0 hn).mono ?_
  rintro r w2 ⟨ry, rfl, hry, hy2, hf2⟩
  simp only [World.size_alloc] at hry
  have b7 : Blk w2 w1.heap.size 24 [.pointer (some ⟨bx, 0, none⟩)] := Blk.fr (Blk.new _ _ _) hf2 (by simp)
  have b5' := (b5.alloc (.cells #[.pointer (some ⟨bx, 0, none⟩)] 24)).fr hf2 (by simp)
  have b6' := (b6.alloc (.cells #[.pointer (some ⟨bx, 0, none⟩)] 24)).fr hf2 (by simp)
  have s2 : w1.heap.size + 1 ≤ w2.heap.size := by have := hf2.size; simp at this; omega
  have hx2 := (hx1.fr ((Fr.refl [] w1).alloc (.cells #[.pointer (some ⟨bx, 0, none⟩)] 24)) (by simp) (by simp)).fr hf2 (by simp) (by simp)
  have hfw2 : Fr [] w w2 := ((((((Fr.refl [] w).alloc _).alloc _).trans hf1).alloc _).trans hf2)
  have hry1 := hy2.lt ry (by simp)
  clear b5 b6 hx1 hf1 hf2
  have k7 : w2.cell? ⟨w1.heap.size, 0, none⟩ = some (.pointer (some ⟨bx, 0, none⟩)) := b7.cell 0
  have s7 := b7.lt
  go_wp2_with fail
  refine (All_any bx _).mono ?_
  rintro r w3 ⟨rfl, hb3, hf3⟩
  have hbs3 : Boxes w3 [(w.heap.size, 23, .slice A2 Ds.length c2), (w.heap.size + 1, 4, .bool false), (w1.heap.size, 24, .pointer (some ⟨bx, 0, none⟩)), (w2.heap.size, 28, .pointer (some ⟨ry, 0, none⟩))] := by
    intro p hp
    simp only [List.mem_cons, List.not_mem_nil, or_false] at hp
    rcases hp with rfl | rfl | rfl | rfl
    · exact (b5'.alloc _).fr hf3 (by simp)
    · exact (b6'.alloc _).fr hf3 (by simp)
    · exact (b7.alloc _).fr hf3 (by simp)
    · exact (Blk.new _ _ _).fr hf3 (by simp)
  have hx3 := (hx2.fr ((Fr.refl [] w2).alloc (.cells #[.pointer (some ⟨ry, 0, none⟩)] 28)) (by simp) (by simp)).fr hf3 (by simp) (by simp)
  have hy3 := (hy2.fr ((Fr.refl [] w2).alloc (.cells #[.pointer (some ⟨ry, 0, none⟩)] 28)) (by simp)).fr hf3 (by simp)
  have hfw3 : Fr [] w w3 := (hfw2.alloc _).trans hf3
  have s3 : w2.heap.size + 1 ≤ w3.heap.size := by have := hf3.size; simp at this; omega
  clear b5' b6' b7 hx2 hy2 k7 hf3 hfw2 hb3
  have hnil := fun (W : World) (a : Value) => eql_fn_nil a W
  go_upto_region 7 with fail
  -- the first loop
  have hloop : ∀ k, k < M1.length → ∃ x, M1[k]? = some x := fun k hk => ⟨M1[k], List.getElem?_eq_getElem hk⟩
  have HLOOP := Lib.hid hloop
  clear hloop
  go_wp2
  go_loopw [54] (fun i wr => ∃ (k : Nat) (S : List Nat), k ≤ M1.length ∧ i = .int .i64 k ∧ Boxes wr [(w.heap.size, 23, .slice A2 Ds.length c2), (w.heap.size + 1, 4, .bool false), (w1.heap.size, 24, .pointer (some ⟨bx, 0, none⟩)), (w2.heap.size, 28, .pointer (some ⟨ry, 0, none⟩))]
      ∧ PLog wr bx bp n 0 (addAll n 0 [] (M1.take k)) ∧ RLog wr ry n 0 (addAll n 0 [] (M1.take k)) S ∧ Fr [] w wr ∧ (∀ x ∈ S, w1.heap.size < x ∧ x ≠ w2.heap.size) ∧ w2.heap.size < wr.heap.size) (fun i _ => M1.length - (intOf i).toNat)
  case atStart => exact ⟨0, [ry], Nat.zero_le _, rfl, hbs3, by simpa [addAll] using hx3, by simpa [addAll] using hy3, hfw3, by simp; omega, by omega⟩
  case round =>
    obtain ⟨k, S, hk, rfl, hbs, hx, hy, hfw, hS, hsz⟩ := hrel
    by_cases hlt : k < M1.length
    · obtain ⟨e, he⟩ := HLOOP.out k hlt
      have hne : flat M1 ≠ [] := by
        intro h; have := flat_length M1; rw [h] at this; simp at this; omega
      obtain ⟨ab, ao, rfl, hc⟩ := H1.out.fr hfw (by simp) hne
      obtain ⟨g0, g1, g2, g3, g4, g5, g6⟩ := Rds.ent hc he
      have htk : addAll n 0 [] (M1.take (k + 1)) = addL n 0 (addAll n 0 [] (M1.take k)) e := by
        rw [List.take_succ_eq_append_getElem hlt, addAll_snoc]; rw [List.getElem?_eq_getElem hlt] at he; simp at he; rw [he]
      have HT := Lib.hid htk
      have k0 : (0 : Int) ≤ (k : Int) := by omega
      have k1 : (k : Int) < (M1.length : Int) := by omega
      clear he hne hc htk
      go_upto_region 10 with fail
      have hb7 := hbs _ (show (w1.heap.size, 24, Value.pointer (some ⟨bx, 0, none⟩)) ∈ _ by simp)
      have hb9 := hbs _ (show (w2.heap.size, 28, Value.pointer (some ⟨ry, 0, none⟩)) ∈ _ by simp)
      have hbxn : Blk (wr.alloc (.cells #[.int .i64 e.c, .int .i64 e.n, .int .i64 e.k, .string e.nm, .string e.tx, .int .i64 e.u, .int .i64 e.m] 37)) wr.heap.size 37 [.int .i64 e.c, .int .i64 e.n, .int .i64 e.k, .string e.nm, .string e.tx, .int .i64 e.u, .int .i64 e.m] := Blk.new _ _ _
      have r7 := fun (w' : World) (i : Nat) (hh : Blk w' w1.heap.size 24 [.pointer (some ⟨bx, 0, none⟩)]) => hh.cell i; have r7' := fun (w' : World) (i : Nat) (hh : Blk w' w1.heap.size 24 [.pointer (some ⟨bx, 0, none⟩)]) => hh.frozen i
      have r9 := fun (w' : World) (i : Nat) (hh : Blk w' w2.heap.size 28 [.pointer (some ⟨ry, 0, none⟩)]) => hh.cell i; have r9' := fun (w' : World) (i : Nat) (hh : Blk w' w2.heap.size 28 [.pointer (some ⟨ry, 0, none⟩)]) => hh.frozen i
      have rb := fun (w' : World) (i : Nat) (hh : Blk w' wr.heap.size 37 [.int .i64 e.c, .int .i64 e.n, .int .i64 e.k, .string e.nm, .string e.tx, .int .i64 e.u, .int .i64 e.m]) => hh.cell i; have rb' := fun (w' : World) (i : Nat) (hh : Blk w' wr.heap.size 37 [.int .i64 e.c, .int .i64 e.n, .int .i64 e.k, .string e.nm, .string e.tx, .int .i64 e.u, .int .i64 e.m]) => hh.frozen i
      have hxl := hx.lt
      have hyl := hy.lt
      have hxa : PLog (wr.alloc (.cells #[.int .i64 e.c, .int .i64 e.n, .int .i64 e.k, .string e.nm, .string e.tx, .int .i64 e.u, .int .i64 e.m] 37)).drew bx bp n 0 (addAll n 0 [] (M1.take k)) := hx.fr (S := []) (((Fr.refl _ wr).alloc _).drew) (by simp) (by simp)
      have hya : RLog (wr.alloc (.cells #[.int .i64 e.c, .int .i64 e.n, .int .i64 e.k, .string e.nm, .string e.tx, .int .i64 e.u, .int .i64 e.m] 37)).drew ry n 0 (addAll n 0 [] (M1.take k)) S := hy.fr (T := []) (((Fr.refl _ wr).alloc _).drew) (by simp)
      have h7s := hb7.lt
      have h9s := hb9.lt
      have hbxp : ∀ x ∈ S, x ≠ bx ∧ x ≠ bp := fun x hx => by have := (hS x hx).1; omega
      have D7 := (hb7.alloc (.cells #[.int .i64 e.c, .int .i64 e.n, .int .i64 e.k, .string e.nm, .string e.tx, .int .i64 e.u, .int .i64 e.m] 37)).drew
      have D9 := (hb9.alloc (.cells #[.int .i64 e.c, .int .i64 e.n, .int .i64 e.k, .string e.nm, .string e.tx, .int .i64 e.u, .int .i64 e.m] 37)).drew
      have HXA := Lib.hid (And.intro hxa (And.intro hya (And.intro hS hbxp)))
      have DB := hbxn.drew
      clear hxa hya hS hbxp hbxn g0 g1 g2 g3 g4 g5 g6
      go_region_held3 (fun w' => Blk w' w1.heap.size 24 [.pointer (some ⟨bx, 0, none⟩)] ∧ Blk w' w2.heap.size 28 [.pointer (some ⟨ry, 0, none⟩)] ∧ Blk w' wr.heap.size 37 [.int .i64 e.c, .int .i64 e.n, .int .i64 e.k, .string e.nm, .string e.tx, .int .i64 e.u, .int .i64 e.m]) (simp [*, Blk.alloc, Blk.drew, Blk.drewN, Blk.far'])
        (first
          | (go_at_call 8; (with_reducible refine (Add_any bx bp n 0 _ e _ HXA.out.1).mono ?_); rintro r w5 ⟨rfl, hp5, hf5⟩; have d7 := D7.fr hf5 (by simp; omega); have d9 := D9.fr hf5 (by simp; omega); have db := DB.fr hf5 (by simp; omega))
          | (go_at_call 9; (with_reducible refine (rAdd_any ry n 0 _ S e _ (HXA.out.2.1.fr hf5 (by simpa using HXA.out.2.2.2))).mono ?_); rintro r w6 ⟨rfl, S', hq6, hf6, hs6⟩; have u7 := d7.fr hf6 (fun hm => by have := (HXA.out.2.2.1 _ hm).1; omega); have u9 := d9.fr hf6 (fun hm => by have := (HXA.out.2.2.1 _ hm).2; omega); have ub := db.fr hf6 (fun hm => by have := hyl _ hm; omega)))
      rename_i hHeld
      have hs6 := ‹∀ x ∈ S', x ∈ S ∨ _ ≤ x›
      have hf5 := ‹Fr [bx, bp] _ w5›
      have hf6 := ‹Fr S w5 w6›
      have hp5 := ‹PLog w5 bx bp _ _ _›
      have hq6 := ‹RLog w6 ry _ _ _ S'›
      obtain ⟨hxa, hya, hS, hbxp⟩ := HXA.out
      have hfr : Fr [bx, bp] wr w5 := (((Fr.refl _ wr).alloc _).drew).trans hf5
      have hsz5 := hfr.size
      have hfr2 : Fr (bx :: bp :: S) wr w6 := (hfr.mono (S' := bx :: bp :: S) (by simp)).trans (hf6.mono (fun x hx => by simp [hx]))
      have hsz6 := hf6.size
      have hp6 := hp5.fr hf6 (fun hm => (hbxp _ hm).1 rfl) (fun hm => (hbxp _ hm).2 rfl)
      have hnew : ∀ b, b < wr.heap.size → b ∉ (bx :: bp :: S) → b ∉ S' := fun b hb hn hm => (hs6 b hm).elim (fun h => hn (by simp [h])) (fun h => by omega)
      clear d7 d9 db u7 u9 ub hHeld r7 r7' r9 r9' rb rb' D7 D9 DB hb7 hb9
      go_wp2
      go_roundw
      case rel =>
        refine ⟨k + 1, S', hlt, by go_num, ?_, ?_, ?_, ?_, ?_, ?_⟩
        · refine hbs.fr hfr2 ?_
          intro p hp
          simp only [List.mem_cons, List.not_mem_nil, or_false] at hp
          have hh : ∀ x ∈ S, x ≠ w2.heap.size ∧ w1.heap.size < x := fun x hx => ⟨(hS x hx).2, (hS x hx).1⟩
          rcases hp with rfl | rfl | rfl | rfl
          all_goals (simp only [List.mem_cons, not_or]; refine ⟨by omega, by omega, fun hm => ?_⟩; have := hh _ hm; omega)
        · rw [HT.out]; exact hp6
        · rw [HT.out]; exact hq6
        · exact hfw.trans' hfr2 (fun x hx => by
            simp only [List.mem_cons] at hx
            rcases hx with rfl | rfl | hx
            · right; omega
            · right; omega
            · right; have := (hS x hx).1; omega)
        · intro x hx
          rcases hs6 x hx with h | h
          · exact hS x h
          · omega
        · omega
      case measure => simp [intOf]; omega
    · have hkl : k = M1.length := by omega
      subst hkl
      rw [List.take_length] at hx hy
      generalize addAll n 0 [] M1 = L at hx hy
      have HS := Lib.hid hS
      clear hS HLOOP H1 hlt hk hm1 hbs3 hx3 hy3 hfw3 s3 hry1 s1 s7
      have hxl := hx.lt
      have hyl := hy.lt
      have hb7 := hbs _ (show (w1.heap.size, 24, Value.pointer (some ⟨bx, 0, none⟩)) ∈ _ by simp)
      have hb9 := hbs _ (show (w2.heap.size, 28, Value.pointer (some ⟨ry, 0, none⟩)) ∈ _ by simp)
      obtain ⟨S0, hS0⟩ : ∃ S0, S0 = S := ⟨_, rfl⟩
      rw [← hS0] at hy hyl
      have k7 : wr.cell? ⟨w1.heap.size, 0, none⟩ = some (.pointer (some ⟨bx, 0, none⟩)) := hb7.cell 0
      go_upto_region 16 with (go_at_call 7; (with_reducible refine (All_any bx _).mono ?_); rintro r w4 ⟨rfl, hb13, hf4⟩)
      have hbs4 : Boxes (w4.alloc (.cells #[.func (.func 27) #[] #[.pointer (some ⟨wr.heap.size, 0, none⟩)]] 32)) [(w.heap.size, 23, .slice A2 Ds.length c2), (w.heap.size + 1, 4, .bool false), (w1.heap.size, 24, .pointer (some ⟨bx, 0, none⟩)), (w2.heap.size, 28, .pointer (some ⟨ry, 0, none⟩)), (wr.heap.size, 24, .pointer (some ⟨bx, 0, none⟩)), (w4.heap.size, 32, .func (.func 27) #[] #[.pointer (some ⟨wr.heap.size, 0, none⟩)])] := by
        intro p hp
        rw [show ([(w.heap.size, 23, Value.slice A2 Ds.length c2), (w.heap.size + 1, 4, .bool false), (w1.heap.size, 24, .pointer (some ⟨bx, 0, none⟩)), (w2.heap.size, 28, .pointer (some ⟨ry, 0, none⟩)), (wr.heap.size, 24, .pointer (some ⟨bx, 0, none⟩)), (w4.heap.size, 32, .func (.func 27) #[] #[.pointer (some ⟨wr.heap.size, 0, none⟩)])] : List (Nat × TypeId × Value))
          = [(w.heap.size, 23, .slice A2 Ds.length c2), (w.heap.size + 1, 4, .bool false), (w1.heap.size, 24, .pointer (some ⟨bx, 0, none⟩)), (w2.heap.size, 28, .pointer (some ⟨ry, 0, none⟩))] ++ [(wr.heap.size, 24, .pointer (some ⟨bx, 0, none⟩)), (w4.heap.size, 32, .func (.func 27) #[] #[.pointer (some ⟨wr.heap.size, 0, none⟩)])] from rfl, List.mem_append] at hp
        rcases hp with hp | hp
        · exact ((hbs p hp).fr hf4 (by simp)).alloc _
        · simp only [List.mem_cons, List.not_mem_nil, or_false] at hp
          rcases hp with rfl | rfl
          · exact hb13.alloc _
          · exact Blk.new _ _ _
      have hx4 := (hx.fr hf4 (by simp) (by simp)).fr ((Fr.refl [] w4).alloc (.cells #[.func (.func 27) #[] #[.pointer (some ⟨wr.heap.size, 0, none⟩)]] 32)) (by simp) (by simp)
      have hy4 := (hy.fr hf4 (by simp)).fr ((Fr.refl [] w4).alloc (.cells #[.func (.func 27) #[] #[.pointer (some ⟨wr.heap.size, 0, none⟩)]] 32)) (by simp)
      have hfw4 : Fr [] w (w4.alloc (.cells #[.func (.func 27) #[] #[.pointer (some ⟨wr.heap.size, 0, none⟩)]] 32)) := (hfw.trans hf4).alloc _
      have sz4 := hb13.lt
      have sz5 := (hbs4 (w4.heap.size, 32, .func (.func 27) #[] #[.pointer (some ⟨wr.heap.size, 0, none⟩)]) (by simp)).lt
      clear hb13 hf4 hx hy hfw hbs hb7 hb9 k7
      generalize hb13e : w4.heap.size = b13 at *
      generalize w4.alloc (.cells #[.func (.func 27) #[] #[.pointer (some ⟨wr.heap.size, 0, none⟩)]] 32) = w5 at *
      have hb9 := hbs4 _ (show (w2.heap.size, 28, Value.pointer (some ⟨ry, 0, none⟩)) ∈ _ by simp)
      have k9 : w5.cell? ⟨w2.heap.size, 0, none⟩ = some (.pointer (some ⟨ry, 0, none⟩)) := hb9.cell 0
      have ky : w5.cell? ⟨ry, 1, none⟩ = some (.int .i64 (0 : Nat)) := by
        obtain ⟨_, _, _, _, A, cap, hlog, _⟩ := hy4
        exact hlog.cell 1
      go_cut [14, 15] from 70 to 78 (fun s14 s15 wx => ∃ (b14 b15 : Nat) (A : Option Addr) (cap : Nat), s14 = .pointer (some ⟨b14, 0, none⟩) ∧ s15 = .pointer (some ⟨b15, 0, none⟩) ∧ Blk wx b14 3 [.int .i64 0] ∧ Blk wx b15 22 [.slice A L.length cap] ∧ Rds wx A (flat L) ∧ Fr [] w5 wx
        ∧ w5.heap.size ≤ b14 ∧ w5.heap.size ≤ b15 ∧ ∀ x ∈ fpOf A, w5.heap.size ≤ x)
      case first =>
        have r9 := fun (w' : World) (h : Fr [] w5 w') => h.cell (by simp) k9
        have ry1 := fun (w' : World) (h : Fr [] w5 w') => h.cell (by simp) ky
        refine wp_region_noPanic ?_
        refine wp_region_held_drew (S := fun w' => Fr [] w5 w') (by kernel_rfl) ((Fr.refl _ _).drew) (fun hHeld => ?_)
        refine wpAnyH_takeL 0 (v := ?_) (by rfl) (by kernel_rfl) (by kernel_rfl) (by kernel_rfl) (fun _ _ _ h => h) (by rfl) ?_ (by assumption) ?_; rotate_left; (next => (intro w' hSw; (try dsimp only at hSw); go_simp; (try with_reducible rfl))); (try simp only [Act.put, List.setIfInBounds_toArray, List.set_cons_zero, List.set_cons_succ])
        refine wpAnyH_takeL 1 (v := ?_) (by rfl) (by kernel_rfl) (by kernel_rfl) (by kernel_rfl) (fun _ _ _ h => h) (by rfl) ?_ (by assumption) ?_; rotate_left; (next => (intro w' hSw; (try dsimp only at hSw); go_simp; (try with_reducible rfl))); (try simp only [Act.put, List.setIfInBounds_toArray, List.set_cons_zero, List.set_cons_succ])
        refine wpAnyH_takeL 2 (v := ?_) (by rfl) (by kernel_rfl) (by kernel_rfl) (by kernel_rfl) (fun _ _ _ h => h) (by rfl) ?_ (by assumption) ?_; rotate_left; (next => (intro w' hSw; (try dsimp only at hSw); go_simp; (try with_reducible rfl))); (try simp only [Act.put, List.setIfInBounds_toArray, List.set_cons_zero, List.set_cons_succ])
        refine wpAnyH_takeL 3 (v := ?_) (by rfl) (by kernel_rfl) (by kernel_rfl) (by kernel_rfl) (fun _ _ _ h => h) (by rfl) ?_ (by assumption) ?_; rotate_left; (next => (intro w' hSw; (try dsimp only at hSw); go_simp; (try with_reducible rfl))); (try simp only [Act.put, List.setIfInBounds_toArray, List.set_cons_zero, List.set_cons_succ])
        refine wpAnyH_takeL 4 (v := ?_) (by rfl) (by kernel_rfl) (by kernel_rfl) (by kernel_rfl) (fun _ _ _ h => h) (by rfl) ?_ (by assumption) ?_; rotate_left; (next => (intro w' hSw; (try dsimp only at hSw); go_simp; (try with_reducible rfl))); (try simp only [Act.put, List.setIfInBounds_toArray, List.set_cons_zero, List.set_cons_succ])
        refine wpAnyH_ready (rs := [5,9,10]) (by kernel_rfl) (by simp) ?_
        refine AllReadyH_consL 5 (by rfl) (by rfl) (fun K hK => ?_) ?_
        · go_simp
          go_at_call 10
          (with_reducible refine (rClone_any ry n 0 L S0 _ (hy4.fr (T := []) (by assumption) (by simp))).mono ?_)
          rintro r w6 ⟨c, S', rfl, hc, hf6, hs6⟩
          dsimp only
          have F5 : Fr [] w5 w6 := Fr.trans (by assumption) hf6
          have s56 := F5.size
          obtain ⟨q1, q2, q3, q4, A, cap, hlog, hrow, hS⟩ := hc
          have hsz6 := hf6.size
          replace hlog : Blk w6 c 40 [.int .i64 n, .int .i64 0, .slice A L.length cap] := hlog
          have hcl := hlog.lt
          have hcn := hs6 c (by rw [hS]; simp)
          simp at hsz6 hcn
          have rc := fun (w' : World) (h : Blk w' c 40 [.int .i64 n, .int .i64 0, .slice A L.length cap]) => h.cell 2
          have kf := fun b o hb => World.cell?_of_block (a := ⟨b, o, none⟩) (hf6.block b hb (by simp))
          have kz := fun b o hb => World.frozen?_of_block (a := ⟨b, o, none⟩) (hf6.block b hb (by simp))
          have kfa := fun x b o hb => World.cell?_of_block (a := ⟨b, o, none⟩) ((hf6.alloc x).block b hb (by simp))
          have kza := fun x b o hb => World.frozen?_of_block (a := ⟨b, o, none⟩) ((hf6.alloc x).block b hb (by simp))
          have nn1 := fun b hb => Nat.ne_of_lt (Nat.lt_of_lt_of_le (n := b) hb hf6.size)
          have nn2 := fun b hb => Nat.ne_of_gt (Nat.lt_of_lt_of_le (n := b) hb hf6.size)
          refine hK.out _ _ ?_ (fun hHeld => ?_); (next => (exact F5)); clear hK K; (try simp only [Act.put, List.setIfInBounds_toArray, List.set_cons_zero, List.set_cons_succ])
          refine wpAnyH_weaker (S2 := fun w' => Fr [] w5 w' ∧ Blk w' c 40 [.int .i64 n, .int .i64 0, .slice A L.length cap]) (fun _ h => h.1) _ _ _ _ ?_
          have hHeld2 : (fun w' => Fr [] w5 w' ∧ Blk w' c 40 [.int .i64 n, .int .i64 0, .slice A L.length cap]) w6 := ⟨F5, hlog⟩
          refine wpAnyH_takeL 6 (v := ?_) (by rfl) (by kernel_rfl) (by kernel_rfl) (by kernel_rfl) (fun _ _ _ h => h) (by rfl) ?_ (by assumption) ?_; rotate_left; (next => (intro w' hSw; (try dsimp only at hSw); go_simp; (try with_reducible rfl))); (try simp only [Act.put, List.setIfInBounds_toArray, List.set_cons_zero, List.set_cons_succ])
          refine wpAnyH_takeL 7 (v := ?_) (by rfl) (by kernel_rfl) (by kernel_rfl) (by kernel_rfl) (fun _ _ _ h => h) (by rfl) ?_ (by assumption) ?_; rotate_left; (next => (intro w' hSw; (try dsimp only at hSw); go_simp; (try with_reducible rfl))); (try simp only [Act.put, List.setIfInBounds_toArray, List.set_cons_zero, List.set_cons_succ])
          refine wpAnyH_takeL 8 (v := ?_) (by rfl) (by kernel_rfl) (by kernel_rfl) (by kernel_rfl) (fun _ _ _ h => h) (by rfl) ?_ (by assumption) ?_; rotate_left; (next => (intro w' hSw; (try dsimp only at hSw); go_simp; (try with_reducible rfl))); (try simp only [Act.put, List.setIfInBounds_toArray, List.set_cons_zero, List.set_cons_succ])
          refine wpAnyH_ready (rs := [9,10]) (by kernel_rfl) (by simp) ?_
          refine AllReadyH_consL 9 (by rfl) (by rfl) (fun K hK => ?_) ?_
          · go_simp
            refine hK.out _ _ ?_ (fun hHeld => ?_); (next => (refine ⟨?_, ?_⟩; (next => ((repeat' (first | (with_reducible exact Fr.refl _ _) | (with_reducible assumption) | (with_reducible refine Fr.setCell' ?_ ?_) | (with_reducible refine Fr.drewN ?_ _) | (with_reducible refine Fr.drew ?_) | (with_reducible refine Fr.alloc ?_ _))); all_goals (right; (first | omega | (simp; try omega))))); (next => ((repeat' (first | (with_reducible exact hlog) | (with_reducible apply Blk.far') | (with_reducible apply Blk.alloc) | (with_reducible apply Blk.drew))); all_goals (first | omega | (simp; omega)))))); clear hK K; (try simp only [Act.put, List.setIfInBounds_toArray, List.set_cons_zero, List.set_cons_succ])
            refine wpAnyH_oneL 10 (by rfl) (by kernel_rfl) (by rfl) (fun K hK => ?_); go_simp
            refine hK.out _ _ ?_ (fun hHeld => ?_); (next => (refine ⟨?_, ?_⟩; (next => ((repeat' (first | (with_reducible exact Fr.refl _ _) | (with_reducible assumption) | (with_reducible refine Fr.setCell' ?_ ?_) | (with_reducible refine Fr.drewN ?_ _) | (with_reducible refine Fr.drew ?_) | (with_reducible refine Fr.alloc ?_ _))); all_goals (right; (first | omega | (simp; try omega))))); (next => ((repeat' (first | (with_reducible exact hlog) | (with_reducible apply Blk.far') | (with_reducible apply Blk.alloc) | (with_reducible apply Blk.drew))); all_goals (first | omega | (simp; omega)))))); clear hK K; (try simp only [Act.put, List.setIfInBounds_toArray, List.set_cons_zero, List.set_cons_succ])
            refine wpAnyH_oneL 11 (by rfl) (by kernel_rfl) (by rfl) (fun K hK => ?_); go_simp
            refine hK.out _ _ ?_ (fun hHeld => ?_); (next => (refine ⟨?_, ?_⟩; (next => ((repeat' (first | (with_reducible exact Fr.refl _ _) | (with_reducible assumption) | (with_reducible refine Fr.setCell' ?_ ?_) | (with_reducible refine Fr.drewN ?_ _) | (with_reducible refine Fr.drew ?_) | (with_reducible refine Fr.alloc ?_ _))); all_goals (right; (first | omega | (simp; try omega))))); (next => ((repeat' (first | (with_reducible exact hlog) | (with_reducible apply Blk.far') | (with_reducible apply Blk.alloc) | (with_reducible apply Blk.drew))); all_goals (first | omega | (simp; omega)))))); clear hK K; (try simp only [Act.put, List.setIfInBounds_toArray, List.set_cons_zero, List.set_cons_succ])
            refine wpAnyH_oneL 12 (by rfl) (by kernel_rfl) (by rfl) (fun K hK => ?_); go_simp
            refine hK.out _ _ ?_ (fun hHeld => ?_); (next => (refine ⟨?_, ?_⟩; (next => ((repeat' (first | (with_reducible exact Fr.refl _ _) | (with_reducible assumption) | (with_reducible refine Fr.setCell' ?_ ?_) | (with_reducible refine Fr.drewN ?_ _) | (with_reducible refine Fr.drew ?_) | (with_reducible refine Fr.alloc ?_ _))); all_goals (right; (first | omega | (simp; try omega))))); (next => ((repeat' (first | (with_reducible exact hlog) | (with_reducible apply Blk.far') | (with_reducible apply Blk.alloc) | (with_reducible apply Blk.drew))); all_goals (first | omega | (simp; omega)))))); clear hK K; (try simp only [Act.put, List.setIfInBounds_toArray, List.set_cons_zero, List.set_cons_succ])
            refine wpAnyH_done (by kernel_rfl) ?_ _
            refine NoPanic.normal ?_
            go_wp2_with fail
            go_meet
            clear rc kf kz kfa kza nn1 nn2
            refine ⟨_, _, A, cap, rfl, rfl, ?_, ?_, ?_, (by first | assumption | exact (‹_ ∧ _›).1), ?_, ?_, ?_⟩
            · repeat' (first | (with_reducible exact Blk.new _ _ _) | (with_reducible apply Blk.new'; simp; done) | (with_reducible apply Blk.set' (cs := [.int .i64 0])) | (with_reducible apply Blk.far') | (with_reducible apply Blk.alloc) | (with_reducible refine Blk.fr ?_ hf6 List.not_mem_nil) | (with_reducible refine Blk.drew ?_))
              all_goals (first | rfl | omega)
            · repeat' (first | (with_reducible exact Blk.new _ _ _) | (with_reducible apply Blk.new'; simp; done) | (with_reducible apply Blk.set' (cs := [.slice none 0 0])) | (with_reducible apply Blk.far') | (with_reducible apply Blk.alloc) | (with_reducible refine Blk.fr ?_ hf6 List.not_mem_nil) | (with_reducible refine Blk.drew ?_))
              all_goals (first | rfl | omega)
            · refine Row.rds (e := 37) (size := 7) (n := L.length) (cap := cap) ?_
              repeat' (first | (with_reducible exact hrow) | (with_reducible refine Row.far ?_ ?_) | (with_reducible refine Row.alloc ?_ _))
              all_goals (intro hm; have h1 := hrow.lt _ hm; have h2 := hs6 _ (by rw [hS]; exact List.mem_cons_of_mem _ hm); simp at h2; omega)
            · first | omega | (simp; try omega)
            · first | omega | (simp; try omega)
            · intro x hx
              have h2 := hs6 x (by rw [hS]; exact List.mem_cons_of_mem _ hx)
              simp at h2; omega
          refine AllReadyH_consL 10 (by rfl) (by rfl) (fun K hK => ?_) ?_
          · go_simp
            refine hK.out _ _ ?_ (fun hHeld => ?_); (next => (refine ⟨?_, ?_⟩; (next => ((repeat' (first | (with_reducible exact Fr.refl _ _) | (with_reducible assumption) | (with_reducible refine Fr.setCell' ?_ ?_) | (with_reducible refine Fr.drewN ?_ _) | (with_reducible refine Fr.drew ?_) | (with_reducible refine Fr.alloc ?_ _))); all_goals (right; (first | omega | (simp; try omega))))); (next => ((repeat' (first | (with_reducible exact hlog) | (with_reducible apply Blk.far') | (with_reducible apply Blk.alloc) | (with_reducible apply Blk.drew))); all_goals (first | omega | (simp; omega)))))); clear hK K; (try simp only [Act.put, List.setIfInBounds_toArray, List.set_cons_zero, List.set_cons_succ])
            refine wpAnyH_oneL 9 (by rfl) (by kernel_rfl) (by rfl) (fun K hK => ?_); go_simp
            refine hK.out _ _ ?_ (fun hHeld => ?_); (next => (refine ⟨?_, ?_⟩; (next => ((repeat' (first | (with_reducible exact Fr.refl _ _) | (with_reducible assumption) | (with_reducible refine Fr.setCell' ?_ ?_) | (with_reducible refine Fr.drewN ?_ _) | (with_reducible refine Fr.drew ?_) | (with_reducible refine Fr.alloc ?_ _))); all_goals (right; (first | omega | (simp; try omega))))); (next => ((repeat' (first | (with_reducible exact hlog) | (with_reducible apply Blk.far') | (with_reducible apply Blk.alloc) | (with_reducible apply Blk.drew))); all_goals (first | omega | (simp; omega)))))); clear hK K; (try simp only [Act.put, List.setIfInBounds_toArray, List.set_cons_zero, List.set_cons_succ])
            refine wpAnyH_oneL 11 (by rfl) (by kernel_rfl) (by rfl) (fun K hK => ?_); go_simp
            refine hK.out _ _ ?_ (fun hHeld => ?_); (next => (refine ⟨?_, ?_⟩; (next => ((repeat' (first | (with_reducible exact Fr.refl _ _) | (with_reducible assumption) | (with_reducible refine Fr.setCell' ?_ ?_) | (with_reducible refine Fr.drewN ?_ _) | (with_reducible refine Fr.drew ?_) | (with_reducible refine Fr.alloc ?_ _))); all_goals (right; (first | omega | (simp; try omega))))); (next => ((repeat' (first | (with_reducible exact hlog) | (with_reducible apply Blk.far') | (with_reducible apply Blk.alloc) | (with_reducible apply Blk.drew))); all_goals (first | omega | (simp; omega)))))); clear hK K; (try simp only [Act.put, List.setIfInBounds_toArray, List.set_cons_zero, List.set_cons_succ])
            refine wpAnyH_oneL 12 (by rfl) (by kernel_rfl) (by rfl) (fun K hK => ?_); go_simp
            refine hK.out _ _ ?_ (fun hHeld => ?_); (next => (refine ⟨?_, ?_⟩; (next => ((repeat' (first | (with_reducible exact Fr.refl _ _) | (with_reducible assumption) | (with_reducible refine Fr.setCell' ?_ ?_) | (with_reducible refine Fr.drewN ?_ _) | (with_reducible refine Fr.drew ?_) | (with_reducible refine Fr.alloc ?_ _))); all_goals (right; (first | omega | (simp; try omega))))); (next => ((repeat' (first | (with_reducible exact hlog) | (with_reducible apply Blk.far') | (with_reducible apply Blk.alloc) | (with_reducible apply Blk.drew))); all_goals (first | omega | (simp; omega)))))); clear hK K; (try simp only [Act.put, List.setIfInBounds_toArray, List.set_cons_zero, List.set_cons_succ])
            refine wpAnyH_done (by kernel_rfl) ?_ _
            refine NoPanic.normal ?_
            go_wp2_with fail
            go_meet
            clear rc kf kz kfa kza nn1 nn2
            refine ⟨_, _, A, cap, rfl, rfl, ?_, ?_, ?_, (by first | assumption | exact (‹_ ∧ _›).1), ?_, ?_, ?_⟩
            · repeat' (first | (with_reducible exact Blk.new _ _ _) | (with_reducible apply Blk.new'; simp; done) | (with_reducible apply Blk.set' (cs := [.int .i64 0])) | (with_reducible apply Blk.far') | (with_reducible apply Blk.alloc) | (with_reducible refine Blk.fr ?_ hf6 List.not_mem_nil) | (with_reducible refine Blk.drew ?_))
              all_goals (first | rfl | omega)
            · repeat' (first | (with_reducible exact Blk.new _ _ _) | (with_reducible apply Blk.new'; simp; done) | (with_reducible apply Blk.set' (cs := [.slice none 0 0])) | (with_reducible apply Blk.far') | (with_reducible apply Blk.alloc) | (with_reducible refine Blk.fr ?_ hf6 List.not_mem_nil) | (with_reducible refine Blk.drew ?_))
              all_goals (first | rfl | omega)
            · refine Row.rds (e := 37) (size := 7) (n := L.length) (cap := cap) ?_
              repeat' (first | (with_reducible exact hrow) | (with_reducible refine Row.far ?_ ?_) | (with_reducible refine Row.alloc ?_ _))
              all_goals (intro hm; have h1 := hrow.lt _ hm; have h2 := hs6 _ (by rw [hS]; exact List.mem_cons_of_mem _ hm); simp at h2; omega)
            · first | omega | (simp; try omega)
            · first | omega | (simp; try omega)
            · intro x hx
              have h2 := hs6 x (by rw [hS]; exact List.mem_cons_of_mem _ hx)
              simp at h2; omega
          exact AllReadyH.nil
        refine AllReadyH_consL 9 (by rfl) (by rfl) (fun K hK => ?_) ?_
        · go_simp
          refine hK.out _ _ ?_ (fun hHeld => ?_); (next => ((repeat' (first | (with_reducible exact Fr.refl _ _) | (with_reducible assumption) | (with_reducible refine Fr.setCell' ?_ ?_) | (with_reducible refine Fr.drewN ?_ _) | (with_reducible refine Fr.drew ?_) | (with_reducible refine Fr.alloc ?_ _))); all_goals (right; (first | omega | (simp; try omega))))); clear hK K; (try simp only [Act.put, List.setIfInBounds_toArray, List.set_cons_zero, List.set_cons_succ])
          refine wpAnyH_ready (rs := [5,10]) (by kernel_rfl) (by simp) ?_
          refine AllReadyH_consL 5 (by rfl) (by rfl) (fun K hK => ?_) ?_
          · go_simp
            go_at_call 10
            (with_reducible refine (rClone_any ry n 0 L S0 _ (hy4.fr (T := []) (by assumption) (by simp))).mono ?_)
            rintro r w6 ⟨c, S', rfl, hc, hf6, hs6⟩
            dsimp only
            have F5 : Fr [] w5 w6 := Fr.trans (by assumption) hf6
            have s56 := F5.size
            obtain ⟨q1, q2, q3, q4, A, cap, hlog, hrow, hS⟩ := hc
            have hsz6 := hf6.size
            replace hlog : Blk w6 c 40 [.int .i64 n, .int .i64 0, .slice A L.length cap] := hlog
            have hcl := hlog.lt
            have hcn := hs6 c (by rw [hS]; simp)
            simp at hsz6 hcn
            have rc := fun (w' : World) (h : Blk w' c 40 [.int .i64 n, .int .i64 0, .slice A L.length cap]) => h.cell 2
            have kf := fun b o hb => World.cell?_of_block (a := ⟨b, o, none⟩) (hf6.block b hb (by simp))
            have kz := fun b o hb => World.frozen?_of_block (a := ⟨b, o, none⟩) (hf6.block b hb (by simp))
            have kfa := fun x b o hb => World.cell?_of_block (a := ⟨b, o, none⟩) ((hf6.alloc x).block b hb (by simp))
            have kza := fun x b o hb => World.frozen?_of_block (a := ⟨b, o, none⟩) ((hf6.alloc x).block b hb (by simp))
            have nn1 := fun b hb => Nat.ne_of_lt (Nat.lt_of_lt_of_le (n := b) hb hf6.size)
            have nn2 := fun b hb => Nat.ne_of_gt (Nat.lt_of_lt_of_le (n := b) hb hf6.size)
            refine hK.out _ _ ?_ (fun hHeld => ?_); (next => (exact F5)); clear hK K; (try simp only [Act.put, List.setIfInBounds_toArray, List.set_cons_zero, List.set_cons_succ])
            refine wpAnyH_weaker (S2 := fun w' => Fr [] w5 w' ∧ Blk w' c 40 [.int .i64 n, .int .i64 0, .slice A L.length cap]) (fun _ h => h.1) _ _ _ _ ?_
            have hHeld2 : (fun w' => Fr [] w5 w' ∧ Blk w' c 40 [.int .i64 n, .int .i64 0, .slice A L.length cap]) w6 := ⟨F5, hlog⟩
            refine wpAnyH_takeL 6 (v := ?_) (by rfl) (by kernel_rfl) (by kernel_rfl) (by kernel_rfl) (fun _ _ _ h => h) (by rfl) ?_ (by assumption) ?_; rotate_left; (next => (intro w' hSw; (try dsimp only at hSw); go_simp; (try with_reducible rfl))); (try simp only [Act.put, List.setIfInBounds_toArray, List.set_cons_zero, List.set_cons_succ])
            refine wpAnyH_takeL 7 (v := ?_) (by rfl) (by kernel_rfl) (by kernel_rfl) (by kernel_rfl) (fun _ _ _ h => h) (by rfl) ?_ (by assumption) ?_; rotate_left; (next => (intro w' hSw; (try dsimp only at hSw); go_simp; (try with_reducible rfl))); (try simp only [Act.put, List.setIfInBounds_toArray, List.set_cons_zero, List.set_cons_succ])
            refine wpAnyH_takeL 8 (v := ?_) (by rfl) (by kernel_rfl) (by kernel_rfl) (by kernel_rfl) (fun _ _ _ h => h) (by rfl) ?_ (by assumption) ?_; rotate_left; (next => (intro w' hSw; (try dsimp only at hSw); go_simp; (try with_reducible rfl))); (try simp only [Act.put, List.setIfInBounds_toArray, List.set_cons_zero, List.set_cons_succ])
            refine wpAnyH_oneL 10 (by rfl) (by kernel_rfl) (by rfl) (fun K hK => ?_); go_simp
            refine hK.out _ _ ?_ (fun hHeld => ?_); (next => (refine ⟨?_, ?_⟩; (next => ((repeat' (first | (with_reducible exact Fr.refl _ _) | (with_reducible assumption) | (with_reducible refine Fr.setCell' ?_ ?_) | (with_reducible refine Fr.drewN ?_ _) | (with_reducible refine Fr.drew ?_) | (with_reducible refine Fr.alloc ?_ _))); all_goals (right; (first | omega | (simp; try omega))))); (next => ((repeat' (first | (with_reducible exact hlog) | (with_reducible apply Blk.far') | (with_reducible apply Blk.alloc) | (with_reducible apply Blk.drew))); all_goals (first | omega | (simp; omega)))))); clear hK K; (try simp only [Act.put, List.setIfInBounds_toArray, List.set_cons_zero, List.set_cons_succ])
            refine wpAnyH_oneL 11 (by rfl) (by kernel_rfl) (by rfl) (fun K hK => ?_); go_simp
            refine hK.out _ _ ?_ (fun hHeld => ?_); (next => (refine ⟨?_, ?_⟩; (next => ((repeat' (first | (with_reducible exact Fr.refl _ _) | (with_reducible assumption) | (with_reducible refine Fr.setCell' ?_ ?_) | (with_reducible refine Fr.drewN ?_ _) | (with_reducible refine Fr.drew ?_) | (with_reducible refine Fr.alloc ?_ _))); all_goals (right; (first | omega | (simp; try omega))))); (next => ((repeat' (first | (with_reducible exact hlog) | (with_reducible apply Blk.far') | (with_reducible apply Blk.alloc) | (with_reducible apply Blk.drew))); all_goals (first | omega | (simp; omega)))))); clear hK K; (try simp only [Act.put, List.setIfInBounds_toArray, List.set_cons_zero, List.set_cons_succ])
            refine wpAnyH_oneL 12 (by rfl) (by kernel_rfl) (by rfl) (fun K hK => ?_); go_simp
            refine hK.out _ _ ?_ (fun hHeld => ?_); (next => (refine ⟨?_, ?_⟩; (next => ((repeat' (first | (with_reducible exact Fr.refl _ _) | (with_reducible assumption) | (with_reducible refine Fr.setCell' ?_ ?_) | (with_reducible refine Fr.drewN ?_ _) | (with_reducible refine Fr.drew ?_) | (with_reducible refine Fr.alloc ?_ _))); all_goals (right; (first | omega | (simp; try omega))))); (next => ((repeat' (first | (with_reducible exact hlog) | (with_reducible apply Blk.far') | (with_reducible apply Blk.alloc) | (with_reducible apply Blk.drew))); all_goals (first | omega | (simp; omega)))))); clear hK K; (try simp only [Act.put, List.setIfInBounds_toArray, List.set_cons_zero, List.set_cons_succ])
            refine wpAnyH_done (by kernel_rfl) ?_ _
            refine NoPanic.normal ?_
            go_wp2_with fail
            go_meet
            clear rc kf kz kfa kza nn1 nn2
            refine ⟨_, _, A, cap, rfl, rfl, ?_, ?_, ?_, (by first | assumption | exact (‹_ ∧ _›).1), ?_, ?_, ?_⟩
            · repeat' (first | (with_reducible exact Blk.new _ _ _) | (with_reducible apply Blk.new'; simp; done) | (with_reducible apply Blk.set' (cs := [.int .i64 0])) | (with_reducible apply Blk.far') | (with_reducible apply Blk.alloc) | (with_reducible refine Blk.fr ?_ hf6 List.not_mem_nil) | (with_reducible refine Blk.drew ?_))
              all_goals (first | rfl | omega)
            · repeat' (first | (with_reducible exact Blk.new _ _ _) | (with_reducible apply Blk.new'; simp; done) | (with_reducible apply Blk.set' (cs := [.slice none 0 0])) | (with_reducible apply Blk.far') | (with_reducible apply Blk.alloc) | (with_reducible refine Blk.fr ?_ hf6 List.not_mem_nil) | (with_reducible refine Blk.drew ?_))
              all_goals (first | rfl | omega)
            · refine Row.rds (e := 37) (size := 7) (n := L.length) (cap := cap) ?_
              repeat' (first | (with_reducible exact hrow) | (with_reducible refine Row.far ?_ ?_) | (with_reducible refine Row.alloc ?_ _))
              all_goals (intro hm; have h1 := hrow.lt _ hm; have h2 := hs6 _ (by rw [hS]; exact List.mem_cons_of_mem _ hm); simp at h2; omega)
            · first | omega | (simp; try omega)
            · first | omega | (simp; try omega)
            · intro x hx
              have h2 := hs6 x (by rw [hS]; exact List.mem_cons_of_mem _ hx)
              simp at h2; omega
          refine AllReadyH_consL 10 (by rfl) (by rfl) (fun K hK => ?_) ?_
          · go_simp
            refine hK.out _ _ ?_ (fun hHeld => ?_); (next => ((repeat' (first | (with_reducible exact Fr.refl _ _) | (with_reducible assumption) | (with_reducible refine Fr.setCell' ?_ ?_) | (with_reducible refine Fr.drewN ?_ _) | (with_reducible refine Fr.drew ?_) | (with_reducible refine Fr.alloc ?_ _))); all_goals (right; (first | omega | (simp; try omega))))); clear hK K; (try simp only [Act.put, List.setIfInBounds_toArray, List.set_cons_zero, List.set_cons_succ])
            refine wpAnyH_oneL 5 (by rfl) (by kernel_rfl) (by rfl) (fun K hK => ?_); go_simp
            go_at_call 10
            (with_reducible refine (rClone_any ry n 0 L S0 _ (hy4.fr (T := []) (by assumption) (by simp))).mono ?_)
            rintro r w6 ⟨c, S', rfl, hc, hf6, hs6⟩
            dsimp only
            have F5 : Fr [] w5 w6 := Fr.trans (by assumption) hf6
            have s56 := F5.size
            obtain ⟨q1, q2, q3, q4, A, cap, hlog, hrow, hS⟩ := hc
            have hsz6 := hf6.size
            replace hlog : Blk w6 c 40 [.int .i64 n, .int .i64 0, .slice A L.length cap] := hlog
            have hcl := hlog.lt
            have hcn := hs6 c (by rw [hS]; simp)
            simp at hsz6 hcn
            have rc := fun (w' : World) (h : Blk w' c 40 [.int .i64 n, .int .i64 0, .slice A L.length cap]) => h.cell 2
            have kf := fun b o hb => World.cell?_of_block (a := ⟨b, o, none⟩) (hf6.block b hb (by simp))
            have kz := fun b o hb => World.frozen?_of_block (a := ⟨b, o, none⟩) (hf6.block b hb (by simp))
            have kfa := fun x b o hb => World.cell?_of_block (a := ⟨b, o, none⟩) ((hf6.alloc x).block b hb (by simp))
            have kza := fun x b o hb => World.frozen?_of_block (a := ⟨b, o, none⟩) ((hf6.alloc x).block b hb (by simp))
            have nn1 := fun b hb => Nat.ne_of_lt (Nat.lt_of_lt_of_le (n := b) hb hf6.size)
            have nn2 := fun b hb => Nat.ne_of_gt (Nat.lt_of_lt_of_le (n := b) hb hf6.size)
            refine hK.out _ _ ?_ (fun hHeld => ?_); (next => (exact F5)); clear hK K; (try simp only [Act.put, List.setIfInBounds_toArray, List.set_cons_zero, List.set_cons_succ])
            refine wpAnyH_weaker (S2 := fun w' => Fr [] w5 w' ∧ Blk w' c 40 [.int .i64 n, .int .i64 0, .slice A L.length cap]) (fun _ h => h.1) _ _ _ _ ?_
            have hHeld2 : (fun w' => Fr [] w5 w' ∧ Blk w' c 40 [.int .i64 n, .int .i64 0, .slice A L.length cap]) w6 := ⟨F5, hlog⟩
            refine wpAnyH_takeL 6 (v := ?_) (by rfl) (by kernel_rfl) (by kernel_rfl) (by kernel_rfl) (fun _ _ _ h => h) (by rfl) ?_ (by assumption) ?_; rotate_left; (next => (intro w' hSw; (try dsimp only at hSw); go_simp; (try with_reducible rfl))); (try simp only [Act.put, List.setIfInBounds_toArray, List.set_cons_zero, List.set_cons_succ])
            refine wpAnyH_takeL 7 (v := ?_) (by rfl) (by kernel_rfl) (by kernel_rfl) (by kernel_rfl) (fun _ _ _ h => h) (by rfl) ?_ (by assumption) ?_; rotate_left; (next => (intro w' hSw; (try dsimp only at hSw); go_simp; (try with_reducible rfl))); (try simp only [Act.put, List.setIfInBounds_toArray, List.set_cons_zero, List.set_cons_succ])
            refine wpAnyH_takeL 8 (v := ?_) (by rfl) (by kernel_rfl) (by kernel_rfl) (by kernel_rfl) (fun _ _ _ h => h) (by rfl) ?_ (by assumption) ?_; rotate_left; (next => (intro w' hSw; (try dsimp only at hSw); go_simp; (try with_reducible rfl))); (try simp only [Act.put, List.setIfInBounds_toArray, List.set_cons_zero, List.set_cons_succ])
            refine wpAnyH_oneL 11 (by rfl) (by kernel_rfl) (by rfl) (fun K hK => ?_); go_simp
            refine hK.out _ _ ?_ (fun hHeld => ?_); (next => (refine ⟨?_, ?_⟩; (next => ((repeat' (first | (with_reducible exact Fr.refl _ _) | (with_reducible assumption) | (with_reducible refine Fr.setCell' ?_ ?_) | (with_reducible refine Fr.drewN ?_ _) | (with_reducible refine Fr.drew ?_) | (with_reducible refine Fr.alloc ?_ _))); all_goals (right; (first | omega | (simp; try omega))))); (next => ((repeat' (first | (with_reducible exact hlog) | (with_reducible apply Blk.far') | (with_reducible apply Blk.alloc) | (with_reducible apply Blk.drew))); all_goals (first | omega | (simp; omega)))))); clear hK K; (try simp only [Act.put, List.setIfInBounds_toArray, List.set_cons_zero, List.set_cons_succ])
            refine wpAnyH_oneL 12 (by rfl) (by kernel_rfl) (by rfl) (fun K hK => ?_); go_simp
            refine hK.out _ _ ?_ (fun hHeld => ?_); (next => (refine ⟨?_, ?_⟩; (next => ((repeat' (first | (with_reducible exact Fr.refl _ _) | (with_reducible assumption) | (with_reducible refine Fr.setCell' ?_ ?_) | (with_reducible refine Fr.drewN ?_ _) | (with_reducible refine Fr.drew ?_) | (with_reducible refine Fr.alloc ?_ _))); all_goals (right; (first | omega | (simp; try omega))))); (next => ((repeat' (first | (with_reducible exact hlog) | (with_reducible apply Blk.far') | (with_reducible apply Blk.alloc) | (with_reducible apply Blk.drew))); all_goals (first | omega | (simp; omega)))))); clear hK K; (try simp only [Act.put, List.setIfInBounds_toArray, List.set_cons_zero, List.set_cons_succ])
            refine wpAnyH_done (by kernel_rfl) ?_ _
            refine NoPanic.normal ?_
            go_wp2_with fail
            go_meet
            clear rc kf kz kfa kza nn1 nn2
            refine ⟨_, _, A, cap, rfl, rfl, ?_, ?_, ?_, (by first | assumption | exact (‹_ ∧ _›).1), ?_, ?_, ?_⟩
            · repeat' (first | (with_reducible exact Blk.new _ _ _) | (with_reducible apply Blk.new'; simp; done) | (with_reducible apply Blk.set' (cs := [.int .i64 0])) | (with_reducible apply Blk.far') | (with_reducible apply Blk.alloc) | (with_reducible refine Blk.fr ?_ hf6 List.not_mem_nil) | (with_reducible refine Blk.drew ?_))
              all_goals (first | rfl | omega)
            · repeat' (first | (with_reducible exact Blk.new _ _ _) | (with_reducible apply Blk.new'; simp; done) | (with_reducible apply Blk.set' (cs := [.slice none 0 0])) | (with_reducible apply Blk.far') | (with_reducible apply Blk.alloc) | (with_reducible refine Blk.fr ?_ hf6 List.not_mem_nil) | (with_reducible refine Blk.drew ?_))
              all_goals (first | rfl | omega)
            · refine Row.rds (e := 37) (size := 7) (n := L.length) (cap := cap) ?_
              repeat' (first | (with_reducible exact hrow) | (with_reducible refine Row.far ?_ ?_) | (with_reducible refine Row.alloc ?_ _))
              all_goals (intro hm; have h1 := hrow.lt _ hm; have h2 := hs6 _ (by rw [hS]; exact List.mem_cons_of_mem _ hm); simp at h2; omega)
            · first | omega | (simp; try omega)
            · first | omega | (simp; try omega)
            · intro x hx
              have h2 := hs6 x (by rw [hS]; exact List.mem_cons_of_mem _ hx)
              simp at h2; omega
          exact AllReadyH.nil
        refine AllReadyH_consL 10 (by rfl) (by rfl) (fun K hK => ?_) ?_
        · go_simp
          refine hK.out _ _ ?_ (fun hHeld => ?_); (next => ((repeat' (first | (with_reducible exact Fr.refl _ _) | (with_reducible assumption) | (with_reducible refine Fr.setCell' ?_ ?_) | (with_reducible refine Fr.drewN ?_ _) | (with_reducible refine Fr.drew ?_) | (with_reducible refine Fr.alloc ?_ _))); all_goals (right; (first | omega | (simp; try omega))))); clear hK K; (try simp only [Act.put, List.setIfInBounds_toArray, List.set_cons_zero, List.set_cons_succ])
          refine wpAnyH_ready (rs := [5,9]) (by kernel_rfl) (by simp) ?_
          refine AllReadyH_consL 5 (by rfl) (by rfl) (fun K hK => ?_) ?_
          · go_simp
            go_at_call 10
            (with_reducible refine (rClone_any ry n 0 L S0 _ (hy4.fr (T := []) (by assumption) (by simp))).mono ?_)
            rintro r w6 ⟨c, S', rfl, hc, hf6, hs6⟩
            dsimp only
            have F5 : Fr [] w5 w6 := Fr.trans (by assumption) hf6
            have s56 := F5.size
            obtain ⟨q1, q2, q3, q4, A, cap, hlog, hrow, hS⟩ := hc
            have hsz6 := hf6.size
            replace hlog : Blk w6 c 40 [.int .i64 n, .int .i64 0, .slice A L.length cap] := hlog
            have hcl := hlog.lt
            have hcn := hs6 c (by rw [hS]; simp)
            simp at hsz6 hcn
            have rc := fun (w' : World) (h : Blk w' c 40 [.int .i64 n, .int .i64 0, .slice A L.length cap]) => h.cell 2
            have kf := fun b o hb => World.cell?_of_block (a := ⟨b, o, none⟩) (hf6.block b hb (by simp))
            have kz := fun b o hb => World.frozen?_of_block (a := ⟨b, o, none⟩) (hf6.block b hb (by simp))
            have kfa := fun x b o hb => World.cell?_of_block (a := ⟨b, o, none⟩) ((hf6.alloc x).block b hb (by simp))
            have kza := fun x b o hb => World.frozen?_of_block (a := ⟨b, o, none⟩) ((hf6.alloc x).block b hb (by simp))
            have nn1 := fun b hb => Nat.ne_of_lt (Nat.lt_of_lt_of_le (n := b) hb hf6.size)
            have nn2 := fun b hb => Nat.ne_of_gt (Nat.lt_of_lt_of_le (n := b) hb hf6.size)
            refine hK.out _ _ ?_ (fun hHeld => ?_); (next => (exact F5)); clear hK K; (try simp only [Act.put, List.setIfInBounds_toArray, List.set_cons_zero, List.set_cons_succ])
            refine wpAnyH_weaker (S2 := fun w' => Fr [] w5 w' ∧ Blk w' c 40 [.int .i64 n, .int .i64 0, .slice A L.length cap]) (fun _ h => h.1) _ _ _ _ ?_
            have hHeld2 : (fun w' => Fr [] w5 w' ∧ Blk w' c 40 [.int .i64 n, .int .i64 0, .slice A L.length cap]) w6 := ⟨F5, hlog⟩
            refine wpAnyH_takeL 6 (v := ?_) (by rfl) (by kernel_rfl) (by kernel_rfl) (by kernel_rfl) (fun _ _ _ h => h) (by rfl) ?_ (by assumption) ?_; rotate_left; (next => (intro w' hSw; (try dsimp only at hSw); go_simp; (try with_reducible rfl))); (try simp only [Act.put, List.setIfInBounds_toArray, List.set_cons_zero, List.set_cons_succ])
            refine wpAnyH_takeL 7 (v := ?_) (by rfl) (by kernel_rfl) (by kernel_rfl) (by kernel_rfl) (fun _ _ _ h => h) (by rfl) ?_ (by assumption) ?_; rotate_left; (next => (intro w' hSw; (try dsimp only at hSw); go_simp; (try with_reducible rfl))); (try simp only [Act.put, List.setIfInBounds_toArray, List.set_cons_zero, List.set_cons_succ])
            refine wpAnyH_takeL 8 (v := ?_) (by rfl) (by kernel_rfl) (by kernel_rfl) (by kernel_rfl) (fun _ _ _ h => h) (by rfl) ?_ (by assumption) ?_; rotate_left; (next => (intro w' hSw; (try dsimp only at hSw); go_simp; (try with_reducible rfl))); (try simp only [Act.put, List.setIfInBounds_toArray, List.set_cons_zero, List.set_cons_succ])
            refine wpAnyH_oneL 9 (by rfl) (by kernel_rfl) (by rfl) (fun K hK => ?_); go_simp
            refine hK.out _ _ ?_ (fun hHeld => ?_); (next => (refine ⟨?_, ?_⟩; (next => ((repeat' (first | (with_reducible exact Fr.refl _ _) | (with_reducible assumption) | (with_reducible refine Fr.setCell' ?_ ?_) | (with_reducible refine Fr.drewN ?_ _) | (with_reducible refine Fr.drew ?_) | (with_reducible refine Fr.alloc ?_ _))); all_goals (right; (first | omega | (simp; try omega))))); (next => ((repeat' (first | (with_reducible exact hlog) | (with_reducible apply Blk.far') | (with_reducible apply Blk.alloc) | (with_reducible apply Blk.drew))); all_goals (first | omega | (simp; omega)))))); clear hK K; (try simp only [Act.put, List.setIfInBounds_toArray, List.set_cons_zero, List.set_cons_succ])
            refine wpAnyH_oneL 11 (by rfl) (by kernel_rfl) (by rfl) (fun K hK => ?_); go_simp
            refine hK.out _ _ ?_ (fun hHeld => ?_); (next => (refine ⟨?_, ?_⟩; (next => ((repeat' (first | (with_reducible exact Fr.refl _ _) | (with_reducible assumption) | (with_reducible refine Fr.setCell' ?_ ?_) | (with_reducible refine Fr.drewN ?_ _) | (with_reducible refine Fr.drew ?_) | (with_reducible refine Fr.alloc ?_ _))); all_goals (right; (first | omega | (simp; try omega))))); (next => ((repeat' (first | (with_reducible exact hlog) | (with_reducible apply Blk.far') | (with_reducible apply Blk.alloc) | (with_reducible apply Blk.drew))); all_goals (first | omega | (simp; omega)))))); clear hK K; (try simp only [Act.put, List.setIfInBounds_toArray, List.set_cons_zero, List.set_cons_succ])
            refine wpAnyH_oneL 12 (by rfl) (by kernel_rfl) (by rfl) (fun K hK => ?_); go_simp
            refine hK.out _ _ ?_ (fun hHeld => ?_); (next => (refine ⟨?_, ?_⟩; (next => ((repeat' (first | (with_reducible exact Fr.refl _ _) | (with_reducible assumption) | (with_reducible refine Fr.setCell' ?_ ?_) | (with_reducible refine Fr.drewN ?_ _) | (with_reducible refine Fr.drew ?_) | (with_reducible refine Fr.alloc ?_ _))); all_goals (right; (first | omega | (simp; try omega))))); (next => ((repeat' (first | (with_reducible exact hlog) | (with_reducible apply Blk.far') | (with_reducible apply Blk.alloc) | (with_reducible apply Blk.drew))); all_goals (first | omega | (simp; omega)))))); clear hK K; (try simp only [Act.put, List.setIfInBounds_toArray, List.set_cons_zero, List.set_cons_succ])
            refine wpAnyH_done (by kernel_rfl) ?_ _
            refine NoPanic.normal ?_
            go_wp2_with fail
            go_meet
            clear rc kf kz kfa kza nn1 nn2
            refine ⟨_, _, A, cap, rfl, rfl, ?_, ?_, ?_, (by first | assumption | exact (‹_ ∧ _›).1), ?_, ?_, ?_⟩
            · repeat' (first | (with_reducible exact Blk.new _ _ _) | (with_reducible apply Blk.new'; simp; done) | (with_reducible apply Blk.set' (cs := [.int .i64 0])) | (with_reducible apply Blk.far') | (with_reducible apply Blk.alloc) | (with_reducible refine Blk.fr ?_ hf6 List.not_mem_nil) | (with_reducible refine Blk.drew ?_))
              all_goals (first | rfl | omega)
            · repeat' (first | (with_reducible exact Blk.new _ _ _) | (with_reducible apply Blk.new'; simp; done) | (with_reducible apply Blk.set' (cs := [.slice none 0 0])) | (with_reducible apply Blk.far') | (with_reducible apply Blk.alloc) | (with_reducible refine Blk.fr ?_ hf6 List.not_mem_nil) | (with_reducible refine Blk.drew ?_))
              all_goals (first | rfl | omega)
            · refine Row.rds (e := 37) (size := 7) (n := L.length) (cap := cap) ?_
              repeat' (first | (with_reducible exact hrow) | (with_reducible refine Row.far ?_ ?_) | (with_reducible refine Row.alloc ?_ _))
              all_goals (intro hm; have h1 := hrow.lt _ hm; have h2 := hs6 _ (by rw [hS]; exact List.mem_cons_of_mem _ hm); simp at h2; omega)
            · first | omega | (simp; try omega)
            · first | omega | (simp; try omega)
            · intro x hx
              have h2 := hs6 x (by rw [hS]; exact List.mem_cons_of_mem _ hx)
              simp at h2; omega
          refine AllReadyH_consL 9 (by rfl) (by rfl) (fun K hK => ?_) ?_
          · go_simp
            refine hK.out _ _ ?_ (fun hHeld => ?_); (next => ((repeat' (first | (with_reducible exact Fr.refl _ _) | (with_reducible assumption) | (with_reducible refine Fr.setCell' ?_ ?_) | (with_reducible refine Fr.drewN ?_ _) | (with_reducible refine Fr.drew ?_) | (with_reducible refine Fr.alloc ?_ _))); all_goals (right; (first | omega | (simp; try omega))))); clear hK K; (try simp only [Act.put, List.setIfInBounds_toArray, List.set_cons_zero, List.set_cons_succ])
            refine wpAnyH_oneL 5 (by rfl) (by kernel_rfl) (by rfl) (fun K hK => ?_); go_simp
            go_at_call 10
            (with_reducible refine (rClone_any ry n 0 L S0 _ (hy4.fr (T := []) (by assumption) (by simp))).mono ?_)
            rintro r w6 ⟨c, S', rfl, hc, hf6, hs6⟩
            dsimp only
            have F5 : Fr [] w5 w6 := Fr.trans (by assumption) hf6
            have s56 := F5.size
            obtain ⟨q1, q2, q3, q4, A, cap, hlog, hrow, hS⟩ := hc
            have hsz6 := hf6.size
            replace hlog : Blk w6 c 40 [.int .i64 n, .int .i64 0, .slice A L.length cap] := hlog
            have hcl := hlog.lt
            have hcn := hs6 c (by rw [hS]; simp)
            simp at hsz6 hcn
            have rc := fun (w' : World) (h : Blk w' c 40 [.int .i64 n, .int .i64 0, .slice A L.length cap]) => h.cell 2
            have kf := fun b o hb => World.cell?_of_block (a := ⟨b, o, none⟩) (hf6.block b hb (by simp))
            have kz := fun b o hb => World.frozen?_of_block (a := ⟨b, o, none⟩) (hf6.block b hb (by simp))
            have kfa := fun x b o hb => World.cell?_of_block (a := ⟨b, o, none⟩) ((hf6.alloc x).block b hb (by simp))
            have kza := fun x b o hb => World.frozen?_of_block (a := ⟨b, o, none⟩) ((hf6.alloc x).block b hb (by simp))
            have nn1 := fun b hb => Nat.ne_of_lt (Nat.lt_of_lt_of_le (n := b) hb hf6.size)
            have nn2 := fun b hb => Nat.ne_of_gt (Nat.lt_of_lt_of_le (n := b) hb hf6.size)
            refine hK.out _ _ ?_ (fun hHeld => ?_); (next => (exact F5)); clear hK K; (try simp only [Act.put, List.setIfInBounds_toArray, List.set_cons_zero, List.set_cons_succ])
            refine wpAnyH_weaker (S2 := fun w' => Fr [] w5 w' ∧ Blk w' c 40 [.int .i64 n, .int .i64 0, .slice A L.length cap]) (fun _ h => h.1) _ _ _ _ ?_
            have hHeld2 : (fun w' => Fr [] w5 w' ∧ Blk w' c 40 [.int .i64 n, .int .i64 0, .slice A L.length cap]) w6 := ⟨F5, hlog⟩
            refine wpAnyH_takeL 6 (v := ?_) (by rfl) (by kernel_rfl) (by kernel_rfl) (by kernel_rfl) (fun _ _ _ h => h) (by rfl) ?_ (by assumption) ?_; rotate_left; (next => (intro w' hSw; (try dsimp only at hSw); go_simp; (try with_reducible rfl))); (try simp only [Act.put, List.setIfInBounds_toArray, List.set_cons_zero, List.set_cons_succ])
            refine wpAnyH_takeL 7 (v := ?_) (by rfl) (by kernel_rfl) (by kernel_rfl) (by kernel_rfl) (fun _ _ _ h => h) (by rfl) ?_ (by assumption) ?_; rotate_left; (next => (intro w' hSw; (try dsimp only at hSw); go_simp; (try with_reducible rfl))); (try simp only [Act.put, List.setIfInBounds_toArray, List.set_cons_zero, List.set_cons_succ])
            refine wpAnyH_takeL 8 (v := ?_) (by rfl) (by kernel_rfl) (by kernel_rfl) (by kernel_rfl) (fun _ _ _ h => h) (by rfl) ?_ (by assumption) ?_; rotate_left; (next => (intro w' hSw; (try dsimp only at hSw); go_simp; (try with_reducible rfl))); (try simp only [Act.put, List.setIfInBounds_toArray, List.set_cons_zero, List.set_cons_succ])
            refine wpAnyH_oneL 11 (by rfl) (by kernel_rfl) (by rfl) (fun K hK => ?_); go_simp
            refine hK.out _ _ ?_ (fun hHeld => ?_); (next => (refine ⟨?_, ?_⟩; (next => ((repeat' (first | (with_reducible exact Fr.refl _ _) | (with_reducible assumption) | (with_reducible refine Fr.setCell' ?_ ?_) | (with_reducible refine Fr.drewN ?_ _) | (with_reducible refine Fr.drew ?_) | (with_reducible refine Fr.alloc ?_ _))); all_goals (right; (first | omega | (simp; try omega))))); (next => ((repeat' (first | (with_reducible exact hlog) | (with_reducible apply Blk.far') | (with_reducible apply Blk.alloc) | (with_reducible apply Blk.drew))); all_goals (first | omega | (simp; omega)))))); clear hK K; (try simp only [Act.put, List.setIfInBounds_toArray, List.set_cons_zero, List.set_cons_succ])
            refine wpAnyH_oneL 12 (by rfl) (by kernel_rfl) (by rfl) (fun K hK => ?_); go_simp
            refine hK.out _ _ ?_ (fun hHeld => ?_); (next => (refine ⟨?_, ?_⟩; (next => ((repeat' (first | (with_reducible exact Fr.refl _ _) | (with_reducible assumption) | (with_reducible refine Fr.setCell' ?_ ?_) | (with_reducible refine Fr.drewN ?_ _) | (with_reducible refine Fr.drew ?_) | (with_reducible refine Fr.alloc ?_ _))); all_goals (right; (first | omega | (simp; try omega))))); (next => ((repeat' (first | (with_reducible exact hlog) | (with_reducible apply Blk.far') | (with_reducible apply Blk.alloc) | (with_reducible apply Blk.drew))); all_goals (first | omega | (simp; omega)))))); clear hK K; (try simp only [Act.put, List.setIfInBounds_toArray, List.set_cons_zero, List.set_cons_succ])
            refine wpAnyH_done (by kernel_rfl) ?_ _
            refine NoPanic.normal ?_
            go_wp2_with fail
            go_meet
            clear rc kf kz kfa kza nn1 nn2
            refine ⟨_, _, A, cap, rfl, rfl, ?_, ?_, ?_, (by first | assumption | exact (‹_ ∧ _›).1), ?_, ?_, ?_⟩
            · repeat' (first | (with_reducible exact Blk.new _ _ _) | (with_reducible apply Blk.new'; simp; done) | (with_reducible apply Blk.set' (cs := [.int .i64 0])) | (with_reducible apply Blk.far') | (with_reducible apply Blk.alloc) | (with_reducible refine Blk.fr ?_ hf6 List.not_mem_nil) | (with_reducible refine Blk.drew ?_))
              all_goals (first | rfl | omega)
            · repeat' (first | (with_reducible exact Blk.new _ _ _) | (with_reducible apply Blk.new'; simp; done) | (with_reducible apply Blk.set' (cs := [.slice none 0 0])) | (with_reducible apply Blk.far') | (with_reducible apply Blk.alloc) | (with_reducible refine Blk.fr ?_ hf6 List.not_mem_nil) | (with_reducible refine Blk.drew ?_))
              all_goals (first | rfl | omega)
            · refine Row.rds (e := 37) (size := 7) (n := L.length) (cap := cap) ?_
              repeat' (first | (with_reducible exact hrow) | (with_reducible refine Row.far ?_ ?_) | (with_reducible refine Row.alloc ?_ _))
              all_goals (intro hm; have h1 := hrow.lt _ hm; have h2 := hs6 _ (by rw [hS]; exact List.mem_cons_of_mem _ hm); simp at h2; omega)
            · first | omega | (simp; try omega)
            · first | omega | (simp; try omega)
            · intro x hx
              have h2 := hs6 x (by rw [hS]; exact List.mem_cons_of_mem _ hx)
              simp at h2; omega
          exact AllReadyH.nil
        exact AllReadyH.nil
      case rest =>
        obtain ⟨b14, b15, A15, cap15, rfl, rfl, h14, h15, hR15, hf5, hb14, hb15, hA15⟩ := hcut
        obtain ⟨w6, rfl⟩ : ∃ w6 : World, w6 = wc := ⟨_, rfl⟩
        obtain ⟨BX, hBX⟩ : ∃ BX : List (Nat × TypeId × Value), BX = [(w.heap.size, 23, .slice A2 Ds.length c2), (w.heap.size + 1, 4, .bool false), (w1.heap.size, 24, .pointer (some ⟨bx, 0, none⟩)), (w2.heap.size, 28, .pointer (some ⟨ry, 0, none⟩)), (wr.heap.size, 24, .pointer (some ⟨bx, 0, none⟩)), (b13, 32, .func (.func 27) #[] #[.pointer (some ⟨wr.heap.size, 0, none⟩)]), (b14, 3, .int .i64 0), (b15, 22, .slice A15 L.length cap15)] := ⟨_, rfl⟩
        have hbs6 : Boxes w6 BX := by
          intro p hp
          rw [hBX] at hp
          rcases List.mem_append.1 (show p ∈ [(w.heap.size, 23, .slice A2 Ds.length c2), (w.heap.size + 1, 4, .bool false), (w1.heap.size, 24, .pointer (some ⟨bx, 0, none⟩)), (w2.heap.size, 28, .pointer (some ⟨ry, 0, none⟩)), (wr.heap.size, 24, .pointer (some ⟨bx, 0, none⟩)), (b13, 32, .func (.func 27) #[] #[.pointer (some ⟨wr.heap.size, 0, none⟩)])] ++ [(b14, 3, .int .i64 0), (b15, 22, .slice A15 L.length cap15)] from hp) with hp | hp
          · exact (hbs4 p hp).fr hf5 (by simp)
          · simp only [List.mem_cons, List.not_mem_nil, or_false] at hp
            rcases hp with rfl | rfl
            · exact h14
            · exact h15
        have hx6 := hx4.fr hf5 (by simp) (by simp)
        have hy6 := hy4.fr hf5 (by simp)
        have hfw6 := hfw4.trans hf5
        have sz6 := hf5.size
        have z14 := h14.lt
        have z15 := h15.lt
        have hm13 : (b13, 32, Value.func (.func 27) #[] #[.pointer (some ⟨wr.heap.size, 0, none⟩)]) ∈ BX := by rw [hBX]; simp
        have HBX := Lib.hid hBX
        have k13 := hbs6.cell hm13
        have k13' := fun o => (Blk.alloc (hbs6 _ hm13) o).cell 0
        simp only [List.getElem?_cons_zero] at k13'
        clear h14 h15 hf5 hbs4 hx4 hy4 hfw4 hb9 k9 ky hBX
        go_wp2_with fail
        have sz7 : w6.heap.size < (w6.alloc (.cells #[.int .i64 0] 3)).heap.size := by simp
        have hbi : Blk (w6.alloc (.cells #[.int .i64 0] 3)) w6.heap.size 3 [.int .i64 0] := Blk.new _ _ _
        have hbs7 : Boxes (w6.alloc (.cells #[.int .i64 0] 3)) BX := hbs6.fr (S := []) ((Fr.refl _ _).alloc _) (by simp)
        have hx7 := hx6.fr (S := []) ((Fr.refl _ _).alloc (.cells #[.int .i64 0] 3)) (by simp) (by simp)
        have hy7 := hy6.fr (T := []) ((Fr.refl _ _).alloc (.cells #[.int .i64 0] 3)) (by simp)
        have hR7 := hR15.fr (S := []) ((Fr.refl _ _).alloc (.cells #[.int .i64 0] 3)) (by simp)
        have hfw7 := hfw6.alloc (.cells #[.int .i64 0] 3)
        have hrl := hR15.lt
        obtain ⟨_, _, hLn, _⟩ := id hx6
        have hbxl : ∀ p ∈ BX, p.1 < w6.heap.size := fun p hp => (hbs6 p hp).lt
        clear hbs6 hx6 hy6 hR15 hfw6 k13 k13'
        generalize hbie : w6.heap.size = bi at *
        generalize hw7 : w6.alloc (.cells #[.int .i64 0] 3) = w7 at *
        have hbr : Blk w7 wr.heap.size 24 [.pointer (some ⟨bx, 0, none⟩)] := hbs7 (wr.heap.size, 24, .pointer (some ⟨bx, 0, none⟩)) (by rw [HBX.out]; simp)
        refine (wpIn_wide (n := 0)).1 ?_
        refine range_outer (gf := 27) (lb := #[.pointer (some ⟨wr.heap.size, 0, none⟩)]) rfl ?eg (given 0 L) ?hps (Fr []) ?hE (All1_iter bx bp wr.heap.size n 0 L w7 hx7 hbr)
          (fun k F W => ∃ (base : Nat) (L' : List Ent) (S' : List Nat), F = bi :: bx :: bp :: S' ∧ Boxes W BX ∧ Blk W bi 3 [.int .i64 k] ∧ PLog W bx bp n base L' ∧ RLog W ry n base L' S' ∧ Rds W A15 (flat L) ∧ Fr [] w W ∧ Away S' (bi :: bx :: bp :: (BX.map (·.1) ++ fpOf A15)) w.heap.size)
          (fun _ _ => False) (bi :: bx :: bp :: S0) ?hJ ?hJx ?h0 ?hF0 ?hround ?hdone ?hstop
        case eg => intro args w'; kernel_rfl
        case hps =>
          intro x hx
          obtain ⟨k, hk, rfl⟩ := List.getElem_of_mem hx
          have hkl : k < L.length := by rw [given_length] at hk; exact hk
          rw [given_get 0 L k L[k] (by simp) hk]
          rfl
        case hE => exact fun A B h j o ho _ => h.obj (by simp) ho
        case hJ =>
          rintro k F A B ⟨base, L', S', rfl, h1, h2, h3, h4, h5, h6, h7⟩ hnc
          refine ⟨base, L', S', rfl, h1.nc hnc, h2.nc hnc, h3.nc hnc, h4.nc hnc, h5.nc hnc, h6.nc hnc (by have := hfw7.size; omega), h7⟩
        case hJx => exact fun _ _ _ h _ => h
        case h0 =>
          intro A B hnc hf
          refine ⟨0, L, S0, rfl, (hbs7.nc hnc).fr hf (by simp), (hbi.nc hnc).fr hf (by simp), (hx7.nc hnc).fr hf (by simp) (by simp), (hy7.nc hnc).fr hf (by simp), (hR7.nc hnc).fr hf (by simp), (hfw7.nc hnc hfw7.size).trans hf, ?_⟩
          intro x hx
          have hx1 := hyl x hx
          rw [hS0] at hx
          have hx2 := HS.out x hx
          refine ⟨fun hm => ?_, by omega⟩
          simp only [List.mem_cons, List.mem_append] at hm
          rcases hm with h8 | h8 | h8 | h8 | h8
          · omega
          · omega
          · omega
          · rw [HBX.out] at h8
            simp only [List.map_cons, List.map_nil, List.mem_cons, List.not_mem_nil, or_false] at h8
            omega
          · have := hA15 x h8; omega
        case hF0 =>
          intro b hb
          simp only [List.mem_cons] at hb
          rcases hb with rfl | rfl | rfl | hb
          · exact sz7
          · omega
          · omega
          · have := hyl b hb; omega
        case hstop => exact fun _ _ _ _ h _ => h.elim
        case hround =>
          rintro l k F W hk hl hlo hlF ⟨base, L', S', rfl, h1, h2, h3, h4, h5, h6, h7⟩
          have hkl : k < L.length := by rw [given_length] at hk; exact hk
          obtain ⟨e, he⟩ : ∃ e, L[k]? = some e := ⟨L[k], List.getElem?_eq_getElem hkl⟩
          rw [given_get 0 L k e he hk, show ((0 : Nat) : Int) + 1 + (k : Int) = 1 + (k : Int) by omega]
          have hwf : ∀ f, Fence.wide.fn f := fun _ => trivial
          have hwd : Fence.wide.depth = none := rfl
          simp only [List.zip_toArray, List.zip_cons_cons, List.zip_nil_right, List.foldl_toArray, List.foldl_cons, List.foldl_nil, List.setIfInBounds_toArray, List.set_cons_zero, List.set_cons_succ]
          gi_wp2
          refine ⟨(Fr.refl _ _).alloc _, fun W2 hnc hszW hlo2 => ?_⟩
          have H1 := (h1.fr (S := []) ((Fr.refl _ _).alloc (.cells #[.int .i64 e.c, .int .i64 e.n, .int .i64 e.k, .string e.nm, .string e.tx, .int .i64 e.u, .int .i64 e.m] 37)) (by simp)).nc hnc
          have H2 := (h2.fr (S := []) ((Fr.refl _ _).alloc (.cells #[.int .i64 e.c, .int .i64 e.n, .int .i64 e.k, .string e.nm, .string e.tx, .int .i64 e.u, .int .i64 e.m] 37)) (by simp)).nc hnc
          have H3 := (h3.fr (S := []) ((Fr.refl _ _).alloc (.cells #[.int .i64 e.c, .int .i64 e.n, .int .i64 e.k, .string e.nm, .string e.tx, .int .i64 e.u, .int .i64 e.m] 37)) (by simp) (by simp)).nc hnc
          have H4 := (h4.fr (T := []) ((Fr.refl _ _).alloc (.cells #[.int .i64 e.c, .int .i64 e.n, .int .i64 e.k, .string e.nm, .string e.tx, .int .i64 e.u, .int .i64 e.m] 37)) (by simp)).nc hnc
          have H5 := (h5.fr (S := []) ((Fr.refl _ _).alloc (.cells #[.int .i64 e.c, .int .i64 e.n, .int .i64 e.k, .string e.nm, .string e.tx, .int .i64 e.u, .int .i64 e.m] 37)) (by simp)).nc hnc
          have H6 := (h6.alloc (.cells #[.int .i64 e.c, .int .i64 e.n, .int .i64 e.k, .string e.nm, .string e.tx, .int .i64 e.u, .int .i64 e.m] 37)).nc hnc hfw7.size
          have H8 : Blk W2 W.heap.size 37 [.int .i64 e.c, .int .i64 e.n, .int .i64 e.k, .string e.nm, .string e.tx, .int .i64 e.u, .int .i64 e.m] := (Blk.new _ _ _).nc hnc
          rw [World.size_alloc] at hszW
          have y1 := fun p hp => (h1 p hp).lt
          have y2 := h2.lt
          have y4 := h4.lt
          clear h1 h2 h3 h4 h5 h6 hnc hbs7 hbi hx7 hy7 hR7
          have hne : flat L ≠ [] := by
            intro h; have := flat_length L; rw [h] at this; simp at this; omega
          obtain ⟨ab, ao, rfl, hc⟩ := id (H5 hne)
          have hneL := hne
          obtain ⟨f0, f1, f2, f3, f4, f5, f6⟩ := Rds.ent hc he
          have g0 : W2.cell? ⟨W.heap.size, 0, none⟩ = some (.int .i64 e.c) := H8.cell 0
          have g1 : W2.cell? ⟨W.heap.size, 1, none⟩ = some (.int .i64 e.n) := H8.cell 1
          have g2 : W2.cell? ⟨W.heap.size, 2, none⟩ = some (.int .i64 e.k) := H8.cell 2
          have g3 : W2.cell? ⟨W.heap.size, 3, none⟩ = some (.string e.nm) := H8.cell 3
          have g4 : W2.cell? ⟨W.heap.size, 4, none⟩ = some (.string e.tx) := H8.cell 4
          have g5 : W2.cell? ⟨W.heap.size, 5, none⟩ = some (.int .i64 e.u) := H8.cell 5
          have g6 : W2.cell? ⟨W.heap.size, 6, none⟩ = some (.int .i64 e.m) := H8.cell 6
          have d16 : W2.cell? ⟨bi, 0, none⟩ = some (.int .i64 (k : Nat)) := H2.cell 0
          have hm15 : (b15, 22, Value.slice (some ⟨ab, ao, none⟩) L.length cap15) ∈ BX := by rw [HBX.out]; simp
          have hm14 : (b14, 3, Value.int .i64 0) ∈ BX := by rw [HBX.out]; simp
          have hm5 : (w.heap.size, 23, Value.slice A2 Ds.length c2) ∈ BX := by rw [HBX.out]; simp
          have d15 := H1.cell hm15
          have d14 := H1.cell hm14
          have d5 := H1.cell hm5
          have k0 : (0 : Int) ≤ (k : Int) := by omega
          have k1 : (k : Int) < (L.length : Int) := by omega
          have tge : decide (L.length ≤ k) = false := by simp; omega
          have e1 : IntKind.i64.wrap (1 + (k : Int)) = 1 + (k : Int) := IntWalk.i64_in _ (by omega)
          clear he hne hc hm15 hm14 hm5
          gi_upto_region 21 with fail
          refine wpIn_region_quietR (by kernel_rfl) (by kernel_rfl) (by kernel_rfl) (by intro _ _ h; exact h) ?_; (repeat (go_big_quiet_step (fail))); refine wpQuiet_nil ?_
          rintro _ ⟨nq, rfl⟩
          obtain ⟨W3, hW3⟩ : ∃ W3, W3 = W2.drewN nq := ⟨_, rfl⟩
          rw [← hW3]
          have hf3 : Fr [] W2 W3 := by rw [hW3]; exact (Fr.refl _ _).drewN nq
          have hsz3 : W2.heap.size = W3.heap.size := by rw [hW3]; rfl
          replace hszW := hszW.trans hsz3
          clear hsz3
          have I1 := H1.fr hf3 (by simp)
          have I2 := H2.fr hf3 (by simp)
          have I3 := H3.fr hf3 (by simp) (by simp)
          have I4 := H4.fr hf3 (by simp)
          have I5 := H5.fr hf3 (by simp)
          have I6 := H6.trans hf3
          obtain ⟨rl, hrl2⟩ := hlo2
          have I7 := hf3.obj (by simp) hrl2
          have hm7 : (w1.heap.size, 24, Value.pointer (some ⟨bx, 0, none⟩)) ∈ BX := by rw [HBX.out]; simp
          have hm9 : (w2.heap.size, 28, Value.pointer (some ⟨ry, 0, none⟩)) ∈ BX := by rw [HBX.out]; simp
          have hm5 : (w.heap.size, 23, Value.slice A2 Ds.length c2) ∈ BX := by rw [HBX.out]; simp
          have d16 : W3.cell? ⟨bi, 0, none⟩ = some (.int .i64 (k : Nat)) := I2.cell 0
          have d5 := I1.cell hm5
          clear H1 H2 H3 H4 H5 H6 H8 f0 f1 f2 f3 f4 f5 f6 g0 g1 g2 g3 g4 g5 g6 d15 d14 e1 tge hW3
          by_cases hlt : k < Ds.length
          · have tlt : decide (k < Ds.length) = true := by simpa using hlt
            obtain ⟨d, hd⟩ : ∃ d, Ds[k]? = some d := ⟨Ds[k], List.getElem?_eq_getElem hlt⟩
            have hdm : d ∈ Ds := List.mem_of_getElem? hd
            have hDl := DD.out.lists d hdm
            have hDg := DD.out.long d hdm
            have hDk := DD.out.kind d hdm
            have hne : flatD Ds ≠ [] := by
              intro h; have := flatD_length Ds; rw [h] at this; simp at this; omega
            obtain ⟨ab2, ao2, rfl, hc⟩ := (DD.out.rds.fr I6 (by simp)) hne
            have hdc : ∀ j u, j < 12 → d.cells[j]? = some u → W3.cell? ⟨ab2, ao2 + (k * 12 + j), none⟩ = some u := fun j u hj hu => hc _ _ ((flatD_get Ds k j d hd hj).trans hu)
            have q0 := hdc 0 _ (by omega) rfl
            have q1 := hdc 1 _ (by omega) rfl
            have q2 := hdc 2 _ (by omega) rfl
            have q3 := hdc 3 _ (by omega) rfl
            have q4 := hdc 4 _ (by omega) rfl
            have q5 := hdc 5 _ (by omega) rfl
            have q6 := hdc 6 _ (by omega) rfl
            have q7 := hdc 7 _ (by omega) rfl
            have q8 := hdc 8 _ (by omega) rfl
            have q9 := hdc 9 _ (by omega) rfl
            have q10 := hdc 10 _ (by omega) rfl
            have q11 := hdc 11 _ (by omega) rfl
            simp only [← Nat.add_assoc, Nat.add_zero] at q0 q1 q2 q3 q4 q5 q6 q7 q8 q9 q10 q11
            have k2 : (k : Int) < (Ds.length : Int) := by omega
            clear hc hdc hne hdm hd
            gi_upto_region 24 with fail
            gi_cut [19] from 106 (fun s19 wx => ∃ z : Nat, s19 = .pointer (some ⟨W3.heap.size, 0, none⟩) ∧ Blk wx W3.heap.size 43 d.cells ∧ Fr [] W3 wx ∧ z = 0)
            case first =>
              gi_wp2_with fail
              gi_meet
              exact ⟨0, rfl, Blk.new _ _ _, (Fr.refl _ _).alloc _, rfl⟩
            case rest =>
              obtain ⟨_, rfl, b19, hf4, _⟩ := hcut
              obtain ⟨w4, rfl⟩ : ∃ w4 : World, w4 = wc := ⟨_, rfl⟩
              have J1 := I1.fr hf4 (by simp)
              have J2 := I2.fr hf4 (by simp)
              have J3 := I3.fr hf4 (by simp) (by simp)
              have J4 := I4.fr hf4 (by simp)
              have J5 := I5.fr hf4 (by simp)
              have J6 := I6.trans hf4
              have J7 := hf4.obj (by simp) I7
              have sz4b := b19.lt
              have sJ := hf4.size
              have hf4m := hf4
              have hx19 : W3.heap.size ∉ bx :: bp :: S' := by
                have u1 := I3.lt
                have u2 := I4.lt
                intro hm
                simp only [List.mem_cons] at hm
                rcases hm with h | h | h
                · omega
                · omega
                · have := u2 _ h; omega
              have D7 := J1 _ hm7
              have D9 := J1 _ hm9
              have d7a : w1.heap.size ∉ bx :: bp :: S' := by
                intro hm
                have hq : w1.heap.size ∈ BX.map (·.1) := List.mem_map.2 ⟨_, hm7, rfl⟩
                simp only [List.mem_cons] at hm
                rcases hm with h | h | h
                · omega
                · omega
                · exact (h7 _ h).1 (by simp only [List.mem_cons, List.mem_append]; right; right; right; left; exact hq)
              have d9a : w2.heap.size ∉ bx :: bp :: S' := by
                intro hm
                have hq : w2.heap.size ∈ BX.map (·.1) := List.mem_map.2 ⟨_, hm9, rfl⟩
                simp only [List.mem_cons] at hm
                rcases hm with h | h | h
                · omega
                · omega
                · exact (h7 _ h).1 (by simp only [List.mem_cons, List.mem_append]; right; right; right; left; exact hq)
              have hbS : ∀ x ∈ S', x ≠ bx ∧ x ≠ bp := fun x hx => by
                have := (h7 x hx).1
                simp only [List.mem_cons, not_or] at this
                exact ⟨this.2.1, this.2.2.1⟩
              clear I1 I2 I3 I4 I5 I6 I7 hf4 q0 q1 q2 q3 q4 q5 q6 q7 q8 q9 q10 q11 d16 d5 hm5
              gi_step
              gi_step
              gi_cut [] from 110 (fun wx => ∃ (base2 : Nat) (L2 : List Ent) (S2 : List Nat), PLog wx bx bp n base2 L2 ∧ RLog wx ry n base2 L2 S2 ∧ Fr (bx :: bp :: S') w4 wx ∧ ∀ x ∈ S2, x ∈ S' ∨ w4.heap.size ≤ x)
              case first =>
                have p0 : w4.cell? ⟨W3.heap.size, 0, none⟩ = some (.int .i64 d.kd) := b19.cell 0
                have hr3 : d.kd % 3 = 0 ∨ d.kd % 3 = 1 ∨ d.kd % 3 = 2 := by omega
                have r7 := fun (w' : World) (h : Blk w' w1.heap.size 24 [.pointer (some ⟨bx, 0, none⟩)]) => h.cell 0
                have r9 := fun (w' : World) (h : Blk w' w2.heap.size 28 [.pointer (some ⟨ry, 0, none⟩)]) => h.cell 0
                have t2 : ∀ w' : World, Blk w' W3.heap.size 43 d.cells → w'.cell? ⟨W3.heap.size, 2, none⟩ = some (.int .i64 d.op) := fun w' h => h.cell 2
                have t4 : ∀ w' : World, Blk w' W3.heap.size 43 d.cells → w'.cell? ⟨W3.heap.size, 4, none⟩ = some (.int .i64 d.e.c) := fun w' h => h.cell 4
                have t5 : ∀ w' : World, Blk w' W3.heap.size 43 d.cells → w'.cell? ⟨W3.heap.size, 5, none⟩ = some (.int .i64 d.e.n) := fun w' h => h.cell 5
                have t6 : ∀ w' : World, Blk w' W3.heap.size 43 d.cells → w'.cell? ⟨W3.heap.size, 6, none⟩ = some (.int .i64 d.e.k) := fun w' h => h.cell 6
                have t7 : ∀ w' : World, Blk w' W3.heap.size 43 d.cells → w'.cell? ⟨W3.heap.size, 7, none⟩ = some (.string d.e.nm) := fun w' h => h.cell 7
                have t8 : ∀ w' : World, Blk w' W3.heap.size 43 d.cells → w'.cell? ⟨W3.heap.size, 8, none⟩ = some (.string d.e.tx) := fun w' h => h.cell 8
                have t9 : ∀ w' : World, Blk w' W3.heap.size 43 d.cells → w'.cell? ⟨W3.heap.size, 9, none⟩ = some (.int .i64 d.e.u) := fun w' h => h.cell 9
                have t10 : ∀ w' : World, Blk w' W3.heap.size 43 d.cells → w'.cell? ⟨W3.heap.size, 10, none⟩ = some (.int .i64 d.e.m) := fun w' h => h.cell 10
                have t11 : ∀ w' : World, Blk w' W3.heap.size 43 d.cells → w'.cell? ⟨W3.heap.size, 11, none⟩ = some (.slice d.A d.xs.length d.cap) := fun w' h => h.cell 11
                have hmix : Try.prog.follows .mixedOrders = true := by kernel_rfl
                rcases hr3 with hr3 | hr3 | hr3
                · gi_upto_region 27 with (gi_at_call 11; refine (CallsIn.inRound l (callsIn_wide.2 (among3 d.kd _ hDk.1 hDk.2))).mono ?_; rintro r w5 ⟨rfl, rfl⟩)
                  refine wpIn_region_heldR (S := fun w' => Blk w' w1.heap.size 24 [.pointer (some ⟨bx, 0, none⟩)] ∧ Blk w' w2.heap.size 28 [.pointer (some ⟨ry, 0, none⟩)] ∧ Blk w' W3.heap.size 43 d.cells) hmix (by kernel_rfl) (by intro _ _ h; exact h) ⟨D7.drew, D9.drew, b19.drew⟩ (fun hHeld => ?_)
                  refine wpAnyH_takeL 0 (v := ?_) (by rfl) (by kernel_rfl) (by kernel_rfl) (by kernel_rfl) (fun _ _ _ h => h) (by rfl) ?_ (by assumption) ?_; rotate_left; (next => (intro w' hSw; (try dsimp only at hSw); go_simp; (try with_reducible rfl))); (try simp only [Act.put, List.setIfInBounds_toArray, List.set_cons_zero, List.set_cons_succ])
                  refine wpAnyH_takeL 1 (v := ?_) (by rfl) (by kernel_rfl) (by kernel_rfl) (by kernel_rfl) (fun _ _ _ h => h) (by rfl) ?_ (by assumption) ?_; rotate_left; (next => (intro w' hSw; (try dsimp only at hSw); go_simp; (try with_reducible rfl))); (try simp only [Act.put, List.setIfInBounds_toArray, List.set_cons_zero, List.set_cons_succ])
                  refine wpAnyH_takeL 2 (v := ?_) (by rfl) (by kernel_rfl) (by kernel_rfl) (by kernel_rfl) (fun _ _ _ h => h) (by rfl) ?_ (by assumption) ?_; rotate_left; (next => (intro w' hSw; (try dsimp only at hSw); go_simp; (try with_reducible rfl))); (try simp only [Act.put, List.setIfInBounds_toArray, List.set_cons_zero, List.set_cons_succ])
                  refine wpAnyH_takeL 4 (v := ?_) (by rfl) (by kernel_rfl) (by kernel_rfl) (by kernel_rfl) (fun _ _ _ h => h) (by rfl) ?_ (by assumption) ?_; rotate_left; (next => (intro w' hSw; (try dsimp only at hSw); go_simp; (try with_reducible rfl))); (try simp only [Act.put, List.setIfInBounds_toArray, List.set_cons_zero, List.set_cons_succ])
                  refine wpAnyH_takeL 5 (v := ?_) (by rfl) (by kernel_rfl) (by kernel_rfl) (by kernel_rfl) (fun _ _ _ h => h) (by rfl) ?_ (by assumption) ?_; rotate_left; (next => (intro w' hSw; (try dsimp only at hSw); go_simp; (try with_reducible rfl))); (try simp only [Act.put, List.setIfInBounds_toArray, List.set_cons_zero, List.set_cons_succ])
                  refine wpAnyH_takeL 6 (v := ?_) (by rfl) (by kernel_rfl) (by kernel_rfl) (by kernel_rfl) (fun _ _ _ h => h) (by rfl) ?_ (by assumption) ?_; rotate_left; (next => (intro w' hSw; (try dsimp only at hSw); go_simp; (try with_reducible rfl))); (try simp only [Act.put, List.setIfInBounds_toArray, List.set_cons_zero, List.set_cons_succ])
                  refine wpAnyH_oneL 3 (by rfl) (by kernel_rfl) (by rfl) (fun K hK => ?_); go_simp
                  go_at_call 8
                  (with_reducible refine (Add_any bx bp n base L' d.e _ (J3.fr (S := []) ((Fr.refl _ w4).drew) (by simp) (by simp))).mono ?_)
                  rintro r w5' ⟨rfl, hp5, hf5⟩
                  dsimp only
                  have v7 := D7.drew.fr hf5 (fun hm => d7a (by simp at hm; rcases hm with h | h <;> simp [h]))
                  have v9 := D9.drew.fr hf5 (fun hm => d9a (by simp at hm; rcases hm with h | h <;> simp [h]))
                  have v19 := b19.drew.fr hf5 (fun hm => hx19 (by simp at hm; rcases hm with h | h <;> simp [h]))
                  have hy5 : RLog w5' ry n base L' S' := (J4.fr (T := []) ((Fr.refl _ w4).drew) (by simp)).fr hf5 (fun x hx => by have := hbS x hx; simp; exact this)
                  refine hK.out _ _ ?_ (fun hHeld => ?_); (next => (exact ⟨v7, v9, v19⟩)); clear hK K; (try simp only [Act.put, List.setIfInBounds_toArray, List.set_cons_zero, List.set_cons_succ])
                  refine wpAnyH_oneL 7 (by rfl) (by kernel_rfl) (by rfl) (fun K hK => ?_); go_simp
                  go_at_call 9
                  (with_reducible refine (rAdd_any ry n base L' S' d.e _ hy5).mono ?_)
                  rintro r w6' ⟨rfl, S2, hq6, hf6, hs6⟩
                  dsimp only
                  have x7 := v7.fr hf6 (fun hm => d7a (by simp [hm]))
                  have x9 := v9.fr hf6 (fun hm => d9a (by simp [hm]))
                  have x19 := v19.fr hf6 (fun hm => hx19 (by simp [hm]))
                  refine hK.out _ _ ?_ (fun hHeld => ?_); (next => (exact ⟨x7, x9, x19⟩)); clear hK K; (try simp only [Act.put, List.setIfInBounds_toArray, List.set_cons_zero, List.set_cons_succ])
                  refine wpAnyH_takeL 8 (v := ?_) (by rfl) (by kernel_rfl) (by kernel_rfl) (by kernel_rfl) (fun _ _ _ h => h) (by rfl) ?_ (by assumption) ?_; rotate_left; (next => (intro w' hSw; (try dsimp only at hSw); go_simp; (try with_reducible rfl))); (try simp only [Act.put, List.setIfInBounds_toArray, List.set_cons_zero, List.set_cons_succ])
                  refine wpAnyH_done (by kernel_rfl) ?_ _
                  have sz5' := hf5.size
                  gi_wp2_with fail
                  gi_meet
                  refine ⟨_, _, S2, hp5.fr hf6 (fun hm => (hbS _ hm).1 rfl) (fun hm => (hbS _ hm).2 rfl), hq6, ?_, ?_⟩
                  · exact ((((Fr.refl _ w4).drew).trans (hf5.mono (by intro x hx; simp at hx; rcases hx with h | h <;> simp [h]))).trans (hf6.mono (fun x hx => by simp [hx])))
                  · intro x hx
                    rcases hs6 x hx with h | h
                    · exact .inl h
                    · exact .inr (Nat.le_trans sz5' h)
                · gi_upto_region 30 with (gi_at_call 11; refine (CallsIn.inRound l (callsIn_wide.2 (among3 d.kd _ hDk.1 hDk.2))).mono ?_; rintro r w5 ⟨rfl, rfl⟩)
                  refine wpIn_region_heldR (S := fun w' => Blk w' w1.heap.size 24 [.pointer (some ⟨bx, 0, none⟩)] ∧ Blk w' w2.heap.size 28 [.pointer (some ⟨ry, 0, none⟩)] ∧ Blk w' W3.heap.size 43 d.cells) hmix (by kernel_rfl) (by intro _ _ h; exact h) ⟨D7.drew, D9.drew, b19.drew⟩ (fun hHeld => ?_)
                  refine wpAnyH_takeL 0 (v := ?_) (by rfl) (by kernel_rfl) (by kernel_rfl) (by kernel_rfl) (fun _ _ _ h => h) (by rfl) ?_ (by assumption) ?_; rotate_left; (next => (intro w' hSw; (try dsimp only at hSw); go_simp; (try with_reducible rfl))); (try simp only [Act.put, List.setIfInBounds_toArray, List.set_cons_zero, List.set_cons_succ])
                  refine wpAnyH_takeL 1 (v := ?_) (by rfl) (by kernel_rfl) (by kernel_rfl) (by kernel_rfl) (fun _ _ _ h => h) (by rfl) ?_ (by assumption) ?_; rotate_left; (next => (intro w' hSw; (try dsimp only at hSw); go_simp; (try with_reducible rfl))); (try simp only [Act.put, List.setIfInBounds_toArray, List.set_cons_zero, List.set_cons_succ])
                  refine wpAnyH_takeL 2 (v := ?_) (by rfl) (by kernel_rfl) (by kernel_rfl) (by kernel_rfl) (fun _ _ _ h => h) (by rfl) ?_ (by assumption) ?_; rotate_left; (next => (intro w' hSw; (try dsimp only at hSw); go_simp; (try with_reducible rfl))); (try simp only [Act.put, List.setIfInBounds_toArray, List.set_cons_zero, List.set_cons_succ])
                  refine wpAnyH_takeL 4 (v := ?_) (by rfl) (by kernel_rfl) (by kernel_rfl) (by kernel_rfl) (fun _ _ _ h => h) (by rfl) ?_ (by assumption) ?_; rotate_left; (next => (intro w' hSw; (try dsimp only at hSw); go_simp; (try with_reducible rfl))); (try simp only [Act.put, List.setIfInBounds_toArray, List.set_cons_zero, List.set_cons_succ])
                  refine wpAnyH_takeL 5 (v := ?_) (by rfl) (by kernel_rfl) (by kernel_rfl) (by kernel_rfl) (fun _ _ _ h => h) (by rfl) ?_ (by assumption) ?_; rotate_left; (next => (intro w' hSw; (try dsimp only at hSw); go_simp; (try with_reducible rfl))); (try simp only [Act.put, List.setIfInBounds_toArray, List.set_cons_zero, List.set_cons_succ])
                  refine wpAnyH_takeL 6 (v := ?_) (by rfl) (by kernel_rfl) (by kernel_rfl) (by kernel_rfl) (fun _ _ _ h => h) (by rfl) ?_ (by assumption) ?_; rotate_left; (next => (intro w' hSw; (try dsimp only at hSw); go_simp; (try with_reducible rfl))); (try simp only [Act.put, List.setIfInBounds_toArray, List.set_cons_zero, List.set_cons_succ])
                  refine wpAnyH_oneL 3 (by rfl) (by kernel_rfl) (by rfl) (fun K hK => ?_); go_simp
                  go_at_call 12
                  (with_reducible refine (Cut_any bx bp n base L' d.op _ (J3.fr (S := []) ((Fr.refl _ w4).drew) (by simp) (by simp))).mono ?_)
                  rintro r w5' ⟨rfl, hp5, hf5⟩
                  dsimp only
                  have v7 := D7.drew.fr hf5 (fun hm => d7a (by simp at hm; rcases hm with h | h <;> simp [h]))
                  have v9 := D9.drew.fr hf5 (fun hm => d9a (by simp at hm; rcases hm with h | h <;> simp [h]))
                  have v19 := b19.drew.fr hf5 (fun hm => hx19 (by simp at hm; rcases hm with h | h <;> simp [h]))
                  have hy5 : RLog w5' ry n base L' S' := (J4.fr (T := []) ((Fr.refl _ w4).drew) (by simp)).fr hf5 (fun x hx => by have := hbS x hx; simp; exact this)
                  refine hK.out _ _ ?_ (fun hHeld => ?_); (next => (exact ⟨v7, v9, v19⟩)); clear hK K; (try simp only [Act.put, List.setIfInBounds_toArray, List.set_cons_zero, List.set_cons_succ])
                  refine wpAnyH_oneL 7 (by rfl) (by kernel_rfl) (by rfl) (fun K hK => ?_); go_simp
                  go_at_call 13
                  (with_reducible refine (rCut_any ry n base L' S' d.op _ hy5).mono ?_)
                  rintro r w6' ⟨rfl, S2, hq6, hf6, hs6⟩
                  dsimp only
                  have x7 := v7.fr hf6 (fun hm => d7a (by simp [hm]))
                  have x9 := v9.fr hf6 (fun hm => d9a (by simp [hm]))
                  have x19 := v19.fr hf6 (fun hm => hx19 (by simp [hm]))
                  refine hK.out _ _ ?_ (fun hHeld => ?_); (next => (exact ⟨x7, x9, x19⟩)); clear hK K; (try simp only [Act.put, List.setIfInBounds_toArray, List.set_cons_zero, List.set_cons_succ])
                  refine wpAnyH_takeL 8 (v := ?_) (by rfl) (by kernel_rfl) (by kernel_rfl) (by kernel_rfl) (fun _ _ _ h => h) (by rfl) ?_ (by assumption) ?_; rotate_left; (next => (intro w' hSw; (try dsimp only at hSw); go_simp; (try with_reducible rfl))); (try simp only [Act.put, List.setIfInBounds_toArray, List.set_cons_zero, List.set_cons_succ])
                  refine wpAnyH_done (by kernel_rfl) ?_ _
                  have sz5' := hf5.size
                  gi_wp2_with fail
                  gi_meet
                  refine ⟨_, _, S2, hp5.fr hf6 (fun hm => (hbS _ hm).1 rfl) (fun hm => (hbS _ hm).2 rfl), hq6, ?_, ?_⟩
                  · exact ((((Fr.refl _ w4).drew).trans (hf5.mono (by intro x hx; simp at hx; rcases hx with h | h <;> simp [h]))).trans (hf6.mono (fun x hx => by simp [hx])))
                  · intro x hx
                    rcases hs6 x hx with h | h
                    · exact .inl h
                    · exact .inr (Nat.le_trans sz5' h)
                · gi_upto_region 33 with (gi_at_call 11; refine (CallsIn.inRound l (callsIn_wide.2 (among3 d.kd _ hDk.1 hDk.2))).mono ?_; rintro r w5 ⟨rfl, rfl⟩)
                  refine wpIn_region_heldR (S := fun w' => Blk w' w1.heap.size 24 [.pointer (some ⟨bx, 0, none⟩)] ∧ Blk w' w2.heap.size 28 [.pointer (some ⟨ry, 0, none⟩)] ∧ Blk w' W3.heap.size 43 d.cells) hmix (by kernel_rfl) (by intro _ _ h; exact h) ⟨D7.drew, D9.drew, b19.drew⟩ (fun hHeld => ?_)
                  refine wpAnyH_takeL 0 (v := ?_) (by rfl) (by kernel_rfl) (by kernel_rfl) (by kernel_rfl) (fun _ _ _ h => h) (by rfl) ?_ (by assumption) ?_; rotate_left; (next => (intro w' hSw; (try dsimp only at hSw); go_simp; (try with_reducible rfl))); (try simp only [Act.put, List.setIfInBounds_toArray, List.set_cons_zero, List.set_cons_succ])
                  refine wpAnyH_takeL 1 (v := ?_) (by rfl) (by kernel_rfl) (by kernel_rfl) (by kernel_rfl) (fun _ _ _ h => h) (by rfl) ?_ (by assumption) ?_; rotate_left; (next => (intro w' hSw; (try dsimp only at hSw); go_simp; (try with_reducible rfl))); (try simp only [Act.put, List.setIfInBounds_toArray, List.set_cons_zero, List.set_cons_succ])
                  refine wpAnyH_takeL 2 (v := ?_) (by rfl) (by kernel_rfl) (by kernel_rfl) (by kernel_rfl) (fun _ _ _ h => h) (by rfl) ?_ (by assumption) ?_; rotate_left; (next => (intro w' hSw; (try dsimp only at hSw); go_simp; (try with_reducible rfl))); (try simp only [Act.put, List.setIfInBounds_toArray, List.set_cons_zero, List.set_cons_succ])
                  refine wpAnyH_takeL 3 (v := ?_) (by rfl) (by kernel_rfl) (by kernel_rfl) (by kernel_rfl) (fun _ _ _ h => h) (by rfl) ?_ (by assumption) ?_; rotate_left; (next => (intro w' hSw; (try dsimp only at hSw); go_simp; (try with_reducible rfl))); (try simp only [Act.put, List.setIfInBounds_toArray, List.set_cons_zero, List.set_cons_succ])
                  refine wpAnyH_takeL 4 (v := ?_) (by rfl) (by kernel_rfl) (by kernel_rfl) (by kernel_rfl) (fun _ _ _ h => h) (by rfl) ?_ (by assumption) ?_; rotate_left; (next => (intro w' hSw; (try dsimp only at hSw); go_simp; (try with_reducible rfl))); (try simp only [Act.put, List.setIfInBounds_toArray, List.set_cons_zero, List.set_cons_succ])
                  refine wpAnyH_takeL 6 (v := ?_) (by rfl) (by kernel_rfl) (by kernel_rfl) (by kernel_rfl) (fun _ _ _ h => h) (by rfl) ?_ (by assumption) ?_; rotate_left; (next => (intro w' hSw; (try dsimp only at hSw); go_simp; (try with_reducible rfl))); (try simp only [Act.put, List.setIfInBounds_toArray, List.set_cons_zero, List.set_cons_succ])
                  refine wpAnyH_takeL 7 (v := ?_) (by rfl) (by kernel_rfl) (by kernel_rfl) (by kernel_rfl) (fun _ _ _ h => h) (by rfl) ?_ (by assumption) ?_; rotate_left; (next => (intro w' hSw; (try dsimp only at hSw); go_simp; (try with_reducible rfl))); (try simp only [Act.put, List.setIfInBounds_toArray, List.set_cons_zero, List.set_cons_succ])
                  refine wpAnyH_takeL 8 (v := ?_) (by rfl) (by kernel_rfl) (by kernel_rfl) (by kernel_rfl) (fun _ _ _ h => h) (by rfl) ?_ (by assumption) ?_; rotate_left; (next => (intro w' hSw; (try dsimp only at hSw); go_simp; (try with_reducible rfl))); (try simp only [Act.put, List.setIfInBounds_toArray, List.set_cons_zero, List.set_cons_succ])
                  refine wpAnyH_takeL 9 (v := ?_) (by rfl) (by kernel_rfl) (by kernel_rfl) (by kernel_rfl) (fun _ _ _ h => h) (by rfl) ?_ (by assumption) ?_; rotate_left; (next => (intro w' hSw; (try dsimp only at hSw); go_simp; (try with_reducible rfl))); (try simp only [Act.put, List.setIfInBounds_toArray, List.set_cons_zero, List.set_cons_succ])
                  refine wpAnyH_takeL 10 (v := ?_) (by rfl) (by kernel_rfl) (by kernel_rfl) (by kernel_rfl) (fun _ _ _ h => h) (by rfl) ?_ (by assumption) ?_; rotate_left; (next => (intro w' hSw; (try dsimp only at hSw); go_simp; (try with_reducible rfl))); (try simp only [Act.put, List.setIfInBounds_toArray, List.set_cons_zero, List.set_cons_succ])
                  refine wpAnyH_oneL 5 (by rfl) (by kernel_rfl) (by rfl) (fun K hK => ?_); go_simp
                  go_at_call 14
                  (with_reducible refine (Reset_any bx bp n base L' d.xs d.op d.A d.cap _ (J3.fr (S := []) ((Fr.refl _ w4).drew) (by simp) (by simp)) (hDl.fr (S := []) J6.drew (by simp)) hDg (fun hx x hm => by have := hDl.lt hx x hm; omega)).mono ?_)
                  rintro r w5' ⟨rfl, hp5, hf5⟩
                  dsimp only
                  have v7 := D7.drew.fr hf5 (fun hm => d7a (by simp at hm; rcases hm with h | h <;> simp [h]))
                  have v9 := D9.drew.fr hf5 (fun hm => d9a (by simp at hm; rcases hm with h | h <;> simp [h]))
                  have v19 := b19.drew.fr hf5 (fun hm => hx19 (by simp at hm; rcases hm with h | h <;> simp [h]))
                  have hy5 : RLog w5' ry n base L' S' := (J4.fr (T := []) ((Fr.refl _ w4).drew) (by simp)).fr hf5 (fun x hx => by have := hbS x hx; simp; exact this)
                  refine hK.out _ _ ?_ (fun hHeld => ?_); (next => (exact ⟨v7, v9, v19⟩)); clear hK K; (try simp only [Act.put, List.setIfInBounds_toArray, List.set_cons_zero, List.set_cons_succ])
                  refine wpAnyH_oneL 11 (by rfl) (by kernel_rfl) (by rfl) (fun K hK => ?_); go_simp
                  go_at_call 15
                  (with_reducible refine (rReset_any ry n base L' d.xs S' d.op d.A d.cap _ hy5 (hDl.fr (J6.drew.trans' hf5 (fun x hm => by simp at hm; rcases hm with h | h <;> (right; omega))) (by simp)) hDg).mono ?_)
                  rintro r w6' ⟨rfl, S2, hq6, hf6, hs6⟩
                  dsimp only
                  have x7 := v7.fr hf6 (fun hm => d7a (by simp [hm]))
                  have x9 := v9.fr hf6 (fun hm => d9a (by simp [hm]))
                  have x19 := v19.fr hf6 (fun hm => hx19 (by simp [hm]))
                  refine hK.out _ _ ?_ (fun hHeld => ?_); (next => (exact ⟨x7, x9, x19⟩)); clear hK K; (try simp only [Act.put, List.setIfInBounds_toArray, List.set_cons_zero, List.set_cons_succ])
                  refine wpAnyH_takeL 12 (v := ?_) (by rfl) (by kernel_rfl) (by kernel_rfl) (by kernel_rfl) (fun _ _ _ h => h) (by rfl) ?_ (by assumption) ?_; rotate_left; (next => (intro w' hSw; (try dsimp only at hSw); go_simp; (try with_reducible rfl))); (try simp only [Act.put, List.setIfInBounds_toArray, List.set_cons_zero, List.set_cons_succ])
                  refine wpAnyH_done (by kernel_rfl) ?_ _
                  have sz5' := hf5.size
                  gi_wp2_with fail
                  gi_meet
                  refine ⟨_, _, S2, hp5.fr hf6 (fun hm => (hbS _ hm).1 rfl) (fun hm => (hbS _ hm).2 rfl), hq6, ?_, ?_⟩
                  · exact ((((Fr.refl _ w4).drew).trans (hf5.mono (by intro x hx; simp at hx; rcases hx with h | h <;> simp [h]))).trans (hf6.mono (fun x hx => by simp [hx])))
                  · intro x hx
                    rcases hs6 x hx with h | h
                    · exact .inl h
                    · exact .inr (Nat.le_trans sz5' h)
              case rest =>
                obtain ⟨base2, L2, S2, hp5, hq5, hf5, hs2⟩ := hcut
                obtain ⟨w5s, rfl⟩ : ∃ w5s : World, w5s = wc := ⟨_, rfl⟩
                have hty : ∀ p ∈ BX, p.2.1 ≠ 65 ∧ p.2.1 ≠ 37 := by rw [HBX.out]; simp
                obtain ⟨_, _, _, _, ff, es, hlogJ, hesJ, _⟩ := id J3
                have hFb : ∀ p ∈ BX, p.1 ∉ bx :: bp :: S' := fun p hp hm => by
                  have hq : p.1 ∈ BX.map (·.1) := List.mem_map.2 ⟨_, hp, rfl⟩
                  simp only [List.mem_cons] at hm
                  rcases hm with h | h | h
                  · exact (J1 p hp).ne hlogJ (hty p hp).1 h
                  · exact (J1 p hp).ne hesJ (hty p hp).2 h
                  · exact (h7 _ h).1 (by simp only [List.mem_cons, List.mem_append]; right; right; right; left; exact hq)
                have hbiF : bi ∉ bx :: bp :: S' := fun hm => by
                  simp only [List.mem_cons] at hm
                  rcases hm with h | h | h
                  · exact J2.ne hlogJ (by decide) h
                  · exact J2.ne hesJ (by decide) h
                  · exact (h7 _ h).1 (by simp)
                have hAF : ∀ b ∈ fpOf (some (⟨ab, ao, none⟩ : Addr)), b ∉ bx :: bp :: S' := fun b hb hm => by
                  have u1 := hA15 b hb
                  simp only [List.mem_cons] at hm
                  rcases hm with h | h | h
                  · omega
                  · omega
                  · exact (h7 _ h).1 (by simp only [List.mem_cons, List.mem_append]; right; right; right; right; exact hb)
                have hFw : ∀ x ∈ bx :: bp :: S', x ∈ ([] : List Nat) ∨ w.heap.size ≤ x := fun x hx => by
                  simp only [List.mem_cons] at hx
                  rcases hx with h | h | h
                  · right; omega
                  · right; omega
                  · right; exact (h7 _ h).2
                have K1 := J1.fr hf5 hFb
                have K2 := J2.fr hf5 hbiF
                have K5 := J5.fr hf5 hAF
                have K6 := J6.trans' hf5 hFw
                have K7 := hf5.obj (fun hm => hlF (List.mem_cons_of_mem _ hm)) J7
                have K8 : Fr (bi :: bx :: bp :: S') W2 w5s := (((((Fr.refl _ W2).trans (hf3.mono (by simp))).trans (hf4m.mono (by simp))).trans (hf5.mono (fun x hx => List.mem_cons_of_mem _ hx))))
                have hs4 := hf5.size
                have okS : Away S2 (bi :: bx :: bp :: (BX.map (·.1) ++ fpOf (some (⟨ab, ao, none⟩ : Addr)))) w.heap.size := by
                  intro x hx
                  rcases hs2 x hx with h | h
                  · exact h7 x h
                  · have u1 := J2.lt
                    have u2 := J6.size
                    refine ⟨fun hm => ?_, by omega⟩
                    simp only [List.mem_cons, List.mem_append] at hm
                    rcases hm with h8 | h8 | h8 | h8 | h8
                    · omega
                    · omega
                    · omega
                    · obtain ⟨p, hp, rfl⟩ := List.mem_map.1 h8
                      have := hbxl p hp; omega
                    · have := hrl hneL x h8; omega
                have hS2F : ∀ b ∈ bi :: bx :: bp :: S2, b ∈ bi :: bx :: bp :: S' ∨ W2.heap.size ≤ b := by
                  intro b hb
                  simp only [List.mem_cons] at hb
                  rcases hb with h | h | h | h
                  · left; simp [h]
                  · left; simp [h]
                  · left; simp [h]
                  · rcases hs2 b h with h | h
                    · left; simp [h]
                    · right; have := hf3.size; omega
                have k13 := fun o => (Blk.alloc (K1 _ hm13) o).cell 0
                simp only [List.getElem?_cons_zero] at k13
                clear J1 J2 J3 J4 J5 J6 J7 hlogJ hesJ hf5 b19 D7 D9 d7a d9a hx19 hbS hDl hDg hDk
                gi_wp2_with fail
                have sK : w5s.heap.size < (w5s.alloc (.cells #[.int .i64 0] 3)).heap.size := by simp
                have M1k : Blk (w5s.alloc (.cells #[.int .i64 0] 3)) w5s.heap.size 3 [.int .i64 0] := Blk.new _ _ _
                have M1 := K1.fr ((Fr.refl [] _).alloc (.cells #[.int .i64 0] 3)) (by simp)
                have M2 := K2.fr ((Fr.refl [] _).alloc (.cells #[.int .i64 0] 3)) (by simp)
                have M3 := hp5.fr ((Fr.refl [] _).alloc (.cells #[.int .i64 0] 3)) (by simp) (by simp)
                have M4 := hq5.fr ((Fr.refl [] _).alloc (.cells #[.int .i64 0] 3)) (by simp)
                have M5 := K5.fr ((Fr.refl [] _).alloc (.cells #[.int .i64 0] 3)) (by simp)
                have M6 := K6.alloc (.cells #[.int .i64 0] 3)
                have M7 := ((Fr.refl [] w5s).alloc (.cells #[.int .i64 0] 3)).obj (by simp) K7
                have M8 := K8.alloc (.cells #[.int .i64 0] 3)
                have hb2 := hbiF
                have nb : w5s.heap.size ≠ bi := by have := K2.lt; omega
                have nB : ∀ p ∈ BX, p.1 ≠ w5s.heap.size := fun p hp => by have := (K1 p hp).lt; omega
                have nX := hp5.lt
                have nY := hq5.lt
                have nA : ab ≠ w5s.heap.size := by have := hrl hneL ab (by simp [fpOf]); have := K2.lt; omega
                have sW := K6.size
                have sW2 := K8.size
                clear K1 K2 K5 K6 K7 K8 hp5 hq5 k13
                generalize hbke : w5s.heap.size = bk at *
                generalize hw6 : w5s.alloc (.cells #[.int .i64 0] 3) = w6s at *
                have hm24 : (wr.heap.size, 24, Value.pointer (some ⟨bx, 0, none⟩)) ∈ BX := by rw [HBX.out]; simp
                have hbr2 := M1 _ hm24
                refine range_inner (r₀ := rl) M7 (gf := 27) (lb := #[.pointer (some ⟨wr.heap.size, 0, none⟩)]) rfl ?eg2 (given base2 L2) ?hps2 (Fr []) ?hE2 (All1_iter bx bp wr.heap.size n base2 L2 w6s M3 hbr2)
                  (fun kk F W => F = [bk] ∧ Boxes W BX ∧ Blk W bi 3 [.int .i64 k] ∧ Blk W bk 3 [.int .i64 kk] ∧ PLog W bx bp n base2 L2 ∧ RLog W ry n base2 L2 S2 ∧ Rds W (some ⟨ab, ao, none⟩) (flat L) ∧ Fr [] w W ∧ Fr (bi :: bx :: bp :: S') W2 W)
                  (fun _ _ => False) [bk] ?hJ2 ?hJx2 ?h02 ?hF02 ?hround2 ?hdone2 ?hstop2
                case eg2 => intro args w'; kernel_rfl
                case hps2 =>
                  intro x hx
                  obtain ⟨k, hk, rfl⟩ := List.getElem_of_mem hx
                  have hkl : k < L2.length := by rw [given_length] at hk; exact hk
                  rw [given_get base2 L2 k L2[k] (by simp) hk]
                  rfl
                case hE2 => exact fun A B h j o ho _ => h.obj (by simp) ho
                case hJ2 =>
                  rintro kk F A B ⟨rfl, a1, a2, a3, a4, a5, a6, a7, a8⟩ hnc
                  exact ⟨rfl, a1.nc hnc, a2.nc hnc, a3.nc hnc, a4.nc hnc, a5.nc hnc, a6.nc hnc, a7.nc hnc (by have := M6.size; omega), a8.nc hnc (by have := M8.size; omega)⟩
                case hJx2 => exact fun _ _ _ h _ => h
                case h02 =>
                  intro A B hnc hf
                  exact ⟨rfl, (M1.nc hnc).fr hf (by simp), (M2.nc hnc).fr hf (by simp), (M1k.nc hnc).fr hf (by simp), (M3.nc hnc).fr hf (by simp) (by simp), (M4.nc hnc).fr hf (by simp), (M5.nc hnc).fr hf (by simp), (M6.nc hnc M6.size).trans hf, (M8.nc hnc M8.size).trans (hf.mono (by simp))⟩
                case hF02 => intro b hb; simp at hb; omega
                case hstop2 => exact fun _ _ h => h.elim
                case hround2 =>
                  rintro l2 kk F W4 hk2 hl2 hlo2 hlF2 ⟨rfl, a1, a2, a3, a4, a5, a6, a7, a8⟩
                  have hkl2 : kk < L2.length := by rw [given_length] at hk2; exact hk2
                  obtain ⟨e2, he2⟩ : ∃ e2, L2[kk]? = some e2 := ⟨L2[kk], List.getElem?_eq_getElem hkl2⟩
                  rw [given_get base2 L2 kk e2 he2 hk2]
                  simp only [List.zip_toArray, List.zip_cons_cons, List.zip_nil_right, List.foldl_toArray, List.foldl_cons, List.foldl_nil, List.setIfInBounds_toArray, List.set_cons_zero, List.set_cons_succ]
                  gi_wp2
                  refine ⟨(Fr.refl _ _).alloc _, fun W5 hnc hszW5 => ?_⟩
                  intro _ _
                  have b1 := (a1.fr (S := []) ((Fr.refl _ _).alloc (.cells #[.int .i64 e2.c, .int .i64 e2.n, .int .i64 e2.k, .string e2.nm, .string e2.tx, .int .i64 e2.u, .int .i64 e2.m] 37)) (by simp)).nc hnc
                  have b2 := (a2.fr (S := []) ((Fr.refl _ _).alloc (.cells #[.int .i64 e2.c, .int .i64 e2.n, .int .i64 e2.k, .string e2.nm, .string e2.tx, .int .i64 e2.u, .int .i64 e2.m] 37)) (by simp)).nc hnc
                  have b3 := (a3.fr (S := []) ((Fr.refl _ _).alloc (.cells #[.int .i64 e2.c, .int .i64 e2.n, .int .i64 e2.k, .string e2.nm, .string e2.tx, .int .i64 e2.u, .int .i64 e2.m] 37)) (by simp)).nc hnc
                  have b4 := (a4.fr (S := []) ((Fr.refl _ _).alloc (.cells #[.int .i64 e2.c, .int .i64 e2.n, .int .i64 e2.k, .string e2.nm, .string e2.tx, .int .i64 e2.u, .int .i64 e2.m] 37)) (by simp) (by simp)).nc hnc
                  have b5 := (a5.fr (T := []) ((Fr.refl _ _).alloc (.cells #[.int .i64 e2.c, .int .i64 e2.n, .int .i64 e2.k, .string e2.nm, .string e2.tx, .int .i64 e2.u, .int .i64 e2.m] 37)) (by simp)).nc hnc
                  have b6 := (a6.fr (S := []) ((Fr.refl _ _).alloc (.cells #[.int .i64 e2.c, .int .i64 e2.n, .int .i64 e2.k, .string e2.nm, .string e2.tx, .int .i64 e2.u, .int .i64 e2.m] 37)) (by simp)).nc hnc
                  have b7 := (a7.alloc (.cells #[.int .i64 e2.c, .int .i64 e2.n, .int .i64 e2.k, .string e2.nm, .string e2.tx, .int .i64 e2.u, .int .i64 e2.m] 37)).nc hnc M6.size
                  have b8 := (a8.alloc (.cells #[.int .i64 e2.c, .int .i64 e2.n, .int .i64 e2.k, .string e2.nm, .string e2.tx, .int .i64 e2.u, .int .i64 e2.m] 37)).nc hnc M8.size
                  have b9 : Blk W5 W4.heap.size 37 [.int .i64 e2.c, .int .i64 e2.n, .int .i64 e2.k, .string e2.nm, .string e2.tx, .int .i64 e2.u, .int .i64 e2.m] := (Blk.new _ _ _).nc hnc
                  have y3 := a3.lt
                  clear a1 a2 a3 a4 a5 a6 a7 a8 hnc M1 M2 M3 M4 M5 M1k M7 hszW5
                  obtain ⟨p1, p2, p3, p4, A9, cap9, hrl9, hrow9, hS9⟩ := id b5
                  have hne9 : flat L2 ≠ [] := by
                    intro h; have := flat_length L2; rw [h] at this; simp at this; omega
                  obtain ⟨ab9, ao9, rfl, hc9⟩ := hrow9.rds hne9
                  obtain ⟨f0, f1, f2, f3, f4, f5, f6⟩ := Rds.ent hc9 he2
                  have g0 : W5.cell? ⟨W4.heap.size, 0, none⟩ = some (.int .i64 e2.c) := b9.cell 0
                  have g1 : W5.cell? ⟨W4.heap.size, 1, none⟩ = some (.int .i64 e2.n) := b9.cell 1
                  have g2 : W5.cell? ⟨W4.heap.size, 2, none⟩ = some (.int .i64 e2.k) := b9.cell 2
                  have g3 : W5.cell? ⟨W4.heap.size, 3, none⟩ = some (.string e2.nm) := b9.cell 3
                  have g4 : W5.cell? ⟨W4.heap.size, 4, none⟩ = some (.string e2.tx) := b9.cell 4
                  have g5 : W5.cell? ⟨W4.heap.size, 5, none⟩ = some (.int .i64 e2.u) := b9.cell 5
                  have g6 : W5.cell? ⟨W4.heap.size, 6, none⟩ = some (.int .i64 e2.m) := b9.cell 6
                  have r1 : W5.cell? ⟨ry, 1, none⟩ = some (.int .i64 base2) := hrl9.cell 1
                  have r2 : W5.cell? ⟨ry, 2, none⟩ = some (.slice (some ⟨ab9, ao9, none⟩) L2.length cap9) := hrl9.cell 2
                  have d20 : W5.cell? ⟨bk, 0, none⟩ = some (.int .i64 (kk : Nat)) := b3.cell 0
                  have z20 := b3.frozen 0
                  have d9 := b1.cell hm9
                  have k00 : (0 : Int) ≤ (kk : Int) := by omega
                  have k11 : (kk : Int) < (L2.length : Int) := by omega
                  have tge : decide (L2.length ≤ kk) = false := by simp; omega
                  have e1 : IntKind.i64.wrap ((base2 : Int) + 1) = (base2 : Int) + 1 := IntWalk.i64_in _ (by omega)
                  have e3 : IntKind.i64.wrap ((base2 : Int) + 1 + (kk : Int)) = (base2 : Int) + 1 + (kk : Int) := IntWalk.i64_in _ (by omega)
                  have e4 : IntKind.i64.wrap ((kk : Int) + 1) = (kk : Int) + 1 := IntWalk.i64_in _ (by omega)
                  clear hc9 he2 hrow9 hne9
                  gi_upto_region 39 with fail
                  refine wpIn_region_quietR (by kernel_rfl) (by kernel_rfl) (by kernel_rfl) (by intro _ _ h; exact h) ?_; (repeat (go_big_quiet_step (fail))); refine wpQuiet_nil ?_
                  rintro _ ⟨nq2, rfl⟩
                  gi_wp2_with fail
                  have hz : Fr [bk] W5 ((W5.drewN nq2).setCell ⟨bk, 0, none⟩ (.int .i64 ((kk : Int) + 1))) := ((Fr.refl _ W5).drewN nq2).setCell' (.inl (by simp))
                  refine ⟨[bk], hz, ⟨rfl, b1.fr hz (fun p hp => by have := nB p hp; simpa using this), b2.fr hz (by simpa using nb.symm), ?_, b4.fr hz (by simp; omega) (by simp; omega), b5.fr hz (fun x hx => by have := nY x hx; simp; omega), b6.fr hz (fun x hx => by simp [fpOf] at hx; simp; omega), b7.trans' hz (fun x hx => by simp at hx; right; omega), b8.trans' hz (fun x hx => by simp at hx; right; omega)⟩, fun b hb => .inl hb⟩
                  rw [show (((kk + 1 : Nat)) : Int) = (kk : Int) + 1 from by omega]
                  exact (b3.drewN nq2).set_ 0 _
                case hdone2 =>
                  rintro F W' ⟨rfl, a1, a2, a3, a4, a5, a6, a7, a8⟩
                  rw [given_length] at a3
                  obtain ⟨p1, p2, p3, p4, A9, cap9, hrl9, hrow9, hS9⟩ := id a5
                  have d20 : W'.cell? ⟨bk, 0, none⟩ = some (.int .i64 (L2.length : Nat)) := a3.cell 0
                  have d9 := a1.cell hm9
                  have r2 : W'.cell? ⟨ry, 2, none⟩ = some (.slice A9 L2.length cap9) := hrl9.cell 2
                  have d16 : W'.cell? ⟨bi, 0, none⟩ = some (.int .i64 (k : Nat)) := a2.cell 0
                  have z16 := a2.frozen 0
                  have e4 : IntKind.i64.wrap ((k : Int) + 1) = (k : Int) + 1 := IntWalk.i64_in _ (by omega)
                  simp only [Exit.inBlock]
                  gi_upto_region 42 with fail
                  refine wpIn_region_quietR (by kernel_rfl) (by kernel_rfl) (by kernel_rfl) (by intro _ _ h; exact h) ?_; (repeat (go_big_quiet_step (fail))); refine wpQuiet_nil ?_
                  rintro _ ⟨nq2, rfl⟩
                  gi_wp2_with fail
                  have hz : Fr [bi] W' ((W'.drewN nq2).setCell ⟨bi, 0, none⟩ (.int .i64 ((k : Int) + 1))) := ((Fr.refl _ W').drewN nq2).setCell' (.inl (by simp))
                  have hbi2 := hbiF
                  simp only [List.mem_cons, not_or] at hbi2
                  refine ⟨bi :: bx :: bp :: S2, a8.trans (hz.mono (by simp)), ⟨base2, L2, S2, rfl, a1.fr hz (fun p hp => by have := hbxl p hp; simp; omega), ?_, a4.fr hz (by simp; omega) (by simp; omega), a5.fr hz (fun x hx => by have := (okS x hx).1; simp only [List.mem_cons, not_or] at this; simpa using this.1), a6.fr hz (fun x hx => by have := hrl hneL x hx; simp; omega), a7.trans' hz (fun x hx => by simp at hx; right; omega), okS⟩, hS2F⟩
                  rw [show (((k + 1 : Nat)) : Int) = (k : Int) + 1 from by omega]
                  exact (a2.drewN nq2).set_ 0 _
          · have tlt : decide (k < Ds.length) = false := by simpa using hlt
            have z16 := I2.frozen 0
            have e4 : IntKind.i64.wrap ((k : Int) + 1) = (k : Int) + 1 := IntWalk.i64_in _ (by omega)
            have hz : Fr [bi] W3 (W3.setCell ⟨bi, 0, none⟩ (.int .i64 ((k : Int) + 1))) := (Fr.refl _ W3).setCell' (.inl (by simp))
            have u2 := I2.lt
            obtain ⟨_, _, _, _, ff, es, hlogJ, hesJ, _⟩ := id I3
            have n1 : bi ≠ bx := I2.ne hlogJ (by decide)
            have n2 : bi ≠ bp := I2.ne hesJ (by decide)
            clear hlogJ hesJ
            gi_wp2_with fail
            refine ⟨bi :: bx :: bp :: S', (hf3.mono (by simp)).trans (hz.mono (by simp)), ⟨base, L', S', rfl, I1.fr hz (fun p hp => by have := hbxl p hp; simp; omega), ?_, I3.fr hz (by simpa using n1.symm) (by simpa using n2.symm), I4.fr hz (fun x hx => by have := (h7 x hx).1; simp only [List.mem_cons, not_or] at this; simpa using this.1), I5.fr hz (fun x hx => by have := hrl hneL x hx; simp; omega), I6.trans' hz (fun x hx => by simp at hx; right; omega), h7⟩, fun b hb => .inl hb⟩
            rw [show (((k + 1 : Nat)) : Int) = (k : Int) + 1 from by omega]
            exact I2.set_ 0 _
        case hdone =>
          rintro D F W hD hDF ⟨base, L', S', rfl, h1, h2, h3, h4, h5, h6, h7⟩ hK
          rw [given_length] at h2
          have d16 : W.cell? ⟨bi, 0, none⟩ = some (.int .i64 (L.length : Nat)) := h2.cell 0
          have hm15 : (b15, 22, Value.slice A15 L.length cap15) ∈ BX := by rw [HBX.out]; simp
          have hm6 : (w.heap.size + 1, 4, Value.bool false) ∈ BX := by rw [HBX.out]; simp
          have d15 := h1.cell hm15
          have d6 := h1.cell hm6
          have z6 := h1.free hm6
          have e1 : ((L.length : Int) == (L.length : Int)) = true := by simp
          simp only [Exit.inBlock]
          go_wp2
          have hK2 : (W.setCell ⟨w.heap.size + 1, 0, none⟩ (.bool true)).heap[D]? = some (.deferred (some [])) := (Below.heap_setCell W ⟨w.heap.size + 1, 0, none⟩ (.bool true) D (by have := hbxl _ hm6; show D ≠ w.heap.size + 1; simp at this; omega)).trans hK
          have hnc : NC w7.heap.size (W.setCell ⟨w.heap.size + 1, 0, none⟩ (.bool true)) ((W.setCell ⟨w.heap.size + 1, 0, none⟩ (.bool true)).putObj D (.deferred none)) := NC.putObj hD hK2 rfl
          have c6 := (((h1 _ hm6).set_ 0 (.bool true)).nc hnc).cell 0
          refine ⟨by simp, .inl ⟨_, _, rfl, run_takeDeferred hK2, ?_⟩⟩
          refine ⟨.bool true, ?_, rfl, (h6.setCell' (.inr (by omega))).nc hnc hfw7.size⟩
          simp at c6
          simp [results, Try.f3, go_sem, c6]
end Go.Proofs.Ytneinhhmhgdefaa
