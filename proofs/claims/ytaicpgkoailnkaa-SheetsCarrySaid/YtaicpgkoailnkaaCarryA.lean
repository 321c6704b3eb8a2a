/- The law SheetsCarry, walked. -/
import Derived.Test.YtaicpgkoailnkaaSheetU
import Derived.Outline
namespace Go.Proofs.Ytaicpgkoailnkaa
open Go.RowKit

set_option maxRecDepth 100000 in
set_option maxHeartbeats 2000000 in
theorem carry_bad (n : Int) (w : World) (h : n < 1 ∨ 64 < n) (A1 A2 : Option Addr) (l1 c1 l2 c2 : Nat) :
    Calls Try.prog 5 #[.int .i64 n, .slice A1 l1 c1, .slice A2 l2 c2] w fun r w' => r = .returned (.bool true) ∧ Fr [] w w' := by
  have H := Lib.hid h
  by_cases h1 : n < 1
  · clear h
    go_enter Try.func5, Try.ntmps5
    go_wp2_with (go_at_call 7; (with_reducible refine (New_bad n _ H.out).mono ?_); rintro r w1 ⟨rfl, hf1⟩)
    go_ret
    exact ⟨rfl, hf1⟩
  · have h2 : 64 < n := by omega
    clear h
    go_enter Try.func5, Try.ntmps5
    go_wp2_with (go_at_call 7; (with_reducible refine (New_bad n _ H.out).mono ?_); rintro r w1 ⟨rfl, hf1⟩)
    go_ret
    exact ⟨rfl, hf1⟩

/-- The book that is written on, and the Snap: what differs is newer. -/
structure Pair (w0 w : World) (b s n : Nat) (since : Int) (B S : Boo) : Prop where
  hB : Beyo w0 w B
  hS : Beyo w0 w S
  ap : Apart B S
  bb : B.b = b
  sb : S.b = s
  bn : B.n = n
  sn : S.n = n
  last : lastC S.con n = since
  diff : ∀ j, j < n → B.con j = S.con j ∨ since < (B.con j).1

theorem Pair.fr0 {w0 w w' : World} {b s n : Nat} {since : Int} {B S : Boo} (h : Pair w0 w b s n since B S) (hf : Fr [] w w') : Pair w0 w' b s n since B S :=
  ⟨h.hB.fr0 hf, h.hS.fr0 hf, h.ap, h.bb, h.sb, h.bn, h.sn, h.last, h.diff⟩
/-- The book turned, its new sheets newer. -/
theorem Pair.turn {w0 w w' : World} {b s n : Nat} {since : Int} {B B' S : Boo} (h : Pair w0 w b s n since B S) (hT : Turn w w' B B') (hd : ∀ j, j < n → B'.con j = B.con j ∨ since < (B'.con j).1) : Pair w0 w' b s n since B' S :=
  ⟨h.hB.turn hT, h.hS.other h.hB hT h.ap, (hT.other h.hS.at_ h.ap).2, hT.b.trans h.bb, h.sb, hT.n.trans h.bn, h.sn, h.last, fun j hj => by
    rcases hd j hj with e | e
    · rw [e]; exact h.diff j hj
    · exact .inr e⟩
theorem putA_newer (c : Nat → Int × List Int) (n : Nat) (num a since : Int) (xs : List Int) (ha : since < a) (j : Nat) : putA c n num a xs j = c j ∨ since < (putA c n num a xs j).1 := by
  unfold putA
  split
  · unfold putC
    split
    · exact .inr ha
    · exact .inl rfl
  · exact .inl rfl

/-- Two books with the same sheets. -/
structure Twin (w0 w : World) (b s n : Nat) (B S : Boo) : Prop where
  hB : Beyo w0 w B
  hS : Beyo w0 w S
  ap : Apart B S
  bb : B.b = b
  sb : S.b = s
  bn : B.n = n
  sn : S.n = n
  same : ∀ j, j < n → B.con j = S.con j
theorem Twin.fr0 {w0 w w' : World} {b s n : Nat} {B S : Boo} (h : Twin w0 w b s n B S) (hf : Fr [] w w') : Twin w0 w' b s n B S :=
  ⟨h.hB.fr0 hf, h.hS.fr0 hf, h.ap, h.bb, h.sb, h.bn, h.sn, h.same⟩

/-- What the book tells may be laid into the Snap. -/
theorem Pair.loan {w0 w w1 : World} {b s n : Nat} {since : Int} {B B' S : Boo} {A : Option Addr} {cap : Nat} {l : List Sh} (h : Pair w0 w b s n since B S) (hn : n ≤ 64) (hs : 0 ≤ since) (hT : Turn w w1 B B') (hc : B'.con = B.con)
    (hl : Told w1 w.heap.size A cap l) (ho : OfC (cutTo (-1) (sinceC B.con B.n since)) B.con l) :
    Pair w0 w1 b s n since B' S ∧ Loan w1 S.fp A l ∧ l.length ≤ 140737488351232 ∧ appE S.n (-1) l = 0 ∧ ∀ j, j < n → appC S.con l j = B'.con j := by
  have hP := h.turn hT (fun j _ => .inl (by rw [hc]))
  have hcut : cutTo (-1) (sinceC B.con B.n since) = sinceC B.con B.n since := by unfold cutTo; rw [if_pos (by omega)]
  rw [hcut] at ho
  have hfp := h.hS.at_.fp_lt
  refine ⟨hP, ⟨hl.row.rds, fun _ x hx hm => ?_, fun t ht => ⟨(hl.data t ht).rds, ?_, fun _ x hx hm => ?_⟩⟩, ?_, ?_, fun j hj => ?_⟩
  · have := hl.own x hx; have := hfp x hm; omega
  · obtain ⟨j, hj, _, _, e3⟩ := ho.mem ht
    rw [e3]
    have hj := (sinceC_mem.1 hj).1
    rw [h.bn] at hj
    exact (h.hB.at_.data (by omega)).1
  · have := hl.new t ht x hx; have := hfp x hm; omega
  · rw [ho.len]
    have := sinceC_len B.con B.n since
    rw [h.bn] at this ⊢
    omega
  · refine appE_told (cB := B.con) (fun j hj => ?_) (-1) ho (sinceC_sorted _ _ _) (fun j hj => ?_)
    · rw [h.sn] at hj
      exact ⟨(h.hB.at_.stamp (by omega)).2, (h.hB.at_.data (by omega)).2⟩
    · obtain ⟨h1, h2⟩ := sinceC_mem.1 hj
      rw [h.bn] at h1
      rw [h.sn]
      exact ⟨by omega, h1, by omega⟩
  · rw [appC_told S.con ho j, hc]
    by_cases hm : j ∈ sinceC B.con B.n since
    · rw [if_pos hm]
    · rw [if_neg hm]
      rcases h.diff j hj with e | e
      · exact e.symm
      · exact absurd (sinceC_mem.2 ⟨by rw [h.bn]; exact hj, by omega⟩) hm
theorem Pair.twin {w0 w1 w2 : World} {b s n : Nat} {since : Int} {B S : Boo} {l : List Sh} (h : Pair w0 w1 b s n since B S) (h0 : appE S.n (-1) l = 0) (hc : ∀ j, j < n → appC S.con l j = B.con j) (hA : Applied w1 S l w2) : ∃ S', Twin w0 w2 b s n B S' := by
  obtain ⟨S', hT, hS⟩ := hA
  rw [if_pos h0] at hS
  exact ⟨S', h.hB.other h.hS hT h.ap.symm, h.hS.turn hT, (hT.other h.hB.at_ h.ap.symm).2.symm, h.bb, hT.b.trans h.sb, h.bn, hT.n.trans h.sn, fun j hj => by rw [hS]; exact (hc j hj).symm⟩

theorem given_num (B : Boo) (a : Int) (K : Nat) (w : World) (hB : B.At w) (hK : (sinceC B.con B.n a).length = K) : Calls Try.prog 11 #[.pointer (some ⟨B.b, 0, none⟩), .int .i64 a, .int .i64 (-1)] w fun r w' => ∃ (A : Option Addr) (cap : Nat) (B' : Boo), r = .returned (.slice A K cap) ∧ Turn w w' B B' ∧ B'.con = B.con := by
  refine (given_boo B a (-1) w hB).mono ?_
  rintro r w' ⟨A, cap, l, B', rfl, h1, h2, h3, h4⟩
  have := h2.len
  unfold cutTo at this
  rw [if_pos (by omega), hK] at this
  exact ⟨A, cap, B', by rw [this], h3, h4⟩

set_option maxRecDepth 100000 in
set_option maxHeartbeats 4000000 in
theorem carry_good (n : Nat) (hn0 : 1 ≤ n) (hn : n ≤ 64) (A1 A2 : Option Addr) (c1 c2 : Nat) (D1 D2 : List Deed) (w : World) (hD1 : Deeds w A1 D1) (hD2 : Deeds w A2 D2) :
    Calls Try.prog 5 #[.int .i64 (n : Int), .slice A1 D1.length c1, .slice A2 D2.length c2] w fun r w' => r = .returned (.bool true) ∧ Fr [] w w' := by
  have DD1 := Lib.hid hD1
  have DD2 := Lib.hid hD2
  have hlong1 := hD1.long
  have hlong2 := hD2.long
  have hnil := fun (W : World) (x y : Value) => eql_seq_nil x y W
  have kc := fun (w : World) (C : Array Value) (n c : Nat) => Lib.run_convert_bytes_const (P := Try.prog) w 32 5 C n c Try.underlying32 Try.underlying5
  have t1 : decide ((n : Int) < 1) = false := by simp; omega
  have t2 : decide ((64 : Int) < (n : Int)) = false := by simp; omega
  have t3 : decide (64 < n) = false := by simp; omega
  clear hD1 hD2
  go_enter Try.func5, Try.ntmps5
  go_wp2_with fail
  refine (New_boo n _ hn0 hn).mono ?_
  rintro r w1 ⟨rfl, B1, hB1, hbb, hbn, hbc⟩
  have HB1 := Lib.hid (And.intro hB1 (And.intro hbb (And.intro hbn hbc)))
  have s1 : w.heap.size < w1.heap.size := by have := hB1.at_.rd_lt B1.b List.mem_cons_self; omega
  clear hB1 hbb hbn hbc
  go_upto_region 6 with (first | (go_at_call 8; (with_reducible refine (Since_any _ _ _).mono ?_); rintro r w2 ⟨rfl, hb1, hb2, hf2⟩))
  obtain ⟨hB1, hbb, hbn, hbc⟩ := HB1.out
  have hB2 := hB1.fr0 hf2
  have hput : ∀ (p : Nat × Nat), Calls Try.prog 10 #[.pointer (some ⟨w.heap.size, 0, none⟩), .int .i64 0, .int .i64 1, .slice (some ⟨w2.heap.size, 0, none⟩) 1 1] (w2.alloc (.cells #[.int .u8 120] 5 p)) fun r w' => r = .returned (.int .i64 0) ∧ ∃ B', Turn (w2.alloc (.cells #[.int .u8 120] 5 p)) w' B1 B' ∧ B'.con = putC (fun _ => (0, [])) 0 1 [120] := by
    intro p
    have h := Putx_boo B1 w2.heap.size w _ (hB2.fr0 ((Fr.refl [] w2).alloc (.cells #[.int .u8 120] 5 p))) hbc (rds_marked w2 p 5) (fun hm => by have := hB2.at_.fp_lt _ hm; omega)
    rw [hbb] at h
    exact h
  have HP := Lib.hid hput
  have HB2 := Lib.hid hB2
  clear hput hB1 hbb hbn hbc hB2 hb1 hb2 hf2
  go_upto_region 8 with (first | (go_at_call 10; (with_reducible refine (HP.out _).mono ?_); rintro r w3 ⟨rfl, B3, hT3, hC3⟩))
  have hB3 : ∃ B : Boo, Beyo w w3 B ∧ B.b = w.heap.size ∧ B.n = n := by
    refine ⟨B3, (HB2.out.fr0 ((Fr.refl [] w2).alloc _)).turn hT3, by rw [hT3.b]; exact HB1.out.2.1, by rw [hT3.n]; exact HB1.out.2.2.1⟩
  have HB3 := Lib.hid hB3
  clear hB3 hT3 hC3 HP HB1 HB2 kc s1
  go_wp2_with fail
  go_loopw [57] (fun i wr => ∃ (k : Nat) (B : Boo), k ≤ D1.length ∧ i = .int .i64 k ∧ Beyo w wr B ∧ B.b = w.heap.size ∧ B.n = n) (fun i _ => D1.length - (intOf i).toNat)
  case atStart => 
    obtain ⟨B, h1, h2, h3⟩ := HB3.out
    exact ⟨0, B, Nat.zero_le _, rfl, h1, h2, h3⟩
  case round =>
    obtain ⟨k, B, hk, rfl, hB, hBb, hBn⟩ := hrel
    by_cases hlt : k < D1.length
    · obtain ⟨d, hd⟩ : ∃ d, D1[k]? = some d := ⟨D1[k], List.getElem?_eq_getElem hlt⟩
      have hdm : d ∈ D1 := List.mem_of_getElem? hd
      obtain ⟨hdr, hdb, _⟩ := DD1.out.data d hdm
      obtain ⟨ab, ao, rfl, hab, g0, g1, g2, g3, g4, g5⟩ := (DD1.out.fr hB.fr).cells hd
      have hput := Put_beyo B d.num d.at_ d.A d.cap d.xs w _ (hB.fr0 ((Fr.refl [] wr).alloc (.cells #[.int .i64 d.kd, .int .i64 d.bk, .int .i64 d.num, .int .i64 d.at_, .slice d.A d.xs.length d.cap, .slice d.LA d.ls.length d.lcap] 35))) hdr hdb
      rw [hBb] at hput
      have HP := Lib.hid hput
      have HB := Lib.hid (And.intro hB (And.intro hBb hBn))
      have k0 : (0 : Int) ≤ (k : Int) := by omega
      have k1 : (k : Int) < (D1.length : Int) := by omega
      clear hd hdm hdr hdb hB hput hBb hBn
      go_wp2_with (go_at_call 10; (with_reducible refine HP.out.mono ?_); rintro r w5 ⟨rfl, B5, hT5, hC5⟩)
      go_roundw
      case rel => exact ⟨k + 1, B5, hlt, by go_num, (HB.out.1.fr0 ((Fr.refl [] wr).alloc _)).turn hT5, by rw [hT5.b]; exact HB.out.2.1, by rw [hT5.n]; exact HB.out.2.2⟩
      case measure => simp [intOf]; omega
    · have hkl : k = D1.length := by omega
      subst hkl
      have hsnap := Snap_boo B wr hB.at_
      have hlast := fun (w' : World) (C : Boo) (h : C.At w') => Last_boo C w' h
      rw [hBb] at hsnap
      have HS := Lib.hid hsnap
      have HB := Lib.hid (And.intro hB (And.intro hBb hBn))
      clear hB hBb hBn hsnap hlt HB3 hlast
      go_upto_region 16 with (first | (go_at_call 15; (with_reducible refine HS.out.mono ?_); rintro r w4 ⟨rfl, hT4, hS4, hA4⟩))
      obtain ⟨hB, hBb, hBn⟩ := HB.out
      have hsz := hB.fr.size
      have hPair : ∃ (B' S : Boo), Pair w w4 w.heap.size wr.heap.size n (lastC B.con n) B' S := by
        refine ⟨B.shut, { B.shut with b := wr.heap.size }, ⟨hB.turn hT4, ⟨hS4, (hB.turn hT4).fr, fun x hx => ?_⟩, hA4, hBb, rfl, hBn, hBn, ?_, fun j _ => .inl rfl⟩⟩
        · rcases List.mem_cons.1 hx with rfl | hx
          · exact hsz
          · exact hB.rd x (List.mem_cons_of_mem _ hx)
        · rfl
      obtain ⟨since, hsince⟩ : ∃ since, lastC B.con n = since := ⟨_, rfl⟩
      rw [hsince] at hPair
      have hS0 : 0 ≤ since := by rw [← hsince]; exact lastC_0 _ _
      have hla := Last_boo _ w4 hS4
      rw [show (({ B.shut with b := wr.heap.size } : Boo).con) = B.con from rfl, show (({ B.shut with b := wr.heap.size } : Boo).n) = B.n from rfl, hBn, hsince] at hla
      have HLA := Lib.hid hla
      have HPA := Lib.hid hPair
      clear hB hBb hBn hPair hsince hla HS HB hT4 hS4 hA4 hsz
      go_wp2_with (go_at_call 22; (with_reducible refine HLA.out.mono ?_); rintro r w5 ⟨rfl, rfl⟩)
      obtain ⟨ws, hws⟩ : ∃ ws, wr.heap.size = ws := ⟨_, rfl⟩
      rw [hws] at HPA ⊢
      obtain ⟨wo, rfl⟩ : ∃ wo : World, wo = wr := ⟨_, rfl⟩
      go_loopw [78] (fun i wr => ∃ (k : Nat) (B S : Boo), k ≤ D2.length ∧ i = .int .i64 k ∧ Pair w wr w.heap.size ws n since B S) (fun i _ => D2.length - (intOf i).toNat)
      case atStart =>
        obtain ⟨B', S, hP⟩ := HPA.out
        exact ⟨0, B', S, Nat.zero_le _, rfl, hP⟩
      case round =>
        obtain ⟨k, B, S, hk, rfl, hP⟩ := hrel
        by_cases hlt : k < D2.length
        · obtain ⟨d, hd⟩ : ∃ d, D2[k]? = some d := ⟨D2[k], List.getElem?_eq_getElem hlt⟩
          have hdm : d ∈ D2 := List.mem_of_getElem? hd
          obtain ⟨hdr, hdb, _⟩ := DD2.out.data d hdm
          obtain ⟨ab, ao, rfl, hab, g0, g1, g2, g3, g4, g5⟩ := (DD2.out.fr hP.hB.fr).cells hd
          have hPa := hP.fr0 ((Fr.refl [] wr).alloc (.cells #[.int .i64 d.kd, .int .i64 d.bk, .int .i64 d.num, .int .i64 d.at_, .slice d.A d.xs.length d.cap, .slice d.LA d.ls.length d.lcap] 35))
          have hput := Put_beyo B d.num d.at_ d.A d.cap d.xs w _ hPa.hB hdr hdb
          rw [hP.bb] at hput
          have HP := Lib.hid hput
          have HQ := Lib.hid hPa
          have k0 : (0 : Int) ≤ (k : Int) := by omega
          have k1 : (k : Int) < (D2.length : Int) := by omega
          clear hd hdm hdr hdb hput hP hPa
          by_cases hda : since < d.at_
          · have hda2 := hda
            have q1 : decide (since < d.at_) = true := decide_eq_true hda
            go_wp2_with (go_at_call 10; (with_reducible refine HP.out.mono ?_); rintro r w5 ⟨rfl, B5, hT5, hC5⟩)
            go_roundw
            case rel => exact ⟨k + 1, B5, S, hlt, by go_num, HQ.out.turn hT5 (fun j _ => by rw [hC5]; exact putA_newer _ _ _ _ _ _ hda2 j)⟩
            case measure => simp [intOf]; omega
          · have q1 : decide (since < d.at_) = false := decide_eq_false hda
            go_wp2_with fail
            go_roundw
            case rel => exact ⟨k + 1, B, S, hlt, by go_num, HQ.out⟩
            case measure => simp [intOf]; omega
        · have hkl : k = D2.length := by omega
          subst hkl
          have hl1 := Last_boo S wr hP.hS.at_
          rw [hP.sb, hP.sn, hP.last] at hl1
          have hg := given_boo B since (-1) wr hP.hB.at_
          rw [hP.bb] at hg
          have HL1 := Lib.hid hl1
          have HG := Lib.hid hg
          have HP := Lib.hid hP
          clear hl1 hg hP hlt HPA HLA
          go_upto_region 23 with fail
          go_wp2_with fail
          refine HL1.out.mono ?_
          rintro r w6 ⟨rfl, rfl⟩
          have e1 : (since != since) = false := by simp
          go_wp2_with fail
          refine HG.out.mono ?_
          rintro r w7 ⟨A7, cap7, l7, B7, rfl, h71, h72, h73, h74⟩
          obtain ⟨hP7, hL7, hlen7, hE7, hC7⟩ := HP.out.loan hn hS0 h73 h74 h71 h72
          have hap := Apply_boo S A7 cap7 l7 w7 hP7.hS.at_ hL7 hlen7
          rw [hP7.sb, hE7] at hap
          have HAP := Lib.hid hap
          have H7 := Lib.hid (And.intro hP7 (And.intro hE7 hC7))
          clear h71 h72 h73 h74 hP7 hL7 hE7 hC7 hap
          go_wp2_with fail
          refine HAP.out.mono ?_
          rintro r w8 ⟨rfl, h8⟩
          obtain ⟨S8, hW⟩ := H7.out.1.twin H7.out.2.1 H7.out.2.2 h8
          have hl2 := Last_boo S8 w8 hW.hS.at_
          have hl3 := Last_boo B7 w8 hW.hB.at_
          rw [hW.sb, hW.sn] at hl2
          rw [hW.bb, hW.bn, lastC_congr hW.same] at hl3
          obtain ⟨la, hla⟩ : ∃ la, lastC S8.con n = la := ⟨_, rfl⟩
          rw [hla] at hl2 hl3
          have HL2 := Lib.hid hl2
          have HL3 := Lib.hid hl3
          have HW := Lib.hid hW
          clear h8 hW hl2 hl3 hla
          have e2 : (la != la) = false := by simp
          go_wp2_with fail
          refine HL2.out.mono ?_
          rintro r w9 ⟨rfl, rfl⟩
          go_wp2_with fail
          refine HL3.out.mono ?_
          rintro r w10 ⟨rfl, rfl⟩
          clear HL1 HL2 HL3 HG HP HAP H7
          go_upto_region 26 with fail
          go_loopw [115] (fun i wr => ∃ k : Nat, k ≤ n ∧ i = .int .i64 k ∧ Twin w wr w.heap.size ws n B7 S8) (fun i _ => n - (intOf i).toNat)
          case atStart => exact ⟨0, Nat.zero_le _, rfl, HW.out⟩
          case round =>
            obtain ⟨k, hk, rfl, hW⟩ := hrel
            by_cases hlt : k < n
            · have hg1 := Get_boo B7 k wr hW.hB.at_ (by rw [hW.bn]; exact hlt)
              rw [hW.bb] at hg1
              have hg2 := fun (w' : World) (hf : Fr [] wr w') => Get_boo S8 k w' (hW.fr0 hf).hS.at_ (by rw [hW.sn]; exact hlt)
              rw [hW.sb, ← hW.same k hlt] at hg2
              have hdl := (hW.hB.at_.data (j := k) (by omega)).2
              obtain ⟨xs, hxs⟩ : ∃ xs, (B7.con k).2 = xs := ⟨_, rfl⟩
              obtain ⟨at_, hat⟩ : ∃ at_, (B7.con k).1 = at_ := ⟨_, rfl⟩
              rw [hxs, hat] at hg1 hg2
              rw [hxs] at hdl
              have HG1 := Lib.hid hg1
              have HG2 := Lib.hid hg2
              have HT := Lib.hid hW
              have HDL := Lib.hid hdl
              have e3 : (at_ != at_) = false := by simp
              have k1 : (k : Int) < (n : Int) := by omega
              have k2 : decide ((k : Int) < (n : Int)) = true := decide_eq_true k1
              clear hg1 hg2 hW hxs hat hdl
              go_wp2_with fail
              refine HG1.out.mono ?_
              rintro r w11 ⟨A11, cap11, rfl, hr11, hf11, _⟩
              go_wp2_with fail
              refine (HG2.out w11 hf11).mono ?_
              rintro r w12 ⟨A12, cap12, rfl, hr12, hf12, _⟩
              have hsm := Same_any A11 A12 cap11 cap12 xs xs w12 (hr11.fr hf12 (by simp)).rds hr12.rds (by have := HDL.out; omega)
              rw [decide_eq_true (show xs = xs from rfl)] at hsm
              have HSM := Lib.hid hsm
              have HF := Lib.hid (hf11.trans hf12)
              clear hsm hr11 hr12 hf11 hf12
              go_wp2_with fail
              refine HSM.out.mono ?_
              rintro r w13 ⟨rfl, nq, rfl⟩
              go_wp2
              go_roundw
              case rel => exact ⟨k + 1, hlt, by go_num, HT.out.fr0 (HF.out.drewN nq)⟩
              case measure => simp [intOf]; omega
            · have hkl : k = n := by omega
              subst hkl
              obtain ⟨K, hK⟩ : ∃ K, (sinceC B7.con k since).length = K := ⟨_, rfl⟩
              have hK2 := hK
              rw [sinceC_congr since hW.same] at hK2
              have hK64 : K ≤ 64 := by have := sinceC_len B7.con k since; omega
              have hg1 := given_num S8 since K wr hW.hS.at_ (by rw [hW.sn]; exact hK2)
              rw [hW.sb] at hg1
              have hg2 := fun (w' : World) (h : B7.At w') => given_num B7 since K w' h (by rw [hW.bn]; exact hK)
              rw [hW.bb] at hg2
              have HG1 := Lib.hid hg1
              have HG2 := Lib.hid hg2
              have HT := Lib.hid hW
              have e5 : ((K : Int) == (K : Int)) = true := by simp
              clear hg1 hg2 hW hK hK2 hlt
              go_upto_region 33 with fail
              go_wp2_with fail
              refine HG1.out.mono ?_
              rintro r w14 ⟨A14, cap14, S14, rfl, hT14, _⟩
              have hB14 := HT.out.hB.other HT.out.hS hT14 HT.out.ap.symm
              have hg3 := HG2.out w14 hB14.at_
              have HG3 := Lib.hid hg3
              have HB14 := Lib.hid hB14
              clear hg3 hT14 hB14
              go_wp2_with fail
              refine HG3.out.mono ?_
              rintro r w15 ⟨A15, cap15, B15, rfl, hT15, _⟩
              have hfin := (HB14.out.turn hT15).fr
              go_wp2
              go_ret
              exact ⟨rfl, hfin⟩
end Go.Proofs.Ytaicpgkoailnkaa
