/- The document's log (flotillaref09), walked: New, Add, Cut, Reset, Clone: the same answers, the same entries. -/
import Derived.Test.YtneinhhmhgdefaaLogC
namespace Go.Proofs.Ytneinhhmhgdefaa
open Go.RowKit

/-- The document's log: what it holds, behind a base; S: the blocks that are its own. -/
structure RLog (w : World) (r n base : Nat) (L : List Ent) (S : List Nat) : Prop where
  n0 : 0 < n
  n64 : n ≤ 64
  many : L.length ≤ n
  top : base + L.length ≤ 1099511627776
  ex : ∃ A cap, Blk w r 40 [.int .i64 n, .int .i64 base, .slice A L.length cap] ∧ Row w 37 7 A L.length cap (flat L) ∧ S = r :: fpOf A

theorem RLog.fr {w w' : World} {r n base : Nat} {L : List Ent} {S T : List Nat} (h : RLog w r n base L S) (hf : Fr T w w') (hd : ∀ x ∈ S, x ∉ T) : RLog w' r n base L S := by
  obtain ⟨h1, h2, h3, h4, A, cap, h5, h6, rfl⟩ := h
  exact ⟨h1, h2, h3, h4, A, cap, h5.fr hf (hd r (by simp)), h6.fr hf (fun b hb => hd b (by simp [hb])), rfl⟩
theorem RLog.lt {w : World} {r n base : Nat} {L : List Ent} {S : List Nat} (h : RLog w r n base L S) : ∀ x ∈ S, x < w.heap.size := by
  obtain ⟨h1, h2, h3, h4, A, cap, h5, h6, rfl⟩ := h
  intro x hx
  rcases List.mem_cons.1 hx with rfl | hx
  · exact h5.lt
  · exact h6.lt x hx

theorem rNew_bad (room : Int) (w : World) (h : room < 1 ∨ 64 < room) :
    Calls Try.prog 6 #[.int .i64 room] w fun r w' => r = .returned (.tuple #[.pointer none, .int .i64 90]) ∧ Fr [] w w' := by
  by_cases h1 : room < 1
  · have t1 : decide (room < 1) = true := by simpa using h1
    go_enter Try.func6, Try.ntmps6
    go_wp2
    go_ret2
    exact ⟨rfl, Fr.refl _ _⟩
  · have t1 : decide (room < 1) = false := by simpa using h1
    have t2 : decide (64 < room) = true := by simp; omega
    clear h
    go_enter Try.func6, Try.ntmps6
    go_wp2
    go_ret2
    exact ⟨rfl, Fr.refl _ _⟩

theorem rNew_good (n : Nat) (w : World) (h0 : 0 < n) (h : n ≤ 64) :
    Calls Try.prog 6 #[.int .i64 (n : Int)] w fun r w' => ∃ b, r = .returned (.tuple #[.pointer (some ⟨b, 0, none⟩), .int .i64 0]) ∧ w.heap.size ≤ b ∧ RLog w' b n 0 [] [b] ∧ Fr [] w w' := by
  have t1 : decide (n < 1) = false := by simp; omega
  have t2 : decide (64 < n) = false := by simp; omega
  go_enter Try.func6, Try.ntmps6
  go_wp2
  go_ret2
  refine ⟨w.heap.size, rfl, by omega, ⟨h0, h, by simp, by simp, none, 0, ?_, Row.nil _ _ _, rfl⟩, ?_⟩
  · show Blk _ _ _ [.int .i64 n, .int .i64 0, .slice none 0 0]
    repeat' (first | (with_reducible exact trivial) | (with_reducible apply Blk.drewN) | (with_reducible apply Blk.drew) | (with_reducible exact Blk.new _ _ _) | (with_reducible apply Blk.new'; simp; done) | (with_reducible apply Blk.alloc) | (with_reducible apply Blk.set') | (with_reducible apply Blk.far'))
  · repeat' (first | (with_reducible exact Fr.refl _ _) | (with_reducible assumption) | (with_reducible refine Fr.setCell' ?_ ?_) | (with_reducible refine Fr.drewN ?_ _) | (with_reducible refine Fr.drew ?_) | (with_reducible refine Fr.alloc ?_ _))

theorem rOp_any (b base m cap : Nat) (A : Option Addr) (w : World) (c1 : w.cell? ⟨b, 1, none⟩ = some (.int .i64 base)) (c2 : w.cell? ⟨b, 2, none⟩ = some (.slice A m cap)) (hb : base + m ≤ 1099511627776) :
    Calls Try.prog 20 #[.pointer (some ⟨b, 0, none⟩)] w fun r w' => r = .returned (.int .i64 ((base : Int) + (m : Int))) ∧ ∃ q, w' = w.drewN q := by
  have e1 : IntKind.i64.wrap (↑base + ↑m) = (base : Int) + (m : Int) := IntWalk.i64_in _ (by omega)
  go_enter Try.func20, Try.ntmps20
  go_wp2
  go_quiet (fail)
  go_wp2
  go_ret
  exact ⟨rfl, nq, rfl⟩

theorem rRoom_any (b m n cap : Nat) (A : Option Addr) (w : World) (c0 : w.cell? ⟨b, 0, none⟩ = some (.int .i64 n)) (c2 : w.cell? ⟨b, 2, none⟩ = some (.slice A m cap)) (hm : m ≤ n) (hn : n ≤ 64) :
    Calls Try.prog 22 #[.pointer (some ⟨b, 0, none⟩)] w fun r w' => r = .returned (.int .i64 ((n : Int) - (m : Int))) ∧ ∃ q, w' = w.drewN q := by
  have e1 : IntKind.i64.wrap (↑n - ↑m) = (n : Int) - (m : Int) := IntWalk.i64_in _ (by omega)
  go_enter Try.func22, Try.ntmps22
  go_wp2
  go_quiet (fail)
  go_wp2
  go_ret
  exact ⟨rfl, nq, rfl⟩

set_option maxHeartbeats 1000000 in
theorem rAdd_any (b n base : Nat) (L : List Ent) (S : List Nat) (e : Ent) (w : World) (hp : RLog w b n base L S) :
    Calls Try.prog 9 #[.pointer (some ⟨b, 0, none⟩), .agg #[.int .i64 e.c, .int .i64 e.n, .int .i64 e.k, .string e.nm, .string e.tx, .int .i64 e.u, .int .i64 e.m]] w
      fun r w' => r = .returned (.int .i64 (addE n base L)) ∧ ∃ S', RLog w' b n base (addL n base L e) S' ∧ Fr S w w' ∧ ∀ x ∈ S', x ∈ S ∨ w.heap.size ≤ x := by
  obtain ⟨p1, p2, p3, p4, A, cap, hlog, hrow, hS⟩ := id hp
  have HP := Lib.hid hp; clear hp
  have HS := Lib.hid hS; clear hS
  have c0 : w.cell? ⟨b, 0, none⟩ = some (.int .i64 n) := hlog.cell 0
  have c1 : w.cell? ⟨b, 1, none⟩ = some (.int .i64 base) := hlog.cell 1
  have c2 : w.cell? ⟨b, 2, none⟩ = some (.slice A L.length cap) := hlog.cell 2
  have hbl := hlog.lt
  by_cases hfull : L.length = n
  · have HF := Lib.hid hfull
    have t1 : ((n : Int) - (L.length : Int) == 0) = true := by simp; omega
    have q1 : addE n base L = 91 := by simp [addE, hfull]
    have q2 : addL n base L e = L := by simp [addL, hfull]
    have Q1 := Lib.hid q1
    have Q2 := Lib.hid q2
    clear hfull q1 q2
    go_enter Try.func9, Try.ntmps9
    go_wp2_with (go_at_call 22; refine (rRoom_any b L.length n cap A _ ?_ ?_ p3 p2).mono ?_; (simp [*, World.cell?_alloc_old, World.cell?_setCell_far, World.cell?_alloc_some]); (simp [*, World.cell?_alloc_old, World.cell?_setCell_far, World.cell?_alloc_some]); rintro r w' ⟨rfl, q, rfl⟩)
    go_ret
    refine ⟨by rw [Q1.out]; rfl, S, ?_, ?_, fun x hx => .inl hx⟩
    · rw [Q2.out]
      exact HP.out.fr (T := []) (by repeat' (first | (with_reducible exact Fr.refl _ _) | (with_reducible assumption) | (with_reducible refine Fr.setCell' ?_ ?_) | (with_reducible refine Fr.drewN ?_ _) | (with_reducible refine Fr.drew ?_) | (with_reducible refine Fr.alloc ?_ _))) (by simp)
    · repeat' (first | (with_reducible exact Fr.refl _ _) | (with_reducible assumption) | (with_reducible refine Fr.setCell' ?_ ?_) | (with_reducible refine Fr.drewN ?_ _) | (with_reducible refine Fr.drew ?_) | (with_reducible refine Fr.alloc ?_ _))
  · have hroom : L.length < n := by omega
    have t1 : ((n : Int) - (L.length : Int) == 0) = false := by simp; omega
    by_cases htop : base + L.length = 1099511627776
    · have t2 : ((base : Int) + (L.length : Int) == 1099511627776) = true := by simp; omega
      have q1 : addE n base L = 93 := by simp [addE, hfull, htop]
      have q2 : addL n base L e = L := by simp [addL, hfull, htop]
      have Q1 := Lib.hid q1
      have Q2 := Lib.hid q2
      have p5 : base + L.length ≤ 1099511627776 := by omega
      clear hfull q1 q2 htop p4
      go_enter Try.func9, Try.ntmps9
      go_wp2_with (first | (go_at_call 22; refine (rRoom_any b L.length n cap A _ ?_ ?_ p3 p2).mono ?_; (simp [*, World.cell?_alloc_old, World.cell?_setCell_far, World.cell?_alloc_some]); (simp [*, World.cell?_alloc_old, World.cell?_setCell_far, World.cell?_alloc_some]); rintro r w' ⟨rfl, q, rfl⟩) | (go_at_call 20; refine (rOp_any b base L.length cap A _ ?_ ?_ p5).mono ?_; (simp [*, World.cell?_alloc_old, World.cell?_setCell_far, World.cell?_alloc_some]); (simp [*, World.cell?_alloc_old, World.cell?_setCell_far, World.cell?_alloc_some]); rintro r w' ⟨rfl, q, rfl⟩))
      go_ret
      refine ⟨by rw [Q1.out]; rfl, S, ?_, ?_, fun x hx => .inl hx⟩
      · rw [Q2.out]
        exact HP.out.fr (T := []) (by repeat' (first | (with_reducible exact Fr.refl _ _) | (with_reducible assumption) | (with_reducible refine Fr.setCell' ?_ ?_) | (with_reducible refine Fr.drewN ?_ _) | (with_reducible refine Fr.drew ?_) | (with_reducible refine Fr.alloc ?_ _))) (by simp)
      · repeat' (first | (with_reducible exact Fr.refl _ _) | (with_reducible assumption) | (with_reducible refine Fr.setCell' ?_ ?_) | (with_reducible refine Fr.drewN ?_ _) | (with_reducible refine Fr.drew ?_) | (with_reducible refine Fr.alloc ?_ _))
    · have t2 : ((base : Int) + (L.length : Int) == 1099511627776) = false := by simp; omega
      have q1 : addE n base L = 0 := by simp [addE, hfull, htop]
      have q2 : addL n base L e = L ++ [e] := by simp [addL, hfull, htop]
      have Q1 := Lib.hid q1
      have Q2 := Lib.hid q2
      clear hfull q1 q2
      obtain ⟨i0, hi, hz0, hz1, hz2⟩ := info_parts Try.iEnt
      have HI := Lib.hid (And.intro hi (And.intro hz0 (And.intro hz1 hz2)))
      clear hi hz0 hz1 hz2
      go_enter Try.func9, Try.ntmps9
      go_upto_region 5 with (first | (go_at_call 22; refine (rRoom_any b L.length n cap A _ ?_ ?_ p3 p2).mono ?_; (simp [*, World.cell?_alloc_old, World.cell?_setCell_far, World.cell?_alloc_some]); (simp [*, World.cell?_alloc_old, World.cell?_setCell_far, World.cell?_alloc_some]); rintro r w' ⟨rfl, qa, rfl⟩) | (go_at_call 20; refine (rOp_any b base L.length cap A _ ?_ ?_ p4).mono ?_; (simp [*, World.cell?_alloc_old, World.cell?_setCell_far, World.cell?_alloc_some]); (simp [*, World.cell?_alloc_old, World.cell?_setCell_far, World.cell?_alloc_some]); rintro r w' ⟨rfl, qb, rfl⟩))
      have hbx : Blk ((w.alloc (.cells #[.int .i64 e.c, .int .i64 e.n, .int .i64 e.k, .string e.nm, .string e.tx, .int .i64 e.u, .int .i64 e.m] 37)).drewN (qa + qb)) w.heap.size 37 [.int .i64 e.c, .int .i64 e.n, .int .i64 e.k, .string e.nm, .string e.tx, .int .i64 e.u, .int .i64 e.m] := Blk.new _ _ _
      have hf1 : Fr [] w ((w.alloc (.cells #[.int .i64 e.c, .int .i64 e.n, .int .i64 e.k, .string e.nm, .string e.tx, .int .i64 e.u, .int .i64 e.m] 37)).drewN (qa + qb)) := by repeat' (first | (with_reducible exact Fr.refl _ _) | (with_reducible assumption) | (with_reducible refine Fr.setCell' ?_ ?_) | (with_reducible refine Fr.drewN ?_ _) | (with_reducible refine Fr.drew ?_) | (with_reducible refine Fr.alloc ?_ _))
      generalize (w.alloc (.cells #[.int .i64 e.c, .int .i64 e.n, .int .i64 e.k, .string e.nm, .string e.tx, .int .i64 e.u, .int .i64 e.m] 37)).drewN (qa + qb) = w1 at *
      have hlog1 := hlog.fr hf1 (by simp)
      have hrow1 := hrow.fr hf1 (by simp)
      have HR := Lib.hid hrow1
      have d2 : w1.cell? ⟨b, 2, none⟩ = some (.slice A L.length cap) := hlog1.cell 2
      have z2 := hlog1.frozen 2
      have hb1 := hlog1.lt
      have hx1 := hbx.lt
      have g0 : w1.cell? ⟨w.heap.size, 0, none⟩ = some (.int .i64 e.c) := hbx.cell 0
      have g1 : w1.cell? ⟨w.heap.size, 1, none⟩ = some (.int .i64 e.n) := hbx.cell 1
      have g2 : w1.cell? ⟨w.heap.size, 2, none⟩ = some (.int .i64 e.k) := hbx.cell 2
      have g3 : w1.cell? ⟨w.heap.size, 3, none⟩ = some (.string e.nm) := hbx.cell 3
      have g4 : w1.cell? ⟨w.heap.size, 4, none⟩ = some (.string e.tx) := hbx.cell 4
      have g5 : w1.cell? ⟨w.heap.size, 5, none⟩ = some (.int .i64 e.u) := hbx.cell 5
      have g6 : w1.cell? ⟨w.heap.size, 6, none⟩ = some (.int .i64 e.m) := hbx.cell 6
      have hbA : b ∉ fpOf A := fun hm => hrow1.ne_blk hlog1 (by decide) b hm rfl
      have HB := Lib.hid hbA
      clear c0 c1 c2 hrow1 hrow hbA
      go_cut [] (fun wx => ∃ S', RLog wx b n base (L ++ [e]) S' ∧ Fr S w wx ∧ ∀ x ∈ S', x ∈ S ∨ w.heap.size ≤ x)
      case first =>
        go_region_law (first | (refine step_append2 rfl (.tmp 15) (.tmp 17) 22 rfl 37 i0 _ 7 72 Try.uEnts HI.out.1 HI.out.2.1 HI.out.2.2.1 HI.out.2.2.2 rfl (by decide) A L.length cap (flat L) rfl ?_ (some ⟨w1.heap.size, 0, none⟩) 1 1 e.cells rfl rfl ?_ (ent_one e) ?_ ?_ ?_; (exact (HR.out.alloc _).drew); (intro _; exact ⟨_, rfl, fun j u hu => by rw [addr_add, Nat.zero_add]; exact (Blk.new w1 37 e.cells).cell' hu⟩); (unfold maxLen; omega); omega; (intro A' cap' w5 hr5 hf5 hfp5 hn5; have hf6 := (((Fr.refl (fpOf A) w1).alloc (.cells #[.int .i64 e.c, .int .i64 e.n, .int .i64 e.k, .string e.nm, .string e.tx, .int .i64 e.u, .int .i64 e.m] 37)).drew).trans hf5; have k2 := hf6.cell HB.out d2; have hlog6 := hlog1.fr hf6 HB.out; have y2 := hlog6.frozen 2; have HR5 := Lib.hid hr5; clear hr5)))
        all_goals
          go_wp2_with fail
          go_meet
          have hne := HR5.out.ne_blk hlog6 (by decide)
          have hsz := hf1.size
          refine ⟨b :: fpOf A', ⟨p1, p2, by simp; omega, by simp; omega, A', cap', ?_, ?_, rfl⟩, ?_, ?_⟩
          · have h7 := hlog6.set_ 2 (.slice A' (L.length + 1) cap')
            rw [List.length_append]
            exact h7
          · have h7 := HR5.out.far (b := b) (o := 2) (u := .slice A' (L.length + 1) cap') (fun hm => hne b hm rfl)
            rw [List.length_append, flat_append, show flat [e] = e.cells from by simp [flat]]
            exact h7
          · rw [HS.out]
            exact ((hf1.mono (S' := b :: fpOf A) (by simp)).trans (hf6.mono (fun x hx => List.mem_cons_of_mem _ hx))).setCell' (by simp)
          · rw [HS.out]
            intro x hx
            rcases List.mem_cons.1 hx with rfl | hx
            · simp
            · rcases hfp5 x hx with h | h
              · left; simp [h]
              · right; simp at h; omega
      case rest =>
        obtain ⟨S', h1, h2, h3⟩ := hcut
        go_wp2
        go_ret
        exact ⟨by rw [Q1.out]; rfl, S', by rw [Q2.out]; exact h1, h2, h3⟩

theorem flat_drop (l : List Ent) (k : Nat) (hk : k ≤ l.length) : (flat l).drop (k * 7) = flat (l.drop k) := by
  conv => lhs; rw [← List.take_append_drop k l, flat_append]
  rw [List.drop_append, List.drop_eq_nil_of_le (by rw [flat_length, List.length_take]; omega), List.nil_append]
  rw [flat_length, List.length_take, Nat.min_eq_left hk, Nat.sub_self, List.drop_zero]
theorem Rds.drop {w : World} {b o : Nat} {xs : List Value} (hc : ∀ j u, xs[j]? = some u → w.cell? ⟨b, o + j, none⟩ = some u) (k : Nat) : ∀ j u, (xs.drop k)[j]? = some u → w.cell? ⟨b, o + k + j, none⟩ = some u := by
  intro j u hu
  rw [List.getElem?_drop] at hu
  rw [Nat.add_assoc]
  exact hc _ _ hu

set_option maxHeartbeats 1000000 in
theorem rCut_any (b n base : Nat) (L : List Ent) (S : List Nat) (op : Int) (w : World) (hp : RLog w b n base L S) :
    Calls Try.prog 13 #[.pointer (some ⟨b, 0, none⟩), .int .i64 op] w
      fun r w' => r = .returned (.int .i64 (cutE base L op)) ∧ ∃ S', RLog w' b n (cutB base L op) (cutL base L op) S' ∧ Fr S w w' ∧ ∀ x ∈ S', x ∈ S ∨ w.heap.size ≤ x := by
  obtain ⟨p1, p2, p3, p4, A, cap, hlog, hrow, hS⟩ := id hp
  have HP := Lib.hid hp; clear hp
  have HS := Lib.hid hS; clear hS
  have c1 : w.cell? ⟨b, 1, none⟩ = some (.int .i64 base) := hlog.cell 1
  have c2 : w.cell? ⟨b, 2, none⟩ = some (.slice A L.length cap) := hlog.cell 2
  by_cases h1 : op < base
  · have t1 : decide (op < (base : Int)) = true := by simpa using h1
    have Q1 := Lib.hid (show cutE base L op = 92 by simp [cutE, h1])
    have Q2 := Lib.hid (show cutB base L op = base by simp [cutB, h1])
    have Q3 := Lib.hid (show cutL base L op = L by simp [cutL, h1])
    go_enter Try.func13, Try.ntmps13
    go_wp2
    go_ret
    refine ⟨by rw [Q1.out]; rfl, S, ?_, ?_, fun x hx => .inl hx⟩
    · rw [Q2.out, Q3.out]
      exact HP.out.fr (T := []) (by repeat' (first | (with_reducible exact Fr.refl _ _) | (with_reducible assumption) | (with_reducible refine Fr.setCell' ?_ ?_) | (with_reducible refine Fr.drewN ?_ _) | (with_reducible refine Fr.drew ?_) | (with_reducible refine Fr.alloc ?_ _))) (by simp)
    · repeat' (first | (with_reducible exact Fr.refl _ _) | (with_reducible assumption) | (with_reducible refine Fr.setCell' ?_ ?_) | (with_reducible refine Fr.drewN ?_ _) | (with_reducible refine Fr.drew ?_) | (with_reducible refine Fr.alloc ?_ _))
  · have t1 : decide (op < (base : Int)) = false := by simpa using h1
    by_cases h2 : (base : Int) + L.length < op
    · have Q1 := Lib.hid (show cutE base L op = 92 by simp [cutE, h2])
      have Q2 := Lib.hid (show cutB base L op = base by simp [cutB, h2])
      have Q3 := Lib.hid (show cutL base L op = L by simp [cutL, h2])
      clear h1
      go_enter Try.func13, Try.ntmps13
      go_wp2_with (go_at_call 20; refine (rOp_any b base L.length cap A _ ?_ ?_ p4).mono ?_; (simp [*, World.cell?_alloc_old, World.cell?_setCell_far, World.cell?_alloc_some]); (simp [*, World.cell?_alloc_old, World.cell?_setCell_far, World.cell?_alloc_some]); rintro r w' ⟨rfl, q, rfl⟩)
      go_ret
      refine ⟨by rw [Q1.out]; rfl, S, ?_, ?_, fun x hx => .inl hx⟩
      · rw [Q2.out, Q3.out]
        exact HP.out.fr (T := []) (by repeat' (first | (with_reducible exact Fr.refl _ _) | (with_reducible assumption) | (with_reducible refine Fr.setCell' ?_ ?_) | (with_reducible refine Fr.drewN ?_ _) | (with_reducible refine Fr.drew ?_) | (with_reducible refine Fr.alloc ?_ _))) (by simp)
      · repeat' (first | (with_reducible exact Fr.refl _ _) | (with_reducible assumption) | (with_reducible refine Fr.setCell' ?_ ?_) | (with_reducible refine Fr.drewN ?_ _) | (with_reducible refine Fr.drew ?_) | (with_reducible refine Fr.alloc ?_ _))
    · obtain ⟨k, rfl⟩ : ∃ k : Nat, op = (base : Int) + (k : Int) := ⟨(op - base).toNat, by omega⟩
      have hk : k ≤ L.length := by omega
      have Q1 := Lib.hid (show cutE base L ((base : Int) + (k : Int)) = 0 by simp [cutE, h2, h1])
      have Q2 := Lib.hid (show cutB base L ((base : Int) + (k : Int)) = base + k by rw [cutB, if_neg (by omega)]; omega)
      have Q3 := Lib.hid (show cutL base L ((base : Int) + (k : Int)) = L.drop k by rw [cutL, if_neg (by omega)]; congr 1; omega)
      have e1 : IntKind.i64.wrap ((base : Int) + (k : Int) - (base : Int)) = (k : Int) := by rw [IntWalk.i64_in _ (by omega)]; omega
      have t2 : decide (L.length < k) = false := by simp; omega
      have k0 : (0 : Int) ≤ (k : Int) := by omega
      have k1 : (k : Int) ≤ (L.length : Int) := by omega
      obtain ⟨i0, hi, hz0, hz1, hz2⟩ := info_parts Try.iEnt
      have HI := Lib.hid (And.intro hi (And.intro hz0 (And.intro hz1 hz2)))
      have HR := Lib.hid hrow
      have hsrc : ∃ A2 : Option Addr, (if cap = k then A else Option.map (fun x => x.add (k * 7)) A) = A2 ∧ Rds w A2 (flat (L.drop k)) := by
        refine ⟨_, rfl, ?_⟩
        rcases hrow.cases with ⟨hA, hl, _, _⟩ | ⟨g, cur, rfl, _, hlc, _, _, _⟩
        · have : L = [] := List.eq_nil_of_length_eq_zero hl
          subst this
          simpa [flat] using Rds.nil w _
        · by_cases hck : cap = k
          · rw [List.drop_eq_nil_of_le (by omega)]; exact Rds.nil w _
          · rw [if_neg hck]
            intro hne
            refine ⟨g, k * 7, by simp [addr_add], ?_⟩
            have hc : ∀ j u, (flat L)[j]? = some u → w.cell? ⟨g, 0 + j, none⟩ = some u := by
              intro j u hu
              obtain ⟨g', hg', hc'⟩ := hrow.cell hu
              simp at hg'; subst hg'
              rw [Nat.zero_add]; exact hc'
            have := Rds.drop hc (k * 7)
            rw [flat_drop L k hk, Nat.zero_add] at this
            exact this
      obtain ⟨A2, hA2, hR2⟩ := hsrc
      have HR2 := Lib.hid hR2
      have hdl : (L.drop k).length = L.length - k := List.length_drop
      have HDL := Lib.hid hdl
      have hbA : b ∉ fpOf A := fun hm => hrow.ne_blk hlog (by decide) b hm rfl
      have HB := Lib.hid hbA
      clear h1 h2 hi hz0 hz1 hz2 hrow hR2 hdl hbA
      go_enter Try.func13, Try.ntmps13
      go_upto_region 4 with (go_at_call 20; refine (rOp_any b base L.length cap A _ ?_ ?_ p4).mono ?_; (simp [*, World.cell?_alloc_old, World.cell?_setCell_far, World.cell?_alloc_some]); (simp [*, World.cell?_alloc_old, World.cell?_setCell_far, World.cell?_alloc_some]); rintro r w' ⟨rfl, qa, rfl⟩)
      go_cut [5] (fun s5 wx => ∃ A' cap', s5 = .slice A' (L.length - k) cap' ∧ Row wx 37 7 A' (L.length - k) cap' (flat (L.drop k)) ∧ Fr [] w wx ∧ ∀ x ∈ fpOf A', w.heap.size ≤ x)
      case first =>
        go_region_held3 (fun w' => w'.cell? ⟨b, 1, none⟩ = some (.int .i64 base) ∧ w'.cell? ⟨b, 2, none⟩ = some (.slice A L.length cap)) (simp [*, World.cell?_alloc_old, World.cell?_setCell_far, World.cell?_alloc_some])
          (first | (refine step_append2 rfl (.tmp 18) (.tmp 29) 22 rfl 37 i0 _ 7 72 Try.uEnts HI.out.1 HI.out.2.1 HI.out.2.2.1 HI.out.2.2.2 rfl (by decide) none 0 0 [] rfl (Row.nil _ _ _) A2 (L.length - k) (cap - k) (flat (L.drop k)) rfl ?_ ?_ (flat_one _) ?_ ?_ ?_; (rw [flat_length, HDL.out]); (exact Rds.src (size := 7) HR2.out (by decide) (by rw [flat_length, HDL.out])); (unfold maxLen; omega); omega; (intro A' cap' w5 hr5 hf5 hfp5 hn5; have HR5 := Lib.hid hr5; have u1 := hf5.cell (b := b) (o := 1) (by simp [fpOf]) c1; have u2 := hf5.cell (b := b) (o := 2) (by simp [fpOf]) c2; clear hr5)))
        rename_i hHeld
        clear hHeld u1 u2
        go_wp2_with fail
        go_meet
        refine ⟨A', cap', rfl, ?_, ((Fr.refl [] w).drewN qa).drew.trans hf5, fun x hx => ?_⟩
        · have h7 := HR5.out
          rw [Nat.zero_add, List.nil_append] at h7
          exact h7
        · rcases hfp5 x hx with h | h
          · simp [fpOf] at h
          · exact h
      case rest =>
        obtain ⟨A', cap', rfl, hr5, hf5, hfp5⟩ := hcut
        have hlog5 := hlog.fr hf5 (by simp)
        have hne5 := hr5.ne_blk hlog5 (by decide)
        have HR5 := Lib.hid hr5
        have u1 : wc.cell? ⟨b, 1, none⟩ = some (.int .i64 base) := hlog5.cell 1
        have u2 : wc.cell? ⟨b, 2, none⟩ = some (.slice A L.length cap) := hlog5.cell 2
        have z1 := hlog5.frozen 1
        have z2 := hlog5.frozen 2
        clear e1 hr5 c1 c2
        go_wp2
        go_ret
        refine ⟨by rw [Q1.out]; rfl, b :: fpOf A', ?_, ?_, ?_⟩
        · rw [Q2.out, Q3.out]
          refine ⟨p1, p2, by rw [HDL.out]; omega, by rw [HDL.out]; omega, A', cap', ?_, ?_, rfl⟩
          · rw [HDL.out, show ((base + k : Nat) : Int) = (base : Int) + (k : Int) from by omega]
            repeat' (first | (with_reducible exact hlog5) | (with_reducible apply Blk.drewN) | (with_reducible apply Blk.drew) | (with_reducible exact Blk.new _ _ _) | (with_reducible apply Blk.new'; simp; done) | (with_reducible apply Blk.alloc) | (with_reducible apply Blk.set') | (with_reducible apply Blk.far'))
            all_goals rfl
          · rw [HDL.out]
            exact (HR5.out.far (fun hm => hne5 b hm rfl)).far (fun hm => hne5 b hm rfl)
        · rw [HS.out]
          have hq := hf5.mono (S' := b :: fpOf A) (by simp)
          repeat' (first | (with_reducible exact Fr.refl _ _) | (with_reducible assumption) | (with_reducible refine Fr.setCell' ?_ ?_) | (with_reducible refine Fr.drewN ?_ _) | (with_reducible refine Fr.drew ?_) | (with_reducible refine Fr.alloc ?_ _))
          all_goals simp
        · rw [HS.out]
          intro x hx
          rcases List.mem_cons.1 hx with rfl | hx
          · simp
          · exact .inr (hfp5 x hx)

set_option maxHeartbeats 1000000 in
theorem rReset_any (b n base : Nat) (L M : List Ent) (S : List Nat) (op : Int) (A0 : Option Addr) (cap0 : Nat) (w : World) (hp : RLog w b n base L S) (hM : Rds w A0 (flat M)) (hml : M.length * 72 ≤ 140737488351232) :
    Calls Try.prog 15 #[.pointer (some ⟨b, 0, none⟩), .int .i64 op, .slice A0 M.length cap0] w
      fun r w' => r = .returned (.int .i64 (resetE n op M.length)) ∧ ∃ S', RLog w' b n (resetB n base op M.length) (resetL n L op M) S' ∧ Fr S w w' ∧ ∀ x ∈ S', x ∈ S ∨ w.heap.size ≤ x := by
  obtain ⟨p1, p2, p3, p4, A, cap, hlog, hrow, hS⟩ := id hp
  have HP := Lib.hid hp; clear hp
  have HS := Lib.hid hS; clear hS
  have HM := Lib.hid hM; clear hM
  have c0 : w.cell? ⟨b, 0, none⟩ = some (.int .i64 n) := hlog.cell 0
  have short : ∀ q : Nat, resetE n op M.length ≠ 0 → ∃ S', RLog (w.drewN q) b n (resetB n base op M.length) (resetL n L op M) S' ∧ Fr S w (w.drewN q) ∧ ∀ x ∈ S', x ∈ S ∨ w.heap.size ≤ x := by
    intro q hne
    rw [resetB, if_neg hne, resetL, if_neg hne]
    exact ⟨S, HP.out.fr (T := []) ((Fr.refl _ w).drewN q) (by simp), (Fr.refl _ w).drewN q, fun x hx => .inl hx⟩
  have SH := Lib.hid short
  clear short
  by_cases h0 : op < 0
  · have t1 : decide (op < 0) = true := by simpa using h0
    have Q1 := Lib.hid (show resetE n op M.length = 92 by simp [resetE, h0])
    clear h0
    go_enter Try.func15, Try.ntmps15
    go_wp2
    go_ret
    exact ⟨by rw [Q1.out]; rfl, SH.out 0 (by rw [Q1.out]; decide)⟩
  · have t0 : decide (op < 0) = false := by simpa using h0
    by_cases h1 : 1099511627776 < op
    · have t1 : decide (1099511627776 < op) = true := by simpa using h1
      have Q1 := Lib.hid (show resetE n op M.length = 92 by simp [resetE, h1])
      clear h0 h1
      go_enter Try.func15, Try.ntmps15
      go_wp2
      go_ret
      exact ⟨by rw [Q1.out]; rfl, SH.out 0 (by rw [Q1.out]; decide)⟩
    · have t1 : decide (1099511627776 < op) = false := by simpa using h1
      have e1 : IntKind.i64.wrap (op + (M.length : Int)) = op + (M.length : Int) := IntWalk.i64_in _ (by omega)
      by_cases h2 : 1099511627776 - op < M.length
      · have t2 : decide (1099511627776 < op + (M.length : Int)) = true := by simp; omega
        have Q1 := Lib.hid (show resetE n op M.length = 92 by simp [resetE, h2])
        clear h0 h1 h2
        go_enter Try.func15, Try.ntmps15
        go_wp2
        go_ret
        exact ⟨by rw [Q1.out]; rfl, SH.out 0 (by rw [Q1.out]; decide)⟩
      · have t2 : decide (1099511627776 < op + (M.length : Int)) = false := by simp; omega
        by_cases h3 : n < M.length
        · have t3 : decide (n < M.length) = true := by simpa using h3
          have Q1 := Lib.hid (show resetE n op M.length = 90 by simp [resetE, h0, h1, h2, h3])
          clear h0 h1 h2
          go_enter Try.func15, Try.ntmps15
          go_wp2
          go_ret
          exact ⟨by rw [Q1.out]; rfl, SH.out 0 (by rw [Q1.out]; decide)⟩
        · have t3 : decide (n < M.length) = false := by simpa using h3
          obtain ⟨nb, rfl⟩ : ∃ nb : Nat, op = (nb : Int) := ⟨op.toNat, by omega⟩
          have q : resetE n nb M.length = 0 := by simp [resetE, h0, h1, h2, h3]
          have Q1 := Lib.hid q
          have Q2 := Lib.hid (show resetB n base nb M.length = nb by simp [resetB, q])
          have Q3 := Lib.hid (show resetL n L nb M = M by simp [resetL, q])
          have hnb : nb + M.length ≤ 1099511627776 := by omega
          have hml2 : M.length ≤ n := by omega
          obtain ⟨i0, hi, hz0, hz1, hz2⟩ := info_parts Try.iEnt
          have HI := Lib.hid (And.intro hi (And.intro hz0 (And.intro hz1 hz2)))
          have c1 : w.cell? ⟨b, 1, none⟩ = some (.int .i64 base) := hlog.cell 1
          have c2 : w.cell? ⟨b, 2, none⟩ = some (.slice A L.length cap) := hlog.cell 2
          clear q h0 h1 h2 h3 hi hz0 hz1 hz2 hrow
          go_enter Try.func15, Try.ntmps15
          go_upto_region 6 with fail
          go_cut [7] (fun s7 wx => ∃ A' cap', s7 = .slice A' M.length cap' ∧ Row wx 37 7 A' M.length cap' (flat M) ∧ Fr [] w wx ∧ ∀ x ∈ fpOf A', w.heap.size ≤ x)
          case first =>
            go_wp2_with ((at_builtin; refine wpList_append2 rfl (.tmp 28) (.tmp 29) 22 rfl 37 i0 _ 7 72 Try.uEnts HI.out.1 HI.out.2.1 HI.out.2.2.1 HI.out.2.2.2 rfl (by decide) none 0 0 [] rfl (Row.nil _ _ _) A0 M.length cap0 (flat M) rfl ?_ ?_ (flat_one _) ?_ ?_ ?_; (rw [flat_length]); (exact Rds.src (size := 7) HM.out (by decide) (by rw [flat_length])); (unfold maxLen; omega); omega; (intro A' cap' w5 hr5 hf5 hfp5 hn5; have HR5 := Lib.hid hr5; clear hr5)))
            go_meet
            refine ⟨A', cap', rfl, ?_, hf5, fun x hx => ?_⟩
            · have h7 := HR5.out
              rw [Nat.zero_add, List.nil_append] at h7
              exact h7
            · rcases hfp5 x hx with h | h
              · simp [fpOf] at h
              · exact h
          case rest =>
            obtain ⟨A', cap', rfl, hr5, hf5, hfp5⟩ := hcut
            have hlog5 := hlog.fr hf5 (by simp)
            have hne5 := hr5.ne_blk hlog5 (by decide)
            have HR5 := Lib.hid hr5
            have u1 : wc.cell? ⟨b, 1, none⟩ = some (.int .i64 base) := hlog5.cell 1
            have u2 : wc.cell? ⟨b, 2, none⟩ = some (.slice A L.length cap) := hlog5.cell 2
            have z1 := hlog5.frozen 1
            have z2 := hlog5.frozen 2
            clear e1 hr5 c0 c1 c2
            go_wp2
            go_ret
            refine ⟨by rw [Q1.out]; rfl, b :: fpOf A', ?_, ?_, ?_⟩
            · rw [Q2.out, Q3.out]
              refine ⟨p1, p2, hml2, hnb, A', cap', ?_, ?_, rfl⟩
              · repeat' (first | (with_reducible exact hlog5) | (with_reducible apply Blk.drewN) | (with_reducible apply Blk.drew) | (with_reducible exact Blk.new _ _ _) | (with_reducible apply Blk.new'; simp; done) | (with_reducible apply Blk.alloc) | (with_reducible apply Blk.set') | (with_reducible apply Blk.far'))
                all_goals rfl
              · exact (HR5.out.far (fun hm => hne5 b hm rfl)).far (fun hm => hne5 b hm rfl)
            · rw [HS.out]
              have hq := hf5.mono (S' := b :: fpOf A) (by simp)
              repeat' (first | (with_reducible exact Fr.refl _ _) | (with_reducible assumption) | (with_reducible refine Fr.setCell' ?_ ?_) | (with_reducible refine Fr.drewN ?_ _) | (with_reducible refine Fr.drew ?_) | (with_reducible refine Fr.alloc ?_ _))
              all_goals simp
            · rw [HS.out]
              intro x hx
              rcases List.mem_cons.1 hx with rfl | hx
              · simp
              · exact .inr (hfp5 x hx)

set_option maxHeartbeats 1000000 in
theorem rClone_any (b n base : Nat) (L : List Ent) (S : List Nat) (w : World) (hp : RLog w b n base L S) :
    Calls Try.prog 10 #[.pointer (some ⟨b, 0, none⟩)] w
      fun r w' => ∃ c S', r = .returned (.pointer (some ⟨c, 0, none⟩)) ∧ RLog w' c n base L S' ∧ Fr [] w w' ∧ ∀ x ∈ S', w.heap.size ≤ x := by
  obtain ⟨p1, p2, p3, p4, A, cap, hlog, hrow, hS⟩ := hp
  have HS := Lib.hid hS; clear hS
  have c0 : w.cell? ⟨b, 0, none⟩ = some (.int .i64 n) := hlog.cell 0
  have c1 : w.cell? ⟨b, 1, none⟩ = some (.int .i64 base) := hlog.cell 1
  have c2 : w.cell? ⟨b, 2, none⟩ = some (.slice A L.length cap) := hlog.cell 2
  obtain ⟨i0, hi, hz0, hz1, hz2⟩ := info_parts Try.iEnt
  have HI := Lib.hid (And.intro hi (And.intro hz0 (And.intro hz1 hz2)))
  have HR := Lib.hid hrow
  clear hi hz0 hz1 hz2 hrow
  go_enter Try.func10, Try.ntmps10
  go_upto_region 2 with fail
  go_cut [3] (fun s7 wx => ∃ A' cap', s7 = .slice A' L.length cap' ∧ Row wx 37 7 A' L.length cap' (flat L) ∧ Fr [] w wx ∧ ∀ x ∈ fpOf A', w.heap.size ≤ x)
  case first =>
    go_wp2_with ((at_builtin; refine wpList_append2 rfl (.tmp 4) (.tmp 8) 22 rfl 37 i0 _ 7 72 Try.uEnts HI.out.1 HI.out.2.1 HI.out.2.2.1 HI.out.2.2.2 rfl (by decide) none 0 0 [] rfl (Row.nil _ _ _) A L.length cap (flat L) rfl ?_ ?_ (flat_one _) ?_ ?_ ?_; (rw [flat_length]); (exact Rds.src (size := 7) HR.out.rds (by decide) (by rw [flat_length])); (unfold maxLen; omega); omega; (intro A' cap' w5 hr5 hf5 hfp5 hn5; have HR5 := Lib.hid hr5; clear hr5)))
    go_meet
    refine ⟨A', cap', rfl, ?_, hf5, fun x hx => ?_⟩
    · have h7 := HR5.out
      rw [Nat.zero_add, List.nil_append] at h7
      exact h7
    · rcases hfp5 x hx with h | h
      · simp [fpOf] at h
      · exact h
  case rest =>
    obtain ⟨A', cap', rfl, hr5, hf5, hfp5⟩ := hcut
    obtain ⟨w2, rfl⟩ : ∃ w2 : World, w2 = wc := ⟨_, rfl⟩
    have hlog5 := hlog.fr hf5 (by simp)
    have HR5 := Lib.hid hr5
    have u0 : w2.cell? ⟨b, 0, none⟩ = some (.int .i64 n) := hlog5.cell 0
    have u1 : w2.cell? ⟨b, 1, none⟩ = some (.int .i64 base) := hlog5.cell 1
    clear hr5 c0 c1 c2
    go_upto_region 3 with fail
    go_cut [2] (fun s2 wx => ∃ c S', s2 = .pointer (some ⟨c, 0, none⟩) ∧ RLog wx c n base L S' ∧ Fr [] w wx ∧ ∀ x ∈ S', w.heap.size ≤ x)
    case first =>
      go_region_held3 (fun w' => w'.cell? ⟨b, 0, none⟩ = some (.int .i64 n) ∧ w'.cell? ⟨b, 1, none⟩ = some (.int .i64 base)) (simp [*, World.cell?_alloc_old, World.cell?_setCell_far, World.cell?_alloc_some]) (fail)
      go_wp2_with fail
      go_meet
      have hsz := hf5.size
      refine ⟨w2.heap.size, w2.heap.size :: fpOf A', rfl, ⟨p1, p2, p3, p4, A', cap', ?_, ?_, rfl⟩, ?_, ?_⟩
      · repeat' (first | (with_reducible exact trivial) | (with_reducible apply Blk.drewN) | (with_reducible apply Blk.drew) | (with_reducible exact Blk.new _ _ _) | (with_reducible apply Blk.new'; simp; done) | (with_reducible apply Blk.alloc) | (with_reducible apply Blk.set') | (with_reducible apply Blk.far'))
      · exact (HR5.out.alloc _).drew
      · repeat' (first | (with_reducible exact Fr.refl _ _) | (with_reducible assumption) | (with_reducible refine Fr.setCell' ?_ ?_) | (with_reducible refine Fr.drewN ?_ _) | (with_reducible refine Fr.drew ?_) | (with_reducible refine Fr.alloc ?_ _))
      · intro x hx
        rcases List.mem_cons.1 hx with rfl | hx
        · exact hsz
        · exact hfp5 x hx
    case rest =>
      obtain ⟨c, S', rfl, h1, h2, h3⟩ := hcut
      go_wp2
      go_ret
      exact ⟨c, S', rfl, h1, h2, h3⟩

end Go.Proofs.Ytneinhhmhgdefaa
