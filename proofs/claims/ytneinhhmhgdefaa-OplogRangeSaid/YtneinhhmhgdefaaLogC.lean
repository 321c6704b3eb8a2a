/- Package oplog, walked: New, Add, Cut, Reset: what each answers and what the log holds behind it. -/
import Derived.Test.YtneinhhmhgdefaaLogB
namespace Go.Proofs.Ytneinhhmhgdefaa
open Go.RowKit

/-- What Add, Cut, Reset answer, and what the log holds behind them. -/
def addE (n base : Nat) (L : List Ent) : Int := if L.length = n then 91 else if base + L.length = 1099511627776 then 93 else 0
def addL (n base : Nat) (L : List Ent) (e : Ent) : List Ent := if L.length = n then L else if base + L.length = 1099511627776 then L else L ++ [e]

theorem ring_add {n f : Nat} {es L : List Ent} {e : Ent} (hf : f < n) (hl : es.length = n) (hlt : L.length < n) (h : ∀ k, k < L.length → es[(f + k) % n]? = L[k]?) :
    ∀ k, k < (L ++ [e]).length → (es.set ((f + L.length) % n) e)[(f + k) % n]? = (L ++ [e])[k]? := by
  intro k hk
  simp only [List.length_append, List.length_singleton] at hk
  have h1 : ∀ x, x < n → (f + x) % n = if f + x < n then f + x else f + x - n := by
    intro x hx
    split
    · exact Nat.mod_eq_of_lt ‹_›
    · rw [Nat.mod_eq_sub_mod (by omega)]; exact Nat.mod_eq_of_lt (by omega)
  by_cases hkl : k = L.length
  · subst hkl
    rw [List.getElem?_set_self (by rw [hl]; exact Nat.mod_lt _ (by omega))]
    simp
  · rw [List.getElem?_set_ne, h k (by omega), List.getElem?_append_left (by omega)]
    rw [h1 _ hlt, h1 k (by omega)]
    split <;> split <;> omega

theorem Op_any (b base m : Nat) (w : World) (c0 : w.cell? ⟨b, 0, none⟩ = some (.int .i64 base)) (c3 : w.cell? ⟨b, 3, none⟩ = some (.int .i64 m)) (hb : base + m ≤ 1099511627776) :
    Calls Try.prog 19 #[.pointer (some ⟨b, 0, none⟩)] w fun r w' => r = .returned (.int .i64 ((base : Int) + (m : Int))) ∧ ∃ q, w' = w.drewN q := by
  have e1 : IntKind.i64.wrap (↑base + ↑m) = (base : Int) + (m : Int) := IntWalk.i64_in _ (by omega)
  go_enter Try.func19, Try.ntmps19
  go_wp2
  go_quiet (fail)
  go_wp2
  go_ret
  exact ⟨rfl, nq, rfl⟩

theorem Room_any (b m n cap : Nat) (A : Option Addr) (w : World) (c1 : w.cell? ⟨b, 1, none⟩ = some (.slice A n cap)) (c3 : w.cell? ⟨b, 3, none⟩ = some (.int .i64 m)) (hm : m ≤ n) (hn : n ≤ 64) :
    Calls Try.prog 21 #[.pointer (some ⟨b, 0, none⟩)] w fun r w' => r = .returned (.int .i64 ((n : Int) - (m : Int))) ∧ ∃ q, w' = w.drewN q := by
  have e1 : IntKind.i64.wrap (↑n - ↑m) = (n : Int) - (m : Int) := IntWalk.i64_in _ (by omega)
  go_enter Try.func21, Try.ntmps21
  go_wp2
  go_quiet (fail)
  go_wp2
  go_ret
  exact ⟨rfl, nq, rfl⟩

set_option maxHeartbeats 1000000 in
theorem Add_any (b bp n base : Nat) (L : List Ent) (e : Ent) (w : World) (hp : PLog w b bp n base L) :
    Calls Try.prog 8 #[.pointer (some ⟨b, 0, none⟩), .agg #[.int .i64 e.c, .int .i64 e.n, .int .i64 e.k, .string e.nm, .string e.tx, .int .i64 e.u, .int .i64 e.m]] w
      fun r w' => r = .returned (.int .i64 (addE n base L)) ∧ PLog w' b bp n base (addL n base L e) ∧ Fr [b, bp] w w' := by
  obtain ⟨p1, p2, p3, p4, f, es, hlog, hes, hl, hf, hk⟩ := id hp
  have HP := Lib.hid hp; clear hp
  have c0 : w.cell? ⟨b, 0, none⟩ = some (.int .i64 base) := hlog.cell 0
  have c1 : w.cell? ⟨b, 1, none⟩ = some (.slice (some ⟨bp, 0, none⟩) n n) := hlog.cell 1
  have c3 : w.cell? ⟨b, 3, none⟩ = some (.int .i64 (L.length : Nat)) := hlog.cell 3
  have hbl := hlog.lt
  have hpl := hes.lt
  have HK := Lib.hid hk; clear hk
  have HL := Lib.hid hl; clear hl
  by_cases hfull : L.length = n
  · have HF := Lib.hid hfull
    have t1 : ((n : Int) - (L.length : Int) == 0) = true := by simp; omega
    have q1 : addE n base L = 91 := by simp [addE, hfull]
    have q2 : addL n base L e = L := by simp [addL, hfull]
    have Q1 := Lib.hid q1
    have Q2 := Lib.hid q2
    clear hfull q1 q2
    go_enter Try.func8, Try.ntmps8
    go_wp2_with (go_at_call 21; refine (Room_any b L.length n n (some ⟨bp, 0, none⟩) _ ?_ ?_ p3 p2).mono ?_; (simp [*, World.cell?_alloc_old, World.cell?_setCell_far, World.cell?_alloc_some]); (simp [*, World.cell?_alloc_old, World.cell?_setCell_far, World.cell?_alloc_some]); rintro r w' ⟨rfl, q, rfl⟩)
    go_ret
    refine ⟨by rw [Q1.out]; rfl, ?_, ?_⟩
    · rw [Q2.out]
      exact HP.out.fr (S := []) (by repeat' (first | (with_reducible exact Fr.refl _ _) | (with_reducible assumption) | (with_reducible refine Fr.setCell' ?_ ?_) | (with_reducible refine Fr.drewN ?_ _) | (with_reducible refine Fr.drew ?_) | (with_reducible refine Fr.alloc ?_ _))) (by simp) (by simp)
    · repeat' (first | (with_reducible exact Fr.refl _ _) | (with_reducible assumption) | (with_reducible refine Fr.setCell' ?_ ?_) | (with_reducible refine Fr.drewN ?_ _) | (with_reducible refine Fr.drew ?_) | (with_reducible refine Fr.alloc ?_ _))
  · have hroom : L.length < n := by omega
    have t1 : ((n : Int) - (L.length : Int) == 0) = false := by simp; omega
    by_cases htop : base + L.length = 1099511627776
    · have t2 : ((base : Int) + (L.length : Int) == 1099511627776) = true := by simp; omega
      have q1 : addE n base L = 93 := by simp [addE, hfull, htop]
      have q2 : addL n base L e = L := by simp [addL, hfull, htop]
      have Q1 := Lib.hid q1
      have Q2 := Lib.hid q2
      have p5 : base + L.length ≤ 1099511627776 := by omega
      clear hfull q1 q2 htop p4
      go_enter Try.func8, Try.ntmps8
      go_wp2_with (first | (go_at_call 21; refine (Room_any b L.length n n (some ⟨bp, 0, none⟩) _ ?_ ?_ p3 p2).mono ?_; (simp [*, World.cell?_alloc_old, World.cell?_setCell_far, World.cell?_alloc_some]); (simp [*, World.cell?_alloc_old, World.cell?_setCell_far, World.cell?_alloc_some]); rintro r w' ⟨rfl, q, rfl⟩) | (go_at_call 19; refine (Op_any b base L.length _ ?_ ?_ p5).mono ?_; (simp [*, World.cell?_alloc_old, World.cell?_setCell_far, World.cell?_alloc_some]); (simp [*, World.cell?_alloc_old, World.cell?_setCell_far, World.cell?_alloc_some]); rintro r w' ⟨rfl, q, rfl⟩))
      go_ret
      refine ⟨by rw [Q1.out]; rfl, ?_, ?_⟩
      · rw [Q2.out]
        exact HP.out.fr (S := []) (by repeat' (first | (with_reducible exact Fr.refl _ _) | (with_reducible assumption) | (with_reducible refine Fr.setCell' ?_ ?_) | (with_reducible refine Fr.drewN ?_ _) | (with_reducible refine Fr.drew ?_) | (with_reducible refine Fr.alloc ?_ _))) (by simp) (by simp)
      · repeat' (first | (with_reducible exact Fr.refl _ _) | (with_reducible assumption) | (with_reducible refine Fr.setCell' ?_ ?_) | (with_reducible refine Fr.drewN ?_ _) | (with_reducible refine Fr.drew ?_) | (with_reducible refine Fr.alloc ?_ _))
    · have t2 : ((base : Int) + (L.length : Int) == 1099511627776) = false := by simp; omega
      have q1 : addE n base L = 0 := by simp [addE, hfull, htop]
      have q2 : addL n base L e = L ++ [e] := by simp [addL, hfull, htop]
      have Q1 := Lib.hid q1
      have Q2 := Lib.hid q2
      have hfin := ring_add (e := e) hf HL.out hroom HK.out
      have HFIN := Lib.hid hfin
      clear hfull q1 q2 hfin
      go_enter Try.func8, Try.ntmps8
      go_upto_region 5 with (first | (go_at_call 21; refine (Room_any b L.length n n (some ⟨bp, 0, none⟩) _ ?_ ?_ p3 p2).mono ?_; (simp [*, World.cell?_alloc_old, World.cell?_setCell_far, World.cell?_alloc_some]); (simp [*, World.cell?_alloc_old, World.cell?_setCell_far, World.cell?_alloc_some]); rintro r w' ⟨rfl, q, rfl⟩) | (go_at_call 19; refine (Op_any b base L.length _ ?_ ?_ p4).mono ?_; (simp [*, World.cell?_alloc_old, World.cell?_setCell_far, World.cell?_alloc_some]); (simp [*, World.cell?_alloc_old, World.cell?_setCell_far, World.cell?_alloc_some]); rintro r w' ⟨rfl, q, rfl⟩))
      have hbx : ∀ q, Blk ((w.alloc (.cells #[.int .i64 e.c, .int .i64 e.n, .int .i64 e.k, .string e.nm, .string e.tx, .int .i64 e.u, .int .i64 e.m] 37)).drewN q) w.heap.size 37 [.int .i64 e.c, .int .i64 e.n, .int .i64 e.k, .string e.nm, .string e.tx, .int .i64 e.u, .int .i64 e.m] := fun q => Blk.new _ _ _
      have rb := fun (w' : World) (i : Nat) (hh : Blk w' w.heap.size 37 [.int .i64 e.c, .int .i64 e.n, .int .i64 e.k, .string e.nm, .string e.tx, .int .i64 e.u, .int .i64 e.m]) => hh.cell i; have rb' := fun (w' : World) (i : Nat) (hh : Blk w' w.heap.size 37 [.int .i64 e.c, .int .i64 e.n, .int .i64 e.k, .string e.nm, .string e.tx, .int .i64 e.u, .int .i64 e.m]) => hh.frozen i
      go_region_held3 (fun w' => Blk w' w.heap.size 37 [.int .i64 e.c, .int .i64 e.n, .int .i64 e.k, .string e.nm, .string e.tx, .int .i64 e.u, .int .i64 e.m]) (simp [*, Blk.alloc, Blk.drew, Blk.drewN, Blk.far'])
        (first | (go_at_call 29; refine (radd_any b bp f L.length n base e es _ ?_ ?_ HL.out hf (by omega) p2).mono ?_; (simp [*, Blk.alloc, Blk.drew, Blk.drewN, Blk.far']); (simp [*, Blk.alloc, Blk.drew, Blk.drewN, Blk.far']); rintro r w5 ⟨rfl, hf5, hb5, he5⟩; have d5 := Blk.fr (hbx _) hf5 (by simp; omega)))
      rename_i hHeld
      clear hHeld d5
      go_wp2
      go_ret
      refine ⟨by rw [Q1.out]; rfl, ?_, ?_⟩
      · rw [Q2.out]
        exact ⟨p1, p2, by simp; omega, by simp; omega, f, _, by simpa using hb5, he5, by simpa using HL.out, hf, HFIN.out⟩
      · refine Fr.trans ?_ hf5
        repeat' (first | (with_reducible exact Fr.refl _ _) | (with_reducible assumption) | (with_reducible refine Fr.setCell' ?_ ?_) | (with_reducible refine Fr.drewN ?_ _) | (with_reducible refine Fr.drew ?_) | (with_reducible refine Fr.alloc ?_ _))

/-- What Cut answers and leaves. -/
def cutE (base : Nat) (L : List Ent) (op : Int) : Int := if op < base ∨ (base : Int) + L.length < op then 92 else 0
def cutB (base : Nat) (L : List Ent) (op : Int) : Nat := if op < base ∨ (base : Int) + L.length < op then base else op.toNat
def cutL (base : Nat) (L : List Ent) (op : Int) : List Ent := if op < base ∨ (base : Int) + L.length < op then L else L.drop (op.toNat - base)

theorem ring_drop {n f k : Nat} {es L : List Ent} (hk : k ≤ L.length) (h : ∀ j, j < L.length → es[(f + j) % n]? = L[j]?) :
    ∀ j, j < (L.drop k).length → es[((f + k) % n + j) % n]? = (L.drop k)[j]? := by
  intro j hj
  simp only [List.length_drop] at hj
  rw [List.getElem?_drop, ← h (k + j) (by omega), Nat.mod_add_mod, Nat.add_assoc]

set_option maxHeartbeats 1000000 in
theorem Cut_any (b bp n base : Nat) (L : List Ent) (op : Int) (w : World) (hp : PLog w b bp n base L) :
    Calls Try.prog 12 #[.pointer (some ⟨b, 0, none⟩), .int .i64 op] w
      fun r w' => r = .returned (.int .i64 (cutE base L op)) ∧ PLog w' b bp n (cutB base L op) (cutL base L op) ∧ Fr [b, bp] w w' := by
  obtain ⟨p1, p2, p3, p4, f, es, hlog, hes, hl, hf, hk⟩ := id hp
  have HP := Lib.hid hp; clear hp
  have HK := Lib.hid hk; clear hk
  have HL := Lib.hid hl; clear hl
  have c0 : w.cell? ⟨b, 0, none⟩ = some (.int .i64 base) := hlog.cell 0
  have c3 : w.cell? ⟨b, 3, none⟩ = some (.int .i64 (L.length : Nat)) := hlog.cell 3
  by_cases h1 : op < base
  · have t1 : decide (op < (base : Int)) = true := by simpa using h1
    have Q1 := Lib.hid (show cutE base L op = 92 by simp [cutE, h1])
    have Q2 := Lib.hid (show cutB base L op = base by simp [cutB, h1])
    have Q3 := Lib.hid (show cutL base L op = L by simp [cutL, h1])
    go_enter Try.func12, Try.ntmps12
    go_wp2
    go_ret
    refine ⟨by rw [Q1.out]; rfl, ?_, ?_⟩
    · rw [Q2.out, Q3.out]
      exact HP.out.fr (S := []) (by repeat' (first | (with_reducible exact Fr.refl _ _) | (with_reducible assumption) | (with_reducible refine Fr.setCell' ?_ ?_) | (with_reducible refine Fr.drewN ?_ _) | (with_reducible refine Fr.drew ?_) | (with_reducible refine Fr.alloc ?_ _))) (by simp) (by simp)
    · repeat' (first | (with_reducible exact Fr.refl _ _) | (with_reducible assumption) | (with_reducible refine Fr.setCell' ?_ ?_) | (with_reducible refine Fr.drewN ?_ _) | (with_reducible refine Fr.drew ?_) | (with_reducible refine Fr.alloc ?_ _))
  · have t1 : decide (op < (base : Int)) = false := by simpa using h1
    by_cases h2 : (base : Int) + L.length < op
    · have Q1 := Lib.hid (show cutE base L op = 92 by simp [cutE, h2])
      have Q2 := Lib.hid (show cutB base L op = base by simp [cutB, h2])
      have Q3 := Lib.hid (show cutL base L op = L by simp [cutL, h2])
      clear h1
      go_enter Try.func12, Try.ntmps12
      go_wp2_with (go_at_call 19; refine (Op_any b base L.length _ ?_ ?_ p4).mono ?_; (simp [*, World.cell?_alloc_old, World.cell?_setCell_far, World.cell?_alloc_some]); (simp [*, World.cell?_alloc_old, World.cell?_setCell_far, World.cell?_alloc_some]); rintro r w' ⟨rfl, q, rfl⟩)
      go_ret
      refine ⟨by rw [Q1.out]; rfl, ?_, ?_⟩
      · rw [Q2.out, Q3.out]
        exact HP.out.fr (S := []) (by repeat' (first | (with_reducible exact Fr.refl _ _) | (with_reducible assumption) | (with_reducible refine Fr.setCell' ?_ ?_) | (with_reducible refine Fr.drewN ?_ _) | (with_reducible refine Fr.drew ?_) | (with_reducible refine Fr.alloc ?_ _))) (by simp) (by simp)
      · repeat' (first | (with_reducible exact Fr.refl _ _) | (with_reducible assumption) | (with_reducible refine Fr.setCell' ?_ ?_) | (with_reducible refine Fr.drewN ?_ _) | (with_reducible refine Fr.drew ?_) | (with_reducible refine Fr.alloc ?_ _))
    · obtain ⟨k, rfl⟩ : ∃ k : Nat, op = (base : Int) + (k : Int) := ⟨(op - base).toNat, by omega⟩
      have hk : k ≤ L.length := by omega
      have Q1 := Lib.hid (show cutE base L ((base : Int) + (k : Int)) = 0 by simp [cutE, h2, h1])
      have Q2 := Lib.hid (show cutB base L ((base : Int) + (k : Int)) = base + k by rw [cutB, if_neg (by omega)]; omega)
      have Q3 := Lib.hid (show cutL base L ((base : Int) + (k : Int)) = L.drop k by rw [cutL, if_neg (by omega)]; congr 1; omega)
      have HD := Lib.hid (ring_drop hk HK.out)
      have e1 : IntKind.i64.wrap ((base : Int) + (k : Int) - (base : Int)) = (k : Int) := by rw [IntWalk.i64_in _ (by omega)]; omega
      have t2 : decide (L.length < k) = false := by simp; omega
      clear h1 h2
      go_enter Try.func12, Try.ntmps12
      go_upto_region 3 with (go_at_call 19; refine (Op_any b base L.length _ ?_ ?_ p4).mono ?_; (simp [*, World.cell?_alloc_old, World.cell?_setCell_far, World.cell?_alloc_some]); (simp [*, World.cell?_alloc_old, World.cell?_setCell_far, World.cell?_alloc_some]); rintro r w' ⟨rfl, q, rfl⟩)
      go_cut [] (fun wx => ∃ cs0 : Nat, Blk wx b 65 [.int .i64 base, .slice (some ⟨bp, 0, none⟩) n n, .int .i64 ((f + k) % n : Nat), .int .i64 (L.length - k : Nat)] ∧ Fr [b] w wx ∧ cs0 = 0)
      case first =>
        go_region_held3 (fun w' => w'.cell? ⟨b, 0, none⟩ = some (.int .i64 base)) (simp [*, World.cell?_alloc_old, World.cell?_setCell_far, World.cell?_alloc_some])
          (first | (go_at_call 30; (with_reducible refine (rdrop_any b bp f L.length n k base _ ?_ hf (by omega) p2 hk).mono ?_); (simp [*, Blk.alloc, Blk.drew, Blk.drewN, Blk.far']); rintro r w5 ⟨rfl, hf5, hb5⟩; have d5 := hb5.cell 0))
        rename_i hf5 hb5 d5 hHeld
        clear hHeld d5
        go_wp2_with fail
        go_meet
        exact ⟨0, hb5, (Fr.refl _ w).drewN _ |>.trans hf5, rfl⟩
      case rest =>
        obtain ⟨_, hb5, hf5, _⟩ := hcut
        have z0 := hb5.frozen 0
        have d0 : wc.cell? ⟨b, 0, none⟩ = some (.int .i64 base) := hb5.cell 0
        have hbp : b ≠ bp := hlog.ne hes (by decide)
        have hes5 := hes.fr hf5 (by simpa using hbp.symm)
        clear e1
        go_wp2
        go_ret
        refine ⟨by rw [Q1.out]; rfl, ?_, ?_⟩
        · rw [Q2.out, Q3.out]
          refine ⟨p1, p2, by simp; omega, by simp; omega, (f + k) % n, es, ?_, ?_, HL.out, Nat.mod_lt _ p1, HD.out⟩
          · rw [List.length_drop, show ((base + k : Nat) : Int) = (base : Int) + (k : Int) from by omega]
            repeat' (first | (with_reducible exact hb5) | (with_reducible apply Blk.drewN) | (with_reducible apply Blk.drew) | (with_reducible exact Blk.new _ _ _) | (with_reducible apply Blk.new'; simp; done) | (with_reducible apply Blk.alloc) | (with_reducible apply Blk.set') | (with_reducible apply Blk.far'))
            all_goals rfl
          · repeat' (first | (with_reducible exact hes5) | (with_reducible apply Blk.drewN) | (with_reducible apply Blk.drew) | (with_reducible exact Blk.new _ _ _) | (with_reducible apply Blk.new'; simp; done) | (with_reducible apply Blk.alloc) | (with_reducible apply Blk.set') | (with_reducible apply Blk.far'))
            all_goals exact hbp.symm
        · have hq := hf5.mono (S' := [b, bp]) (by simp)
          repeat' (first | (with_reducible exact Fr.refl _ _) | (with_reducible assumption) | (with_reducible refine Fr.setCell' ?_ ?_) | (with_reducible refine Fr.drewN ?_ _) | (with_reducible refine Fr.drew ?_) | (with_reducible refine Fr.alloc ?_ _))
          all_goals simp

theorem radd_plog (b bp n base : Nat) (L : List Ent) (e : Ent) (w : World) (hp : PLog w b bp n base L) (h1 : L.length < n) (h2 : base + L.length < 1099511627776) :
    Calls Try.prog 29 #[.pointer (some ⟨b, 1, none⟩), .agg #[.int .i64 e.c, .int .i64 e.n, .int .i64 e.k, .string e.nm, .string e.tx, .int .i64 e.u, .int .i64 e.m]] w
      fun r w' => r = .returned (.tuple #[]) ∧ PLog w' b bp n base (L ++ [e]) ∧ Fr [b, bp] w w' := by
  obtain ⟨p1, p2, p3, p4, f, es, hlog, hes, hl, hf, hk⟩ := hp
  refine (radd_any b bp f L.length n base e es w hlog hes hl hf (by omega) p2).mono ?_
  rintro r w' ⟨rfl, hf5, hb5, he5⟩
  exact ⟨rfl, ⟨p1, p2, by simp; omega, by simp; omega, f, _, by simpa using hb5, he5, by simpa using hl, hf, ring_add hf hl h1 hk⟩, hf5⟩

theorem Rds.ent {w : World} {M : List Ent} {ab ao k : Nat} {x : Ent} (hc : ∀ j u, (flat M)[j]? = some u → w.cell? ⟨ab, ao + j, none⟩ = some u) (hx : M[k]? = some x) :
    w.cell? ⟨ab, ao + k * 7, none⟩ = some (.int .i64 x.c) ∧ w.cell? ⟨ab, ao + k * 7 + 1, none⟩ = some (.int .i64 x.n) ∧ w.cell? ⟨ab, ao + k * 7 + 2, none⟩ = some (.int .i64 x.k) ∧ w.cell? ⟨ab, ao + k * 7 + 3, none⟩ = some (.string x.nm)
      ∧ w.cell? ⟨ab, ao + k * 7 + 4, none⟩ = some (.string x.tx) ∧ w.cell? ⟨ab, ao + k * 7 + 5, none⟩ = some (.int .i64 x.u) ∧ w.cell? ⟨ab, ao + k * 7 + 6, none⟩ = some (.int .i64 x.m) := by
  have h := fun j (hj : j < 7) => (flat_get M k j x hx hj)
  simp only [Nat.add_assoc]
  exact ⟨hc _ _ (h 0 (by omega)), hc _ _ (h 1 (by omega)), hc _ _ (h 2 (by omega)), hc _ _ (h 3 (by omega)), hc _ _ (h 4 (by omega)), hc _ _ (h 5 (by omega)), hc _ _ (h 6 (by omega))⟩

/-- What Reset answers and leaves: of a base and a list. -/
def resetE (n : Nat) (op : Int) (len : Nat) : Int := if op < 0 ∨ 1099511627776 < op ∨ 1099511627776 - op < len then 92 else if n < len then 90 else 0
def resetB (n base : Nat) (op : Int) (len : Nat) : Nat := if resetE n op len = 0 then op.toNat else base
def resetL (n : Nat) (L : List Ent) (op : Int) (M : List Ent) : List Ent := if resetE n op M.length = 0 then M else L

set_option maxHeartbeats 1000000 in
theorem Reset_any (b bp n base : Nat) (L M : List Ent) (op : Int) (A : Option Addr) (cap : Nat) (w : World) (hp : PLog w b bp n base L) (hM : Rds w A (flat M)) (hml : M.length * 72 ≤ 140737488351232)
    (hA : flat M ≠ [] → ∀ x ∈ fpOf A, x ≠ b ∧ x ≠ bp) :
    Calls Try.prog 14 #[.pointer (some ⟨b, 0, none⟩), .int .i64 op, .slice A M.length cap] w
      fun r w' => r = .returned (.int .i64 (resetE n op M.length)) ∧ PLog w' b bp n (resetB n base op M.length) (resetL n L op M) ∧ Fr [b, bp] w w' := by
  obtain ⟨p1, p2, p3, p4, f, es, hlog, hes, hl, hf, hk⟩ := id hp
  have HP := Lib.hid hp; clear hp
  have HK := Lib.hid hk; clear hk
  have HL := Lib.hid hl; clear hl
  have HM := Lib.hid hM; clear hM
  have HA := Lib.hid hA; clear hA
  have c1 : w.cell? ⟨b, 1, none⟩ = some (.slice (some ⟨bp, 0, none⟩) n n) := hlog.cell 1
  by_cases h0 : op < 0
  · have t1 : decide (op < 0) = true := by simpa using h0
    have q : resetE n op M.length = 92 := by simp [resetE, h0]
    have Q1 := Lib.hid q
    have Q2 := Lib.hid (show resetB n base op M.length = base by simp [resetB, q])
    have Q3 := Lib.hid (show resetL n L op M = L by simp [resetL, q])
    clear q
    go_enter Try.func14, Try.ntmps14
    go_wp2
    go_ret
    refine ⟨by rw [Q1.out]; rfl, ?_, ?_⟩
    · rw [Q2.out, Q3.out]
      exact HP.out.fr (S := []) (by repeat' (first | (with_reducible exact Fr.refl _ _) | (with_reducible assumption) | (with_reducible refine Fr.setCell' ?_ ?_) | (with_reducible refine Fr.drewN ?_ _) | (with_reducible refine Fr.drew ?_) | (with_reducible refine Fr.alloc ?_ _))) (by simp) (by simp)
    · repeat' (first | (with_reducible exact Fr.refl _ _) | (with_reducible assumption) | (with_reducible refine Fr.setCell' ?_ ?_) | (with_reducible refine Fr.drewN ?_ _) | (with_reducible refine Fr.drew ?_) | (with_reducible refine Fr.alloc ?_ _))
  · have t0 : decide (op < 0) = false := by simpa using h0
    by_cases h1 : 1099511627776 < op
    · have t1 : decide (1099511627776 < op) = true := by simpa using h1
      have q : resetE n op M.length = 92 := by simp [resetE, h1]
      have Q1 := Lib.hid q
      have Q2 := Lib.hid (show resetB n base op M.length = base by simp [resetB, q])
      have Q3 := Lib.hid (show resetL n L op M = L by simp [resetL, q])
      clear q 
      go_enter Try.func14, Try.ntmps14
      go_wp2
      go_ret
      refine ⟨by rw [Q1.out]; rfl, ?_, ?_⟩
      · rw [Q2.out, Q3.out]
        exact HP.out.fr (S := []) (by repeat' (first | (with_reducible exact Fr.refl _ _) | (with_reducible assumption) | (with_reducible refine Fr.setCell' ?_ ?_) | (with_reducible refine Fr.drewN ?_ _) | (with_reducible refine Fr.drew ?_) | (with_reducible refine Fr.alloc ?_ _))) (by simp) (by simp)
      · repeat' (first | (with_reducible exact Fr.refl _ _) | (with_reducible assumption) | (with_reducible refine Fr.setCell' ?_ ?_) | (with_reducible refine Fr.drewN ?_ _) | (with_reducible refine Fr.drew ?_) | (with_reducible refine Fr.alloc ?_ _))
    · have t1 : decide (1099511627776 < op) = false := by simpa using h1
      have e1 : IntKind.i64.wrap (1099511627776 - op) = 1099511627776 - op := IntWalk.i64_in _ (by omega)
      by_cases h2 : 1099511627776 - op < M.length
      · have t2 : decide (1099511627776 - op < (M.length : Int)) = true := by simpa using h2
        have q : resetE n op M.length = 92 := by simp [resetE, h2]
        have Q1 := Lib.hid q
        have Q2 := Lib.hid (show resetB n base op M.length = base by simp [resetB, q])
        have Q3 := Lib.hid (show resetL n L op M = L by simp [resetL, q])
        clear q 
        go_enter Try.func14, Try.ntmps14
        go_wp2
        go_ret
        refine ⟨by rw [Q1.out]; rfl, ?_, ?_⟩
        · rw [Q2.out, Q3.out]
          exact HP.out.fr (S := []) (by repeat' (first | (with_reducible exact Fr.refl _ _) | (with_reducible assumption) | (with_reducible refine Fr.setCell' ?_ ?_) | (with_reducible refine Fr.drewN ?_ _) | (with_reducible refine Fr.drew ?_) | (with_reducible refine Fr.alloc ?_ _))) (by simp) (by simp)
        · repeat' (first | (with_reducible exact Fr.refl _ _) | (with_reducible assumption) | (with_reducible refine Fr.setCell' ?_ ?_) | (with_reducible refine Fr.drewN ?_ _) | (with_reducible refine Fr.drew ?_) | (with_reducible refine Fr.alloc ?_ _))
      · have t2 : decide (1099511627776 - op < (M.length : Int)) = false := by simpa using h2
        by_cases h3 : n < M.length
        · have t3 : decide (n < M.length) = true := by simpa using h3
          have q : resetE n op M.length = 90 := by simp [resetE, h0, h1, h2, h3]
          have Q1 := Lib.hid q
          have Q2 := Lib.hid (show resetB n base op M.length = base by simp [resetB, q])
          have Q3 := Lib.hid (show resetL n L op M = L by simp [resetL, q])
          clear q 
          go_enter Try.func14, Try.ntmps14
          go_wp2
          go_ret
          refine ⟨by rw [Q1.out]; rfl, ?_, ?_⟩
          · rw [Q2.out, Q3.out]
            exact HP.out.fr (S := []) (by repeat' (first | (with_reducible exact Fr.refl _ _) | (with_reducible assumption) | (with_reducible refine Fr.setCell' ?_ ?_) | (with_reducible refine Fr.drewN ?_ _) | (with_reducible refine Fr.drew ?_) | (with_reducible refine Fr.alloc ?_ _))) (by simp) (by simp)
          · repeat' (first | (with_reducible exact Fr.refl _ _) | (with_reducible assumption) | (with_reducible refine Fr.setCell' ?_ ?_) | (with_reducible refine Fr.drewN ?_ _) | (with_reducible refine Fr.drew ?_) | (with_reducible refine Fr.alloc ?_ _))
        · have t3 : decide (n < M.length) = false := by simpa using h3
          obtain ⟨nb, rfl⟩ : ∃ nb : Nat, op = (nb : Int) := ⟨op.toNat, by omega⟩
          have q : resetE n nb M.length = 0 := by simp [resetE, h0, h1, h2, h3]
          have Q1 := Lib.hid q
          have Q2 := Lib.hid (show resetB n base nb M.length = nb by simp [resetB, q])
          have Q3 := Lib.hid (show resetL n L nb M = M by simp [resetL, q])
          have hnb : nb + M.length ≤ 1099511627776 := by omega
          have hml2 : M.length ≤ n := by omega
          clear q h0 h1 h2 h3
          have c0 : w.cell? ⟨b, 0, none⟩ = some (.int .i64 base) := hlog.cell 0
          have z0 := hlog.frozen 0
          have hbp : b ≠ bp := hlog.ne hes (by decide)
          go_enter Try.func14, Try.ntmps14
          go_upto_region 6 with fail
          obtain ⟨w1, hw1⟩ : ∃ w1, w1 = w.setCell ⟨b, 0, none⟩ (.int .i64 nb) := ⟨_, rfl⟩
          rw [← hw1]
          have hlog1 : Blk w1 b 65 [.int .i64 nb, .slice (some ⟨bp, 0, none⟩) n n, .int .i64 f, .int .i64 (L.length : Nat)] := by rw [hw1]; exact hlog.set_ 0 (.int .i64 nb)
          have hf1 : Fr [b, bp] w w1 := by rw [hw1]; exact (Fr.refl _ w).setCell' (by simp)
          have hes1 : Blk w1 bp 37 (flat es) := by rw [hw1]; exact hes.far' hbp.symm
          have d3 : w1.cell? ⟨b, 3, none⟩ = some (.int .i64 (L.length : Nat)) := hlog1.cell 3
          clear hw1 c0 c1 z0 e1
          go_cut [] (fun wx => ∃ cs0 : Nat, PLog wx b bp n nb [] ∧ Fr [b, bp] w wx ∧ cs0 = 0)
          case first =>
            go_still_tail 8, (by kernel_rfl)
            change wpList _ _ _ _ _ w1.drew
            go_wp2_with ((go_at_call 30; (with_reducible refine (rdrop_any b bp f L.length n L.length nb _ hlog1.drew hf (by omega) p2 (Nat.le_refl _)).mono ?_); rintro r w5 ⟨rfl, hf5, hb5⟩))
            go_meet
            refine ⟨0, ⟨p1, p2, by simp, by simp; omega, _, es, by rw [Nat.sub_self] at hb5; exact hb5, hes1.drew.fr hf5 (by simpa using hbp.symm), HL.out, Nat.mod_lt _ p1, by simp⟩, hf1.trans ((Fr.refl _ w1).drew.trans (hf5.mono (by simp))), rfl⟩
          case rest =>
            obtain ⟨_, hp2, hf2, _⟩ := hcut
            obtain ⟨w2, rfl⟩ : ∃ w2 : World, w2 = wc := ⟨_, rfl⟩
            clear d3 hlog1 hes1 hf1
            go_wp2
            go_loopw [48] (fun i wr => ∃ k : Nat, k ≤ M.length ∧ i = .int .i64 k ∧ PLog wr b bp n nb (M.take k) ∧ Fr [b, bp] w wr) (fun i _ => M.length - (intOf i).toNat)
            case atStart => exact ⟨0, Nat.zero_le _, rfl, by simpa using hp2, hf2⟩
            case round =>
              obtain ⟨k, hk, rfl, hp3, hf3⟩ := hrel
              by_cases hlt : k < M.length
              · obtain ⟨x, hx⟩ : ∃ x, M[k]? = some x := ⟨M[k], List.getElem?_eq_getElem hlt⟩
                have hne : flat M ≠ [] := by
                  intro h; have := flat_length M; rw [h] at this; simp at this; omega
                obtain ⟨ab, ao, rfl, hc⟩ := HM.out.fr hf3 (fun c hc => by have := HA.out hne c hc; simp; omega) hne
                obtain ⟨g0, g1, g2, g3, g4, g5, g6⟩ := Rds.ent hc hx
                have HX := Lib.hid hx
                have htk : M.take (k + 1) = M.take k ++ [x] := by rw [List.take_succ_eq_append_getElem hlt]; rw [List.getElem?_eq_getElem hlt] at hx; simp at hx; rw [hx]
                have HT := Lib.hid htk
                have hk0 : (0 : Int) ≤ (k : Int) := by omega
                have hk1 : (k : Int) < (M.length : Int) := by omega
                have hkl : (M.take k).length = k := by simp; omega
                have hlen1 : (M.take k).length < n := by omega
                have hlen2 : nb + (M.take k).length < 1099511627776 := by omega
                clear hx hc htk hne hkl
                have hp3lt := hp3.lt
                go_upto_region 10 with fail
                have rb := fun (w' : World) (i : Nat) (hh : Blk w' wr.heap.size 37 [.int .i64 x.c, .int .i64 x.n, .int .i64 x.k, .string x.nm, .string x.tx, .int .i64 x.u, .int .i64 x.m]) => hh.cell i; have rb' := fun (w' : World) (i : Nat) (hh : Blk w' wr.heap.size 37 [.int .i64 x.c, .int .i64 x.n, .int .i64 x.k, .string x.nm, .string x.tx, .int .i64 x.u, .int .i64 x.m]) => hh.frozen i
                have hbx : Blk (wr.alloc (.cells #[.int .i64 x.c, .int .i64 x.n, .int .i64 x.k, .string x.nm, .string x.tx, .int .i64 x.u, .int .i64 x.m] 37)) wr.heap.size 37 [.int .i64 x.c, .int .i64 x.n, .int .i64 x.k, .string x.nm, .string x.tx, .int .i64 x.u, .int .i64 x.m] := Blk.new _ _ _
                have hp4 : PLog (wr.alloc (.cells #[.int .i64 x.c, .int .i64 x.n, .int .i64 x.k, .string x.nm, .string x.tx, .int .i64 x.u, .int .i64 x.m] 37)).drew b bp n nb (M.take k) := hp3.fr (S := []) (((Fr.refl _ wr).alloc _).drew) (by simp) (by simp)
                clear g0 g1 g2 g3 g4 g5 g6
                go_region_held3 (fun w' => Blk w' wr.heap.size 37 [.int .i64 x.c, .int .i64 x.n, .int .i64 x.k, .string x.nm, .string x.tx, .int .i64 x.u, .int .i64 x.m]) (simp [*, Blk.alloc, Blk.drew, Blk.drewN, Blk.far'])
                  (first | (go_at_call 29; (with_reducible refine (radd_plog b bp n nb (M.take k) x _ hp4 hlen1 hlen2).mono ?_); rintro r w5 ⟨rfl, hp5, hf5⟩; have d5 := Blk.fr hbx.drew hf5 (by simp; omega)))
                rename_i hp5 hf5 d5 hHeld
                clear hHeld d5 rb rb' hbx hp4
                go_wp2
                go_roundw
                case rel => exact ⟨k + 1, hlt, by go_num, by rw [HT.out]; exact hp5, hf3.trans ((((Fr.refl _ wr).alloc _).drew).trans hf5)⟩
                case measure => simp [intOf]; omega
              · go_wp2
                go_ret
                have hkm : k = M.length := by omega
                rw [hkm, List.take_length] at hp3
                exact ⟨by rw [Q1.out]; rfl, by rw [Q2.out, Q3.out]; exact hp3, hf3⟩

theorem New_bad (room : Int) (w : World) (h : room < 1 ∨ 64 < room) :
    Calls Try.prog 5 #[.int .i64 room] w fun r w' => r = .returned (.tuple #[.pointer none, .int .i64 90]) ∧ Fr [] w w' := by
  by_cases h1 : room < 1
  · have t1 : decide (room < 1) = true := by simpa using h1
    go_enter Try.func5, Try.ntmps5
    go_wp2
    go_ret2
    exact ⟨rfl, Fr.refl _ _⟩
  · have t1 : decide (room < 1) = false := by simpa using h1
    have t2 : decide (64 < room) = true := by simp; omega
    clear h
    go_enter Try.func5, Try.ntmps5
    go_wp2
    go_ret2
    exact ⟨rfl, Fr.refl _ _⟩

theorem New_good (n : Nat) (w : World) (h0 : 0 < n) (h : n ≤ 64) :
    Calls Try.prog 5 #[.int .i64 (n : Int)] w fun r w' => ∃ b bp, r = .returned (.tuple #[.pointer (some ⟨b, 0, none⟩), .int .i64 0]) ∧ w.heap.size ≤ b ∧ w.heap.size ≤ bp ∧ PLog w' b bp n 0 [] ∧ Fr [] w w' := by
  have t1 : decide (n < 1) = false := by simp; omega
  have t2 : decide (64 < n) = false := by simp; omega
  have hmk := make_ents n h
  go_enter Try.func5, Try.ntmps5
  go_wp2
  go_ret2
  refine ⟨w.heap.size + 1, w.heap.size, rfl, by omega, by omega, ⟨h0, h, by simp, by simp, 0, List.replicate n Ent.zero, ?_, ?_, by simp, h0, by simp⟩, ?_⟩
  · show Blk _ _ _ [.int .i64 0, .slice (some ⟨w.heap.size, 0, none⟩) n n, .int .i64 0, .int .i64 0]
    repeat' (first | (with_reducible exact trivial) | (with_reducible apply Blk.drewN) | (with_reducible apply Blk.drew) | (with_reducible exact Blk.new _ _ _) | (with_reducible apply Blk.new'; simp; done) | (with_reducible apply Blk.alloc) | (with_reducible apply Blk.set') | (with_reducible apply Blk.far'))
  · repeat' (first | (with_reducible exact trivial) | (with_reducible apply Blk.drewN) | (with_reducible apply Blk.drew) | (with_reducible exact Blk.new _ _ _) | (with_reducible apply Blk.new'; simp; done) | (with_reducible apply Blk.alloc) | (with_reducible apply Blk.set') | (with_reducible apply Blk.far'))
  · repeat' (first | (with_reducible exact Fr.refl _ _) | (with_reducible assumption) | (with_reducible refine Fr.setCell' ?_ ?_) | (with_reducible refine Fr.drewN ?_ _) | (with_reducible refine Fr.drew ?_) | (with_reducible refine Fr.alloc ?_ _))

end Go.Proofs.Ytneinhhmhgdefaa
