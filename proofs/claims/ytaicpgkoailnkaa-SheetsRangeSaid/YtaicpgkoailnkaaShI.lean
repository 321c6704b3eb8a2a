/- The law's turn: a Put on the Snap, an Apply. -/
import Derived.Test.YtaicpgkoailnkaaShH
namespace Go.Proofs.Ytaicpgkoailnkaa
open Go.RowKit

set_option maxRecDepth 100000 in
set_option maxHeartbeats 8000000 in
theorem turn_snap (w0 w : World) (n : Nat) (B S : Boo) (R Z : RBo) (d : Deed) (h : Quad w0 w n B S R Z) (hx : Rds w0 d.A (bvals d.xs)) (hx1 : Bytes d.xs) (hl : d.xs.length ≤ 140737488351232) (hk : I64 d.kd) (h0 : d.kd % 3 = 2) :
    Calls Try.prog 20 #[.pointer (some ⟨B.b, 0, none⟩), .pointer (some ⟨S.b, 0, none⟩), .pointer (some ⟨R.r, 0, none⟩), .pointer (some ⟨Z.r, 0, none⟩), .agg d.cells.toArray] w fun r w' => r = .returned (.bool true) ∧ ∃ B' S' R' Z', QTurn w0 w w' n B S R Z B' S' R' Z' := by
  have ham := fun W => among3 d.kd W hk.1 hk.2
  rw [h0] at ham
  have hbx : Blk (w.alloc (.cells d.cells.toArray 35)) w.heap.size 35 d.cells := Blk.new _ _ _
  have hq : Quad w0 (w.alloc (.cells d.cells.toArray 35)).drew n B S R Z := h.fr0 ((Fr.refl [] w).alloc _).drew
  have hp1 := hq.swap.put1 d.num d.at_ d.A d.cap d.xs hx hx1
  have hp2 := fun (w1 : World) (B' : Boo) (hT : Turn (w.alloc (.cells d.cells.toArray 35)).drew w1 S B') => hq.swap.put2 d.num d.at_ d.A d.cap d.xs hx hl hT
  have hb1 := h.hS.fp_lt
  have hb2 := h.hZ.rd_lt
  obtain ⟨pe, hpe⟩ : ∃ z, putE n (lastC S.con n) d.num d.at_ d.xs.length = z := ⟨_, rfl⟩
  rw [hpe] at hp1 hp2
  have epe : (pe == pe) = true := by simp
  have HP := Lib.hid (And.intro hp1 (And.intro hp2 (And.intro hbx (And.intro hq (And.intro hb1 hb2)))))
  have HK := Lib.hid ham
  have HH := Lib.hid h
  clear h hx hx1 hl hp1 hp2 hbx hq ham hb1 hb2 h0 hk
  unfold Deed.cells at *
  go_enter Try.func20, Try.ntmps20
  go_upto_region 6 with (first | (go_at_call 41; (with_reducible refine (HK.out _).mono ?_); rintro r w1 ⟨rfl, rfl⟩))
  have DB := HP.out.2.2.1.drew
  have rb := fun (w' : World) (i : Nat) (hh : Blk w' w.heap.size 35 [.int .i64 d.kd, .int .i64 d.bk, .int .i64 d.num, .int .i64 d.at_, .slice d.A d.xs.length d.cap, .slice d.LA d.ls.length d.lcap]) => hh.cell i; have rb' := fun (w' : World) (i : Nat) (hh : Blk w' w.heap.size 35 [.int .i64 d.kd, .int .i64 d.bk, .int .i64 d.num, .int .i64 d.at_, .slice d.A d.xs.length d.cap, .slice d.LA d.ls.length d.lcap]) => hh.frozen i
  go_region_held3 (fun w' => Blk w' w.heap.size 35 [.int .i64 d.kd, .int .i64 d.bk, .int .i64 d.num, .int .i64 d.at_, .slice d.A d.xs.length d.cap, .slice d.LA d.ls.length d.lcap]) (simp [*, Blk.alloc, Blk.drew, Blk.drewN, Blk.far'])
    (first | (go_at_call 10; (with_reducible refine HP.out.1.mono ?_); rintro r w5 ⟨rfl, B', hT, hc⟩; have db := DB.fr hT.fr (fun hm => by have := HP.out.2.2.2.2.1 _ hm; omega)) | (go_at_call 14; (with_reducible refine (HP.out.2.1 w5 B' hT).mono ?_); rintro r w6 ⟨rfl, hP⟩; have ub : Blk w6 w.heap.size 35 [.int .i64 d.kd, .int .i64 d.bk, .int .i64 d.num, .int .i64 d.at_, .slice d.A d.xs.length d.cap, .slice d.LA d.ls.length d.lcap] := (by obtain ⟨R', hU, hO⟩ := hP; exact db.fr hU.fr (fun hm => by have := HP.out.2.2.2.2.2 _ (RBo.fp_rd hm); omega))))
  rename_i hHeld
  have hT := ‹Turn _ w5 S B'›
  have hc := ‹B'.con = putA S.con n d.num d.at_ d.xs›
  have hP := ‹RPut w5 w6 Z S.con n d.num d.at_ d.xs›
  have HF := Lib.hid (HP.out.2.2.2.1.swap.done hT hc hP)
  clear db ub hHeld rb rb' DB hT hc hP
  go_wp2
  go_ret
  obtain ⟨R', hQ⟩ := HF.out
  exact ⟨rfl, B, B', R, R', (QTurn.of_fr HH.out (((Fr.refl [] w).alloc _).drew)).trans hQ.swap⟩
/-! ### A list that reads the same is laid in with the same outcome -/
theorem keys_cons {s t : Sh} {l m : List Sh} (h : (s :: l).map Sh.key = (t :: m).map Sh.key) : s.num = t.num ∧ s.at_ = t.at_ ∧ s.xs = t.xs ∧ l.map Sh.key = m.map Sh.key := by
  simp only [List.map_cons, List.cons.injEq, Sh.key, Prod.mk.injEq] at h
  exact ⟨h.1.1, h.1.2.1, h.1.2.2, h.2⟩
theorem appE_keys {n : Nat} : ∀ {l m : List Sh} (last : Int), l.map Sh.key = m.map Sh.key → appE n last l = appE n last m
  | [], [], _, _ => rfl
  | [], _ :: _, _, h => by simp at h
  | _ :: _, [], _, h => by simp at h
  | s :: l, t :: m, last, h => by
    obtain ⟨h1, h2, h3, h4⟩ := keys_cons h
    rw [appE, appE, h1, h2, h3, appE_keys t.num h4]
theorem appC_keys : ∀ {l m : List Sh} (c : Nat → Int × List Int), l.map Sh.key = m.map Sh.key → appC c l = appC c m
  | [], [], _, _ => rfl
  | [], _ :: _, _, h => by simp at h
  | _ :: _, [], _, h => by simp at h
  | s :: l, t :: m, c, h => by
    obtain ⟨h1, h2, h3, h4⟩ := keys_cons h
    have e1 : appC c (s :: l) = appC (putC c s.num.toNat s.at_ s.xs) l := rfl
    have e2 : appC c (t :: m) = appC (putC c t.num.toNat t.at_ t.xs) m := rfl
    rw [e1, e2, h1, h2, h3, appC_keys _ h4]

theorem Lent.loan {w0 w : World} {A : Option Addr} {l : List Sh} {S : List Nat} (h : Lent w0 A l) (hf : Fr [] w0 w) (hS : ∀ x ∈ S, w0.heap.size ≤ x) : Loan w S A l :=
  ⟨h.rds.fr hf (by simp), fun hne x hx hm => by have := h.rds.lt hne x hx; have := hS x hm; omega, fun s hs => ⟨(h.data s hs).1.fr hf (by simp), (h.data s hs).2.1, fun hne x hx hm => by have := (h.data s hs).1.lt hne x hx; have := hS x hm; omega⟩⟩
theorem Loaned.loan {w : World} {base : Nat} {A : Option Addr} {cap : Nat} {DA : Option Addr} {dcap : Nat} {l l' : List Sh} {S : List Nat} (h : Loaned w base A cap DA dcap l l') (hS : ∀ x ∈ S, x < base) (hb : ∀ s ∈ l, Bytes s.xs) : Loan w S A l' :=
  ⟨h.told.row.rds, fun _ x hx hm => by have := h.told.own x hx; have := hS x hm; omega, fun s hs => ⟨(h.told.data s hs).rds, by
    have h1 : s.key ∈ l'.map Sh.key := List.mem_map.2 ⟨s, hs, rfl⟩
    rw [h.keys] at h1
    obtain ⟨t, ht, e⟩ := List.mem_map.1 h1
    have : t.xs = s.xs := by simp only [Sh.key, Prod.mk.injEq] at e; exact e.2.2
    rw [← this]
    exact hb t ht, fun _ x hx hm => by have := h.told.new s hs x hx; have := hS x hm; omega⟩⟩

theorem Quad.applied {w0 w w1 w' : World} {n : Nat} {B S : Boo} {R Z : RBo} {l l' : List Sh} (h : Quad w0 w n B S R Z) (hA : Applied w B l' w1) (hk : l'.map Sh.key = l.map Sh.key) (hP : RApplied w1 R B.con n l w') : ∃ B' R', QTurn w0 w w' n B S R Z B' S R' Z := by
  obtain ⟨B', hT, hc⟩ := hA
  obtain ⟨R', hU, hO⟩ := hP
  rw [h.bn, appE_keys (-1) hk, appC_keys _ hk] at hc
  rw [← hc] at hO
  exact ⟨B', R', h.first hT hU hO⟩

set_option maxRecDepth 100000 in
set_option maxHeartbeats 8000000 in
theorem turn_apply (w0 w : World) (n : Nat) (B S : Boo) (R Z : RBo) (d : Deed) (h : Quad w0 w n B S R Z) (hx : Lent w0 d.LA d.ls) (hk : I64 d.kd) (h0 : d.kd % 3 = 1) :
    Calls Try.prog 20 #[.pointer (some ⟨B.b, 0, none⟩), .pointer (some ⟨S.b, 0, none⟩), .pointer (some ⟨R.r, 0, none⟩), .pointer (some ⟨Z.r, 0, none⟩), .agg d.cells.toArray] w fun r w' => r = .returned (.bool true) ∧ ∃ B' S' R' Z', QTurn w0 w w' n B S R Z B' S' R' Z' := by
  have ham := fun W => among3 d.kd W hk.1 hk.2
  rw [h0] at ham
  have hbx : Blk (w.alloc (.cells d.cells.toArray 35)) w.heap.size 35 d.cells := Blk.new _ _ _
  have hq : Quad w0 (w.alloc (.cells d.cells.toArray 35)).drew n B S R Z := h.fr0 ((Fr.refl [] w).alloc _).drew
  have hn64 := h.hB.n64
  have hll := hx.long
  have hloan := loan_any d.LA d.lcap d.ls _ (hx.fr hq.fr)
  have happly := fun (W : World) (l' : List Sh) (A : Option Addr) (cap : Nat) (hf : Fr [] (w.alloc (.cells d.cells.toArray 35)).drew W) (hL : Loan W B.fp A l') (hk : l'.map Sh.key = d.ls.map Sh.key) => Apply_boo B A cap l' W (hq.hB.fr0 hf) hL (by have := congrArg List.length hk; simp only [List.length_map] at this; omega)
  have hrapp := fun (W W1 : World) (l' : List Sh) (hf : Fr [] (w.alloc (.cells d.cells.toArray 35)).drew W) (hA : Applied W B l' W1) => rApply_any R B.con n d.LA d.lcap d.ls W1 (by
      obtain ⟨B', hT, _⟩ := hA
      exact hT.rbo (hq.hB.fr0 hf) (hq.hR.fr0 hf)) h.oR (by have := h.bn; omega) (by
      obtain ⟨B', hT, _⟩ := hA
      exact hx.loan ((hq.fr.trans hf).trans' hT.fr (fun x hx => .inr (h.bB x (Boo.fp_rd hx)))) (fun x hx => h.bR x (RBo.fp_rd hx))) (by omega)
  have hb1 := h.hB.fp_lt
  have hb2 := h.hR.rd_lt
  have hby : ∀ s ∈ d.ls, Bytes s.xs := fun s hs => (hx.data s hs).2.1
  obtain ⟨pe, hpe⟩ : ∃ z, appE n (-1) d.ls = z := ⟨_, rfl⟩
  obtain ⟨m, hm⟩ : ∃ z, d.ls.length = z := ⟨_, rfl⟩
  have hbn := h.bn
  rw [hbn] at happly
  rw [hpe] at hrapp
  rw [hm] at hloan hrapp
  have epe : (pe == pe) = true := by simp
  have HP := Lib.hid (And.intro hloan (And.intro happly (And.intro hrapp (And.intro hq (And.intro hb1 (And.intro hb2 (And.intro hby (And.intro hbx hpe))))))))
  have HK := Lib.hid ham
  have HH := Lib.hid h
  unfold Deed.cells at *
  rw [hm] at HP ⊢
  have HM := Lib.hid hm
  clear h hx hloan happly hrapp hbx hq ham hb1 hb2 h0 hk hby hpe hm hbn hll
  go_enter Try.func20, Try.ntmps20
  go_upto_region 5 with (first | (go_at_call 41; (with_reducible refine (HK.out _).mono ?_); rintro r w1 ⟨rfl, rfl⟩))
  have DB := HP.out.2.2.2.2.2.2.2.1.drew
  have rb := fun (w' : World) (i : Nat) (hh : Blk w' w.heap.size 35 [.int .i64 d.kd, .int .i64 d.bk, .int .i64 d.num, .int .i64 d.at_, .slice d.A d.xs.length d.cap, .slice d.LA m d.lcap]) => hh.cell i; have rb' := fun (w' : World) (i : Nat) (hh : Blk w' w.heap.size 35 [.int .i64 d.kd, .int .i64 d.bk, .int .i64 d.num, .int .i64 d.at_, .slice d.A d.xs.length d.cap, .slice d.LA m d.lcap]) => hh.frozen i
  have hmix : Try.prog.follows .mixedOrders = true := by kernel_rfl
  refine wp_region_noPanic (wp_region_till 13 (fun w' => Blk w' w.heap.size 35 [.int .i64 d.kd, .int .i64 d.bk, .int .i64 d.num, .int .i64 d.at_, .slice d.A d.xs.length d.cap, .slice d.LA m d.lcap]) hmix DB (fun hHeld => ?_))
  refine wpAnyT_takeL 0 (v := ?_) (by rfl) (by kernel_rfl) (by decide) (by kernel_rfl) (by kernel_rfl) (by kernel_rfl) (fun _ _ _ h => h) (by rfl) ?_ (by assumption) ?_; rotate_left; (next => (intro w' hSw; (try dsimp only at hSw); go_simp; (try with_reducible rfl))); (try simp only [Act.put, List.setIfInBounds_toArray, List.set_cons_zero, List.set_cons_succ])
  refine wpAnyT_takeL 1 (v := ?_) (by rfl) (by kernel_rfl) (by decide) (by kernel_rfl) (by kernel_rfl) (by kernel_rfl) (fun _ _ _ h => h) (by rfl) ?_ (by assumption) ?_; rotate_left; (next => (intro w' hSw; (try dsimp only at hSw); go_simp; (try with_reducible rfl))); (try simp only [Act.put, List.setIfInBounds_toArray, List.set_cons_zero, List.set_cons_succ])
  refine wpAnyT_takeL 2 (v := ?_) (by rfl) (by kernel_rfl) (by decide) (by kernel_rfl) (by kernel_rfl) (by kernel_rfl) (fun _ _ _ h => h) (by rfl) ?_ (by assumption) ?_; rotate_left; (next => (intro w' hSw; (try dsimp only at hSw); go_simp; (try with_reducible rfl))); (try simp only [Act.put, List.setIfInBounds_toArray, List.set_cons_zero, List.set_cons_succ])
  refine wpAnyT_takeL 8 (v := ?_) (by rfl) (by kernel_rfl) (by decide) (by kernel_rfl) (by kernel_rfl) (by kernel_rfl) (fun _ _ _ h => h) (by rfl) ?_ (by assumption) ?_; rotate_left; (next => (intro w' hSw; (try dsimp only at hSw); go_simp; (try with_reducible rfl))); (try simp only [Act.put, List.setIfInBounds_toArray, List.set_cons_zero, List.set_cons_succ])
  refine wpAnyT_takeL 9 (v := ?_) (by rfl) (by kernel_rfl) (by decide) (by kernel_rfl) (by kernel_rfl) (by kernel_rfl) (fun _ _ _ h => h) (by rfl) ?_ (by assumption) ?_; rotate_left; (next => (intro w' hSw; (try dsimp only at hSw); go_simp; (try with_reducible rfl))); (try simp only [Act.put, List.setIfInBounds_toArray, List.set_cons_zero, List.set_cons_succ])
  refine wpAnyT_takeL 10 (v := ?_) (by rfl) (by kernel_rfl) (by decide) (by kernel_rfl) (by kernel_rfl) (by kernel_rfl) (fun _ _ _ h => h) (by rfl) ?_ (by assumption) ?_; rotate_left; (next => (intro w' hSw; (try dsimp only at hSw); go_simp; (try with_reducible rfl))); (try simp only [Act.put, List.setIfInBounds_toArray, List.set_cons_zero, List.set_cons_succ])
  refine wpAnyT_oneL 3 (by rfl) (by kernel_rfl) (by rfl) (fun K hK => ?_); go_simp
  go_at_call 42
  (with_reducible refine HP.out.1.mono ?_)
  rintro r w5 ⟨rfl, A5, cap5, D5, dcap5, l5, hb5, hL5, hm5, hf5⟩
  have db := DB.fr hf5 (by simp)
  have co : w5.cell? ⟨w.heap.size + 1, 0, none⟩ = some (.slice A5 m cap5) := by have := hb5.cell' (i := 0) rfl; simpa using this
  refine hK.out _ _ ?_ (fun hHeld => ?_); (next => (exact db)); clear hK K; (try simp only [Act.put, List.setIfInBounds_toArray, List.set_cons_zero, List.set_cons_succ])
  refine wpAnyT_oneL 4 (by rfl) (by kernel_rfl) (by rfl) (fun K hK => ?_); go_simp
  refine hK.out _ _ ?_ (fun hHeld => ?_); (next => (exact db)); clear hK K; (try simp only [Act.put, List.setIfInBounds_toArray, List.set_cons_zero, List.set_cons_succ])
  refine wpAnyT_oneL 5 (by rfl) (by kernel_rfl) (by rfl) (fun K hK => ?_); go_simp
  refine hK.out _ _ ?_ (fun hHeld => ?_); (next => (exact db)); clear hK K; (try simp only [Act.put, List.setIfInBounds_toArray, List.set_cons_zero, List.set_cons_succ])
  refine wpAnyT_oneL 6 (by rfl) (by kernel_rfl) (by rfl) (fun K hK => ?_); go_simp
  refine hK.out _ _ ?_ (fun hHeld => ?_); (next => (exact db)); clear hK K; (try simp only [Act.put, List.setIfInBounds_toArray, List.set_cons_zero, List.set_cons_succ])
  refine wpAnyT_oneL 7 (by rfl) (by kernel_rfl) (by rfl) (fun K hK => ?_); go_simp
  have hl5 : l5.length = m := by rw [hL5.len]; exact HM.out
  have hLo := hL5.loan (S := B.fp) (fun x hx => by have := HP.out.2.2.2.2.1 x hx; simp; omega) HP.out.2.2.2.2.2.2.1
  have hap := HP.out.2.1 w5 l5 A5 cap5 hf5 hLo hL5.keys
  rw [hl5, appE_keys (-1) hL5.keys, HP.out.2.2.2.2.2.2.2.2] at hap
  go_at_call 23
  (with_reducible refine hap.mono ?_)
  rintro r w6 ⟨rfl, hA6⟩
  have ub : Blk w6 w.heap.size 35 [.int .i64 d.kd, .int .i64 d.bk, .int .i64 d.num, .int .i64 d.at_, .slice d.A d.xs.length d.cap, .slice d.LA m d.lcap] := by
    obtain ⟨B', hT, _⟩ := hA6
    exact db.fr hT.fr (fun hm => by have := HP.out.2.2.2.2.1 _ hm; omega)
  refine hK.out _ _ ?_ (fun hHeld => ?_); (next => (exact ub)); clear hK K; (try simp only [Act.put, List.setIfInBounds_toArray, List.set_cons_zero, List.set_cons_succ])
  refine wpAnyT_oneL 11 (by rfl) (by kernel_rfl) (by rfl) (fun K hK => ?_); go_simp
  go_at_call 43
  (with_reducible refine (HP.out.2.2.1 w5 w6 l5 hf5 hA6).mono ?_)
  rintro r w7 ⟨rfl, hP7⟩
  have uc : Blk w7 w.heap.size 35 [.int .i64 d.kd, .int .i64 d.bk, .int .i64 d.num, .int .i64 d.at_, .slice d.A d.xs.length d.cap, .slice d.LA m d.lcap] := by
    obtain ⟨R', hU, _⟩ := hP7
    exact ub.fr hU.fr (fun hm => by have := HP.out.2.2.2.2.2.1 _ (RBo.fp_rd hm); omega)
  refine hK.out _ _ ?_ (fun hHeld => ?_); (next => (exact uc)); clear hK K; (try simp only [Act.put, List.setIfInBounds_toArray, List.set_cons_zero, List.set_cons_succ])
  refine wpAnyT_oneL 12 (by rfl) (by kernel_rfl) (by rfl) (fun K hK => ?_); go_simp
  refine hK.out _ _ ?_ (fun hHeld => ?_); (next => (exact uc)); clear hK K; (try simp only [Act.put, List.setIfInBounds_toArray, List.set_cons_zero, List.set_cons_succ])
  refine wpAnyT_lastL (by rfl) (by kernel_rfl) (by rfl) (fun K hK => ?_); go_simp
  refine hK.out _ _ ?_; clear hK K; (try simp only [Act.put, List.setIfInBounds_toArray, List.set_cons_zero, List.set_cons_succ]); refine wpAnyT_doneL (by kernel_rfl) ?_
  refine NoPanic.normal ?_
  have HF := Lib.hid ((HP.out.2.2.2.1.fr0 hf5).applied hA6 hL5.keys hP7)
  have HG := Lib.hid hf5
  clear DB rb rb' hHeld db ub uc hLo hap hA6 hP7 hL5 hf5 hm5 hb5 co
  go_wp2
  go_ret
  obtain ⟨B', R', hQ⟩ := HF.out
  exact ⟨rfl, B', S, R', Z, (QTurn.of_fr HH.out ((((Fr.refl [] w).alloc _).drew).trans HG.out)).trans hQ⟩

/-- One turn. -/
theorem turn_any (w0 w : World) (n : Nat) (B S : Boo) (R Z : RBo) (d : Deed) (h : Quad w0 w n B S R Z) (hx : Rds w0 d.A (bvals d.xs)) (hx1 : Bytes d.xs) (hl : d.xs.length ≤ 140737488351232) (hL : Lent w0 d.LA d.ls) (hk : I64 d.kd) :
    Calls Try.prog 20 #[.pointer (some ⟨B.b, 0, none⟩), .pointer (some ⟨S.b, 0, none⟩), .pointer (some ⟨R.r, 0, none⟩), .pointer (some ⟨Z.r, 0, none⟩), .agg d.cells.toArray] w fun r w' => r = .returned (.bool true) ∧ ∃ B' S' R' Z', QTurn w0 w w' n B S R Z B' S' R' Z' := by
  have h1 := Int.emod_nonneg d.kd (show (3 : Int) ≠ 0 by omega)
  have h2 := Int.emod_lt_of_pos d.kd (show (0 : Int) < 3 by omega)
  have hc : d.kd % 3 = 0 ∨ d.kd % 3 = 1 ∨ d.kd % 3 = 2 := by omega
  rcases hc with hc | hc | hc
  · exact turn_put w0 w n B S R Z d h hx hx1 hl hk hc
  · exact turn_apply w0 w n B S R Z d h hL hk hc
  · exact turn_snap w0 w n B S R Z d h hx hx1 hl hk hc
end Go.Proofs.Ytaicpgkoailnkaa
