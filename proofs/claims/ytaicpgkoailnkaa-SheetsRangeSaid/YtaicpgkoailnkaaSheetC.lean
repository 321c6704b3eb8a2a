/- Package sheets, walked: Looks, write, Put. -/
import Derived.Test.YtaicpgkoailnkaaSheetB
namespace Go.Proofs.Ytaicpgkoailnkaa
open Go.RowKit

theorem Bk.cells {w : World} {b n h : Nat} {pc : Nat → Nat} {tp : Nat → Int} {ow : Nat → Bool} {lf : Nat → Leaf} (hb : Bk w b n h pc tp ow lf) :
    w.cell? ⟨b, 0, none⟩ = some (.int .i64 (n : Nat)) ∧ w.cell? ⟨b, 1, none⟩ = some (.int .i64 ((2 ^ h : Nat) : Int)) ∧ (∀ k, k < 8 → w.cell? ⟨b, 2 + k, none⟩ = some (.pointer (some ⟨pc k, 0, none⟩)))
      ∧ (∀ i, i < 128 → w.cell? ⟨b, 10 + i, none⟩ = some (.int .i64 (tp i))) ∧ (∀ k, k < 8 → w.cell? ⟨b, 138 + k, none⟩ = some (.bool (ow k))) := by
  obtain ⟨⟨f, hf, ht, ho⟩, _, _, _⟩ := hb
  refine ⟨?_, ?_, fun k hk => ?_, fun i hi => ?_, fun k hk => ?_⟩
  · rw [hf.cell (by omega), ht.n]
  · rw [hf.cell (by omega), ht.wd]
  · rw [hf.cell (by omega), ht.pc k hk]
  · rw [hf.cell (by omega), ht.tp i hi]
  · rw [hf.cell (by omega), ho k hk]

theorem TopsOk.h6' {n h : Nat} {tp : Nat → Int} {lf : Nat → Leaf} (ok : TopsOk n h tp lf) : h ≤ 6 := by
  rcases Nat.lt_or_ge 6 h with hc | hc
  · have : 2 ^ 7 ≤ 2 ^ h := Nat.pow_le_pow_right (by omega) hc
    have := ok.h6
    omega
  · exact hc

theorem Looks_any (b n h : Nat) (pc : Nat → Nat) (tp : Nat → Int) (ow : Nat → Bool) (lf : Nat → Leaf) (a : Int) (w : World) (hb : Bk w b n h pc tp ow lf) :
    Calls Try.prog 9 #[.pointer (some ⟨b, 0, none⟩), .int .i64 a] w fun r w' => r = .returned (.int .i64 ((lk tp (max a 0) h 1 : Nat) : Int)) ∧ w' = w := by
  obtain ⟨_, c1, _, ct, _⟩ := hb.cells
  have hl := looks_any b h tp (max a 0) w hb.ok.h6' c1 ct h 0 1 (by omega) (by simp) (by simp)
  clear c1 ct hb
  generalize lk tp (max a 0) h 1 = x at *
  rw [show ((1 : Nat) : Int) = 1 from rfl] at hl
  by_cases h0 : a < 0
  · rw [Int.max_eq_right (by omega)] at hl
    have HL := Lib.hid hl
    clear hl
    go_enter Try.func9, Try.ntmps9
    go_wp2_with (go_at_call 35; (with_reducible refine HL.out.mono ?_); rintro r w' ⟨rfl, rfl⟩)
    all_goals go_ret
    all_goals exact ⟨rfl, rfl⟩
  · rw [Int.max_eq_left (by omega)] at hl
    have HL := Lib.hid hl
    clear hl
    go_enter Try.func9, Try.ntmps9
    go_wp2_with (go_at_call 35; (with_reducible refine HL.out.mono ?_); rintro r w' ⟨rfl, rfl⟩)
    all_goals go_ret
    all_goals exact ⟨rfl, rfl⟩
theorem Try.uPages : Try.prog.underlying 101 = some (.slice 79) := by kernel_rfl
theorem Try.iPage : (Try.prog.info? 79).map (fun i => (i.zero, i.size, i.bytes)) = some (some (.agg #[.int .i64 0, .slice none 0 0]), 2, 32) := by kernel_rfl

theorem Leaves.fr {w w' : World} {pc : Nat → Nat} {lf : Nat → Leaf} (h : Leaves w pc lf) {S : List Nat} (hf : Fr S w w') (h1 : ∀ k, k < 8 → pc k ∉ S) (h2 : ∀ j, j < 64 → ∀ x ∈ fpOf (lf j).A, x ∉ S) : Leaves w' pc lf :=
  ⟨fun k hk => (h.blk k hk).fr hf (h1 k hk), fun j hj => (h.row j hj).fr hf (h2 j hj), h.byt⟩

def updL (lf : Nat → Leaf) (j : Nat) (x : Leaf) : Nat → Leaf := fun i => if i = j then x else lf i
def updN (pc : Nat → Nat) (j : Nat) (x : Nat) : Nat → Nat := fun i => if i = j then x else pc i
def updB (ow : Nat → Bool) (j : Nat) (x : Bool) : Nat → Bool := fun i => if i = j then x else ow i

theorem upd_ne {f : Nat → Value} {i j : Nat} {u : Value} (h : j ≠ i) : upd f i u j = f j := by unfold upd; rw [if_neg h]
theorem upd_eq {f : Nat → Value} {i : Nat} {u : Value} : upd f i u i = u := by unfold upd; rw [if_pos rfl]

/-- A piece of its own, copied. -/
theorem Bk.owned {w w5 : World} {b n h k : Nat} {pc : Nat → Nat} {tp : Nat → Int} {ow : Nat → Bool} {lf : Nat → Leaf} (hb : Bk w b n h pc tp ow lf) (hk : k < 8) (g : Nat) (hg : w.heap.size ≤ g) (hf : Fr [] w w5) (hq : Blf w5 g 81 16 (pcell lf k)) :
    Bk ((w5.setCell ⟨b, 2 + k, none⟩ (.pointer (some ⟨g, 0, none⟩))).setCell ⟨b, 138 + k, none⟩ (.bool true)) b n h (updN pc k g) tp (updB ow k true) lf := by
  obtain ⟨⟨f, h1, h2, h3⟩, h4, h5, h6⟩ := hb
  have hbw := h1.lt
  have h1' := (h1.fr hf (by simp)).set_ (2 + k) (.pointer (some ⟨g, 0, none⟩)) |>.set_ (138 + k) (.bool true)
  refine ⟨⟨_, h1', ⟨?_, ?_, fun j hj => ?_, fun i hi => ?_⟩, fun j hj => ?_⟩, ⟨fun j hj => ?_, fun j hj => ?_, h4.byt⟩, h5, fun i j hi hj hij => ?_⟩
  · rw [upd_ne (by omega), upd_ne (by omega)]; exact h2.n
  · rw [upd_ne (by omega), upd_ne (by omega)]; exact h2.wd
  · rw [upd_ne (by omega)]
    by_cases e : j = k
    · subst e; rw [upd_eq]; simp [updN]
    · rw [upd_ne (by omega), h2.pc j hj]; simp [updN, e]
  · rw [upd_ne (by omega), upd_ne (by omega)]; exact h2.tp i hi
  · by_cases e : j = k
    · subst e; rw [upd_eq]; simp [updB]
    · rw [upd_ne (by omega), upd_ne (by omega), h3 j hj]; simp [updB, e]
  · by_cases e : j = k
    · subst e
      have : g ≠ b := by omega
      simpa [updN] using (hq.far this).far this
    · have hj2 := h4.blk j hj
      have hne : pc j ≠ b := Blk.ne hj2 h1 (by decide)
      have := ((hj2.fr hf (by simp)).far (u := .pointer (some ⟨g, 0, none⟩)) (o := 2 + k) hne).far (u := .bool true) (o := 138 + k) hne
      simpa [updN, e] using this
  · have hr := h4.row j hj
    have hne := Row.ne_blk hr h1 (by decide)
    exact ((hr.fr hf (by simp)).far (fun hm => hne b hm rfl)).far (fun hm => hne b hm rfl)
  · have u1 := fun x hx => (h4.blk x hx).lt
    unfold updN at hij
    by_cases e1 : i = k
    · by_cases e2 : j = k
      · omega
      · rw [if_pos e1, if_neg e2] at hij; have := u1 j hj; omega
    · by_cases e2 : j = k
      · rw [if_neg e1, if_pos e2] at hij; have := u1 i hi; omega
      · rw [if_neg e1, if_neg e2] at hij; exact h6 i j hi hj hij

/-- The book's own cells may turn. -/
theorem Leaves.setB {w : World} {pc : Nat → Nat} {lf : Nat → Leaf} {b o : Nat} {u : Value} {f : Nat → Value} (hl : Leaves w pc lf) (hb : Blf w b 77 146 f) : Leaves (w.setCell ⟨b, o, none⟩ u) pc lf :=
  ⟨fun k hk => (hl.blk k hk).far (Blk.ne (hl.blk k hk) hb (by decide)), fun j hj => (hl.row j hj).far (fun hm => Row.ne_blk (hl.row j hj) hb (by decide) b hm rfl), hl.byt⟩

/-- A sheet laid down. -/
theorem Leaves.put {w w3 : World} {pc : Nat → Nat} {lf : Nat → Leaf} (hl : Leaves w pc lf) (hinj : ∀ i j, i < 8 → j < 8 → pc i = pc j → i = j) {num : Nat} (hn : num < 64) (hf : Fr [] w w3) {a : Int} {A' : Option Addr} {cap' : Nat} {xs : List Int}
    (hrow : Row w3 5 1 A' xs.length cap' (bvals xs)) (hx : Bytes xs) (hx2 : xs.length ≤ 2304) (q m : Nat) (hq : pc (num / 8) = q) (hm : num % 8 = m) :
    Leaves ((w3.setCell ⟨q, m * 2, none⟩ (.int .i64 a)).setCell ⟨q, m * 2 + 1, none⟩ (.slice A' xs.length cap')) pc (updL lf num ⟨a, A', cap', xs⟩) := by
  have hqb := (hl.blk (num / 8) (by omega)).fr hf (by simp)
  refine ⟨fun k hk => ?_, fun j hj => ?_, fun j hj => ?_⟩
  · by_cases e : k = num / 8
    · subst e
      rw [hq] at hqb ⊢
      refine ((hqb.set_ (m * 2) (.int .i64 a)).set_ (m * 2 + 1) (.slice A' xs.length cap')).congr (fun i hi => ?_)
      by_cases e1 : i = m * 2 + 1
      · rw [e1, upd_eq, pcell, if_neg (by omega), show 8 * (num / 8) + (m * 2 + 1) / 2 = num by omega]; simp [updL]
      · rw [upd_ne e1]
        by_cases e0 : i = m * 2
        · rw [e0, upd_eq, pcell, if_pos (by omega), show 8 * (num / 8) + (m * 2) / 2 = num by omega]; simp [updL]
        · rw [upd_ne e0]
          have : 8 * (num / 8) + i / 2 ≠ num := by omega
          unfold pcell updL
          rw [if_neg this]
    · have hne : pc k ≠ q := fun h => e (hinj _ _ hk (by omega) (h.trans hq.symm))
      refine ((((hl.blk k hk).fr hf (by simp)).far hne).far hne).congr (fun i hi => ?_)
      have : 8 * k + i / 2 ≠ num := by omega
      unfold pcell updL
      rw [if_neg this]
  · have hqn : ∀ (A : Option Addr) (n c : Nat) (ys : List Value), Row w3 5 1 A n c ys → q ∉ fpOf A := fun A n c ys hr hmm => by
      rw [hq] at hqb; exact Row.ne_blk hr hqb (by decide) q hmm rfl
    unfold updL
    by_cases e : j = num
    · rw [if_pos e]; exact (hrow.far (hqn _ _ _ _ hrow)).far (hqn _ _ _ _ hrow)
    · rw [if_neg e]
      have hr := (hl.row j hj).fr hf (by simp)
      exact (hr.far (hqn _ _ _ _ hr)).far (hqn _ _ _ _ hr)
  · unfold updL
    by_cases e : j = num
    · rw [if_pos e]; exact ⟨hx, hx2⟩
    · rw [if_neg e]; exact hl.byt j hj

theorem Rds.fr' {w w' : World} {A : Option Addr} {xs : List Value} (h : Rds w A xs) {S : List Nat} (hf : Fr S w w') (hd : xs ≠ [] → ∀ b ∈ fpOf A, b ∉ S) : Rds w' A xs := by
  by_cases he : xs = []
  · subst he; exact Rds.nil _ _
  · exact h.fr hf (hd he)

/-- What a write leaves. -/
def Wrote (w w' : World) (b n h num : Nat) (pc : Nat → Nat) (ow : Nat → Bool) (lf : Nat → Leaf) (a : Int) (xs : List Int) : Prop := ∃ (q : Nat) (tp' : Nat → Int) (A' : Option Addr) (cap' : Nat),
  Bk w' b n h (updN pc (num / 8) q) tp' (updB ow (num / 8) true) (updL lf num ⟨a, A', cap', xs⟩) ∧ Fr (b :: (if ow (num / 8) then [pc (num / 8)] else [])) w w' ∧ (if ow (num / 8) then q = pc (num / 8) else w.heap.size ≤ q) ∧ ∀ x ∈ fpOf A', w.heap.size ≤ x

set_option maxRecDepth 100000 in
set_option maxHeartbeats 4000000 in
theorem write_any (b n h num : Nat) (pc : Nat → Nat) (tp : Nat → Int) (ow : Nat → Bool) (lf : Nat → Leaf) (a : Int) (A : Option Addr) (cap : Nat) (xs : List Int) (w : World) (hb : Bk w b n h pc tp ow lf) (hn : num < n)
    (hx : Rds w A (bvals xs)) (hx1 : Bytes xs) (hx2 : xs.length ≤ 2304) (ha : 0 ≤ a ∧ a ≤ 1099511627776) (hA : bvals xs ≠ [] → ∀ x ∈ fpOf A, x ≠ b) :
    Calls Try.prog 38 #[.pointer (some ⟨b, 0, none⟩), .int .i64 (num : Nat), .int .i64 a, .slice A xs.length cap] w fun r w' => r = .returned (.tuple #[]) ∧ Wrote w w' b n h num pc ow lf a xs := by
  obtain ⟨c0, c1, cp, ct, co⟩ := hb.cells
  have hnum : num < 64 := by have := hb.ok.nh; have := hb.ok.h6; omega
  have e1 : Int.tdiv (num : Int) 8 = ((num / 8 : Nat) : Int) := by rw [Int.tdiv_eq_ediv_of_nonneg (by omega)]; omega
  have hk8 : num / 8 < 8 := by omega
  have k0 : (0 : Int) ≤ ((num / 8 : Nat) : Int) := by omega
  have k1 : ((num / 8 : Nat) : Int) < 8 := by omega
  have cO := co (num / 8) hk8
  have cP := cp (num / 8) hk8
  have e2 : (num : Int) / 8 = ((num / 8 : Nat) : Int) := by omega
  generalize hk : num / 8 = k at *
  have HX := Lib.hid hx
  have HB := Lib.hid hb
  clear hx hb cp ct co
  go_enter Try.func38, Try.ntmps38
  go_upto_region 0 with fail
  go_cut [8] (fun s8 wx => ∃ z : Nat, s8 = .int .i64 (k : Nat) ∧ w = wx ∧ z = 0)
  case first =>
    go_wp2_with fail
    go_meet
    exact ⟨0, rfl, rfl, rfl⟩
  case rest =>
    obtain ⟨_, rfl, rfl, _⟩ := hcut
    go_step
    go_step
    go_cut [] (fun wx => ∃ q : Nat, Bk wx b n h (updN pc k q) tp (updB ow k true) lf ∧ Fr [b] w wx ∧ (if ow k then q = pc k else w.heap.size ≤ q))
    case first =>
      by_cases how : ow k = true
      · rw [how] at cO
        go_wp2_with fail
        go_meet
        have hb := HB.out
        have p1 : updN pc k (pc k) = pc := by funext i; unfold updN; split <;> simp_all
        have p2 : updB ow k true = ow := by funext i; unfold updB; split <;> simp_all
        refine ⟨pc k, by rw [p1, p2]; exact hb, Fr.refl _ _, by rw [how]; rfl⟩
      · have how2 : ow k = false := by simpa using how
        rw [how2] at cO
        obtain ⟨i0, hi, hz0, hz1, hz2⟩ := info_parts Try.iPage
        have hbb := HB.out
        obtain ⟨f, hf, hft, hfo⟩ := hbb.blk
        have hpk := hbb.lvs.blk k hk8
        have hbl := hf.lt
        have hpl := hpk.lt
        have hone : ∀ v ∈ (List.range 16).map (pcell lf k), v.oneCell' = true := by
          intro v hv
          obtain ⟨i, _, rfl⟩ := List.mem_map.1 hv
          unfold pcell; split <;> rfl
        have HP := Lib.hid hpk
        have HF := Lib.hid (And.intro hf (And.intro hft hfo))
        have H1 := Lib.hid (And.intro hone (And.intro hi hz1))
        clear hbb hpk hf hft hfo hone hi hz0 hz1 hz2
        go_upto_region 3 with fail
        go_region_held3 (fun w' => w'.cell? ⟨b, 2 + k, none⟩ = some (.pointer (some ⟨pc k, 0, none⟩))) (simp [*, World.cell?_alloc_old, World.cell?_setCell_far, World.cell?_alloc_some])
          (first | (refine step_copy2 rfl (.tmp 20) (.tmp 29) 101 101 rfl 79 i0 Try.uPages H1.out.2.1 (some ⟨pc k, 0, none⟩) 8 8 8 8 w.heap.size rfl rfl _ 81 (Blk.new _ _ _) ((List.range 16).map (pcell lf k)) ?_ ?_ ?_ H1.out.1 ?_; (rw [H1.out.2.2]; rfl); (intro _; exact ⟨_, rfl, fun j u hu => by rw [addr_add, Nat.zero_add]; exact ((HP.out.alloc _).drew : Blk _ _ _ _).cell' hu⟩); (simp); (intro w5 hb5 hf5; have k5 : w5.cell? ⟨b, 2 + k, none⟩ = some (.pointer (some ⟨pc k, 0, none⟩)) := hf5.cell (by simp; omega) (((HF.out.1.alloc _).cell (by omega)).trans (by rw [HF.out.2.1.pc k hk8])))))
        have hf6 : Fr [] w w5 := ((((Fr.refl [] w).alloc _).drew).trans' hf5 (fun x hx => by simp at hx; right; omega))
        have hfb := HF.out.1.fr hf6 (by simp)
        have z2 := hfb.frozen (2 + k)
        have k138 : w5.cell? ⟨b, 138 + k, none⟩ = some (.bool false) := hf6.cell (by simp) cO
        have z138 := hfb.frozen (138 + k)
        go_wp2_with fail
        go_meet
        have hq : Blf w5 w.heap.size 81 16 (pcell lf k) := by
          have h0 := hb5
          rw [List.length_map, List.length_range] at h0
          simpa [Blf] using h0
        refine ⟨w.heap.size, HB.out.owned hk8 w.heap.size (Nat.le_refl _) hf6 hq, ?_, by rw [how2]; exact Nat.le_refl _⟩
        exact ((hf6.mono (by simp)).setCell' (.inl (by simp))).setCell' (.inl (by simp))
    case rest =>
      obtain ⟨q, hb2, hf2, hq⟩ := hcut
      obtain ⟨w1, rfl⟩ : ∃ w1 : World, w1 = wc := ⟨_, rfl⟩
      have hx2' := HX.out.fr' hf2 (fun he x hx => by have := hA he x hx; simpa using this)
      have HX2 := Lib.hid hx2'
      obtain ⟨⟨f, hf, hft, hfo⟩, hlv, hok, hinj⟩ := hb2
      have hqb := hlv.blk k hk8
      rw [show updN pc k q k = q by simp [updN]] at hqb
      have cQ : w1.cell? ⟨b, 2 + num / 8, none⟩ = some (.pointer (some ⟨q, 0, none⟩)) := by
        rw [hk, hf.cell (by omega), hft.pc k hk8]; simp [updN]
      have cW : w1.cell? ⟨b, 1, none⟩ = some (.int .i64 ((2 ^ h : Nat) : Int)) := by rw [hf.cell (by omega), hft.wd]
      have hqne : q ≠ b := Blk.ne hqb hf (by decide)
      have hnh := hok.nh
      have hh6 := hok.h6
      have HL := Lib.hid hx2
      clear c0 c1 cO cP hx2' hx2
      obtain ⟨W, hW⟩ : ∃ W, 2 ^ h = W := ⟨_, rfl⟩
      rw [hW] at cW hnh hh6
      obtain ⟨i0, hi0⟩ : ∃ i0, W + num = i0 := ⟨_, rfl⟩
      obtain ⟨m, hm⟩ : ∃ m, num % 8 = m := ⟨_, rfl⟩
      have hm8 : m < 8 := by omega
      have e3 : IntKind.i64.wrap ((W : Int) + (num : Int)) = (i0 : Int) := by rw [IntWalk.i64_in _ (by omega)]; omega
      have k2 : (0 : Int) ≤ (i0 : Int) := by omega
      have k3 : (i0 : Int) < 128 := by omega
      go_upto_region 7 with (first | (go_at_call 33; (with_reducible refine (sheet_any b q num _ hnum cQ).mono ?_); rintro r w' ⟨rfl, rfl⟩) | (go_at_call 34; (with_reducible refine (Clone_any A xs.length cap xs _ rfl HX2.out (by have := HL.out; omega)).mono ?_); rintro r w3 ⟨A', cap', rfl, hrow, hf3, hfp⟩; have hq3 := hqb.fr hf3 (by simp); have hq0 := hq3.cell (i := m * 2) (by omega); have hq1 := hq3.cell (i := m * 2 + 1) (by omega); have hz0 := hq3.frozen (m * 2); have hz1 := hq3.frozen (m * 2 + 1)))
      have hlP := Leaves.put hlv hinj hnum hf3 hrow hx1 HL.out q m (by rw [hk]; simp [updN]) hm (a := a)
      have hfP := ((hf.fr hf3 (by simp)).far (o := m * 2) (u := .int .i64 a) hqne.symm).far (o := m * 2 + 1) (u := .slice A' xs.length cap') hqne.symm
      have hrP : Fr [q] w' ((w3.setCell ⟨q, m * 2, none⟩ (.int .i64 a)).setCell ⟨q, m * 2 + 1, none⟩ (.slice A' xs.length cap')) := ((hf3.mono (S' := [q]) (by simp)).setCell' (.inl (by simp))).setCell' (.inl (by simp))
      have hsz3 := hf2.size
      clear hq0 hq1 hz0 hz1 hq3 hrow hf3 hf hqb cQ hlv
      generalize (w3.setCell ⟨q, m * 2, none⟩ (.int .i64 a)).setCell ⟨q, m * 2 + 1, none⟩ (.slice A' xs.length cap') = wP at *
      have cW2 : wP.cell? ⟨b, 1, none⟩ = some (.int .i64 (W : Int)) := by rw [hfP.cell (by omega), hft.wd, hW]
      have cI := hfP.cell (i := 10 + i0) (by omega)
      have zI := hfP.frozen (10 + i0)
      obtain ⟨i1, hi1⟩ : ∃ i1, i0 / 2 = i1 := ⟨_, rfl⟩
      have e4 : (i0 : Int) / 2 = (i1 : Int) := by omega
      clear cW
      have hlf : ∀ j, j < W → (if W + j = i0 then a else tp (W + j)) = (updL lf num ⟨a, A', cap', xs⟩ j).at_ := by
        intro j hj
        unfold updL
        by_cases e : j = num
        · rw [if_pos (by omega), if_pos e]
        · rw [if_neg (by omega), if_neg e]; rw [← hW]; exact hok.leaf j (by omega)
      have hHlf := Lib.hid hlf
      clear hlf
      go_upto_region 10 with fail
      go_loopw [10] (fun i wr => ∃ (c : Nat) (tp2 : Nat → Int) (g : Nat → Value), i = .int .i64 c ∧ c < W ∧ Blf wr b 77 146 g ∧ TreeF g n h (updN pc k q) tp2 ∧ (∀ k', k' < 8 → g (138 + k') = .bool (updB ow k true k')) ∧ Leaves wr (updN pc k q) (updL lf num ⟨a, A', cap', xs⟩)
        ∧ (∀ j, j < W → tp2 (W + j) = (updL lf num ⟨a, A', cap', xs⟩ j).at_) ∧ (∀ mm, 1 ≤ mm → mm < W → (∀ s, mm ≠ c / 2 ^ s) → tp2 mm = max (tp2 (2 * mm)) (tp2 (2 * mm + 1))) ∧ Fr [b] wP wr) (fun i _ => (intOf i).toNat)
      case atStart =>
        refine ⟨i1, fun i => if i = i0 then a else tp i, upd f (10 + i0) (.int .i64 a), rfl, by omega, hfP.set_ _ _, ⟨?_, ?_, fun j hj => ?_, fun i hi => ?_⟩, fun j hj => ?_, ?_, hHlf.out, ?_, (Fr.refl _ wP).setCell' (.inl (by simp))⟩
        · rw [upd_ne (by omega)]; exact hft.n
        · rw [upd_ne (by omega)]; exact hft.wd
        · rw [upd_ne (by omega)]; exact hft.pc j hj
        · by_cases e : i = i0
          · subst e; rw [upd_eq, if_pos rfl]
          · rw [upd_ne (by omega), if_neg e]; exact hft.tp i hi
        · rw [upd_ne (by omega)]; exact hfo j hj
        · exact hlP.setB hfP
        · intro mm h1 h2 h3
          have h4 : mm ≠ i1 := by have := h3 0; simpa using this
          dsimp only
          rw [if_neg (by omega), if_neg (by omega), if_neg (by omega)]
          exact hok.node mm h1 (by omega)
      case round =>
        obtain ⟨c, tp2, g, rfl, hc, hgb, hgt, hgo, hgl, hlv2, hnd, hfr2⟩ := hrel
        by_cases hc0 : 0 < c
        · obtain ⟨x2, hx2⟩ : ∃ x2, 2 * c = x2 := ⟨_, rfl⟩
          obtain ⟨x3, hx3⟩ : ∃ x3, 2 * c + 1 = x3 := ⟨_, rfl⟩
          obtain ⟨ch, hch⟩ : ∃ ch, c / 2 = ch := ⟨_, rfl⟩
          have f2 : IntKind.i64.wrap (2 * (c : Int)) = (x2 : Int) := by rw [IntWalk.i64_in _ (by omega)]; omega
          have f3 : IntKind.i64.wrap ((x2 : Int) + 1) = (x3 : Int) := by rw [IntWalk.i64_in _ (by omega)]; omega
          have f4 : (c : Int) / 2 = (ch : Int) := by omega
          have b0 : (0 : Int) ≤ (x2 : Int) := by omega
          have b1 : (x2 : Int) < 128 := by omega
          have b2 : (0 : Int) ≤ (x3 : Int) := by omega
          have b3 : (x3 : Int) < 128 := by omega
          have b4 : (0 : Int) ≤ (c : Int) := by omega
          have b5 : (c : Int) < 128 := by omega
          have v2 : wr.cell? ⟨b, 10 + x2, none⟩ = some (.int .i64 (tp2 x2)) := by rw [hgb.cell (by omega), hgt.tp x2 (by omega)]
          have v3 : wr.cell? ⟨b, 10 + x3, none⟩ = some (.int .i64 (tp2 x3)) := by rw [hgb.cell (by omega), hgt.tp x3 (by omega)]
          have vc : wr.cell? ⟨b, 10 + c, none⟩ = some (.int .i64 (tp2 c)) := by rw [hgb.cell (by omega), hgt.tp c (by omega)]
          have zc := hgb.frozen (10 + c)
          have n2 : ¬ (10 + c = 10 + x2) := by omega
          have n3 : ¬ (10 + c = 10 + x3) := by omega
          have fin : ∀ v, v = max (tp2 x2) (tp2 x3) → ∃ (c' : Nat) (tp3 : Nat → Int) (g3 : Nat → Value), Value.int .i64 (ch : Int) = .int .i64 c' ∧ c' < W ∧ Blf ((wr.setCell ⟨b, 10 + c, none⟩ (.int .i64 v)).drew) b 77 146 g3 ∧ TreeF g3 n h (updN pc k q) tp3 ∧ (∀ k', k' < 8 → g3 (138 + k') = .bool (updB ow k true k')) ∧ Leaves ((wr.setCell ⟨b, 10 + c, none⟩ (.int .i64 v)).drew) (updN pc k q) (updL lf num ⟨a, A', cap', xs⟩)
              ∧ (∀ j, j < W → tp3 (W + j) = (updL lf num ⟨a, A', cap', xs⟩ j).at_) ∧ (∀ mm, 1 ≤ mm → mm < W → (∀ s, mm ≠ c' / 2 ^ s) → tp3 mm = max (tp3 (2 * mm)) (tp3 (2 * mm + 1))) ∧ Fr [b] wP ((wr.setCell ⟨b, 10 + c, none⟩ (.int .i64 v)).drew) := by
            rintro v rfl
            refine ⟨ch, fun i => if i = c then max (tp2 x2) (tp2 x3) else tp2 i, upd g (10 + c) (.int .i64 (max (tp2 x2) (tp2 x3))), rfl, by omega, (hgb.set_ _ _).drew, ⟨?_, ?_, fun j hj => ?_, fun i hi => ?_⟩, fun j hj => ?_, ?_, fun j hj => ?_, ?_, (hfr2.setCell' (.inl (by simp))).drew⟩
            · rw [upd_ne (by omega)]; exact hgt.n
            · rw [upd_ne (by omega)]; exact hgt.wd
            · rw [upd_ne (by omega)]; exact hgt.pc j hj
            · by_cases e : i = c
              · subst e; rw [upd_eq, if_pos rfl]
              · rw [upd_ne (by omega), if_neg e]; exact hgt.tp i hi
            · rw [upd_ne (by omega)]; exact hgo j hj
            · have := hgl.setB (o := 10 + c) (u := .int .i64 (max (tp2 x2) (tp2 x3))) hgb
              exact ⟨this.blk, this.row, this.byt⟩
            · dsimp only; rw [if_neg (by omega)]; exact hlv2 j hj
            · intro mm h1 h2 h3
              dsimp only
              have h4 : mm ≠ ch := by have := h3 0; simpa using this
              rw [if_neg (show ¬ 2 * mm = c by omega), if_neg (show ¬ 2 * mm + 1 = c by omega)]
              by_cases e : mm = c
              · subst e; rw [if_pos rfl, ← hx2, ← hx3]
              · rw [if_neg e]
                refine hnd mm h1 h2 (fun s => ?_)
                cases s with
                | zero => simpa using e
                | succ s =>
                  have h5 := h3 s
                  rw [← hch, Nat.div_div_eq_div_mul] at h5
                  rw [Nat.pow_succ, Nat.mul_comm (2 ^ s) 2]; exact h5
          have FIN := Lib.hid fin
          have s2 : ∀ (w' : World) (v : Value), (w'.setCell ⟨b, 10 + c, none⟩ v).cell? ⟨b, 10 + x2, none⟩ = w'.cell? ⟨b, 10 + x2, none⟩ := fun w' v => World.cell?_setCell_other w' _ _ v (by intro e; simp at e; try omega)
          have s3 : ∀ (w' : World) (v : Value), (w'.setCell ⟨b, 10 + c, none⟩ v).cell? ⟨b, 10 + x3, none⟩ = w'.cell? ⟨b, 10 + x3, none⟩ := fun w' v => World.cell?_setCell_other w' _ _ v (by intro e; simp at e; try omega)
          have mes : ch < c := by omega
          clear fin hgl hlv2 hnd hgt hgo hft hfo hok hinj hfP hlP hrP hHlf hqne hq
          by_cases hmx : tp2 x2 < tp2 x3
          · have hmax : max (tp2 x2) (tp2 x3) = tp2 x3 := Int.max_eq_right (by omega)
            go_upto_region 12 with fail
            go_region_held3 (fun w' => w'.cell? ⟨b, 10 + x2, none⟩ = some (.int .i64 (tp2 x2)) ∧ w'.cell? ⟨b, 10 + x3, none⟩ = some (.int .i64 (tp2 x3))) (simp [*]) (fail)
            go_wp2
            go_roundw
            case rel => exact FIN.out _ hmax.symm
            case measure => simp [intOf]; omega
          · have hmax : max (tp2 x2) (tp2 x3) = tp2 x2 := Int.max_eq_left (by omega)
            go_upto_region 12 with fail
            go_region_held3 (fun w' => w'.cell? ⟨b, 10 + x2, none⟩ = some (.int .i64 (tp2 x2)) ∧ w'.cell? ⟨b, 10 + x3, none⟩ = some (.int .i64 (tp2 x3))) (simp [*]) (fail)
            go_wp2
            go_roundw
            case rel => exact FIN.out _ hmax.symm
            case measure => simp [intOf]; omega
        · have hcz : c = 0 := by omega
          subst hcz
          have hwP := hrP.size
          have hbk : Bk wr b n h (updN pc k q) tp2 (updB ow k true) (updL lf num ⟨a, A', cap', xs⟩) := by
            refine ⟨⟨g, hgb, hgt, hgo⟩, hgl, ⟨hok.n1, hok.nh, hok.hn, hok.h6, ?_, ?_, fun j h1 h2 => ?_, fun j hj => ?_⟩, hinj⟩
            · intro j hj; rw [hW] at hj ⊢; exact hlv2 j hj
            · intro i h1 h2
              rw [hW] at h2
              refine hnd i h1 h2 (fun s => ?_)
              rw [Nat.zero_div]; omega
            · unfold updL; rw [if_neg (by omega)]; exact hok.beyond j h1 h2
            · unfold updL
              by_cases e : j = num
              · rw [if_pos e]; exact ha
              · rw [if_neg e]; exact hok.lo j hj
          have HBK := Lib.hid hbk
          clear hbk hgt hgo hgl hlv2 hnd hft hfo hok hinj hfP hlP hHlf
          go_wp2
          go_end0
          refine ⟨rfl, q, tp2, A', cap', ?_, ?_, ?_, fun x hx => Nat.le_trans hsz3 (hfp x hx)⟩
          · rw [hk]; exact HBK.out
          · rw [hk]
            refine ((hf2.mono (by simp)).trans' hrP (fun x hx => ?_)).trans (hfr2.mono (by simp))
            simp at hx
            subst hx
            by_cases how : ow k = true
            · rw [if_pos how] at hq; left; rw [hq, if_pos how]; simp
            · rw [if_neg how] at hq; right; exact hq
          · rw [hk]; exact hq
end Go.Proofs.Ytaicpgkoailnkaa
