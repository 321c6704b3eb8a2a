/- Package sheets, walked: Apply. -/
import Derived.Test.YtaicpgkoailnkaaSheetS
import Derived.Outline
namespace Go.Proofs.Ytaicpgkoailnkaa
open Go.RowKit

/-- What Apply answers to a list, behind a sheet of number last. -/
def appE (n : Nat) (last : Int) : List Sh → Int
  | [] => 0
  | s :: r => if ¬ (0 ≤ s.num ∧ s.num < n) then 61 else if s.num ≤ last then 64 else if s.at_ < 1 ∨ 1099511627776 < s.at_ then 62 else if 2304 < s.xs.length then 63 else appE n s.num r
/-- What it makes of the sheets. -/
def appC (c : Nat → Int × List Int) (l : List Sh) : Nat → Int × List Int := l.foldl (fun c s => putC c s.num.toNat s.at_ s.xs) c
theorem appC_snoc (c : Nat → Int × List Int) (l : List Sh) (s : Sh) : appC c (l ++ [s]) = putC (appC c l) s.num.toNat s.at_ s.xs := by simp [appC]

/-- May be laid in, one by one. -/
def Fine (n : Nat) (s : Sh) : Prop := (0 ≤ s.num ∧ s.num < n) ∧ (1 ≤ s.at_ ∧ s.at_ ≤ 1099511627776) ∧ s.xs.length ≤ 2304
theorem appE_fine {n : Nat} : ∀ {l : List Sh} {last : Int}, appE n last l = 0 → ∀ s ∈ l, Fine n s
  | [], _, _, s, hs => by cases hs
  | x :: r, last, h, s, hs => by
    unfold appE at h
    split at h
    · omega
    · rename_i h1
      split at h
      · omega
      · split at h
        · omega
        · split at h
          · omega
          · rcases List.mem_cons.1 hs with rfl | hs
            · exact ⟨by simpa using h1, by omega, by omega⟩
            · exact appE_fine h s hs

/-- The number ahead of place k. -/
def ahead (l : List Sh) (k : Nat) : Int := match k with
  | 0 => -1
  | k + 1 => match l[k]? with
    | some s => s.num
    | none => 0
theorem ahead_succ {l : List Sh} {k : Nat} {s : Sh} (h : l[k]? = some s) : ahead l (k + 1) = s.num := by simp [ahead, h]

/-- Sheets that lie somewhere, off some blocks. -/
structure Loan (w : World) (S : List Nat) (A : Option Addr) (l : List Sh) : Prop where
  rds : Rds w A (flatS l)
  off : flatS l ≠ [] → ∀ x ∈ fpOf A, x ∉ S
  data : ∀ s ∈ l, Rds w s.A (bvals s.xs) ∧ Bytes s.xs ∧ (bvals s.xs ≠ [] → ∀ x ∈ fpOf s.A, x ∉ S)
theorem Loan.turn {w w' : World} {S S' : List Nat} {A : Option Addr} {l : List Sh} (h : Loan w S A l) (hf : Fr S w w') (hs : ∀ x ∈ S', x ∈ S ∨ w.heap.size ≤ x) : Loan w' S' A l :=
  ⟨h.rds.fr' hf h.off, fun hne x hx hm => (hs x hm).elim (h.off hne x hx) (fun hn => by have := h.rds.lt hne x hx; omega),
    fun s hsl => by
      obtain ⟨h1, h2, h3⟩ := h.data s hsl
      exact ⟨h1.fr' hf h3, h2, fun hne x hx hm => (hs x hm).elim (h3 hne x hx) (fun hn => by have := h1.lt hne x hx; omega)⟩⟩
theorem Loan.cells {w : World} {S : List Nat} {A : Option Addr} {l : List Sh} (h : Loan w S A l) {i : Nat} {s : Sh} (hd : l[i]? = some s) : ∃ b o, A = some ⟨b, o, none⟩ ∧ b < w.heap.size ∧ w.cell? ⟨b, o + i * 3, none⟩ = some (.int .i64 s.num) ∧ w.cell? ⟨b, o + i * 3 + 1, none⟩ = some (.int .i64 s.at_)
    ∧ w.cell? ⟨b, o + i * 3 + 2, none⟩ = some (.slice s.A s.xs.length s.cap) := by
  have hne : flatS l ≠ [] := by
    intro h0; have := flatS_length l; rw [h0] at this; have := (List.getElem?_eq_some_iff.1 hd).1; simp at *; omega
  obtain ⟨b, o, rfl, hc⟩ := h.rds hne
  have g : ∀ j, j < 3 → ∀ u, s.cells[j]? = some u → w.cell? ⟨b, o + (i * 3 + j), none⟩ = some u := fun j hj u hu => hc _ _ (by rw [flatS_get l i j s hd hj]; exact hu)
  have g0 := g 0 (by omega) _ rfl
  exact ⟨b, o, rfl, World.block_lt_of_cell? w _ g0, g0, g 1 (by omega) _ rfl, g 2 (by omega) _ rfl⟩

theorem appE_61 {n : Nat} {last : Int} {s : Sh} {r : List Sh} (h : ¬ (0 ≤ s.num ∧ s.num < n)) : appE n last (s :: r) = 61 := by rw [appE, if_pos h]
theorem appE_64 {n : Nat} {last : Int} {s : Sh} {r : List Sh} (h : 0 ≤ s.num ∧ s.num < n) (h2 : s.num ≤ last) : appE n last (s :: r) = 64 := by rw [appE, if_neg (by simpa using h), if_pos h2]
theorem appE_62 {n : Nat} {last : Int} {s : Sh} {r : List Sh} (h : 0 ≤ s.num ∧ s.num < n) (h2 : ¬ s.num ≤ last) (h3 : s.at_ < 1 ∨ 1099511627776 < s.at_) : appE n last (s :: r) = 62 := by rw [appE, if_neg (by simpa using h), if_neg h2, if_pos h3]
theorem appE_63 {n : Nat} {last : Int} {s : Sh} {r : List Sh} (h : 0 ≤ s.num ∧ s.num < n) (h2 : ¬ s.num ≤ last) (h3 : ¬ (s.at_ < 1 ∨ 1099511627776 < s.at_)) (h4 : 2304 < s.xs.length) : appE n last (s :: r) = 63 := by rw [appE, if_neg (by simpa using h), if_neg h2, if_neg h3, if_pos h4]
theorem appE_go {n : Nat} {last : Int} {s : Sh} {r : List Sh} (h : 0 ≤ s.num ∧ s.num < n) (h2 : ¬ s.num ≤ last) (h3 : ¬ (s.at_ < 1 ∨ 1099511627776 < s.at_)) (h4 : ¬ 2304 < s.xs.length) : appE n last (s :: r) = appE n s.num r := by rw [appE, if_neg (by simpa using h), if_neg h2, if_neg h3, if_neg h4]

/-- What Apply comes to. -/
def Applied (w : World) (B : Boo) (l : List Sh) (w' : World) : Prop := ∃ B', Turn w w' B B' ∧ B'.con = if appE B.n (-1) l = 0 then appC B.con l else B.con
theorem Applied.no {w w' : World} {B : Boo} {l : List Sh} (hB : B.At w) (hf : Fr [] w w') (h : appE B.n (-1) l ≠ 0) : Applied w B l w' := ⟨B, Turn.of_fr hB hf, by rw [if_neg h]⟩

set_option maxRecDepth 100000 in
set_option maxHeartbeats 4000000 in
theorem Apply_boo (B : Boo) (A : Option Addr) (cap : Nat) (l : List Sh) (w : World) (hB : B.At w) (hL : Loan w B.fp A l) (hlong : l.length ≤ 140737488351232) :
    Calls Try.prog 23 #[.pointer (some ⟨B.b, 0, none⟩), .slice A l.length cap] w fun r w' => r = .returned (.int .i64 (appE B.n (-1) l)) ∧ Applied w B l w' := by
  have HB := Lib.hid hB
  have HL := Lib.hid hL
  obtain ⟨b, hb⟩ : ∃ b, B.b = b := ⟨_, rfl⟩
  obtain ⟨n, hn⟩ : ∃ n, B.n = n := ⟨_, rfl⟩
  rw [hb]
  have HBN := Lib.hid (And.intro hb hn)
  have hn64 := hB.n64.2
  rw [hn] at hn64
  clear hb hn hB hL
  go_enter Try.func23, Try.ntmps23
  go_wp2
  go_loopw [5, 12] (fun s5 i wr => ∃ k : Nat, k ≤ l.length ∧ i = .int .i64 k ∧ s5 = .int .i64 (ahead l k) ∧ appE B.n (-1) l = appE B.n (ahead l k) (l.drop k) ∧ Fr [] w wr) (fun _ i _ => l.length - (intOf i).toNat)
  case atStart => exact ⟨0, Nat.zero_le _, rfl, rfl, by simp [ahead], Fr.refl _ _⟩
  case round =>
    obtain ⟨k, hk, rfl, rfl, hE, hf⟩ := hrel
    by_cases hlt : k < l.length
    · obtain ⟨s, hs⟩ : ∃ s, l[k]? = some s := ⟨l[k], List.getElem?_eq_getElem hlt⟩
      have hLr := HL.out.turn (hf.mono (S' := B.fp) (by simp)) (S' := B.fp) (fun x h => .inl h)
      obtain ⟨ab, ao, rfl, hab, g0, g1, g2⟩ := hLr.cells hs
      have c0 : (wr.alloc (.cells #[.int .i64 s.num, .int .i64 s.at_, .slice s.A s.xs.length s.cap] 46)).cell? ⟨b, 0, none⟩ = some (.int .i64 (n : Nat)) := by
        have h1 := (Bk.cells ((HB.out.fr0 hf).fr0 ((Fr.refl [] wr).alloc (.cells #[.int .i64 s.num, .int .i64 s.at_, .slice s.A s.xs.length s.cap] 46)))).1
        rw [← HBN.out.1, ← HBN.out.2]; exact h1
      have hdr : l.drop k = s :: l.drop (k + 1) := by
        rw [List.drop_eq_getElem_cons hlt]
        have := List.getElem?_eq_getElem hlt
        rw [hs] at this
        rw [← Option.some.inj this]
      rw [hdr] at hE
      have k0 : (0 : Int) ≤ (k : Int) := by omega
      have k1 : (k : Int) < (l.length : Int) := by omega
      obtain ⟨la, hla⟩ : ∃ la, ahead l k = la := ⟨_, rfl⟩
      rw [hla] at hE ⊢
      have hah := ahead_succ hs
      have HF := Lib.hid (And.intro hf (And.intro hs hah))
      have HE := Lib.hid hE
      clear hf hs hah hE hdr hLr hla
      by_cases h1 : 0 ≤ s.num ∧ s.num < n
      · have t1 : decide (0 ≤ s.num ∧ s.num < n) = true := decide_eq_true h1
        have h1' : 0 ≤ s.num ∧ s.num < B.n := by rw [HBN.out.2]; exact h1
        by_cases h2 : s.num ≤ la
        · have t2 : decide (s.num ≤ la) = true := decide_eq_true h2
          have he : appE B.n (-1) l = 64 := by rw [HE.out]; exact appE_64 h1' h2
          have HX := Lib.hid he
          clear he h1 h1' h2
          go_wp2_with (go_at_call 36; (with_reducible refine (there_any b n s.num _ c0).mono ?_); rintro r w' ⟨rfl, rfl⟩)
          go_ret
          exact ⟨by rw [HX.out]; rfl, Applied.no HB.out (HF.out.1.alloc _) (by rw [HX.out]; decide)⟩
        · have t2 : decide (s.num ≤ la) = false := decide_eq_false h2
          by_cases h3 : s.at_ < 1
          · have t3 : decide (s.at_ < 1) = true := decide_eq_true h3
            have he : appE B.n (-1) l = 62 := by rw [HE.out]; exact appE_62 h1' h2 (.inl h3)
            have HX := Lib.hid he
            clear he h1 h1' h2 h3
            go_wp2_with (go_at_call 36; (with_reducible refine (there_any b n s.num _ c0).mono ?_); rintro r w' ⟨rfl, rfl⟩)
            go_ret
            exact ⟨by rw [HX.out]; rfl, Applied.no HB.out (HF.out.1.alloc _) (by rw [HX.out]; decide)⟩
          · have t3 : decide (s.at_ < 1) = false := decide_eq_false h3
            by_cases h4 : 1099511627776 < s.at_
            · have t4 : decide (1099511627776 < s.at_) = true := decide_eq_true h4
              have he : appE B.n (-1) l = 62 := by rw [HE.out]; exact appE_62 h1' h2 (.inr h4)
              have HX := Lib.hid he
              clear he h1 h1' h2 h3 h4
              go_wp2_with (go_at_call 36; (with_reducible refine (there_any b n s.num _ c0).mono ?_); rintro r w' ⟨rfl, rfl⟩)
              go_ret
              exact ⟨by rw [HX.out]; rfl, Applied.no HB.out (HF.out.1.alloc _) (by rw [HX.out]; decide)⟩
            · have t4 : decide (1099511627776 < s.at_) = false := decide_eq_false h4
              by_cases h5 : 2304 < s.xs.length
              · have t5 : decide (2304 < s.xs.length) = true := decide_eq_true h5
                have t6 : decide ((2304 : Int) < (s.xs.length : Int)) = true := decide_eq_true (by omega)
                have he : appE B.n (-1) l = 63 := by rw [HE.out]; exact appE_63 h1' h2 (by omega) h5
                have HX := Lib.hid he
                clear he h1 h1' h2 h3 h4 h5
                go_wp2_with (go_at_call 36; (with_reducible refine (there_any b n s.num _ c0).mono ?_); rintro r w' ⟨rfl, rfl⟩)
                go_ret
                exact ⟨by rw [HX.out]; rfl, Applied.no HB.out (HF.out.1.alloc _) (by rw [HX.out]; decide)⟩
              · have t5 : decide (2304 < s.xs.length) = false := decide_eq_false h5
                have t6 : decide ((2304 : Int) < (s.xs.length : Int)) = false := decide_eq_false (by omega)
                have he : appE B.n (-1) l = appE B.n s.num (l.drop (k + 1)) := by rw [HE.out]; exact appE_go h1' h2 (by omega) h5
                have HX := Lib.hid he
                clear he h1 h1' h2 h3 h4 h5
                go_wp2_with (go_at_call 36; (with_reducible refine (there_any b n s.num _ c0).mono ?_); rintro r w' ⟨rfl, rfl⟩)
                go_roundw
                case rel => exact ⟨k + 1, hlt, by go_num, by rw [HF.out.2.2], by rw [HF.out.2.2]; exact HX.out, HF.out.1.alloc _⟩
                case measure => simp [intOf]; omega
      · have t1 : decide (0 ≤ s.num ∧ s.num < n) = false := decide_eq_false h1
        have he : appE B.n (-1) l = 61 := by rw [HE.out]; exact appE_61 (by rw [HBN.out.2]; exact h1)
        have HX := Lib.hid he
        clear he h1
        go_wp2_with (go_at_call 36; (with_reducible refine (there_any b n s.num _ c0).mono ?_); rintro r w' ⟨rfl, rfl⟩)
        go_ret
        exact ⟨by rw [HX.out]; rfl, Applied.no HB.out (HF.out.1.alloc _) (by rw [HX.out]; decide)⟩
    · have hkl : k = l.length := by omega
      subst hkl
      rw [List.drop_length] at hE
      have hE0 : appE B.n (-1) l = 0 := by rw [hE]; rfl
      have hfine := appE_fine hE0
      have HE := Lib.hid (And.intro hE0 hfine)
      have HF := Lib.hid hf
      clear hE hE0 hfine hf hlt hk
      go_upto_region 15 with fail
      go_wp2_with fail
      obtain ⟨wo, rfl⟩ : ∃ wo : World, wo = wr := ⟨_, rfl⟩
      go_loopw [46] (fun i wr => ∃ (k : Nat) (B' : Boo), k ≤ l.length ∧ i = .int .i64 k ∧ Turn w wr B B' ∧ B'.con = appC B.con (l.take k)) (fun i _ => l.length - (intOf i).toNat)
      case atStart => exact ⟨0, B, Nat.zero_le _, rfl, Turn.of_fr HB.out HF.out, by simp [appC]⟩
      case round =>
        obtain ⟨k, B', hk, rfl, hT, hC⟩ := hrel
        by_cases hlt : k < l.length
        · obtain ⟨s, hs⟩ : ∃ s, l[k]? = some s := ⟨l[k], List.getElem?_eq_getElem hlt⟩
          have hsm : s ∈ l := List.mem_of_getElem? hs
          obtain ⟨f1, f2, f3⟩ := HE.out.2 s hsm
          obtain ⟨num, hnum⟩ : ∃ m : Nat, s.num = (m : Int) := ⟨s.num.toNat, by omega⟩
          have hLr := HL.out.turn hT.fr hT.fp
          obtain ⟨ab, ao, rfl, hab, g0, g1, g2⟩ := hLr.cells hs
          have hLa := hLr.turn (((Fr.refl [] wr).alloc (.cells #[.int .i64 s.num, .int .i64 s.at_, .slice s.A s.xs.length s.cap] 46)).mono (S' := B'.fp) (by simp)) (S' := B'.fp) (fun x h => .inl h)
          obtain ⟨d1, d2, d3⟩ := hLa.data s hsm
          have hTa := hT.trans (Turn.of_fr hT.at_ ((Fr.refl [] wr).alloc (.cells #[.int .i64 s.num, .int .i64 s.at_, .slice s.A s.xs.length s.cap] 46)))
          have hbn : num < B'.n := by rw [hT.n]; omega
          have hw := write_boo B' num s.at_ s.A s.cap s.xs _ hTa.at_ hbn d1 d2 f3 (by omega) d3
          have hbb : B'.b = b := by rw [hT.b]; exact HBN.out.1
          rw [hbb] at hw
          rw [hnum] at hw g0 hTa
          have HW := Lib.hid hw
          have htk : appC B.con (l.take (k + 1)) = putC (appC B.con (l.take k)) num s.at_ s.xs := by
            rw [List.take_succ_eq_append_getElem hlt, appC_snoc]
            have := List.getElem?_eq_getElem hlt
            rw [hs] at this
            rw [← Option.some.inj this, hnum]; rfl
          have HT := Lib.hid (And.intro hTa (And.intro htk hC))
          have k0 : (0 : Int) ≤ (k : Int) := by omega
          have k1 : (k : Int) < (l.length : Int) := by omega
          clear hw hT hC hTa d1 d2 d3 hLa hLr hs hsm f1 f2 f3 htk hbb hnum hbn
          go_wp2_with (go_at_call 38; (with_reducible refine HW.out.mono ?_); rintro r w5 ⟨rfl, B5, hT5, hC5⟩)
          go_roundw
          case rel => exact ⟨k + 1, B5, hlt, by go_num, HT.out.1.trans hT5, by rw [hC5, HT.out.2.1, HT.out.2.2]⟩
          case measure => simp [intOf]; omega
        · have hkl : k = l.length := by omega
          subst hkl
          rw [List.take_length] at hC
          have HT := Lib.hid (And.intro hT hC)
          clear hT hC
          go_wp2
          go_ret
          exact ⟨by rw [HE.out.1]; rfl, B', HT.out.1, by rw [if_pos HE.out.1]; exact HT.out.2⟩
end Go.Proofs.Ytaicpgkoailnkaa
