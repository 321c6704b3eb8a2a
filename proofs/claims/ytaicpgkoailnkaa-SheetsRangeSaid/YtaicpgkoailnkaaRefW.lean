/- The document's book of sheets, walked: Apply. -/
import Derived.Test.YtaicpgkoailnkaaRefV
namespace Go.Proofs.Ytaicpgkoailnkaa
open Go.RowKit

/-- What the document's Apply comes to. -/
def RApplied (w : World) (R : RBo) (c : Nat → Int × List Int) (n : Nat) (l : List Sh) (w' : World) : Prop := ∃ R' : RBo, RTurn w w' R R' ∧ OfC (List.range n) (if appE n (-1) l = 0 then appC c l else c) R'.ls

set_option maxRecDepth 100000 in
set_option maxHeartbeats 4000000 in
theorem rApply_any (R : RBo) (c : Nat → Int × List Int) (n : Nat) (A : Option Addr) (cap : Nat) (l : List Sh) (w : World) (h : R.At w) (ho : OfC (List.range n) c R.ls) (hn64 : n ≤ 64) (hL : Loan w R.fp A l) (hlong : l.length ≤ 140737488351232) :
    Calls Try.prog 43 #[.pointer (some ⟨R.r, 0, none⟩), .slice A l.length cap] w fun r w' => r = .returned (.int .i64 (appE n (-1) l)) ∧ RApplied w R c n l w' := by
  have hl := ho.len
  simp only [List.length_range] at hl
  have HH := Lib.hid (And.intro h (And.intro ho (And.intro hl hL)))
  have no : ∀ w', Fr [] w w' → appE n (-1) l ≠ 0 → RApplied w R c n l w' := fun w' hf h0 => ⟨R, RTurn.of_fr h hf, by rw [if_neg h0]; exact ho⟩
  have NO := Lib.hid no
  clear no h ho hl hL
  go_enter Try.func43, Try.ntmps43
  go_wp2
  go_loopw [11] (fun i wr => ∃ k : Nat, k ≤ l.length ∧ i = .int .i64 k ∧ appE n (-1) l = appE n (ahead l k) (l.drop k) ∧ Fr [] w wr) (fun i _ => l.length - (intOf i).toNat)
  case atStart => exact ⟨0, Nat.zero_le _, rfl, by simp [ahead], Fr.refl _ _⟩
  case round =>
    obtain ⟨k, hk, rfl, hE, hf⟩ := hrel
    by_cases hlt : k < l.length
    · obtain ⟨s, hs⟩ : ∃ s, l[k]? = some s := ⟨l[k], List.getElem?_eq_getElem hlt⟩
      have hLr := HH.out.2.2.2.turn (hf.mono (S' := R.fp) (by simp)) (S' := R.fp) (fun x h => .inl h)
      obtain ⟨ab, ao, rfl, hab, g0, g1, g2⟩ := hLr.cells hs
      have c0 : (wr.alloc (.cells #[.int .i64 s.num, .int .i64 s.at_, .slice s.A s.xs.length s.cap] 46)).cell? ⟨R.r, 0, none⟩ = some (.slice R.A n R.cap) := by
        have h1 := ((HH.out.1.fr0 hf).fr0 ((Fr.refl [] wr).alloc (.cells #[.int .i64 s.num, .int .i64 s.at_, .slice s.A s.xs.length s.cap] 46))).cell0
        rw [HH.out.2.2.1] at h1; exact h1
      have hdr : l.drop k = s :: l.drop (k + 1) := by
        rw [List.drop_eq_getElem_cons hlt]
        have := List.getElem?_eq_getElem hlt
        rw [hs] at this
        rw [← Option.some.inj this]
      rw [hdr] at hE
      have k0 : (0 : Int) ≤ (k : Int) := by omega
      have k1 : (k : Int) < (l.length : Int) := by omega
      have hah := ahead_succ hs
      obtain ⟨la, hla⟩ : ∃ la, ahead l k = la := ⟨_, rfl⟩
      rw [hla] at hE
      have HF := Lib.hid (And.intro hf (And.intro hs (And.intro hah (And.intro hla hLr))))
      have HE := Lib.hid hE
      clear hf hs hah hE hdr hLr hla
      by_cases h1 : 0 ≤ s.num ∧ s.num < n
      · have t1 : decide (s.num < 0) = false := decide_eq_false (by omega)
        have t1' : decide ((n : Int) ≤ s.num) = false := decide_eq_false (by omega)
        go_upto_region 4 with fail
        go_quiet (fail)
        by_cases hk0 : k = 0
        · have q1 : decide (0 < k) = false := decide_eq_false (by omega)
          have q2 : decide ((0 : Int) < (k : Int)) = false := decide_eq_false (by omega)
          have hord : ¬ s.num ≤ la := by
            have := HF.out.2.2.2.1
            rw [hk0] at this
            simp [ahead] at this
            omega
          clear hk0
          go_upto_region 6 with fail
          go_quiet (fail)
          by_cases h3 : s.at_ < 1
          · have t3 : decide (s.at_ < 1) = true := decide_eq_true h3
            have he : appE n (-1) l = 62 := by rw [HE.out]; exact appE_62 h1 hord (.inl h3)
            have HX := Lib.hid he
            clear he h1 hord h3
            go_wp2_with fail
            go_ret
            exact ⟨by rw [HX.out]; rfl, NO.out _ (by (repeat' (with_reducible apply Fr.drewN)); exact HF.out.1.alloc _) (by rw [HX.out]; decide)⟩
          · have t3 : decide (s.at_ < 1) = false := decide_eq_false h3
            by_cases h4 : 1099511627776 < s.at_
            · have t4 : decide (1099511627776 < s.at_) = true := decide_eq_true h4
              have he : appE n (-1) l = 62 := by rw [HE.out]; exact appE_62 h1 hord (.inr h4)
              have HX := Lib.hid he
              clear he h1 hord h3 h4
              go_wp2_with fail
              go_ret
              exact ⟨by rw [HX.out]; rfl, NO.out _ (by (repeat' (with_reducible apply Fr.drewN)); exact HF.out.1.alloc _) (by rw [HX.out]; decide)⟩
            · have t4 : decide (1099511627776 < s.at_) = false := decide_eq_false h4
              by_cases h5 : 2304 < s.xs.length
              · have t5 : decide (2304 < s.xs.length) = true := decide_eq_true h5
                have t6 : decide ((2304 : Int) < (s.xs.length : Int)) = true := decide_eq_true (by omega)
                have he : appE n (-1) l = 63 := by rw [HE.out]; exact appE_63 h1 hord (by omega) h5
                have HX := Lib.hid he
                clear he h1 hord h3 h4 h5
                go_wp2_with fail
                go_ret
                exact ⟨by rw [HX.out]; rfl, NO.out _ (by (repeat' (with_reducible apply Fr.drewN)); exact HF.out.1.alloc _) (by rw [HX.out]; decide)⟩
              · have t5 : decide (2304 < s.xs.length) = false := decide_eq_false h5
                have t6 : decide ((2304 : Int) < (s.xs.length : Int)) = false := decide_eq_false (by omega)
                have he : appE n (-1) l = appE n s.num (l.drop (k + 1)) := by rw [HE.out]; exact appE_go h1 hord (by omega) h5
                have HX := Lib.hid he
                clear he h1 hord h3 h4 h5
                go_wp2_with fail
                go_roundw
                case rel => exact ⟨k + 1, hlt, by go_num, by rw [HF.out.2.2.1]; exact HX.out, (by (repeat' (with_reducible apply Fr.drewN)); exact HF.out.1.alloc _)⟩
                case measure => simp [intOf]; omega
        · obtain ⟨m, hm⟩ : ∃ m, m + 1 = k := ⟨k - 1, by omega⟩
          have q1 : decide (0 < k) = true := decide_eq_true (by omega)
          have q2 : decide ((0 : Int) < (k : Int)) = true := decide_eq_true (by omega)
          obtain ⟨p, hp⟩ : ∃ p, l[m]? = some p := ⟨l[m]'(by omega), List.getElem?_eq_getElem _⟩
          have hla : la = p.num := by
            have := HF.out.2.2.2.1
            rw [← hm, ahead_succ hp] at this
            exact this.symm
          obtain ⟨ab', ao', hA, hab', f0, _, _⟩ := HF.out.2.2.2.2.cells hp
          simp at hA
          obtain ⟨rfl, rfl⟩ := hA
          have e1 : IntKind.i64.wrap ((k : Int) - 1) = (m : Int) := by rw [IntWalk.i64_in _ (by omega)]; omega
          have m0 : (0 : Int) ≤ (m : Int) := by omega
          have m1 : (m : Int) < (l.length : Int) := by omega
          by_cases hord : s.num ≤ la
          · have t2 : decide (s.num ≤ p.num) = true := decide_eq_true (by omega)
            have he : appE n (-1) l = 64 := by rw [HE.out]; exact appE_64 h1 hord
            have HX := Lib.hid he
            clear he h1 hord hla hm hp hk0
            go_upto_region 6 with fail
            go_quiet (fail)
            go_wp2_with fail
            go_ret
            exact ⟨by rw [HX.out]; rfl, NO.out _ (by (repeat' (with_reducible apply Fr.drewN)); exact HF.out.1.alloc _) (by rw [HX.out]; decide)⟩
          · have t2 : decide (s.num ≤ p.num) = false := decide_eq_false (by omega)
            have HO := Lib.hid hord
            clear hla hm hp hk0 hord
            go_upto_region 6 with fail
            go_quiet (fail)
            have hord := HO.out
            by_cases h3 : s.at_ < 1
            · have t3 : decide (s.at_ < 1) = true := decide_eq_true h3
              have he : appE n (-1) l = 62 := by rw [HE.out]; exact appE_62 h1 hord (.inl h3)
              have HX := Lib.hid he
              clear he h1 hord h3
              go_wp2_with fail
              go_ret
              exact ⟨by rw [HX.out]; rfl, NO.out _ (by (repeat' (with_reducible apply Fr.drewN)); exact HF.out.1.alloc _) (by rw [HX.out]; decide)⟩
            · have t3 : decide (s.at_ < 1) = false := decide_eq_false h3
              by_cases h4 : 1099511627776 < s.at_
              · have t4 : decide (1099511627776 < s.at_) = true := decide_eq_true h4
                have he : appE n (-1) l = 62 := by rw [HE.out]; exact appE_62 h1 hord (.inr h4)
                have HX := Lib.hid he
                clear he h1 hord h3 h4
                go_wp2_with fail
                go_ret
                exact ⟨by rw [HX.out]; rfl, NO.out _ (by (repeat' (with_reducible apply Fr.drewN)); exact HF.out.1.alloc _) (by rw [HX.out]; decide)⟩
              · have t4 : decide (1099511627776 < s.at_) = false := decide_eq_false h4
                by_cases h5 : 2304 < s.xs.length
                · have t5 : decide (2304 < s.xs.length) = true := decide_eq_true h5
                  have t6 : decide ((2304 : Int) < (s.xs.length : Int)) = true := decide_eq_true (by omega)
                  have he : appE n (-1) l = 63 := by rw [HE.out]; exact appE_63 h1 hord (by omega) h5
                  have HX := Lib.hid he
                  clear he h1 hord h3 h4 h5
                  go_wp2_with fail
                  go_ret
                  exact ⟨by rw [HX.out]; rfl, NO.out _ (by (repeat' (with_reducible apply Fr.drewN)); exact HF.out.1.alloc _) (by rw [HX.out]; decide)⟩
                · have t5 : decide (2304 < s.xs.length) = false := decide_eq_false h5
                  have t6 : decide ((2304 : Int) < (s.xs.length : Int)) = false := decide_eq_false (by omega)
                  have he : appE n (-1) l = appE n s.num (l.drop (k + 1)) := by rw [HE.out]; exact appE_go h1 hord (by omega) h5
                  have HX := Lib.hid he
                  clear he h1 hord h3 h4 h5
                  go_wp2_with fail
                  go_roundw
                  case rel => exact ⟨k + 1, hlt, by go_num, by rw [HF.out.2.2.1]; exact HX.out, (by (repeat' (with_reducible apply Fr.drewN)); exact HF.out.1.alloc _)⟩
                  case measure => simp [intOf]; omega
      · have he : appE n (-1) l = 61 := by rw [HE.out]; exact appE_61 h1
        have HX := Lib.hid he
        by_cases h2 : s.num < 0
        · have t1 : decide (s.num < 0) = true := decide_eq_true h2
          clear he h1 h2
          go_upto_region 4 with fail
          go_quiet (fail)
          go_wp2_with fail
          go_ret
          exact ⟨by rw [HX.out]; rfl, NO.out _ ((HF.out.1.alloc _).drewN _) (by rw [HX.out]; decide)⟩
        · have t1 : decide (s.num < 0) = false := decide_eq_false h2
          have t1' : decide ((n : Int) ≤ s.num) = true := decide_eq_true (by omega)
          clear he h1 h2
          go_upto_region 4 with fail
          go_quiet (fail)
          go_wp2_with fail
          go_ret
          exact ⟨by rw [HX.out]; rfl, NO.out _ ((HF.out.1.alloc _).drewN _) (by rw [HX.out]; decide)⟩
    · have hkl : k = l.length := by omega
      subst hkl
      rw [List.drop_length] at hE
      have hE0 : appE n (-1) l = 0 := by rw [hE]; rfl
      have HE := Lib.hid (And.intro hE0 (appE_fine hE0))
      have HF := Lib.hid hf
      clear hE hE0 hf hlt hk
      go_upto_region 13 with fail
      go_wp2_with fail
      obtain ⟨wo, rfl⟩ : ∃ wo : World, wo = wr := ⟨_, rfl⟩
      go_loopw [57] (fun i wr => ∃ (k : Nat) (R' : RBo), k ≤ l.length ∧ i = .int .i64 k ∧ RTurn w wr R R' ∧ OfC (List.range n) (appC c (l.take k)) R'.ls) (fun i _ => l.length - (intOf i).toNat)
      case atStart => exact ⟨0, R, Nat.zero_le _, rfl, RTurn.of_fr HH.out.1 HF.out, by simpa [appC] using HH.out.2.1⟩
      case round =>
        obtain ⟨k, R', hk, rfl, hT, hO⟩ := hrel
        by_cases hlt : k < l.length
        · obtain ⟨s, hs⟩ : ∃ s, l[k]? = some s := ⟨l[k], List.getElem?_eq_getElem hlt⟩
          have hsm : s ∈ l := List.mem_of_getElem? hs
          obtain ⟨f1, f2, f3⟩ := HE.out.2 s hsm
          obtain ⟨num, hnum⟩ : ∃ m : Nat, s.num = (m : Int) := ⟨s.num.toNat, by omega⟩
          have hLr := HH.out.2.2.2.turn hT.fr hT.fp
          obtain ⟨ab, ao, rfl, hab, g0, g1, g2⟩ := hLr.cells hs
          rw [hnum] at g0
          have hLa := hLr.turn (((Fr.refl [] wr).alloc (.cells #[.int .i64 (num : Nat), .int .i64 s.at_, .slice s.A s.xs.length s.cap] 46)).mono (S' := R'.fp) (by simp)) (S' := R'.fp) (fun x h => .inl h)
          obtain ⟨d1, d2, d3⟩ := hLa.data s hsm
          have hl' := hO.len
          simp only [List.length_range] at hl'
          have hRa := hT.at_.fr0 ((Fr.refl [] wr).alloc (.cells #[.int .i64 (num : Nat), .int .i64 s.at_, .slice s.A s.xs.length s.cap] 46))
          obtain ⟨s2, hs2, _⟩ := hO.get (j := num) (by omega)
          obtain ⟨g, hA, hg, w0, w1, w2⟩ := hRa.sheet hs2
          have v0 := hRa.cell0
          rw [hA, hl', hT.r] at v0
          have hrow := hRa.row
          rw [hA] at hrow
          obtain ⟨cur, hgb⟩ : ∃ cur, Blk (wr.alloc (.cells #[.int .i64 (num : Nat), .int .i64 s.at_, .slice s.A s.xs.length s.cap] 46)) g 46 cur := by
            rcases hrow.cases with ⟨e, _⟩ | ⟨g', cur, e, hg', _⟩
            · cases e
            · simp at e; subst e; exact ⟨cur, hg'⟩
          have hgl : g < wr.heap.size := by
            have := hT.at_.row.lt g (by rw [hA]; simp [fpOf])
            exact this
          have hgr : g ≠ R.r := fun e => hRa.r_ne (by rw [hA, e, hT.r]; simp [fpOf])
          have hgw : ¬ g = wr.heap.size := by omega
          have hgw2 : wr.heap.size ≠ g := by omega
          have hbx : Blk (wr.alloc (.cells #[.int .i64 (num : Nat), .int .i64 s.at_, .slice s.A s.xs.length s.cap] 46)) wr.heap.size 46 [.int .i64 (num : Nat), .int .i64 s.at_, .slice s.A s.xs.length s.cap] := Blk.new _ _ _
          have k0 : (0 : Int) ≤ (k : Int) := by omega
          have k1 : (k : Int) < (l.length : Int) := by omega
          have m0 : (0 : Int) ≤ (num : Int) := by omega
          have m1 : (num : Int) < (n : Int) := by omega
          have htk : appC c (l.take (k + 1)) = putC (appC c (l.take k)) num s.at_ s.xs := by
            rw [List.take_succ_eq_append_getElem hlt, appC_snoc]
            have := List.getElem?_eq_getElem hlt
            rw [hs] at this
            rw [← Option.some.inj this, hnum]; rfl
          have HT := Lib.hid (And.intro hT (And.intro hO (And.intro htk (And.intro hRa (And.intro hA (And.intro d1 (And.intro f3 (And.intro hgb (And.intro hl' hnum)))))))))
          have DB := hbx.drew
          have rb := fun (w' : World) (i : Nat) (hh : Blk w' wr.heap.size 46 [.int .i64 (num : Nat), .int .i64 s.at_, .slice s.A s.xs.length s.cap]) => hh.cell i; have rb' := fun (w' : World) (i : Nat) (hh : Blk w' wr.heap.size 46 [.int .i64 (num : Nat), .int .i64 s.at_, .slice s.A s.xs.length s.cap]) => hh.frozen i
          clear hT hO htk hRa hA d1 d2 d3 f1 f2 f3 hgb hl' hnum hLr hLa hs hsm hs2 hrow hbx
          go_upto_region 16 with fail
          go_region_held3 (fun w' => w'.cell? ⟨R.r, 0, none⟩ = some (.slice (some ⟨g, 0, none⟩) n R'.cap) ∧ Blk w' wr.heap.size 46 [.int .i64 (num : Nat), .int .i64 s.at_, .slice s.A s.xs.length s.cap]) ((refine ⟨by simp [*, World.cell?_alloc_old, World.cell?_setCell_far, World.cell?_alloc_some], ?_⟩; (repeat' (first | (with_reducible assumption) | (with_reducible apply Blk.drewN) | (with_reducible apply Blk.drew) | (with_reducible apply Blk.far') | (with_reducible apply Blk.alloc))); all_goals (first | assumption | omega)))
            (first | (go_at_call 40; (with_reducible refine (rcopied_any s.A s.xs.length s.cap s.xs _ rfl HT.out.2.2.2.2.2.1.drew (by have := HT.out.2.2.2.2.2.2.1; omega)).mono ?_); rintro r w5 ⟨A5, cap5, rfl, hrow5, hf5, hfp5⟩; have v5 := hf5.cell (by simp) v0; have db := DB.fr hf5 (by simp); have x0 := hf5.cell (by simp) w0; have x1 := hf5.cell (by simp) w1; have x2 := hf5.cell (by simp) w2; have hg5 := HT.out.2.2.2.2.2.2.2.1.drew.fr hf5 (by simp); have z0 := hg5.frozen (num * 3); have z1 := hg5.frozen (num * 3 + 1); have z2 := hg5.frozen (num * 3 + 2); clear hg5))
          clear v5 db x0 x1 x2 z0 z1 z2 rb rb' DB
          go_wp2
          go_roundw
          case rel =>
            obtain ⟨hT, hO, htk, hRa, hA, d1, f3, hgb, hl', hnum⟩ := HT.out
            have hTP := rPut_of (num := num) (a := s.at_) hRa (by rw [hl']; omega) hA ((Fr.refl [] _).drew.trans hf5) hrow5 hfp5 rfl
            refine ⟨k + 1, _, hlt, by go_num, (hT.trans (RTurn.of_fr hT.at_ ((Fr.refl [] wr).alloc _))).trans hTP, ?_⟩
            rw [htk]
            exact putS_of hO
          case measure => simp [intOf]; omega
        · have hkl : k = l.length := by omega
          subst hkl
          rw [List.take_length] at hO
          have HT := Lib.hid (And.intro hT hO)
          clear hT hO
          go_wp2
          go_ret
          exact ⟨by rw [HE.out.1]; rfl, R', HT.out.1, by rw [if_pos HE.out.1]; exact HT.out.2⟩
end Go.Proofs.Ytaicpgkoailnkaa
