/- The document's book of sheets, walked: Put. -/
import Derived.Test.YtaicpgkoailnkaaRefS
namespace Go.Proofs.Ytaicpgkoailnkaa
open Go.RowKit

/-- What the document's Put leaves. -/
def RPut (w w' : World) (R : RBo) (c : Nat → Int × List Int) (n : Nat) (num a : Int) (xs : List Int) : Prop := ∃ R' : RBo, RTurn w w' R R' ∧ OfC (List.range n) (putA c n num a xs) R'.ls

theorem Same_fr (A1 A2 : Option Addr) (c1 c2 : Nat) (xs ys : List Int) (w : World) (v : Bool) (hv : decide (xs = ys) = v) (h1 : Rds w A1 (bvals xs)) (h2 : Rds w A2 (bvals ys)) (hx : xs.length ≤ 140737488351232) :
    Calls Try.prog 25 #[.slice A1 xs.length c1, .slice A2 ys.length c2] w fun r w' => r = .returned (.bool v) ∧ Fr [] w w' := by
  refine (Same_any A1 A2 c1 c2 xs ys w h1 h2 hx).mono ?_
  rintro r w' ⟨rfl, n, rfl⟩
  rw [hv]
  exact ⟨rfl, (Fr.refl _ _).drewN n⟩

set_option maxRecDepth 100000 in
set_option maxHeartbeats 4000000 in
theorem rPut_any (R : RBo) (c : Nat → Int × List Int) (n : Nat) (num a : Int) (A : Option Addr) (cap : Nat) (xs : List Int) (w : World) (h : R.At w) (ho : OfC (List.range n) c R.ls) (hn64 : n ≤ 64) (hd : ∀ j, j < n → (c j).2.length ≤ 2304) (hx : Rds w A (bvals xs)) (hlen : xs.length ≤ 140737488351232) :
    Calls Try.prog 14 #[.pointer (some ⟨R.r, 0, none⟩), .int .i64 num, .int .i64 a, .slice A xs.length cap] w fun r w' => r = .returned (.int .i64 (putE n (lastC c n) num a xs.length)) ∧ RPut w w' R c n num a xs := by
  have hl := ho.len
  simp only [List.length_range] at hl
  have c0 := h.cell0
  rw [hl] at c0
  have hlast := rLast_any R
  rw [lastS_of ho] at hlast
  have HLAST := Lib.hid hlast
  obtain ⟨la, hla⟩ : ∃ la, lastC c n = la := ⟨_, rfl⟩
  rw [hla] at HLAST
  have keepC : ∀ w', Fr [] w w' → putE n la num a xs.length ≠ 0 → RPut w w' R c n num a xs := fun w' hf h0 => ⟨R, RTurn.of_fr h hf, by unfold putA; rw [hla, if_neg (fun h1 => h0 h1.1)]; exact ho⟩
  have HK := Lib.hid keepC
  have HH := Lib.hid (And.intro h (And.intro ho (And.intro hl (And.intro hd (And.intro hx hla)))))
  rw [hla]
  clear hlast keepC h ho hl hd hx hla
  by_cases h1 : 0 ≤ num ∧ num < n
  · obtain ⟨m, rfl⟩ : ∃ m : Nat, num = (m : Int) := ⟨num.toNat, by omega⟩
    have hm : m < n := by omega
    have t0 : decide ((m : Int) < 0) = false := by simp
    have t1 : decide ((n : Int) ≤ (m : Int)) = false := by simp; omega
    have t1' : decide (n ≤ m) = false := by simp; omega
    have q1 : ∀ len, putE n la m a len = if a < 1 ∨ 1099511627776 < a ∨ a < la then 62 else if 2304 < len then 63 else 0 := fun len => by unfold putE; rw [if_neg (by simpa using h1)]
    clear h1
    by_cases h2 : a < 1
    · have t2 : decide (a < 1) = true := decide_eq_true h2
      have HE := Lib.hid (show putE n la m a xs.length = 62 by rw [q1, if_pos (.inl h2)])
      clear h2 q1
      go_enter Try.func14, Try.ntmps14
      go_wp2_with fail
      go_ret
      exact ⟨by rw [HE.out]; rfl, HK.out _ (Fr.refl _ _) (by rw [HE.out]; decide)⟩
    · have t2 : decide (a < 1) = false := decide_eq_false h2
      by_cases h3 : 1099511627776 < a
      · have t3 : decide (1099511627776 < a) = true := decide_eq_true h3
        have HE := Lib.hid (show putE n la m a xs.length = 62 by rw [q1, if_pos (.inr (.inl h3))])
        clear h2 h3 q1
        go_enter Try.func14, Try.ntmps14
        go_wp2_with fail
        go_ret
        exact ⟨by rw [HE.out]; rfl, HK.out _ (Fr.refl _ _) (by rw [HE.out]; decide)⟩
      · have t3 : decide (1099511627776 < a) = false := decide_eq_false h3
        have hLa := HLAST.out w HH.out.1 (by rw [HH.out.2.2.1]; exact hn64)
        have HL1 := Lib.hid hLa
        clear hLa
        by_cases h4 : a < la
        · have t4 : decide (a < la) = true := decide_eq_true h4
          have HE := Lib.hid (show putE n la m a xs.length = 62 by rw [q1, if_pos (.inr (.inr h4))])
          clear h2 h3 h4 q1
          go_enter Try.func14, Try.ntmps14
          go_wp2_with (go_at_call 39; (with_reducible refine HL1.out.mono ?_); rintro r w1 ⟨rfl, hf1⟩)
          go_ret
          exact ⟨by rw [HE.out]; rfl, HK.out _ hf1 (by rw [HE.out]; decide)⟩
        · have t4 : decide (a < la) = false := decide_eq_false h4
          have q2 : ∀ len, putE n la m a len = if 2304 < len then 63 else 0 := fun len => by rw [q1, if_neg (by omega)]
          clear h2 h3 h4 q1
          by_cases h5 : 2304 < xs.length
          · have t5 : decide (2304 < xs.length) = true := decide_eq_true h5
            have t6 : decide ((2304 : Int) < (xs.length : Int)) = true := decide_eq_true (by omega)
            have HE := Lib.hid (show putE n la m a xs.length = 63 by rw [q2, if_pos h5])
            clear h5 q2
            go_enter Try.func14, Try.ntmps14
            go_wp2_with (go_at_call 39; (with_reducible refine HL1.out.mono ?_); rintro r w1 ⟨rfl, hf1⟩)
            go_ret
            exact ⟨by rw [HE.out]; rfl, HK.out _ hf1 (by rw [HE.out]; decide)⟩
          · have t5 : decide (2304 < xs.length) = false := decide_eq_false h5
            have t6 : decide ((2304 : Int) < (xs.length : Int)) = false := decide_eq_false (by omega)
            have HE := Lib.hid (show putE n la m a xs.length = 0 by rw [q2, if_neg h5])
            have HLEN := Lib.hid (show xs.length ≤ 2304 by omega)
            clear h5 q2
            obtain ⟨hR, ho, hl, hd, hx, hla⟩ := HH.out
            obtain ⟨s, hs, e1, e2, e3⟩ := ho.get hm
            obtain ⟨g, hA, _⟩ := hR.sheet hs
            rw [hA] at c0
            have hsd := (hR.data s (List.mem_of_getElem? hs)).rds
            have hsl : s.xs.length ≤ 140737488351232 := by rw [e3]; have := hd m hm; omega
            have HS := Lib.hid (And.intro hs (And.intro hA (And.intro hsd (And.intro hsl (And.intro e1 (And.intro e2 e3))))))
            have k0 : (0 : Int) ≤ (m : Int) := by omega
            have k1 : (m : Int) < (n : Int) := by omega
            clear hR ho hl hd hx hla hs e1 e2 e3 hA hsd hsl
            go_enter Try.func14, Try.ntmps14
            go_upto_region 7 with (go_at_call 39; (with_reducible refine HL1.out.mono ?_); rintro r w1 ⟨rfl, hf1⟩)
            obtain ⟨hR, ho, hl, hd, hx, hla⟩ := HH.out
            obtain ⟨hs, hA, hsd, hsl, e1, e2, e3⟩ := HS.out
            have hR1 := hR.fr0 hf1
            obtain ⟨g', hA', hg, g0, g1, g2⟩ := hR1.sheet hs
            rw [hA] at hA'
            simp at hA'
            subst hA'
            have u0 := hR1.cell0
            rw [hA, hl] at u0
            obtain ⟨v, hv⟩ : ∃ v, decide (s.xs = xs) = v := ⟨_, rfl⟩
            have hsm := Same_fr s.A A s.cap cap s.xs xs w1 v hv (hsd.fr hf1 (by simp)) (hx.fr hf1 (by simp)) hsl
            have HSM := Lib.hid hsm
            have HF1 := Lib.hid (And.intro hf1 (And.intro hR1 hv))
            clear hsm hR ho hl hd hx hla hs hA hsd hsl e1 e2 e3 hR1 hv hf1
            cases v with
            | true =>
              go_wp2_with (go_at_call 25; (with_reducible refine HSM.out.mono ?_); rintro r w2 ⟨rfl, hf2⟩)
              go_ret
              refine ⟨by rw [HE.out]; rfl, R, RTurn.of_fr HH.out.1 (HF1.out.1.trans hf2), ?_⟩
              unfold putA
              rw [if_neg]
              · exact HH.out.2.1
              · rintro ⟨_, h9⟩
                refine h9 ?_
                rw [Int.toNat_natCast, ← HS.out.2.2.2.2.2.2]
                exact of_decide_eq_true HF1.out.2.2
            | false =>
              go_upto_region 8 with (go_at_call 25; (with_reducible refine HSM.out.mono ?_); rintro r w2 ⟨rfl, hf2⟩)
              have hf12 := HF1.out.1.trans hf2
              have v0 : w2.cell? ⟨R.r, 0, none⟩ = some (.slice (some ⟨g, 0, none⟩) n R.cap) := hf2.cell (by simp) u0
              have hR2 := HH.out.1.fr0 hf12
              have hxw := HH.out.2.2.2.2.1.fr hf12 (by simp)
              obtain ⟨hs, hA, _⟩ := HS.out
              have hrow2 := hR2.row
              rw [hA, HH.out.2.2.1] at hrow2
              have hgl : g < w2.heap.size := hrow2.lt g (by simp [fpOf])
              have hgr : g ≠ R.r := fun e => hR2.r_ne (by rw [hA, e]; simp [fpOf])
              have w0 := hf2.cell (by simp) g0
              have w1' := hf2.cell (by simp) g1
              have w2' := hf2.cell (by simp) g2
              obtain ⟨cur, hgb⟩ : ∃ cur, Blk w2 g 46 cur := by
                rcases hrow2.cases with ⟨e, _⟩ | ⟨g', cur, e, hg', _⟩
                · cases e
                · simp at e; subst e; exact ⟨cur, hg'⟩
              have HX := Lib.hid (And.intro hxw (And.intro hR2 (And.intro hf12 (And.intro hrow2 (And.intro hA hgb)))))
              clear hxw hR2 hf12 hs hA hrow2 u0 g0 g1 g2 c0 hgb
              go_region_held3 (fun w' => w'.cell? ⟨R.r, 0, none⟩ = some (.slice (some ⟨g, 0, none⟩) n R.cap)) (simp [*, World.cell?_alloc_old, World.cell?_setCell_far, World.cell?_alloc_some])
                (first | (go_at_call 40; (with_reducible refine (rcopied_any A xs.length cap xs _ rfl HX.out.1.drew (by have := HLEN.out; omega)).mono ?_); rintro r w5 ⟨A5, cap5, rfl, hrow5, hf5, hfp5⟩; have v5 := hf5.cell (by simp) v0; have x0 := hf5.cell (by simp) w0; have x1 := hf5.cell (by simp) w1'; have x2 := hf5.cell (by simp) w2'; have hg5 := HX.out.2.2.2.2.2.drew.fr hf5 (by simp); have z0 := hg5.frozen (m * 3); have z1 := hg5.frozen (m * 3 + 1); have z2 := hg5.frozen (m * 3 + 2); clear hg5))
              clear v5 x0 x1 x2 z0 z1 z2
              go_wp2
              go_ret
              refine ⟨by rw [HE.out]; rfl, { R with ls := R.ls.set m ⟨(m : Int), a, A5, cap5, xs⟩ }, ?_, ?_⟩
              · have hT := rPut_of (num := m) (a := a) HX.out.2.1 (by rw [HH.out.2.2.1]; exact hm) HX.out.2.2.2.2.1 ((Fr.refl [] w2).drew.trans hf5) hrow5 hfp5 rfl
                exact (RTurn.of_fr HH.out.1 HX.out.2.2.1).trans hT
              · have hne : (c m).2 ≠ xs := by rw [← HS.out.2.2.2.2.2.2]; exact of_decide_eq_false HF1.out.2.2
                unfold putA
                rw [if_pos ⟨by rw [HH.out.2.2.2.2.2]; exact HE.out, by rw [Int.toNat_natCast]; exact hne⟩, Int.toNat_natCast]
                exact putS_of HH.out.2.1
  · have he : putE n la num a xs.length = 61 := by unfold putE; rw [if_pos h1]
    have HE := Lib.hid he
    by_cases h2 : num < 0
    · have t0 : decide (num < 0) = true := decide_eq_true h2
      clear h1 he h2
      go_enter Try.func14, Try.ntmps14
      go_wp2_with fail
      go_ret
      exact ⟨by rw [HE.out]; rfl, HK.out _ (Fr.refl _ _) (by rw [HE.out]; decide)⟩
    · have t0 : decide (num < 0) = false := decide_eq_false h2
      have t1 : decide ((n : Int) ≤ num) = true := decide_eq_true (by omega)
      clear h1 he h2
      go_enter Try.func14, Try.ntmps14
      go_wp2_with fail
      go_ret
      exact ⟨by rw [HE.out]; rfl, HK.out _ (Fr.refl _ _) (by rw [HE.out]; decide)⟩
end Go.Proofs.Ytaicpgkoailnkaa
