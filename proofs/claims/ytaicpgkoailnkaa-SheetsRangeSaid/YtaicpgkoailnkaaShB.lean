/- The law's comparison of two lists of sheets. -/
import Derived.Test.YtaicpgkoailnkaaShA
namespace Go.Proofs.Ytaicpgkoailnkaa
open Go.RowKit

/-- What a list of sheets reads as. -/
def Sh.key (s : Sh) : Int × Int × List Int := (s.num, s.at_, s.xs)
structure Seen (w : World) (A : Option Addr) (l : List Sh) : Prop where
  rds : Rds w A (flatS l)
  data : ∀ s ∈ l, Rds w s.A (bvals s.xs) ∧ s.xs.length ≤ 140737488351232
theorem Seen.cells {w : World} {A : Option Addr} {l : List Sh} (h : Seen w A l) {i : Nat} {s : Sh} (hd : l[i]? = some s) : ∃ b o, A = some ⟨b, o, none⟩ ∧ w.cell? ⟨b, o + i * 3, none⟩ = some (.int .i64 s.num) ∧ w.cell? ⟨b, o + i * 3 + 1, none⟩ = some (.int .i64 s.at_) ∧ w.cell? ⟨b, o + i * 3 + 2, none⟩ = some (.slice s.A s.xs.length s.cap) := by
  have hne : flatS l ≠ [] := by
    intro h0; have := flatS_length l; rw [h0] at this; have := (List.getElem?_eq_some_iff.1 hd).1; simp at *; omega
  obtain ⟨b, o, rfl, hc⟩ := h.rds hne
  have g : ∀ j, j < 3 → ∀ u, s.cells[j]? = some u → w.cell? ⟨b, o + (i * 3 + j), none⟩ = some u := fun j hj u hu => hc _ _ (by rw [flatS_get l i j s hd hj]; exact hu)
  exact ⟨b, o, rfl, g 0 (by omega) _ rfl, g 1 (by omega) _ rfl, g 2 (by omega) _ rfl⟩

set_option maxRecDepth 100000 in
set_option maxHeartbeats 4000000 in
theorem same_any (A1 A2 : Option Addr) (c1 c2 : Nat) (la lb : List Sh) (w : World) (h1 : Seen w A1 la) (h2 : Seen w A2 lb) (hx : la.length ≤ 140737488351232) :
    Calls Try.prog 18 #[.slice A1 la.length c1, .slice A2 lb.length c2] w fun r w' => r = .returned (.bool (decide (la.map Sh.key = lb.map Sh.key))) ∧ ∃ n, w' = w.drewN n := by
  have H1 := Lib.hid h1
  have H2 := Lib.hid h2
  clear h1 h2
  by_cases hl : la.length = lb.length
  · have HL := Lib.hid hl
    obtain ⟨n, hn⟩ : ∃ n, la.length = n := ⟨_, rfl⟩
    rw [← hl, hn]
    rw [hn] at hx
    have HN := Lib.hid hn
    clear hl hn
    have t1 : ((n : Int) != (n : Int)) = false := by simp
    go_enter Try.func18, Try.ntmps18
    go_wp2
    go_loopw [13] (fun i wr => ∃ (k q : Nat), k ≤ n ∧ i = .int .i64 k ∧ wr = w.drewN q ∧ (la.map Sh.key).take k = (lb.map Sh.key).take k) (fun i _ => n - (intOf i).toNat)
    case atStart => exact ⟨0, 0, Nat.zero_le _, rfl, rfl, by simp⟩
    case round =>
      obtain ⟨k, q, hk, rfl, hwr, hsame⟩ := hrel
      have h1r : Seen wr A1 la := by rw [hwr]; exact ⟨H1.out.rds, H1.out.data⟩
      have h2r : Seen wr A2 lb := by rw [hwr]; exact ⟨H2.out.rds, H2.out.data⟩
      have HW := Lib.hid hwr
      clear hwr
      by_cases hlt : k < n
      · obtain ⟨s, hs⟩ : ∃ s, la[k]? = some s := ⟨la[k]'(by have := HN.out; omega), List.getElem?_eq_getElem _⟩
        obtain ⟨t, ht⟩ : ∃ t, lb[k]? = some t := ⟨lb[k]'(by have := HN.out; have := HL.out; omega), List.getElem?_eq_getElem _⟩
        obtain ⟨b1, o1, rfl, x0, x1, x2⟩ := h1r.cells hs
        obtain ⟨b2, o2, rfl, y0, y1, y2⟩ := h2r.cells ht
        obtain ⟨d1, d1'⟩ := h1r.data s (List.mem_of_getElem? hs)
        obtain ⟨d2, d2'⟩ := h2r.data t (List.mem_of_getElem? ht)
        have hcall := fun (W : World) (r1 : Rds W s.A (bvals s.xs)) (r2 : Rds W t.A (bvals t.xs)) => Same_any s.A t.A s.cap t.cap s.xs t.xs W r1 r2 d1'
        have hks : (la.map Sh.key)[k]? = some s.key := by simp [hs]
        have hkt : (lb.map Sh.key)[k]? = some t.key := by simp [ht]
        have hno : s.key ≠ t.key → decide (la.map Sh.key = lb.map Sh.key) = false := fun hne => by
          rw [decide_eq_false_iff_not]
          intro he
          rw [he, hkt] at hks
          exact hne (Option.some.inj hks).symm
        have hyes : s.key = t.key → (la.map Sh.key).take (k + 1) = (lb.map Sh.key).take (k + 1) := fun he => by
          rw [List.take_add_one, List.take_add_one, hsame, hks, hkt, he]
        have k0 : (0 : Int) ≤ (k : Int) := by omega
        have k1 : (k : Int) < (n : Int) := by omega
        have HC := Lib.hid hcall
        have HD := Lib.hid (And.intro d1 d2)
        have HK := Lib.hid (And.intro hno hyes)
        have HX : Hid (s.key = t.key ↔ s.num = t.num ∧ s.at_ = t.at_ ∧ s.xs = t.xs) := Lib.hid (by simp [Sh.key])
        obtain ⟨sn, hsn⟩ : ∃ z, s.num = z := ⟨_, rfl⟩
        obtain ⟨sa, hsa⟩ : ∃ z, s.at_ = z := ⟨_, rfl⟩
        obtain ⟨tn, htn⟩ : ∃ z, t.num = z := ⟨_, rfl⟩
        obtain ⟨ta, hta⟩ : ∃ z, t.at_ = z := ⟨_, rfl⟩
        rw [hsn] at x0 HX
        rw [hsa] at x1 HX
        rw [htn] at y0 HX
        rw [hta] at y1 HX
        clear h1r h2r hs ht d1 d2 d1' d2' hcall hno hyes hks hkt hsame hsn hsa htn hta
        by_cases e1 : sn = tn
        · have u1 : (sn != tn) = false := by simpa using e1
          by_cases e2 : sa = ta
          · have u2 : (sa != ta) = false := by simpa using e2
            by_cases e3 : s.xs = t.xs
            · have hkey := Lib.hid (HX.out.2 ⟨e1, e2, e3⟩)
              have hdd : decide (s.xs = t.xs) = true := decide_eq_true e3
              rw [hdd] at HC
              clear e1 e2 e3
              go_upto_region 6 with fail
              go_quiet ((go_at_call 25; refine Calls.quiet_of (HC.out _ (HD.out.1.drewN _) (HD.out.2.drewN _))))
              go_wp2
              go_roundw
              case rel => exact ⟨k + 1, _, hlt, by go_num, by rw [HW.out]; exact World.drewN_drewN _ _ _, HK.out.2 hkey.out⟩
              case measure => simp [intOf]; omega
            · have hkey : Hid (s.key ≠ t.key) := Lib.hid (fun h => e3 (HX.out.1 h).2.2)
              have hdd : decide (s.xs = t.xs) = false := decide_eq_false e3
              rw [hdd] at HC
              clear e1 e2 e3
              go_upto_region 6 with fail
              go_quiet ((go_at_call 25; refine Calls.quiet_of (HC.out _ (HD.out.1.drewN _) (HD.out.2.drewN _))))
              go_wp2
              go_ret
              exact ⟨by rw [HK.out.1 hkey.out]; rfl, _, by rw [HW.out]; exact World.drewN_drewN _ _ _⟩
          · have u2 : (sa != ta) = true := by simpa using e2
            have hkey : Hid (s.key ≠ t.key) := Lib.hid (fun h => e2 (HX.out.1 h).2.1)
            clear e1 e2
            go_upto_region 6 with fail
            go_quiet (fail)
            go_wp2
            go_ret
            exact ⟨by rw [HK.out.1 hkey.out]; rfl, _, by rw [HW.out]; exact World.drewN_drewN _ _ _⟩
        · have u1 : (sn != tn) = true := by simpa using e1
          have hkey : Hid (s.key ≠ t.key) := Lib.hid (fun h => e1 (HX.out.1 h).1)
          clear e1
          go_upto_region 6 with fail
          go_quiet (fail)
          go_wp2
          go_ret
          exact ⟨by rw [HK.out.1 hkey.out]; rfl, _, by rw [HW.out]; exact World.drewN_drewN _ _ _⟩
      · have hkl : k = n := by omega
        subst hkl
        have hres : decide (la.map Sh.key = lb.map Sh.key) = true := by
          rw [decide_eq_true_eq]
          rw [List.take_of_length_le (by rw [List.length_map, HN.out]; exact Nat.le_refl _), List.take_of_length_le (by rw [List.length_map, ← HL.out, HN.out]; exact Nat.le_refl _)] at hsame
          exact hsame
        clear hsame h1r h2r
        go_wp2
        go_ret
        exact ⟨by rw [hres]; rfl, _, HW.out⟩
  · have t1 : ((la.length : Int) != (lb.length : Int)) = true := by simp; omega
    have hres : decide (la.map Sh.key = lb.map Sh.key) = false := by
      rw [decide_eq_false_iff_not]
      intro h
      exact hl (by simpa using congrArg List.length h)
    clear hl
    go_enter Try.func18, Try.ntmps18
    go_wp2
    go_ret
    exact ⟨by rw [hres]; rfl, 0, rfl⟩
end Go.Proofs.Ytaicpgkoailnkaa
