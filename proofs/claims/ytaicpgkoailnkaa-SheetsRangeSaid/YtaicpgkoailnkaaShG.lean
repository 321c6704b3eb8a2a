/- The law's alike. -/
import Derived.Test.YtaicpgkoailnkaaShF
namespace Go.Proofs.Ytaicpgkoailnkaa
open Go.RowKit

set_option maxRecDepth 100000 in
set_option maxHeartbeats 8000000 in
theorem alike_any (B : Boo) (R : RBo) (H : Shf) (w : World) (hB : B.At w) (hR : R.At w) (hO : OfC (List.range B.n) B.con R.ls) (hH : H.At w) (hl : (H.es.length + 64) * 24 ≤ 140737488351232) :
    Calls Try.prog 21 #[.pointer (some ⟨B.b, 0, none⟩), .pointer (some ⟨R.r, 0, none⟩), .pointer (some ⟨H.d, H.off, none⟩)] w fun r w' => r = .returned (.bool true) ∧ ∃ (H' : Shf) (new : List Ent), Laid w w' H H' new ∧ new.length = B.n := by
  have hn64 := hB.n64
  have hll := hO.len
  simp only [List.length_range] at hll
  have hlast := Last_boo B w hB
  have hrlast := rLast_any R w hR (by omega)
  rw [lastS_of hO] at hrlast
  obtain ⟨la, hla⟩ : ∃ la, lastC B.con B.n = la := ⟨_, rfl⟩
  rw [hla] at hlast hrlast
  obtain ⟨n, hn⟩ : ∃ n, B.n = n := ⟨_, rfl⟩
  rw [hn] at hn64 hO hll ⊢
  have c0 := hR.cell0
  rw [hll] at c0
  have HL := Lib.hid (And.intro hlast hrlast)
  have HH := Lib.hid (And.intro hB (And.intro hR (And.intro hO (And.intro hH (And.intro hn hll)))))
  have e1 : (la != la) = false := by simp
  clear hB hR hO hH hlast hrlast hla hn hll
  go_enter Try.func21, Try.ntmps21
  go_wp2_with (first | (go_at_call 22; (with_reducible refine HL.out.1.mono ?_); rintro r w1 ⟨rfl, rfl⟩) | (go_at_call 39; (with_reducible refine HL.out.2.mono ?_); rintro r w2 ⟨rfl, hf2⟩; have c2 := hf2.cell (by simp) c0))
  go_loopw [22] (fun i wr => ∃ (k : Nat) (H' : Shf) (new : List Ent), k ≤ n ∧ i = .int .i64 k ∧ Laid w1 wr H H' new ∧ new.length = k) (fun i _ => n - (intOf i).toNat)
  case atStart => exact ⟨0, H, [], Nat.zero_le _, rfl, Laid.of_fr HH.out.2.2.2.1 hf2, rfl⟩
  case round =>
    obtain ⟨k, H', new, hk, rfl, hD, hnl⟩ := hrel
    by_cases hlt : k < n
    · obtain ⟨hB, hR, hO, hH, hn, hll⟩ := HH.out
      obtain ⟨s, hs, x1, x2, x3⟩ := hO.get hlt
      have hBr := hB.fr hD.fr (hH.off_boo hB)
      have hRr := hR.fr hD.fr (hH.off_rbo hR)
      obtain ⟨g, hA, hg, g0, g1, g2⟩ := hRr.sheet hs
      have hba : ∀ o, B.At (wr.alloc o) := fun o => hBr.fr0 ((Fr.refl _ _).alloc o)
      have hget := fun o => Get_boo B k (wr.alloc o) (hba o) (by omega)
      rw [← x2, ← x3] at hget
      have hdl := (hB.data (j := k) (by omega)).2
      rw [← x3] at hdl
      have hsd := fun o => (hRr.fr0 ((Fr.refl [] wr).alloc o)).data s (List.mem_of_getElem? hs)
      obtain ⟨xl, hxl⟩ : ∃ xl, s.xs.length = xl := ⟨_, rfl⟩
      have hsame := fun (W : World) (A1 : Option Addr) (c1 : Nat) (r1 : Rds W A1 (bvals s.xs)) (r2 : Rds W s.A (bvals s.xs)) => Same_any A1 s.A c1 s.cap s.xs s.xs W r1 r2 (by omega)
      rw [decide_eq_true (show s.xs = s.xs from rfl)] at hsame
      have hkeep := fun (A5 : Option Addr) (cap5 : Nat) (W : World) (hf : Fr [] wr W) (hr : Row W 5 1 A5 s.xs.length cap5 (bvals s.xs)) (hA : ∀ x ∈ fpOf A5, wr.heap.size ≤ x) => keep_shf H' A5 cap5 s.xs wr W hf (hD.at_.fr0 hf) hD.at_ hr hA (by omega) (by rw [hD.es, List.length_append]; omega)
      rw [hD.d, hD.off] at hkeep
      rw [hxl] at g2 hget hsd hsame hkeep hdl
      have hbx : Blk (wr.alloc (.cells #[.int .i64 s.num, .int .i64 s.at_, .slice s.A xl s.cap] 46)) wr.heap.size 46 [.int .i64 s.num, .int .i64 s.at_, .slice s.A xl s.cap] := Blk.new _ _ _
      have HG := Lib.hid hget
      have HS := Lib.hid (And.intro hsame hsd)
      have HK := Lib.hid hkeep
      have HD := Lib.hid (And.intro hD (And.intro hnl hbx))
      rw [hA]
      obtain ⟨sa, hsa⟩ : ∃ z, s.at_ = z := ⟨_, rfl⟩
      rw [hsa] at HG g1
      rw [hsa] at HD
      have u1 : (sa != sa) = false := by simp
      have k0 : (0 : Int) ≤ (k : Int) := by omega
      have k1 : (k : Int) < (n : Int) := by omega
      clear hB hR hO hH hn hll hs x1 x2 x3 hBr hRr hA hba hget hsd hsame hkeep hxl hsa hD hnl hbx hf2 c2 c0
      go_wp2_with (first | (go_at_call 24; (with_reducible refine (HG.out _).mono ?_); rintro r w5 ⟨A5, cap5, rfl, hr5, hf5, hfp5⟩; have b5 := HD.out.2.2.fr hf5 (by simp); have y1 := b5.cell' (i := 1) rfl; have y2 := b5.cell' (i := 2) rfl; have HR5 := Lib.hid (And.intro hr5 (And.intro hf5 hfp5)); clear hr5 hf5 hfp5 b5))
      have hsm := HS.out.1 w5 A5 cap5 HR5.out.1.rds (((HS.out.2 _).fr HR5.out.2.1 (by simp)).rds)
      have HSM := Lib.hid hsm
      clear hsm HS
      refine HSM.out.mono ?_
      rintro r w6 ⟨rfl, nq, rfl⟩
      have hkp := HK.out A5 cap5 (w5.drewN nq) ((((Fr.refl [] wr).alloc _).trans HR5.out.2.1).drewN _) (HR5.out.1.drewN _) (fun x hx => by have := HR5.out.2.2 x hx; simp at this; omega)
      have HKP := Lib.hid hkp
      clear hkp HK HSM y1 y2
      go_wp2_with (first | (go_at_call 44; (with_reducible refine HKP.out.mono ?_); rintro r w7 ⟨rfl, H7, e7, hD7, _⟩))
      go_roundw
      case rel => exact ⟨k + 1, H7, new ++ [e7], hlt, by go_num, HD.out.1.trans hD7, by rw [List.length_append, HD.out.2.1]; rfl⟩
      case measure => simp [intOf]; omega
    · have hkn : k = n := by omega
      subst hkn
      have HD := Lib.hid (And.intro hD hnl)
      clear hD hnl hf2 c2
      go_wp2
      go_ret
      exact ⟨rfl, H', new, HD.out.1, HD.out.2⟩
end Go.Proofs.Ytaicpgkoailnkaa
