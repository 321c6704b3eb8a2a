/- The bound of scripts. -/
import Derived.Test.YtaicpgkoailnkaaShA
import Derived.Deep.LoopGhost
namespace Go.Proofs.Ytaicpgkoailnkaa
open Go.RowKit

/-- The answer to 'is it more than the bound?'. -/
def Bounded (e : Ending) (n : Nat) : Prop := ∃ bb : Bool, e = .returned (.bool bb) ∧ (bb = false → n ≤ 2147483647)

set_option maxRecDepth 100000 in
set_option maxHeartbeats 4000000 in
theorem beyond_any (A : Option Addr) (cap : Nat) (Ds : List Deed) (w : World) (hD : Deeds w A Ds) :
    Calls Try.prog 12 #[.slice A Ds.length cap] w fun r w' => Bounded r Ds.length ∧ ∃ n, w' = w.drewN n := by
  have DD := Lib.hid hD
  have hlong := hD.long
  clear hD
  go_enter Try.func12, Try.ntmps12
  go_wp2
  go_loopg [3, 4] Ds.length (fun g m i wr => ∃ (k p q : Nat), k ≤ Ds.length ∧ g = Ds.length - k ∧ i = .int .i64 k ∧ m = .int .i64 p ∧ Ds.length ≤ p ∧ p ≤ 1125899906842624 ∧ wr = w.drewN q)
  case atStart => exact ⟨0, Ds.length, 0, Nat.zero_le _, by omega, rfl, rfl, Nat.le_refl _, by omega, rfl⟩
  case round =>
    obtain ⟨k, p, q, hk, rfl, rfl, rfl, hp, hp2, rfl⟩ := hrel
    by_cases hlt : k < Ds.length
    · have k1 : (k : Int) < (Ds.length : Int) := by omega
      have k2 : decide ((k : Int) < (Ds.length : Int)) = true := decide_eq_true k1
      by_cases hle : p ≤ 2147483647
      · have p1 : (p : Int) ≤ 2147483647 := by omega
        have p2 : decide ((p : Int) ≤ 2147483647) = true := decide_eq_true p1
        obtain ⟨d, hd⟩ : ∃ d, Ds[k]? = some d := ⟨Ds[k], List.getElem?_eq_getElem hlt⟩
        have hdm : d ∈ Ds := List.mem_of_getElem? hd
        obtain ⟨_, _, hdl⟩ := DD.out.data d hdm
        have hL := DD.out.lists d hdm
        have hll := hL.long
        obtain ⟨ab, ao, rfl, hab, g0, g1, g2, g3, g4, g5⟩ := DD.out.cells hd
        obtain ⟨xl, hxl⟩ : ∃ z, d.xs.length = z := ⟨_, rfl⟩
        obtain ⟨ll, hlln⟩ : ∃ z, d.ls.length = z := ⟨_, rfl⟩
        rw [hxl] at g4 hdl
        rw [hlln] at g5 hll
        obtain ⟨LA, hLA⟩ : ∃ z, d.LA = z := ⟨_, rfl⟩
        rw [hLA] at g5 hL
        have HL := Lib.hid (And.intro hL hlln)
        clear hd hdm hL hxl hlln hLA
        have k0 : (0 : Int) ≤ (k : Int) := by omega
        have e1 : IntKind.i64.wrap ((xl : Int) + (ll : Int)) = ((xl + ll : Nat) : Int) := by rw [IntWalk.i64_in _ (by omega)]; omega
        have e2 : IntKind.i64.wrap ((p : Int) + ((xl + ll : Nat) : Int)) = ((p + (xl + ll) : Nat) : Int) := by rw [IntWalk.i64_in _ (by omega)]; omega
        have hps : p + (xl + ll) ≤ 562949953421312 := by omega
        obtain ⟨ps, hps2⟩ : ∃ ps, p + (xl + ll) = ps := ⟨_, rfl⟩
        rw [hps2] at e2 hps
        have hpp : Ds.length ≤ ps := by omega
        go_upto_region 5 with fail
        go_quiet (fail)
        have E3 : Hid ((p : Int) + ((xl : Int) + (ll : Int)) = (ps : Int)) := Lib.hid (by omega)
        clear e1 e2 hps2 hp hp2 hle p1 p2
        go_upto_region 6 with fail
        go_wp2
        obtain ⟨wo, rfl⟩ : ∃ wo : World, wo = (w.drewN q).drewN nq := ⟨_, rfl⟩
        go_loopg [3, 5] ll (fun g m i wr => ∃ (j p q : Nat), j ≤ ll ∧ g = ll - j ∧ i = .int .i64 j ∧ m = .int .i64 p ∧ Ds.length ≤ p ∧ p ≤ 562949953421312 ∧ wr = w.drewN q)
        case atStart => exact ⟨0, ps, _, Nat.zero_le _, by omega, rfl, by rw [E3.out], hpp, hps, World.drewN_drewN _ _ _⟩
        case round =>
          clear E3 hpp hps
          obtain ⟨j, p, q, hj, rfl, rfl, rfl, hp, hp2, rfl⟩ := hrel
          by_cases hlt2 : j < ll
          · have j1 : (j : Int) < (ll : Int) := by omega
            have j2 : decide ((j : Int) < (ll : Int)) = true := decide_eq_true j1
            by_cases hle : p ≤ 2147483647
            · have p1 : (p : Int) ≤ 2147483647 := by omega
              have p2 : decide ((p : Int) ≤ 2147483647) = true := decide_eq_true p1
              obtain ⟨s, hs⟩ : ∃ s, d.ls[j]? = some s := ⟨d.ls[j]'(by have := HL.out.2; omega), List.getElem?_eq_getElem _⟩
              obtain ⟨_, _, hsl⟩ := HL.out.1.data s (List.mem_of_getElem? hs)
              have hne : flatS d.ls ≠ [] := by
                intro h0; have := flatS_length d.ls; rw [h0] at this; have := (List.getElem?_eq_some_iff.1 hs).1; simp at *; omega
              obtain ⟨lb, lo, rfl, hc⟩ := HL.out.1.rds hne
              have g6 : w.cell? ⟨lb, lo + j * 3 + 2, none⟩ = some (.slice s.A s.xs.length s.cap) := hc _ _ (by rw [flatS_get d.ls j 2 s hs (by omega)]; rfl)
              obtain ⟨sl, hsl2⟩ : ∃ z, s.xs.length = z := ⟨_, rfl⟩
              rw [hsl2] at g6 hsl
              have j0 : (0 : Int) ≤ (j : Int) := by omega
              have e2 : IntKind.i64.wrap ((p : Int) + (sl : Int)) = ((p + sl : Nat) : Int) := by rw [IntWalk.i64_in _ (by omega)]; omega
              clear hs hne hc hsl2
              have E3 : Hid ((p : Int) + (sl : Int) = ((p + sl : Nat) : Int)) := Lib.hid (by omega)
              have hps : p + sl ≤ 562949953421312 := by omega
              go_wp2
              go_roundg (ll - (j + 1))
              case rel => exact ⟨j + 1, p + sl, q, hlt2, rfl, by go_num, by rw [E3.out], by omega, hps, rfl⟩
              case measure => omega
            · have p1 : ¬ (p : Int) ≤ 2147483647 := by omega
              have p2 : decide ((p : Int) ≤ 2147483647) = false := decide_eq_false p1
              go_wp2
              go_roundg (Ds.length - (k + 1))
              case rel => exact ⟨k + 1, p, q, hlt, rfl, by go_num, rfl, hp, by omega, rfl⟩
              case measure => omega
          · have j2 : decide ((j : Int) < (ll : Int)) = false := decide_eq_false (by omega)
            go_wp2
            go_roundg (Ds.length - (k + 1))
            case rel => exact ⟨k + 1, p, q, hlt, rfl, by go_num, rfl, hp, by omega, rfl⟩
            case measure => omega
      · have p1 : ¬ (p : Int) ≤ 2147483647 := by omega
        have p2 : decide ((p : Int) ≤ 2147483647) = false := decide_eq_false p1
        have p3 : decide ((2147483647 : Int) < (p : Int)) = true := decide_eq_true (by omega)
        go_wp2
        go_ret
        exact ⟨⟨true, rfl, by simp⟩, _, rfl⟩
    · have k2 : decide ((k : Int) < (Ds.length : Int)) = false := decide_eq_false (by omega)
      by_cases hle : p ≤ 2147483647
      · have p3 : decide ((2147483647 : Int) < (p : Int)) = false := decide_eq_false (by omega)
        go_wp2
        go_ret
        exact ⟨⟨false, rfl, fun _ => by omega⟩, _, rfl⟩
      · have p3 : decide ((2147483647 : Int) < (p : Int)) = true := decide_eq_true (by omega)
        go_wp2
        go_ret
        exact ⟨⟨true, rfl, by simp⟩, _, rfl⟩
end Go.Proofs.Ytaicpgkoailnkaa
