/- Package oplog, walked: All and the function that it hands back: what it gives is fixed when a range begins. -/
import Derived.Test.YtneinhhmhgdefaaLogC
import Derived.Test.YtneinhhmhgdefaaRange
namespace Go.Proofs.Ytneinhhmhgdefaa
open Go.RowKit Go.Shelf

theorem PLog.nc {n₀ : Nat} {w w' : World} {b bp n base : Nat} {L : List Ent} (h : PLog w b bp n base L) (hn : NC n₀ w w') : PLog w' b bp n base L := by
  obtain ⟨h1, h2, h3, h4, f, es, h5, h6, h7⟩ := h
  exact ⟨h1, h2, h3, h4, f, es, h5.nc hn, h6.nc hn, h7⟩

theorem All_any (b : Nat) (w : World) :
    Calls Try.prog 7 #[.pointer (some ⟨b, 0, none⟩)] w fun r w' => r = .returned (.func (.func 27) #[] #[.pointer (some ⟨w.heap.size, 0, none⟩)]) ∧ Blk w' w.heap.size 24 [.pointer (some ⟨b, 0, none⟩)] ∧ Fr [] w w' := by
  go_enter Try.func7, Try.ntmps7
  go_wp2
  go_ret
  exact ⟨rfl, by repeat' (first | (with_reducible exact trivial) | (with_reducible apply Blk.drewN) | (with_reducible apply Blk.drew) | (with_reducible exact Blk.new _ _ _) | (with_reducible apply Blk.new'; simp; done) | (with_reducible apply Blk.alloc) | (with_reducible apply Blk.set') | (with_reducible apply Blk.far')), by repeat' (first | (with_reducible exact Fr.refl _ _) | (with_reducible assumption) | (with_reducible refine Fr.setCell' ?_ ?_) | (with_reducible refine Fr.drewN ?_ _) | (with_reducible refine Fr.drew ?_) | (with_reducible refine Fr.alloc ?_ _))⟩

/-- What a range over All is given: of each op its entry. -/
def given (base : Nat) (L : List Ent) : List (Array Value) := (List.range L.length).zipWith (fun (k : Nat) (e : Ent) => #[.int .i64 ((base : Int) + 1 + (k : Int)), .agg #[.int .i64 e.c, .int .i64 e.n, .int .i64 e.k, .string e.nm, .string e.tx, .int .i64 e.u, .int .i64 e.m]]) L
theorem given_length (base : Nat) (L : List Ent) : (given base L).length = L.length := by simp [given]
theorem given_get (base : Nat) (L : List Ent) (k : Nat) (e : Ent) (he : L[k]? = some e) (hk : k < (given base L).length) : (given base L)[k] = #[.int .i64 ((base : Int) + 1 + (k : Int)), .agg #[.int .i64 e.c, .int .i64 e.n, .int .i64 e.k, .string e.nm, .string e.tx, .int .i64 e.u, .int .i64 e.m]] := by
  have hkl : k < L.length := by rw [given_length] at hk; exact hk
  rw [List.getElem?_eq_getElem hkl] at he
  simp at he
  simp [given, he]

set_option maxHeartbeats 1000000 in
theorem All1_iter (b bp bx n base : Nat) (L : List Ent) (w : World) (hp : PLog w b bp n base L) (hb : Blk w bx 24 [.pointer (some ⟨b, 0, none⟩)]) :
    IterC Try.prog 27 #[.pointer (some ⟨bx, 0, none⟩)] (given base L) w (Fr []) := by
  intro l J Jx W hnc hJ hJx hY h0
  have hp1 := hp.nc hnc
  have hb1 := hb.nc hnc
  have hwf : ∀ f, Fence.wide.fn f := fun _ => trivial
  have hwd : Fence.wide.depth = none := rfl
  have c0 : W.cell? ⟨bx, 0, none⟩ = some (.pointer (some ⟨b, 0, none⟩)) := hb1.cell 0
  refine callsIn_of_wp Try.func27 rfl trivial ?_ rfl
  simp only [Try.ntmps27, List.size_toArray, List.length_cons, List.length_nil, Nat.reduceAdd, Nat.reduceSub, Array.replicate_succ, Array.replicate_zero, List.push_toArray, List.append_toArray, List.nil_append, List.cons_append]
  gi_wp2_with (gi_at_call 16; refine (callsIn_wide.2 (Clone_any b bp n base L _ hp1)).mono ?_; rintro r w1 ⟨c, cp, rfl, hc1, hc2, hpc, hf1⟩; obtain ⟨p1, p2, p3, p4, f, es, hlog, hes, hl, hf, hk⟩ := id hpc; have HK := Lib.hid hk; have HL := Lib.hid hl; clear hk hl hpc; have k3 : w1.cell? ⟨c, 3, none⟩ = some (.int .i64 (L.length : Nat)) := hlog.cell 3)
  obtain ⟨F, hj0, hF0⟩ := h0 w1 hf1
  clear c0 hp1 hb1
  gi_loopw [12] (fun i wr => ∃ (k : Nat) (F : List Nat), k ≤ L.length ∧ i = .int .i64 k ∧ J k F wr ∧ Blk wr c 65 [.int .i64 base, .slice (some ⟨cp, 0, none⟩) n n, .int .i64 f, .int .i64 (L.length : Nat)] ∧ Blk wr cp 37 (flat es) ∧ c ∉ F ∧ cp ∉ F)
    (fun i _ => L.length - (intOf i).toNat)
  case atStart => exact ⟨0, F, Nat.zero_le _, rfl, hj0, hlog, hes, fun hm => by have := hF0 _ hm; omega, fun hm => by have := hF0 _ hm; omega⟩
  case round =>
    obtain ⟨k, F, hk, rfl, hj, hlogr, hesr, hcF, hcpF⟩ := hrel
    by_cases hlt : k < L.length
    · obtain ⟨x, hx⟩ : ∃ x, L[k]? = some x := ⟨L[k], List.getElem?_eq_getElem hlt⟩
      have hex : es[(f + k) % n]? = some x := (HK.out k hlt).trans hx
      have d0 : wr.cell? ⟨c, 0, none⟩ = some (.int .i64 base) := hlogr.cell 0
      have e1 : IntKind.i64.wrap ((base : Int) + 1) = (base : Int) + 1 := IntWalk.i64_in _ (by omega)
      have e2 : IntKind.i64.wrap ((base : Int) + 1 + (k : Int)) = (base : Int) + 1 + (k : Int) := IntWalk.i64_in _ (by omega)
      have HX := Lib.hid hex
      have HXL := Lib.hid hx
      have hkl : k ≤ 64 := by omega
      have HY := Lib.hid hY
      clear hex hx
      gi_wp2
      have hmix : Try.prog.follows .mixedOrders = true := by kernel_rfl
      gi_region_with_o (first | (gi_at_call 28; (with_reducible refine (callsIn_wide.2 (rget_any c cp f L.length n k base es _ hlogr.drew hesr.drew HL.out hf hkl p2 x HX.out)).mono ?_); rintro r w5 ⟨rfl, hf5⟩; have k5 := hf5.cell (b := c) (o := 0) (by simp) d0; obtain ⟨fn, tmps, assign, body, hy, hR⟩ := HY.out k F w5 (by rw [given_length]; exact hlt) (hJ _ _ _ _ hj ((Fr.refl _ wr).drew.trans hf5)); rw [given_get base L k x HXL.out] at hy; have HR := Lib.hid hR; clear hR) | (refine HR.out.mono ?_; rintro e W3 hpost; obtain ⟨bb, rfl, hbb⟩ : ∃ bb, e = .returned (.bool bb) ∧ ((bb = true ∧ ∃ F', J (k + 1) F' W3 ∧ Kept F w5 W3 ∧ ∀ b ∈ F', b ∈ F ∨ w5.heap.size ≤ b) ∨ (bb = false ∧ Jx W3)) := by (rcases hpost with ⟨h1, h2⟩ | ⟨h1, h2⟩; exact ⟨true, h1, .inl ⟨rfl, h2⟩⟩; exact ⟨false, h1, .inr ⟨rfl, h2⟩⟩)))
      all_goals
        have hlog5 := (hlogr.drew).fr hf5 (by simp)
        have hes5 := (hesr.drew).fr hf5 (by simp)
        have hcl := hlog5.lt
        have hcpl := hes5.lt
        rcases hbb with ⟨rfl, F', hj3, hk3, hF3⟩ | ⟨rfl, hx3⟩
        · gi_wp2
          go_roundw
          case rel => exact ⟨k + 1, F', hlt, by go_num, hj3, hk3.blk hlog5 hcF, hk3.blk hes5 hcpF, fun hm => (hF3 _ hm).elim hcF (fun h => by omega), fun hm => (hF3 _ hm).elim hcpF (fun h => by omega)⟩
          case measure => simp [intOf]; omega
        · gi_wp2
          refine bodyPost_ret (results_none rfl _ _ _) rfl ?_
          exact ⟨⟨_, rfl⟩, .inr hx3⟩
    · gi_wp2
      go_end0
      have hkl : k = L.length := by omega
      subst hkl
      refine ⟨⟨_, rfl⟩, .inl ⟨F, ?_⟩⟩
      rw [given_length]; exact hj
end Go.Proofs.Ytneinhhmhgdefaa
