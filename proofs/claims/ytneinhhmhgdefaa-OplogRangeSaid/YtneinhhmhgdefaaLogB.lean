/- Package oplog, walked: a ring's clone, a log's clone. -/
import Derived.Test.YtneinhhmhgdefaaLogA
import Derived.Test.YtneinhhmhgdefaaOwn
import Derived.Deep.DeepCutAuto
namespace Go.Proofs.Ytneinhhmhgdefaa
open Go.RowKit

theorem Try.uEnts : Try.prog.underlying 22 = some (.slice 37) := by kernel_rfl
theorem Try.iEnt : (Try.prog.info? 37).map (fun i => (i.zero, i.size, i.bytes)) = some (some (.agg #[.int .i64 0, .int .i64 0, .int .i64 0, .string ⟨#[]⟩, .string ⟨#[]⟩, .int .i64 0, .int .i64 0]), 7, 72) := by kernel_rfl

def Ent.zero : Ent := ⟨0, 0, 0, ⟨#[]⟩, ⟨#[]⟩, 0, 0⟩

theorem flat_replicate (n : Nat) (e : Ent) : (List.replicate n e.cells).flatten = flat (List.replicate n e) := by
  induction n with
  | zero => rfl
  | succ n ih => simp [List.replicate_succ, flat_cons, ih]

theorem make_ents (n : Nat) (hn : n ≤ 64) (w : World) : (Instr.makeSlice 22 (.int .i64 (n : Int)) (.int .i64 (n : Int))).run Try.prog w = .ok (.slice (some ⟨w.heap.size, 0, none⟩) n n) (w.alloc (.cells (flat (List.replicate n Ent.zero)).toArray 37)) := by
  obtain ⟨i0, hi, hz0, hz1, hz2⟩ := info_parts Try.iEnt
  rw [← flat_replicate]
  exact run_make2 22 37 i0 _ Ent.zero.cells Try.uEnts hi hz0 rfl hz1 .i64 .i64 n (by rw [hz2]; omega) (by omega) w

theorem ent_one (e : Ent) : ∀ v ∈ e.cells, v.oneCell' = true := by intro v hv; simp [Ent.cells] at hv; rcases hv with rfl | rfl | rfl | rfl | rfl | rfl | rfl <;> rfl
theorem flat_one (l : List Ent) : ∀ v ∈ flat l, v.oneCell' = true := by
  intro v hv
  simp only [flat, List.mem_flatMap] at hv
  obtain ⟨e, _, he⟩ := hv
  exact ent_one e v he

set_option maxHeartbeats 1000000 in
theorem rcloned_any (b bp f m n : Nat) (base : Int) (es : List Ent) (w : World) (hlog : Blk w b 65 [.int .i64 base, .slice (some ⟨bp, 0, none⟩) n n, .int .i64 f, .int .i64 m])
   (hes : Blk w bp 37 (flat es)) (hl : es.length = n) (hn : n ≤ 64) :
    Calls Try.prog 31 #[.pointer (some ⟨b, 1, none⟩)] w fun r w' => ∃ g, r = .returned (.agg #[.slice (some ⟨g, 0, none⟩) n n, .int .i64 f, .int .i64 m]) ∧ w.heap.size ≤ g ∧ Blk w' g 37 (flat es) ∧ Fr [] w w' := by
  have c1 : w.cell? ⟨b, 1, none⟩ = some (.slice (some ⟨bp, 0, none⟩) n n) := hlog.cell 1
  have c2 : w.cell? ⟨b, 2, none⟩ = some (.int .i64 f) := hlog.cell 2
  have c3 : w.cell? ⟨b, 3, none⟩ = some (.int .i64 m) := hlog.cell 3
  have hbl := hlog.lt
  have hpl := hes.lt
  have hmk := make_ents n hn
  have hna : ¬ b = w.heap.size := by omega
  have hna' : ¬ w.heap.size = b := by omega
  have hnb : ¬ b = w.heap.size + 1 := by omega
  have hnb' : ¬ w.heap.size + 1 = b := by omega
  have hnc : ¬ b = w.heap.size + 2 := by omega
  have hnc' : ¬ w.heap.size + 2 = b := by omega
  go_enter Try.func31, Try.ntmps31
  go_upto_region 1 with fail
  go_cut [3] (fun s3 wx => ∃ g h cs0 : Nat, s3 = .pointer (some ⟨h, 0, none⟩) ∧ Blk wx h 63 [.slice (some ⟨g, 0, none⟩) n n, .int .i64 f, .int .i64 m] ∧ Blk wx g 37 (flat (List.replicate n Ent.zero))
     ∧ Blk wx w.heap.size 63 [.slice none 0 0, .int .i64 0, .int .i64 0] ∧ w.heap.size < g ∧ w.heap.size < h ∧ Fr [] w wx ∧ cs0 = 0)
  case first =>
    go_region_held3 (fun w' => w'.cell? ⟨b, 1, none⟩ = some (.slice (some ⟨bp, 0, none⟩) n n) ∧ w'.cell? ⟨b, 2, none⟩ = some (.int .i64 f) ∧ w'.cell? ⟨b, 3, none⟩ = some (.int .i64 m)) (simp [*, World.cell?_alloc_old, World.cell?_setCell_far, World.cell?_alloc_some]) 
      (fail)
    all_goals
      rename_i hHeld
      clear hHeld
      go_wp2_with fail
      go_meet
    · refine ⟨w.heap.size + 1, w.heap.size + 1 + 1, 0, rfl, ?_, ?_, ?_, by omega, by omega, ?_, rfl⟩
      · repeat' (first | (with_reducible exact trivial) | (with_reducible apply Blk.drewN) | (with_reducible apply Blk.drew) | (with_reducible exact Blk.new _ _ _) | (with_reducible apply Blk.new'; simp; done) | (with_reducible apply Blk.alloc) | (with_reducible apply Blk.set') | (with_reducible apply Blk.far'))
      · repeat' (first | (with_reducible exact trivial) | (with_reducible apply Blk.drewN) | (with_reducible apply Blk.drew) | (with_reducible exact Blk.new _ _ _) | (with_reducible apply Blk.new'; simp; done) | (with_reducible apply Blk.alloc) | (with_reducible apply Blk.set') | (with_reducible apply Blk.far'))
      · repeat' (first | (with_reducible exact trivial) | (with_reducible apply Blk.drewN) | (with_reducible apply Blk.drew) | (with_reducible exact Blk.new _ _ _) | (with_reducible apply Blk.new'; simp; done) | (with_reducible apply Blk.alloc) | (with_reducible apply Blk.set') | (with_reducible apply Blk.far'))
      · repeat' (first | (with_reducible exact Fr.refl _ _) | (with_reducible assumption) | (with_reducible refine Fr.setCell' ?_ ?_) | (with_reducible refine Fr.drewN ?_ _) | (with_reducible refine Fr.drew ?_) | (with_reducible refine Fr.alloc ?_ _))
    · refine ⟨w.heap.size + 1 + 1, w.heap.size + 1, 0, rfl, ?_, ?_, ?_, by omega, by omega, ?_, rfl⟩
      · repeat' (first | (with_reducible exact trivial) | (with_reducible apply Blk.drewN) | (with_reducible apply Blk.drew) | (with_reducible exact Blk.new _ _ _) | (with_reducible apply Blk.new'; simp; done) | (with_reducible apply Blk.alloc) | (with_reducible apply Blk.set') | (with_reducible apply Blk.far'))
      · repeat' (first | (with_reducible exact trivial) | (with_reducible apply Blk.drewN) | (with_reducible apply Blk.drew) | (with_reducible exact Blk.new _ _ _) | (with_reducible apply Blk.new'; simp; done) | (with_reducible apply Blk.alloc) | (with_reducible apply Blk.set') | (with_reducible apply Blk.far'))
      · repeat' (first | (with_reducible exact trivial) | (with_reducible apply Blk.drewN) | (with_reducible apply Blk.drew) | (with_reducible exact Blk.new _ _ _) | (with_reducible apply Blk.new'; simp; done) | (with_reducible apply Blk.alloc) | (with_reducible apply Blk.set') | (with_reducible apply Blk.far'))
      · repeat' (first | (with_reducible exact Fr.refl _ _) | (with_reducible assumption) | (with_reducible refine Fr.setCell' ?_ ?_) | (with_reducible refine Fr.drewN ?_ _) | (with_reducible refine Fr.drew ?_) | (with_reducible refine Fr.alloc ?_ _))
  case rest =>
    obtain ⟨g, h, _, rfl, h1, h2, h3, hg, hh, hfr, _⟩ := hcut
    obtain ⟨wa, rfl⟩ : ∃ wa : World, wa = wc := ⟨_, rfl⟩
    clear c1 c2 c3 hna hna' hnb hnb' hnc hnc' hmk
    have hlog' := hlog.fr hfr (by simp)
    have hes' := hes.fr hfr (by simp)
    have c1 : wa.cell? ⟨b, 1, none⟩ = some (.slice (some ⟨bp, 0, none⟩) n n) := hlog'.cell 1
    have k1 : wa.cell? ⟨h, 0, none⟩ = some (.slice (some ⟨g, 0, none⟩) n n) := h1.cell 0
    have hgh : g ≠ h := h2.ne h1 (by decide)
    obtain ⟨i0, hi, hz0, hz1, hz2⟩ := info_parts Try.iEnt
    go_upto_region 2 with fail
    go_cut [] (fun wx => ∃ cs0 : Nat, Blk wx g 37 (flat es) ∧ Fr [g] wa wx ∧ cs0 = 0)
    case first =>
      go_region_held3 (fun w' => w'.cell? ⟨b, 1, none⟩ = some (.slice (some ⟨bp, 0, none⟩) n n) ∧ w'.cell? ⟨h, 0, none⟩ = some (.slice (some ⟨g, 0, none⟩) n n)) (simp [*])
        (first | (refine step_copy2 rfl (.tmp 20) (.tmp 24) 22 22 rfl 37 i0 Try.uEnts hi (some ⟨bp, 0, none⟩) n n n n g rfl rfl _ 37 h2.drew (flat es) ?_ ?_ ?_ (flat_one es) ?_; (rw [flat_length, hl, hz1]; simp); (intro _; exact ⟨_, rfl, fun j u hu => by rw [addr_add, Nat.zero_add]; exact hes'.cell' hu⟩); (rw [flat_length, flat_length]; simp [hl]); (intro w5 hb5 hf5; have k5 := hf5.cell (b := b) (o := 1) (by simp; omega) c1; have k6 := hf5.cell (b := h) (o := 0) (by simpa using hgh.symm) k1)))
      rename_i w5 hb5 hf5 k5 k6 hHeld
      clear hHeld k5 k6
      go_wp2_with fail
      go_meet
      refine ⟨0, ?_, (Fr.refl _ wa).drew.trans hf5, rfl⟩
      have e5 : flat es ++ List.drop (flat es).length (flat (List.replicate n Ent.zero)) = flat es := by
        rw [List.drop_eq_nil_of_le (by rw [flat_length, flat_length]; simp [hl]), List.append_nil]
      rw [e5] at hb5
      exact hb5
    case rest =>
      obtain ⟨_, q1, q2, _⟩ := hcut
      clear c1 k1 hi
      have j1 := h1.fr q2 (by simpa using hgh.symm)
      have j3 := h3.fr q2 (by simp; omega)
      have hne : h ≠ w.heap.size := by omega
      have k0 : wc.cell? ⟨h, 0, none⟩ = some (.slice (some ⟨g, 0, none⟩) n n) := j1.cell 0
      have k1 : wc.cell? ⟨h, 1, none⟩ = some (.int .i64 f) := j1.cell 1
      have k2 : wc.cell? ⟨h, 2, none⟩ = some (.int .i64 m) := j1.cell 2
      have l0 : wc.cell? ⟨w.heap.size, 0, none⟩ = some (.slice none 0 0) := j3.cell 0
      have l1 : wc.cell? ⟨w.heap.size, 1, none⟩ = some (.int .i64 0) := j3.cell 1
      have l2 : wc.cell? ⟨w.heap.size, 2, none⟩ = some (.int .i64 0) := j3.cell 2
      have z0 := j3.frozen 0
      have z1 := j3.frozen 1
      have z2 := j3.frozen 2
      go_wp2
      refine bodyPost_ret (results_cell_row (g := w.heap.size) (t := 63) (fr := (0, 0)) (d := .struct (Try.prog.fieldsOf 63)) rfl _ _ _ rfl ?_ (by kernel_rfl) rfl (by kernel_rfl)) rfl ⟨g, rfl, by omega, ?_, ?_⟩
      · show Blk _ _ _ [_, _, _]
        repeat' (first | (with_reducible exact j3) | (with_reducible apply Blk.drewN) | (with_reducible apply Blk.drew) | (with_reducible exact Blk.new _ _ _) | (with_reducible apply Blk.new'; simp; done) | (with_reducible apply Blk.alloc) | (with_reducible apply Blk.set') | (with_reducible apply Blk.far'))
        all_goals rfl
      · repeat' (first | (with_reducible exact q1) | (with_reducible apply Blk.drewN) | (with_reducible apply Blk.drew) | (with_reducible exact Blk.new _ _ _) | (with_reducible apply Blk.new'; simp; done) | (with_reducible apply Blk.alloc) | (with_reducible apply Blk.set') | (with_reducible apply Blk.far'))
        all_goals (simp; omega)
      · have hq := hfr.trans' q2 (S' := [g]) (by simp; omega)
        repeat' (first | (with_reducible exact Fr.refl _ _) | (with_reducible assumption) | (with_reducible refine Fr.setCell' ?_ ?_) | (with_reducible refine Fr.drewN ?_ _) | (with_reducible refine Fr.drew ?_) | (with_reducible refine Fr.alloc ?_ _))
        all_goals simp

/-- A program's log: what it holds, behind a base. -/
structure PLog (w : World) (b bp n base : Nat) (L : List Ent) : Prop where
  n0 : 0 < n
  n64 : n ≤ 64
  many : L.length ≤ n
  top : base + L.length ≤ 1099511627776
  ex : ∃ (f : Nat) (es : List Ent), Blk w b 65 [.int .i64 base, .slice (some ⟨bp, 0, none⟩) n n, .int .i64 f, .int .i64 (L.length : Nat)] ∧ Blk w bp 37 (flat es) ∧ es.length = n ∧ f < n ∧
    ∀ k, k < L.length → es[(f + k) % n]? = L[k]?

theorem PLog.fr {w w' : World} {b bp n base : Nat} {L : List Ent} (h : PLog w b bp n base L) {S : List Nat} (hf : Fr S w w') (hb : b ∉ S) (hp : bp ∉ S) : PLog w' b bp n base L := by
  obtain ⟨h1, h2, h3, h4, f, es, h5, h6, h7⟩ := h
  exact ⟨h1, h2, h3, h4, f, es, h5.fr hf hb, h6.fr hf hp, h7⟩
theorem PLog.lt {w : World} {b bp n base : Nat} {L : List Ent} (h : PLog w b bp n base L) : b < w.heap.size ∧ bp < w.heap.size ∧ b ≠ bp := by
  obtain ⟨h1, h2, h3, h4, f, es, h5, h6, h7⟩ := h
  exact ⟨h5.lt, h6.lt, h5.ne h6 (by decide)⟩

set_option maxHeartbeats 1000000 in
theorem Clone_any (b bp n base : Nat) (L : List Ent) (w : World) (hp : PLog w b bp n base L) :
    Calls Try.prog 16 #[.pointer (some ⟨b, 0, none⟩)] w fun r w' => ∃ c cp, r = .returned (.pointer (some ⟨c, 0, none⟩)) ∧ w.heap.size ≤ c ∧ w.heap.size ≤ cp ∧ PLog w' c cp n base L ∧ Fr [] w w' := by
  obtain ⟨p1, p2, p3, p4, f, es, hlog, hes, hl, hf, hk⟩ := hp
  have c0 : w.cell? ⟨b, 0, none⟩ = some (.int .i64 base) := hlog.cell 0
  have HK := Lib.hid hk; clear hk
  have HL := Lib.hid hl; clear hl
  have hbl := hlog.lt
  go_enter Try.func16, Try.ntmps16
  go_upto_region 1 with fail
  go_cut [2] (fun s2 wx => ∃ c cp cs0 : Nat, s2 = .pointer (some ⟨c, 0, none⟩) ∧ w.heap.size ≤ c ∧ w.heap.size ≤ cp ∧ Blk wx c 65 [.int .i64 base, .slice (some ⟨cp, 0, none⟩) n n, .int .i64 f, .int .i64 (L.length : Nat)] ∧ Blk wx cp 37 (flat es) ∧ Fr [] w wx ∧ cs0 = 0)
  case first =>
    go_region_held3 (fun w' => w'.cell? ⟨b, 0, none⟩ = some (.int .i64 base)) (simp [*, World.cell?_alloc_old, World.cell?_setCell_far, World.cell?_alloc_some])
      (first | (go_at_call 31; refine (rcloned_any b bp f L.length n base es _ hlog.drew hes.drew HL.out (by omega)).mono ?_; rintro r w5 ⟨g, rfl, hg, hb5, hf5⟩; have k5 := hf5.cell (b := b) (o := 0) (by simp) c0; have hg5 := hb5.lt))
    rename_i g hg w5 hb5 hf5 k5 hg5 hHeld
    clear hHeld k5
    go_wp2_with fail
    go_meet
    refine ⟨w5.heap.size, g, 0, rfl, hf5.size, hg, ?_, ?_, ?_, rfl⟩
    · repeat' (first | (with_reducible exact trivial) | (with_reducible apply Blk.drewN) | (with_reducible apply Blk.drew) | (with_reducible exact Blk.new _ _ _) | (with_reducible apply Blk.new'; simp; done) | (with_reducible apply Blk.alloc) | (with_reducible apply Blk.set') | (with_reducible apply Blk.far'))
    · repeat' (first | (with_reducible exact hb5) | (with_reducible apply Blk.drewN) | (with_reducible apply Blk.drew) | (with_reducible exact Blk.new _ _ _) | (with_reducible apply Blk.new'; simp; done) | (with_reducible apply Blk.alloc) | (with_reducible apply Blk.set') | (with_reducible apply Blk.far'))
    · have hq := (Fr.refl [] w).drew.trans hf5
      repeat' (first | (with_reducible exact Fr.refl _ _) | (with_reducible assumption) | (with_reducible refine Fr.setCell' ?_ ?_) | (with_reducible refine Fr.drewN ?_ _) | (with_reducible refine Fr.drew ?_) | (with_reducible refine Fr.alloc ?_ _))
  case rest =>
    obtain ⟨c, cp, _, rfl, h1, h2, h3, h4, h5, _⟩ := hcut
    go_wp2
    go_ret
    exact ⟨c, cp, rfl, h1, h2, ⟨p1, p2, p3, p4, f, es, h3, h4, HL.out, hf, HK.out⟩, h5⟩
end Go.Proofs.Ytneinhhmhgdefaa
