/- The ring of entries of package oplog, walked: at, add, drop, get, cloned. -/
import Derived.Test.YtneinhhmhgdefaaMem
import Derived.Test.YtneinhhmhgdefaaProg
namespace Go.Proofs.Ytneinhhmhgdefaa
open Go.RowKit

structure Ent where
  c : Int
  n : Int
  k : Int
  nm : ByteArray
  tx : ByteArray
  u : Int
  m : Int

def Ent.cells (e : Ent) : List Value := [.int .i64 e.c, .int .i64 e.n, .int .i64 e.k, .string e.nm, .string e.tx, .int .i64 e.u, .int .i64 e.m]
def flat (l : List Ent) : List Value := l.flatMap Ent.cells

theorem flat_cons (e : Ent) (l : List Ent) : flat (e :: l) = e.cells ++ flat l := by simp [flat]
theorem flat_append (a b : List Ent) : flat (a ++ b) = flat a ++ flat b := by simp [flat]
theorem flat_length (l : List Ent) : (flat l).length = l.length * 7 := by
  induction l with
  | nil => rfl
  | cons e l ih => rw [flat_cons, List.length_append, ih, List.length_cons]; simp [Ent.cells]; omega
theorem flat_get (l : List Ent) (i j : Nat) (e : Ent) (h : l[i]? = some e) (hj : j < 7) : (flat l)[i * 7 + j]? = e.cells[j]? := by
  induction l generalizing i with
  | nil => simp at h
  | cons x l ih =>
    rw [flat_cons]
    cases i with
    | zero =>
      simp at h; subst h
      rw [List.getElem?_append_left (by simp [Ent.cells]; omega)]; simp
    | succ i =>
      rw [List.getElem?_append_right (by simp [Ent.cells]; omega)]
      have : (i + 1) * 7 + j - x.cells.length = i * 7 + j := by simp [Ent.cells]; omega
      rw [this]; exact ih i (by simpa using h)
theorem flat_set (l : List Ent) (i : Nat) (e : Ent) (h : i < l.length) :
    ((((((((flat l).set (i * 7) (.int .i64 e.c)).set (i * 7 + 1) (.int .i64 e.n)).set (i * 7 + 2) (.int .i64 e.k)).set (i * 7 + 3) (.string e.nm)).set (i * 7 + 4) (.string e.tx)).set (i * 7 + 5) (.int .i64 e.u)).set (i * 7 + 6) (.int .i64 e.m))
      = flat (l.set i e) := by
  induction l generalizing i with
  | nil => simp at h
  | cons x l ih =>
    cases i with
    | zero => simp [flat_cons, Ent.cells]
    | succ i =>
      have e0 : ∀ k v (m : List Value), (x.cells ++ m).set ((i + 1) * 7 + k) v = x.cells ++ m.set (i * 7 + k) v := by
        intro k v m
        rw [List.set_append_right _ _ (by simp [Ent.cells]; omega)]
        congr 2; simp [Ent.cells]; omega
      have e1 : ∀ v (m : List Value), (x.cells ++ m).set ((i + 1) * 7) v = x.cells ++ m.set (i * 7) v := fun v m => e0 0 v m
      rw [flat_cons, List.set_cons_succ, flat_cons, e1, e0, e0, e0, e0, e0, e0, ih i (by simpa using h)]

/-- The cells of an entry in a row of entries; that none is frozen. -/
theorem ent_at {w : World} {g t : Nat} {l : List Ent} {i : Nat} {e : Ent} (h : Blk w g t (flat l)) (hi : l[i]? = some e) :
    w.cell? ⟨g, i * 7, none⟩ = some (.int .i64 e.c) ∧ w.cell? ⟨g, i * 7 + 1, none⟩ = some (.int .i64 e.n) ∧ w.cell? ⟨g, i * 7 + 2, none⟩ = some (.int .i64 e.k) ∧ w.cell? ⟨g, i * 7 + 3, none⟩ = some (.string e.nm)
      ∧ w.cell? ⟨g, i * 7 + 4, none⟩ = some (.string e.tx) ∧ w.cell? ⟨g, i * 7 + 5, none⟩ = some (.int .i64 e.u) ∧ w.cell? ⟨g, i * 7 + 6, none⟩ = some (.int .i64 e.m) :=
  ⟨h.cell' (flat_get l i 0 e hi (by omega)), h.cell' (flat_get l i 1 e hi (by omega)), h.cell' (flat_get l i 2 e hi (by omega)), h.cell' (flat_get l i 3 e hi (by omega)),
   h.cell' (flat_get l i 4 e hi (by omega)), h.cell' (flat_get l i 5 e hi (by omega)), h.cell' (flat_get l i 6 e hi (by omega))⟩
theorem ent_free {w : World} {g t : Nat} {cs : List Value} (h : Blk w g t cs) (i : Nat) :
    w.frozen? ⟨g, i * 7, none⟩ = false ∧ w.frozen? ⟨g, i * 7 + 1, none⟩ = false ∧ w.frozen? ⟨g, i * 7 + 2, none⟩ = false ∧ w.frozen? ⟨g, i * 7 + 3, none⟩ = false
      ∧ w.frozen? ⟨g, i * 7 + 4, none⟩ = false ∧ w.frozen? ⟨g, i * 7 + 5, none⟩ = false ∧ w.frozen? ⟨g, i * 7 + 6, none⟩ = false :=
  ⟨h.frozen _, h.frozen _, h.frozen _, h.frozen _, h.frozen _, h.frozen _, h.frozen _⟩
theorem at_any (b o : Nat) (k f n cap : Nat) (pa : Option Addr) (w : World)
   (h0 : w.cell? ⟨b, o, none⟩ = some (.slice pa n cap))
   (h1 : w.cell? ⟨b, o + 1, none⟩ = some (.int .i64 f)) (hn : 0 < n) (hb : f + k ≤ 1000) (i : Nat) (hi : (f + k) % n = i) :
    Calls Try.prog 44 #[.pointer (some ⟨b, o, none⟩), .int .i64 k] w fun e w' => e = .returned (.int .i64 i) ∧ ∃ q, w' = w.drewN q := by
  have HI := Lib.hid hi; clear hi
  have hz' : ((n : Int) == 0) = false := by simp; omega
  have e1 : IntKind.i64.wrap (↑f + ↑k) = ((f + k : Nat) : Int) := by rw [IntWalk.i64_in _ (by omega)]; omega
  go_enter Try.func44, Try.ntmps44
  go_wp2
  go_quiet (fail)
  go_wp2
  go_ret
  exact ⟨by rw [← HI.out]; simp, nq, rfl⟩

set_option maxHeartbeats 1000000 in
theorem radd_any (b bp f m n : Nat) (base : Int) (e : Ent) (es : List Ent) (w : World) (hlog : Blk w b 65 [.int .i64 base, .slice (some ⟨bp, 0, none⟩) n n, .int .i64 f, .int .i64 m])
   (hes : Blk w bp 37 (flat es)) (hl : es.length = n) (hf : f < n) (hm : m ≤ 64) (hn : n ≤ 64) :
    Calls Try.prog 29 #[.pointer (some ⟨b, 1, none⟩), .agg #[.int .i64 e.c, .int .i64 e.n, .int .i64 e.k, .string e.nm, .string e.tx, .int .i64 e.u, .int .i64 e.m]] w fun r w' => r = .returned (.tuple #[]) ∧ Fr [b, bp] w w' ∧ 
      Blk w' b 65 [.int .i64 base, .slice (some ⟨bp, 0, none⟩) n n, .int .i64 f, .int .i64 (m + 1 : Nat)] ∧ Blk w' bp 37 (flat (es.set ((f + m) % n) e)) := by
  have c1 : w.cell? ⟨b, 1, none⟩ = some (.slice (some ⟨bp, 0, none⟩) n n) := hlog.cell 1
  have c2 : w.cell? ⟨b, 2, none⟩ = some (.int .i64 f) := hlog.cell 2
  have c3 : w.cell? ⟨b, 3, none⟩ = some (.int .i64 m) := hlog.cell 3
  have z3 := hlog.frozen 3
  have hbl := hlog.lt
  have hpl := hes.lt
  have hbp : b ≠ bp := hlog.ne hes (by decide)
  obtain ⟨i, hi⟩ : ∃ i, (f + m) % n = i := ⟨_, rfl⟩
  have hin : i < n := by rw [← hi]; exact Nat.mod_lt _ (by omega)
  rw [hi]
  have HI := Lib.hid hi; clear hi
  have hi0 : (0 : Int) ≤ (i : Int) := by omega
  have hi1 : (i : Int) < (n : Int) := by omega
  go_enter Try.func29, Try.ntmps29
  go_wp2
  obtain ⟨x, hx⟩ : ∃ x, es[i]? = some x := ⟨es[i]'(by omega), List.getElem?_eq_getElem (by omega)⟩
  obtain ⟨g0, g1, g2, g3, g4, g5, g6⟩ := ent_at hes hx
  obtain ⟨y0, y1, y2, y3, y4, y5, y6⟩ := ent_free hes i
  have hbp' : ¬ bp = b := fun h => hbp h.symm
  have hbp'' : ¬ b = bp := hbp
  have hnb : ¬ bp = w.heap.size := by omega
  have hnb' : ¬ w.heap.size = bp := by omega
  have HX := Lib.hid hx; clear hx
  go_region_held3 (fun w' => w'.cell? ⟨b, 1, none⟩ = some (.slice (some ⟨bp, 0, none⟩) n n) ∧ w'.cell? ⟨b, 2, none⟩ = some (.int .i64 f) ∧ w'.cell? ⟨b, 3, none⟩ = some (.int .i64 m)
     ∧ w'.cell? ⟨w.heap.size, 0, none⟩ = some (.int .i64 e.c) ∧ w'.cell? ⟨w.heap.size, 1, none⟩ = some (.int .i64 e.n) ∧ w'.cell? ⟨w.heap.size, 2, none⟩ = some (.int .i64 e.k) ∧ w'.cell? ⟨w.heap.size, 3, none⟩ = some (.string e.nm)
     ∧ w'.cell? ⟨w.heap.size, 4, none⟩ = some (.string e.tx) ∧ w'.cell? ⟨w.heap.size, 5, none⟩ = some (.int .i64 e.u) ∧ w'.cell? ⟨w.heap.size, 6, none⟩ = some (.int .i64 e.m)) (go_keep) 
    (first | (go_at_call 44; refine (at_any b 1 m f n n (some ⟨bp, 0, none⟩) _ ?_ ?_ (by omega) (by omega) i HI.out).mono ?_; (simp [*]); (simp [*]); rintro r w' ⟨rfl, q, rfl⟩))
  rename_i hHeld
  clear hHeld g0 g1 g2 g3 g4 g5 g6 y0 y1 y2 y3 y4 y5 y6
  go_wp2
  go_end0
  refine ⟨rfl, ?_, ?_, ?_⟩
  · repeat' (first | (with_reducible exact Fr.refl _ _) | (with_reducible assumption) | (with_reducible refine Fr.setCell' ?_ ?_) | (with_reducible refine Fr.drewN ?_ _) | (with_reducible refine Fr.drew ?_) | (with_reducible refine Fr.alloc ?_ _))
    all_goals simp
  · repeat' (first | (with_reducible exact hlog) | (with_reducible apply Blk.drewN) | (with_reducible apply Blk.drew) | (with_reducible exact Blk.new _ _ _) | (with_reducible apply Blk.new'; simp; done) | (with_reducible apply Blk.alloc) | (with_reducible apply Blk.set') | (with_reducible apply Blk.far'))
    all_goals first | (with_reducible assumption) | simp
  · rw [← flat_set es i e (by omega)]
    repeat' (first | (with_reducible exact hes) | (with_reducible apply Blk.drewN) | (with_reducible apply Blk.drew) | (with_reducible exact Blk.new _ _ _) | (with_reducible apply Blk.new'; simp; done) | (with_reducible apply Blk.alloc) | (with_reducible apply Blk.set') | (with_reducible apply Blk.far'))
    all_goals first | (with_reducible assumption) | rfl

/-- drop: the first k go. -/
theorem rdrop_any (b bp f m n k : Nat) (base : Int) (w : World) (hlog : Blk w b 65 [.int .i64 base, .slice (some ⟨bp, 0, none⟩) n n, .int .i64 f, .int .i64 m])
   (hf : f < n) (hm : m ≤ 64) (hn : n ≤ 64) (hk : k ≤ m) :
    Calls Try.prog 30 #[.pointer (some ⟨b, 1, none⟩), .int .i64 k] w fun r w' => r = .returned (.tuple #[]) ∧ Fr [b] w w' ∧ 
      Blk w' b 65 [.int .i64 base, .slice (some ⟨bp, 0, none⟩) n n, .int .i64 ((f + k) % n : Nat), .int .i64 (m - k : Nat)] := by
  have c1 : w.cell? ⟨b, 1, none⟩ = some (.slice (some ⟨bp, 0, none⟩) n n) := hlog.cell 1
  have c2 : w.cell? ⟨b, 2, none⟩ = some (.int .i64 f) := hlog.cell 2
  have c3 : w.cell? ⟨b, 3, none⟩ = some (.int .i64 m) := hlog.cell 3
  have z2 := hlog.frozen 2
  have z3 := hlog.frozen 3
  obtain ⟨i, hi⟩ : ∃ i, (f + k) % n = i := ⟨_, rfl⟩
  rw [hi]
  have HI := Lib.hid hi; clear hi
  go_enter Try.func30, Try.ntmps30
  go_wp2_with (go_at_call 44; refine (at_any b 1 k f n n (some ⟨bp, 0, none⟩) _ ?_ ?_ (by omega) (by omega) i HI.out).mono ?_; (simp [*]); (simp [*]); rintro r w' ⟨rfl, q, rfl⟩)
  go_end0
  refine ⟨rfl, ?_, ?_⟩
  · repeat' (first | (with_reducible exact Fr.refl _ _) | (with_reducible assumption) | (with_reducible refine Fr.setCell' ?_ ?_) | (with_reducible refine Fr.drewN ?_ _) | (with_reducible refine Fr.drew ?_) | (with_reducible refine Fr.alloc ?_ _))
    all_goals simp
  · rw [show ((m - k : Nat) : Int) = (m : Int) - k from by omega]
    repeat' (first | (with_reducible exact hlog) | (with_reducible apply Blk.drewN) | (with_reducible apply Blk.drew) | (with_reducible exact Blk.new _ _ _) | (with_reducible apply Blk.new'; simp; done) | (with_reducible apply Blk.alloc) | (with_reducible apply Blk.set') | (with_reducible apply Blk.far'))
    all_goals first | (with_reducible assumption) | rfl

/-- get: the k-th, in a new block that holds the result. -/
theorem rget_any (b bp f m n k : Nat) (base : Int) (es : List Ent) (w : World) (hlog : Blk w b 65 [.int .i64 base, .slice (some ⟨bp, 0, none⟩) n n, .int .i64 f, .int .i64 m])
   (hes : Blk w bp 37 (flat es)) (hl : es.length = n) (hf : f < n) (hk : k ≤ 64) (hn : n ≤ 64) (x : Ent) (hx : es[(f + k) % n]? = some x) :
    Calls Try.prog 28 #[.pointer (some ⟨b, 1, none⟩), .int .i64 k] w fun r w' => r = .returned (.agg #[.int .i64 x.c, .int .i64 x.n, .int .i64 x.k, .string x.nm, .string x.tx, .int .i64 x.u, .int .i64 x.m]) ∧ Fr [] w w' := by
  have c1 : w.cell? ⟨b, 1, none⟩ = some (.slice (some ⟨bp, 0, none⟩) n n) := hlog.cell 1
  have c2 : w.cell? ⟨b, 2, none⟩ = some (.int .i64 f) := hlog.cell 2
  have hbl := hlog.lt
  have hpl := hes.lt
  obtain ⟨i, hi⟩ : ∃ i, (f + k) % n = i := ⟨_, rfl⟩
  have hin : i < n := by rw [← hi]; exact Nat.mod_lt _ (by omega)
  rw [hi] at hx
  have HI := Lib.hid hi; clear hi
  have hi0 : (0 : Int) ≤ (i : Int) := by omega
  have hi1 : (i : Int) < (n : Int) := by omega
  obtain ⟨g0, g1, g2, g3, g4, g5, g6⟩ := ent_at hes hx
  have hnb : ¬ bp = w.heap.size := by omega
  have hnb' : ¬ w.heap.size = bp := by omega
  have hna : ¬ b = w.heap.size := by omega
  have hna' : ¬ w.heap.size = b := by omega
  clear hx
  go_enter Try.func28, Try.ntmps28
  go_wp2
  go_region_held3 (fun w' => w'.cell? ⟨b, 1, none⟩ = some (.slice (some ⟨bp, 0, none⟩) n n) ∧ w'.cell? ⟨b, 2, none⟩ = some (.int .i64 f)
     ∧ w'.cell? ⟨bp, i * 7, none⟩ = some (.int .i64 x.c) ∧ w'.cell? ⟨bp, i * 7 + 1, none⟩ = some (.int .i64 x.n) ∧ w'.cell? ⟨bp, i * 7 + 2, none⟩ = some (.int .i64 x.k) ∧ w'.cell? ⟨bp, i * 7 + 3, none⟩ = some (.string x.nm)
     ∧ w'.cell? ⟨bp, i * 7 + 4, none⟩ = some (.string x.tx) ∧ w'.cell? ⟨bp, i * 7 + 5, none⟩ = some (.int .i64 x.u) ∧ w'.cell? ⟨bp, i * 7 + 6, none⟩ = some (.int .i64 x.m)) (go_keep) 
    (first | (go_at_call 44; refine (at_any b 1 k f n n (some ⟨bp, 0, none⟩) _ ?_ ?_ (by omega) (by omega) i HI.out).mono ?_; (simp [*]); (simp [*]); rintro r w' ⟨rfl, q, rfl⟩))
  rename_i hHeld
  clear hHeld g0 g1 g2 g3 g4 g5 g6
  go_wp2
  refine bodyPost_ret (results_cell_row (g := w.heap.size) (t := 37) (fr := (0, 0)) (d := .struct (Try.prog.fieldsOf 37)) rfl _ _ _ rfl ?_ (by kernel_rfl) rfl (by kernel_rfl)) rfl ⟨rfl, ?_⟩
  · show Blk _ _ _ [_, _, _, _, _, _, _]
    repeat' (first | (with_reducible exact trivial) | (with_reducible apply Blk.drewN) | (with_reducible apply Blk.drew) | (with_reducible exact Blk.new _ _ _) | (with_reducible apply Blk.new'; simp; done) | (with_reducible apply Blk.alloc) | (with_reducible apply Blk.set') | (with_reducible apply Blk.far'))
    all_goals rfl
  · repeat' (first | (with_reducible exact Fr.refl _ _) | (with_reducible assumption) | (with_reducible refine Fr.setCell' ?_ ?_) | (with_reducible refine Fr.drewN ?_ _) | (with_reducible refine Fr.drew ?_) | (with_reducible refine Fr.alloc ?_ _))
    all_goals simp
end Go.Proofs.Ytneinhhmhgdefaa
