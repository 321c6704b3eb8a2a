/- The document's book of sheets, walked: Since, Snap. -/
import Derived.Test.YtaicpgkoailnkaaRefT
namespace Go.Proofs.Ytaicpgkoailnkaa
open Go.RowKit

/-- One more sheet told. -/
theorem Told.snoc {w w5 w7 w6 : World} {base : Nat} {A A5 A9 : Option Addr} {cap cap5 cap9 : Nat} {l : List Sh} {num a : Int} {xs : List Int} (h : Told w base A cap l) (hb : base ≤ w.heap.size) (hf5 : Fr [] w w5) (hrow : Row w5 5 1 A5 xs.length cap5 (bvals xs)) (hnew : ∀ x ∈ fpOf A5, w.heap.size ≤ x)
    (hf7 : Fr [] w5 w7) (hr9 : Row w6 46 3 A9 (l.length + 1) cap9 (flatS l ++ [.int .i64 num, .int .i64 a, .slice A5 xs.length cap5])) (hf9 : Fr (fpOf A) w7 w6) (hfp9 : ∀ b ∈ fpOf A9, b ∈ fpOf A ∨ w7.heap.size ≤ b) : Told w6 base A9 cap9 (l ++ [⟨num, a, A5, cap5, xs⟩]) := by
  have hf : Fr (fpOf A) w w6 := ((hf5.trans hf7).mono (by simp)).trans hf9
  have s5 := hf5.size
  have s7 := hf7.size
  refine ⟨?_, ?_, ?_, ?_, ?_⟩
  · rw [flatS_append, List.length_append, List.length_singleton]
    exact hr9
  · intro x hx
    rcases hfp9 x hx with h1 | h1
    · exact h.own x h1
    · omega
  · intro s hs
    rcases List.mem_append.1 hs with hs | hs
    · exact (h.data s hs).fr hf (h.ne s hs)
    · simp only [List.mem_singleton] at hs
      subst hs
      refine (hrow.fr hf7 (by simp)).fr hf9 (fun x hx hm => ?_)
      have h1 := hnew x hx
      have h2 := h.row.lt x hm
      omega
  · intro s hs x hx
    rcases List.mem_append.1 hs with hs | hs
    · exact h.new s hs x hx
    · simp only [List.mem_singleton] at hs
      subst hs
      have h1 := hnew x hx
      omega
  · rw [List.pairwise_append]
    refine ⟨h.apart, List.pairwise_singleton _ _, fun s hs t ht x hx hm => ?_⟩
    simp only [List.mem_singleton] at ht
    subst ht
    have h1 := hnew x hm
    have h2 := (h.data s hs).lt x hx
    omega
theorem Told.fr0 {w w' : World} {base : Nat} {A : Option Addr} {cap : Nat} {l : List Sh} (h : Told w base A cap l) (hf : Fr [] w w') : Told w' base A cap l := h.fr hf (by simp) (by simp)

theorem OfC.snoc {gl : List Nat} {c : Nat → Int × List Int} {l : List Sh} (h : OfC gl c l) (j : Nat) (A : Option Addr) (cap : Nat) : OfC (gl ++ [j]) c (l ++ [⟨(j : Int), (c j).1, A, cap, (c j).2⟩]) := by
  unfold OfC at h ⊢
  rw [List.map_append, List.map_append, h]
  rfl
theorem sinceC_succ (c : Nat → Int × List Int) (k : Nat) (a : Int) : sinceC c (k + 1) a = if max a 0 < (c k).1 then sinceC c k a ++ [k] else sinceC c k a := by
  unfold sinceC
  rw [List.range_succ, List.filter_append]
  by_cases h : max a 0 < (c k).1
  · rw [if_pos h, List.filter_cons, if_pos (by simpa using h)]; rfl
  · rw [if_neg h, List.filter_cons, if_neg (by simpa using h)]; simp

set_option maxRecDepth 100000 in
set_option maxHeartbeats 4000000 in
theorem rSince_pos (R : RBo) (c : Nat → Int × List Int) (n : Nat) (a : Int) (w : World) (h : R.At w) (ho : OfC (List.range n) c R.ls) (hn64 : n ≤ 64) (hd : ∀ j, j < n → (c j).2.length ≤ 2304) (ha : ¬ a < 0) :
    Calls Try.prog 17 #[.pointer (some ⟨R.r, 0, none⟩), .int .i64 a] w fun r w' => ∃ (A : Option Addr) (cap : Nat) (l : List Sh), r = .returned (.slice A l.length cap) ∧ Told w' w.heap.size A cap l ∧ OfC (sinceC c n a) c l ∧ Fr [] w w' := by
  have hl := ho.len
  simp only [List.length_range] at hl
  have c0 := h.cell0
  rw [hl] at c0
  obtain ⟨i0, hi, hz0, hz1, hz2⟩ := info_parts Try.iSheet
  have HI := Lib.hid (And.intro hi (And.intro hz0 (And.intro hz1 hz2)))
  have HH := Lib.hid (And.intro h (And.intro ho (And.intro hl hd)))
  have t1 : decide (a < 0) = false := by simpa using ha
  have hsucc : ∀ k, sinceC c (k + 1) a = if a < (c k).1 then sinceC c k a ++ [k] else sinceC c k a := fun k => by rw [sinceC_succ, show max a 0 = a by omega]
  have HU := Lib.hid hsucc
  clear hi hz0 hz1 hz2 h ho hl hd ha hsucc
  go_enter Try.func17, Try.ntmps17
  go_wp2
  go_loopw [5, 15] (fun v i wr => ∃ (k : Nat) (A : Option Addr) (cap : Nat) (l : List Sh), k ≤ n ∧ i = .int .i64 k ∧ v = .slice A l.length cap ∧ Told wr w.heap.size A cap l ∧ OfC (sinceC c k a) c l ∧ Fr [] w wr) (fun _ i _ => n - (intOf i).toNat)
  case atStart => exact ⟨0, none, 0, [], Nat.zero_le _, rfl, rfl, Told.nil _ _, by simp [sinceC, OfC], Fr.refl _ _⟩
  case round =>
    obtain ⟨k, A, cap, l, hk, rfl, rfl, hT, hO, hf⟩ := hrel
    by_cases hlt : k < n
    · obtain ⟨s, hs, e1, e2, e3⟩ := HH.out.2.1.get hlt
      obtain ⟨g, hA, hg, g0, g1, g2⟩ := (HH.out.1.fr0 hf).sheet hs
      have k0 : (0 : Int) ≤ (k : Int) := by omega
      have k1 : (k : Int) < (n : Int) := by omega
      rw [hA]
      have hlen := hO.len
      have hlk := sinceC_len c k a
      by_cases hin : a < s.at_
      · have t2 : decide (a < s.at_) = true := decide_eq_true hin
        have hsd := ((HH.out.1.fr0 hf).data s (List.mem_of_getElem? hs)).rds
        have hsl : s.xs.length ≤ 140737488351232 := by rw [e3]; have := HH.out.2.2.2 k hlt; omega
        have hbx : Blk (wr.alloc (.cells #[.int .i64 s.num, .int .i64 s.at_, .slice s.A s.xs.length s.cap] 46)) wr.heap.size 46 [.int .i64 s.num, .int .i64 s.at_, .slice s.A s.xs.length s.cap] := Blk.new _ _ _
        have hll : l.length ≤ 64 := by omega
        have hsz := hf.size
        have HT := Lib.hid (And.intro hT (And.intro hO (And.intro hf (And.intro hsd (And.intro hsl (And.intro e1 (And.intro e2 (And.intro e3 hbx))))))))
        have h3 : ∀ (A5 : Option Addr) (cap5 : Nat), ∀ u ∈ [Value.int .i64 s.num, .int .i64 s.at_, .slice A5 s.xs.length cap5], u.oneCell' = true := by simp [Value.oneCell']
        have H3 := Lib.hid h3
        clear hT hO hf hsd hsl e1 e2 e3 h3 hA hs hin hlen hlk
        go_upto_region 8 with fail
        have rb := fun (w' : World) (i : Nat) (hh : Blk w' wr.heap.size 46 [.int .i64 s.num, .int .i64 s.at_, .slice s.A s.xs.length s.cap]) => hh.cell i; have rb' := fun (w' : World) (i : Nat) (hh : Blk w' wr.heap.size 46 [.int .i64 s.num, .int .i64 s.at_, .slice s.A s.xs.length s.cap]) => hh.frozen i
        have DB := hbx.drew
        clear hbx
        go_region_held3 (fun w' => Blk w' wr.heap.size 46 [.int .i64 s.num, .int .i64 s.at_, .slice s.A s.xs.length s.cap]) (simp [*, Blk.alloc, Blk.drew, Blk.drewN, Blk.far'])
          (first | (go_at_call 40; (with_reducible refine (rcopied_any s.A s.xs.length s.cap s.xs _ rfl ((HT.out.2.2.2.1.fr ((Fr.refl [] wr).alloc _) (by simp)).drew) (by have := HT.out.2.2.2.2.1; omega)).mono ?_); rintro r w5 ⟨A5, cap5, rfl, hrow5, hf5, hfp5⟩; have db := DB.fr hf5 (by simp)) | (refine step_append2 rfl (.tmp 23) (.tmp 32) 33 rfl 46 i0 _ 3 40 Try.uSheets HI.out.1 HI.out.2.1 HI.out.2.2.1 HI.out.2.2.2 rfl (by decide) A l.length cap (flatS l) rfl ?_ (some ⟨w5.heap.size, 0, none⟩) 1 1 [Value.int .i64 s.num, .int .i64 s.at_, .slice A5 s.xs.length cap5] rfl rfl ?_ (H3.out _ _) ?_ ?_ ?_; (exact ((HT.out.1.row.fr (((Fr.refl [] wr).alloc _).drew.trans hf5) (by simp)).alloc _)); (exact fun _ => ⟨_, rfl, fun q u hu => by rw [addr_add, Nat.zero_add]; exact (Blk.new _ _ _).cell' hu⟩); (unfold maxLen; omega); (omega); (intro A9 cap9 w9 hr9 hf9 hfp9 hn9; have db9 := (db.alloc (.cells #[.int .i64 s.num, .int .i64 s.at_, .slice A5 s.xs.length cap5] 46)).fr hf9 (fun hm => by have := HT.out.1.row.lt _ hm; omega); have HR9 := Lib.hid hr9; clear hr9)))
        clear rb rb'
        go_wp2
        go_roundw
        case rel =>
          obtain ⟨hT, hO, hf, hsd, hsl, e1, e2, e3, hbx⟩ := HT.out
          have hfw : Fr [] wr w5 := (((Fr.refl [] wr).alloc _).drew).trans hf5
          have hin2 : a < (c k).1 := by rw [← e2]; exact of_decide_eq_true t2
          refine ⟨k + 1, A9, cap9, l ++ [⟨s.num, s.at_, A5, cap5, s.xs⟩], hlt, by go_num, by rw [List.length_append]; rfl, ?_, ?_, ?_⟩
          · exact hT.snoc hsz hfw hrow5 (fun x hx => by have := hfp5 x hx; simp at this; omega) ((Fr.refl _ _).alloc _) HR9.out hf9 hfp9
          · rw [HU.out, if_pos hin2]
            have h9 := hO.snoc k A5 cap5
            rw [← e1, ← e2, ← e3] at h9
            exact h9
          · exact ((hf.trans hfw).alloc _).trans' hf9 (fun x hx => .inr (hT.own x hx))
        case measure => simp [intOf]; omega
      · have t2 : decide (a < s.at_) = false := decide_eq_false hin
        have hin2 : ¬ a < (c k).1 := by rw [← e2]; exact hin
        have HT := Lib.hid (And.intro hT (And.intro hO hf))
        clear hT hO hf e1 e2 e3 hA hs hin
        go_wp2_with fail
        go_roundw
        case rel => exact ⟨k + 1, A, cap, l, hlt, by go_num, rfl, HT.out.1.fr0 ((Fr.refl _ _).alloc _), by rw [HU.out, if_neg hin2]; exact HT.out.2.1, HT.out.2.2.alloc _⟩
        case measure => simp [intOf]; omega
    · have hkn : k = n := by omega
      subst hkn
      have HT := Lib.hid (And.intro hT (And.intro hO hf))
      clear hT hO hf
      go_wp2
      go_ret
      exact ⟨A, cap, l, rfl, HT.out.1, HT.out.2.1, HT.out.2.2⟩

set_option maxRecDepth 100000 in
set_option maxHeartbeats 4000000 in
theorem rSince_neg (R : RBo) (c : Nat → Int × List Int) (n : Nat) (a : Int) (w : World) (h : R.At w) (ho : OfC (List.range n) c R.ls) (hn64 : n ≤ 64) (hd : ∀ j, j < n → (c j).2.length ≤ 2304) (ha : a < 0) :
    Calls Try.prog 17 #[.pointer (some ⟨R.r, 0, none⟩), .int .i64 a] w fun r w' => ∃ (A : Option Addr) (cap : Nat) (l : List Sh), r = .returned (.slice A l.length cap) ∧ Told w' w.heap.size A cap l ∧ OfC (sinceC c n a) c l ∧ Fr [] w w' := by
  have hl := ho.len
  simp only [List.length_range] at hl
  have c0 := h.cell0
  rw [hl] at c0
  obtain ⟨i0, hi, hz0, hz1, hz2⟩ := info_parts Try.iSheet
  have HI := Lib.hid (And.intro hi (And.intro hz0 (And.intro hz1 hz2)))
  have HH := Lib.hid (And.intro h (And.intro ho (And.intro hl hd)))
  have t1 : decide (a < 0) = true := by simpa using ha
  have hsucc : ∀ k, sinceC c (k + 1) a = if 0 < (c k).1 then sinceC c k a ++ [k] else sinceC c k a := fun k => by rw [sinceC_succ, show max a 0 = 0 by omega]
  have HU := Lib.hid hsucc
  clear hi hz0 hz1 hz2 h ho hl hd ha hsucc
  go_enter Try.func17, Try.ntmps17
  go_wp2
  go_loopw [5, 15] (fun v i wr => ∃ (k : Nat) (A : Option Addr) (cap : Nat) (l : List Sh), k ≤ n ∧ i = .int .i64 k ∧ v = .slice A l.length cap ∧ Told wr w.heap.size A cap l ∧ OfC (sinceC c k a) c l ∧ Fr [] w wr) (fun _ i _ => n - (intOf i).toNat)
  case atStart => exact ⟨0, none, 0, [], Nat.zero_le _, rfl, rfl, Told.nil _ _, by simp [sinceC, OfC], Fr.refl _ _⟩
  case round =>
    obtain ⟨k, A, cap, l, hk, rfl, rfl, hT, hO, hf⟩ := hrel
    by_cases hlt : k < n
    · obtain ⟨s, hs, e1, e2, e3⟩ := HH.out.2.1.get hlt
      obtain ⟨g, hA, hg, g0, g1, g2⟩ := (HH.out.1.fr0 hf).sheet hs
      have k0 : (0 : Int) ≤ (k : Int) := by omega
      have k1 : (k : Int) < (n : Int) := by omega
      rw [hA]
      have hlen := hO.len
      have hlk := sinceC_len c k a
      by_cases hin : 0 < s.at_
      · have t2 : decide (0 < s.at_) = true := decide_eq_true hin
        have hsd := ((HH.out.1.fr0 hf).data s (List.mem_of_getElem? hs)).rds
        have hsl : s.xs.length ≤ 140737488351232 := by rw [e3]; have := HH.out.2.2.2 k hlt; omega
        have hbx : Blk (wr.alloc (.cells #[.int .i64 s.num, .int .i64 s.at_, .slice s.A s.xs.length s.cap] 46)) wr.heap.size 46 [.int .i64 s.num, .int .i64 s.at_, .slice s.A s.xs.length s.cap] := Blk.new _ _ _
        have hll : l.length ≤ 64 := by omega
        have hsz := hf.size
        have HT := Lib.hid (And.intro hT (And.intro hO (And.intro hf (And.intro hsd (And.intro hsl (And.intro e1 (And.intro e2 (And.intro e3 hbx))))))))
        have h3 : ∀ (A5 : Option Addr) (cap5 : Nat), ∀ u ∈ [Value.int .i64 s.num, .int .i64 s.at_, .slice A5 s.xs.length cap5], u.oneCell' = true := by simp [Value.oneCell']
        have H3 := Lib.hid h3
        clear hT hO hf hsd hsl e1 e2 e3 h3 hA hs hin hlen hlk
        go_upto_region 8 with fail
        have rb := fun (w' : World) (i : Nat) (hh : Blk w' wr.heap.size 46 [.int .i64 s.num, .int .i64 s.at_, .slice s.A s.xs.length s.cap]) => hh.cell i; have rb' := fun (w' : World) (i : Nat) (hh : Blk w' wr.heap.size 46 [.int .i64 s.num, .int .i64 s.at_, .slice s.A s.xs.length s.cap]) => hh.frozen i
        have DB := hbx.drew
        clear hbx
        go_region_held3 (fun w' => Blk w' wr.heap.size 46 [.int .i64 s.num, .int .i64 s.at_, .slice s.A s.xs.length s.cap]) (simp [*, Blk.alloc, Blk.drew, Blk.drewN, Blk.far'])
          (first | (go_at_call 40; (with_reducible refine (rcopied_any s.A s.xs.length s.cap s.xs _ rfl ((HT.out.2.2.2.1.fr ((Fr.refl [] wr).alloc _) (by simp)).drew) (by have := HT.out.2.2.2.2.1; omega)).mono ?_); rintro r w5 ⟨A5, cap5, rfl, hrow5, hf5, hfp5⟩; have db := DB.fr hf5 (by simp)) | (refine step_append2 rfl (.tmp 23) (.tmp 32) 33 rfl 46 i0 _ 3 40 Try.uSheets HI.out.1 HI.out.2.1 HI.out.2.2.1 HI.out.2.2.2 rfl (by decide) A l.length cap (flatS l) rfl ?_ (some ⟨w5.heap.size, 0, none⟩) 1 1 [Value.int .i64 s.num, .int .i64 s.at_, .slice A5 s.xs.length cap5] rfl rfl ?_ (H3.out _ _) ?_ ?_ ?_; (exact ((HT.out.1.row.fr (((Fr.refl [] wr).alloc _).drew.trans hf5) (by simp)).alloc _)); (exact fun _ => ⟨_, rfl, fun q u hu => by rw [addr_add, Nat.zero_add]; exact (Blk.new _ _ _).cell' hu⟩); (unfold maxLen; omega); (omega); (intro A9 cap9 w9 hr9 hf9 hfp9 hn9; have db9 := (db.alloc (.cells #[.int .i64 s.num, .int .i64 s.at_, .slice A5 s.xs.length cap5] 46)).fr hf9 (fun hm => by have := HT.out.1.row.lt _ hm; omega); have HR9 := Lib.hid hr9; clear hr9)))
        clear rb rb'
        go_wp2
        go_roundw
        case rel =>
          obtain ⟨hT, hO, hf, hsd, hsl, e1, e2, e3, hbx⟩ := HT.out
          have hfw : Fr [] wr w5 := (((Fr.refl [] wr).alloc _).drew).trans hf5
          have hin2 : 0 < (c k).1 := by rw [← e2]; exact of_decide_eq_true t2
          refine ⟨k + 1, A9, cap9, l ++ [⟨s.num, s.at_, A5, cap5, s.xs⟩], hlt, by go_num, by rw [List.length_append]; rfl, ?_, ?_, ?_⟩
          · exact hT.snoc hsz hfw hrow5 (fun x hx => by have := hfp5 x hx; simp at this; omega) ((Fr.refl _ _).alloc _) HR9.out hf9 hfp9
          · rw [HU.out, if_pos hin2]
            have h9 := hO.snoc k A5 cap5
            rw [← e1, ← e2, ← e3] at h9
            exact h9
          · exact ((hf.trans hfw).alloc _).trans' hf9 (fun x hx => .inr (hT.own x hx))
        case measure => simp [intOf]; omega
      · have t2 : decide (0 < s.at_) = false := decide_eq_false hin
        have hin2 : ¬ 0 < (c k).1 := by rw [← e2]; exact hin
        have HT := Lib.hid (And.intro hT (And.intro hO hf))
        clear hT hO hf e1 e2 e3 hA hs hin
        go_wp2_with fail
        go_roundw
        case rel => exact ⟨k + 1, A, cap, l, hlt, by go_num, rfl, HT.out.1.fr0 ((Fr.refl _ _).alloc _), by rw [HU.out, if_neg hin2]; exact HT.out.2.1, HT.out.2.2.alloc _⟩
        case measure => simp [intOf]; omega
    · have hkn : k = n := by omega
      subst hkn
      have HT := Lib.hid (And.intro hT (And.intro hO hf))
      clear hT hO hf
      go_wp2
      go_ret
      exact ⟨A, cap, l, rfl, HT.out.1, HT.out.2.1, HT.out.2.2⟩

theorem rSince_any (R : RBo) (c : Nat → Int × List Int) (n : Nat) (a : Int) (w : World) (h : R.At w) (ho : OfC (List.range n) c R.ls) (hn64 : n ≤ 64) (hd : ∀ j, j < n → (c j).2.length ≤ 2304) :
    Calls Try.prog 17 #[.pointer (some ⟨R.r, 0, none⟩), .int .i64 a] w fun r w' => ∃ (A : Option Addr) (cap : Nat) (l : List Sh), r = .returned (.slice A l.length cap) ∧ Told w' w.heap.size A cap l ∧ OfC (sinceC c n a) c l ∧ Fr [] w w' := by
  by_cases ha : a < 0
  · exact rSince_neg R c n a w h ho hn64 hd ha
  · exact rSince_pos R c n a w h ho hn64 hd ha
end Go.Proofs.Ytaicpgkoailnkaa
