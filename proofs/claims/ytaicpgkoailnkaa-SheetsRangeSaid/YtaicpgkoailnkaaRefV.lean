/- The document's book of sheets, walked: Snap. -/
import Derived.Test.YtaicpgkoailnkaaRefU
import Derived.Test.YtaicpgkoailnkaaTill
namespace Go.Proofs.Ytaicpgkoailnkaa
open Go.RowKit

set_option maxRecDepth 100000 in
set_option maxHeartbeats 4000000 in
theorem rSnap_any (R : RBo) (c : Nat → Int × List Int) (n : Nat) (w : World) (h : R.At w) (ho : OfC (List.range n) c R.ls) (hn64 : n ≤ 64) (hd : ∀ j, j < n → (c j).2.length ≤ 2304) :
    Calls Try.prog 16 #[.pointer (some ⟨R.r, 0, none⟩)] w fun r w' => ∃ R' : RBo, r = .returned (.pointer (some ⟨R'.r, 0, none⟩)) ∧ R'.At w' ∧ OfC (List.range n) c R'.ls ∧ Fr [] w w' ∧ ∀ x ∈ R'.rd, w.heap.size ≤ x := by
  have hl := ho.len
  simp only [List.length_range] at hl
  have c0 := h.cell0
  rw [hl] at c0
  obtain ⟨i0, hi, hz0, hz1, hz2⟩ := info_parts Try.iSheet
  have HI := Lib.hid (And.intro hi (And.intro hz0 (And.intro hz1 hz2)))
  have HH := Lib.hid (And.intro h (And.intro ho (And.intro hl hd)))
  clear hi hz0 hz1 hz2 h ho hl hd
  have c0' : ∀ o, (w.alloc o).cell? ⟨R.r, 0, none⟩ = some (.slice R.A n R.cap) := fun o => ((Fr.refl [] w).alloc o).cell (by simp) c0
  go_enter Try.func16, Try.ntmps16
  go_wp2
  go_loopw [13] (fun i wr => ∃ (k : Nat) (A : Option Addr) (cap : Nat) (l : List Sh), k ≤ n ∧ i = .int .i64 k ∧ Blk wr w.heap.size 91 [.slice A l.length cap] ∧ Told wr w.heap.size A cap l ∧ OfC (List.range k) c l ∧ Fr [] w wr) (fun i _ => n - (intOf i).toNat)
  case atStart => exact ⟨0, none, 0, [], Nat.zero_le _, rfl, Blk.new _ _ _, Told.nil _ _, by simp [OfC], (Fr.refl _ _).alloc _⟩
  case round =>
    obtain ⟨k, A, cap, l, hk, rfl, hb, hT, hO, hf⟩ := hrel
    by_cases hlt : k < n
    · obtain ⟨s, hs, e1, e2, e3⟩ := HH.out.2.1.get hlt
      obtain ⟨g, hA, hg, g0, g1, g2⟩ := (HH.out.1.fr0 hf).sheet hs
      have k0 : (0 : Int) ≤ (k : Int) := by omega
      have k1 : (k : Int) < (n : Int) := by omega
      rw [hA]
      have hlen := hO.len
      simp only [List.length_range] at hlen
      have hsd := ((HH.out.1.fr0 hf).data s (List.mem_of_getElem? hs)).rds
      have hsl : s.xs.length ≤ 140737488351232 := by rw [e3]; have := HH.out.2.2.2 k hlt; omega
      have hbx : Blk (wr.alloc (.cells #[.int .i64 s.num, .int .i64 s.at_, .slice s.A s.xs.length s.cap] 46)) wr.heap.size 46 [.int .i64 s.num, .int .i64 s.at_, .slice s.A s.xs.length s.cap] := Blk.new _ _ _
      have hll : l.length ≤ 64 := by omega
      have hsz := hf.size
      have hbl := hb.lt
      have hne : wr.heap.size ≠ w.heap.size := by omega
      have hne2 : ¬ wr.heap.size = w.heap.size := hne
      have hbA : w.heap.size ∉ fpOf A := fun hm => hT.row.ne_blk hb (by decide) _ hm rfl
      have co : (wr.alloc (.cells #[.int .i64 s.num, .int .i64 s.at_, .slice s.A s.xs.length s.cap] 46)).cell? ⟨w.heap.size, 0, none⟩ = some (.slice A l.length cap) := (hb.alloc _).cell 0
      have DO := Lib.hid ((hb.alloc (.cells #[.int .i64 s.num, .int .i64 s.at_, .slice s.A s.xs.length s.cap] 46)).drew)
      have HT := Lib.hid (And.intro hT (And.intro hO (And.intro hf (And.intro hsd (And.intro hsl (And.intro e1 (And.intro e2 (And.intro e3 (And.intro hbx (And.intro hbA hb))))))))))
      have h3 : ∀ (A5 : Option Addr) (cap5 : Nat), ∀ u ∈ [Value.int .i64 s.num, .int .i64 s.at_, .slice A5 s.xs.length cap5], u.oneCell' = true := by simp [Value.oneCell']
      have H3 := Lib.hid h3
      clear hT hO hf hsd hsl e1 e2 e3 h3 hA hs hb hbA hlen
      go_upto_region 5 with fail
      have rb := fun (w' : World) (i : Nat) (hh : Blk w' wr.heap.size 46 [.int .i64 s.num, .int .i64 s.at_, .slice s.A s.xs.length s.cap]) => hh.cell i; have rb' := fun (w' : World) (i : Nat) (hh : Blk w' wr.heap.size 46 [.int .i64 s.num, .int .i64 s.at_, .slice s.A s.xs.length s.cap]) => hh.frozen i
      have DB := hbx.drew
      clear hbx
      have hmix : Try.prog.follows .mixedOrders = true := by kernel_rfl
      refine wp_region_noPanic (wp_region_till 17 (fun w' => w'.cell? ⟨w.heap.size, 0, none⟩ = some (.slice A l.length cap) ∧ Blk w' wr.heap.size 46 [.int .i64 s.num, .int .i64 s.at_, .slice s.A s.xs.length s.cap]) hmix ⟨co, DB⟩ (fun hHeld => ?_))
      refine wpAnyT_takeL 0 (v := ?_) (by rfl) (by kernel_rfl) (by decide) (by kernel_rfl) (by kernel_rfl) (by kernel_rfl) (fun _ _ _ h => h) (by rfl) ?_ (by assumption) ?_; rotate_left; (next => (intro w' hSw; (try dsimp only at hSw); go_simp; (try with_reducible rfl))); (try simp only [Act.put, List.setIfInBounds_toArray, List.set_cons_zero, List.set_cons_succ])
      refine wpAnyT_takeL 1 (v := ?_) (by rfl) (by kernel_rfl) (by decide) (by kernel_rfl) (by kernel_rfl) (by kernel_rfl) (fun _ _ _ h => h) (by rfl) ?_ (by assumption) ?_; rotate_left; (next => (intro w' hSw; (try dsimp only at hSw); go_simp; (try with_reducible rfl))); (try simp only [Act.put, List.setIfInBounds_toArray, List.set_cons_zero, List.set_cons_succ])
      refine wpAnyT_takeL 2 (v := ?_) (by rfl) (by kernel_rfl) (by decide) (by kernel_rfl) (by kernel_rfl) (by kernel_rfl) (fun _ _ _ h => h) (by rfl) ?_ (by assumption) ?_; rotate_left; (next => (intro w' hSw; (try dsimp only at hSw); go_simp; (try with_reducible rfl))); (try simp only [Act.put, List.setIfInBounds_toArray, List.set_cons_zero, List.set_cons_succ])
      refine wpAnyT_takeL 3 (v := ?_) (by rfl) (by kernel_rfl) (by decide) (by kernel_rfl) (by kernel_rfl) (by kernel_rfl) (fun _ _ _ h => h) (by rfl) ?_ (by assumption) ?_; rotate_left; (next => (intro w' hSw; (try dsimp only at hSw); go_simp; (try with_reducible rfl))); (try simp only [Act.put, List.setIfInBounds_toArray, List.set_cons_zero, List.set_cons_succ])
      refine wpAnyT_takeL 4 (v := ?_) (by rfl) (by kernel_rfl) (by decide) (by kernel_rfl) (by kernel_rfl) (by kernel_rfl) (fun _ _ _ h => h) (by rfl) ?_ (by assumption) ?_; rotate_left; (next => (intro w' hSw; (try dsimp only at hSw); go_simp; (try with_reducible rfl))); (try simp only [Act.put, List.setIfInBounds_toArray, List.set_cons_zero, List.set_cons_succ])
      refine wpAnyT_takeL 5 (v := ?_) (by rfl) (by kernel_rfl) (by decide) (by kernel_rfl) (by kernel_rfl) (by kernel_rfl) (fun _ _ _ h => h) (by rfl) ?_ (by assumption) ?_; rotate_left; (next => (intro w' hSw; (try dsimp only at hSw); go_simp; (try with_reducible rfl))); (try simp only [Act.put, List.setIfInBounds_toArray, List.set_cons_zero, List.set_cons_succ])
      refine wpAnyT_takeL 6 (v := ?_) (by rfl) (by kernel_rfl) (by decide) (by kernel_rfl) (by kernel_rfl) (by kernel_rfl) (fun _ _ _ h => h) (by rfl) ?_ (by assumption) ?_; rotate_left; (next => (intro w' hSw; (try dsimp only at hSw); go_simp; (try with_reducible rfl))); (try simp only [Act.put, List.setIfInBounds_toArray, List.set_cons_zero, List.set_cons_succ])
      refine wpAnyT_takeL 7 (v := ?_) (by rfl) (by kernel_rfl) (by decide) (by kernel_rfl) (by kernel_rfl) (by kernel_rfl) (fun _ _ _ h => h) (by rfl) ?_ (by assumption) ?_; rotate_left; (next => (intro w' hSw; (try dsimp only at hSw); go_simp; (try with_reducible rfl))); (try simp only [Act.put, List.setIfInBounds_toArray, List.set_cons_zero, List.set_cons_succ])
      refine wpAnyT_takeL 8 (v := ?_) (by rfl) (by kernel_rfl) (by decide) (by kernel_rfl) (by kernel_rfl) (by kernel_rfl) (fun _ _ _ h => h) (by rfl) ?_ (by assumption) ?_; rotate_left; (next => (intro w' hSw; (try dsimp only at hSw); go_simp; (try with_reducible rfl))); (try simp only [Act.put, List.setIfInBounds_toArray, List.set_cons_zero, List.set_cons_succ])
      refine wpAnyT_takeL 9 (v := ?_) (by rfl) (by kernel_rfl) (by decide) (by kernel_rfl) (by kernel_rfl) (by kernel_rfl) (fun _ _ _ h => h) (by rfl) ?_ (by assumption) ?_; rotate_left; (next => (intro w' hSw; (try dsimp only at hSw); go_simp; (try with_reducible rfl))); (try simp only [Act.put, List.setIfInBounds_toArray, List.set_cons_zero, List.set_cons_succ])
      refine wpAnyT_takeL 10 (v := ?_) (by rfl) (by kernel_rfl) (by decide) (by kernel_rfl) (by kernel_rfl) (by kernel_rfl) (fun _ _ _ h => h) (by rfl) ?_ (by assumption) ?_; rotate_left; (next => (intro w' hSw; (try dsimp only at hSw); go_simp; (try with_reducible rfl))); (try simp only [Act.put, List.setIfInBounds_toArray, List.set_cons_zero, List.set_cons_succ])
      refine wpAnyT_oneL 11 (by rfl) (by kernel_rfl) (by rfl) (fun K hK => ?_); go_simp
      go_at_call 40
      (with_reducible refine (rcopied_any s.A s.xs.length s.cap s.xs _ rfl ((HT.out.2.2.2.1.fr ((Fr.refl [] wr).alloc _) (by simp)).drew) (by have := HT.out.2.2.2.2.1; omega)).mono ?_)
      rintro r w5 ⟨A5, cap5, rfl, hrow5, hf5, hfp5⟩
      have db := DB.fr hf5 (by simp)
      have do5 := DO.out.fr hf5 (by simp)
      have co5 := do5.cell 0
      simp only [List.getElem?_cons_zero] at co5
      refine hK.out _ _ ?_ (fun hHeld => ?_); (next => (exact ⟨co5, db⟩)); clear hK K; (try simp only [Act.put, List.setIfInBounds_toArray, List.set_cons_zero, List.set_cons_succ])
      refine wpAnyT_takeL 12 (v := ?_) (by rfl) (by kernel_rfl) (by decide) (by kernel_rfl) (by kernel_rfl) (by kernel_rfl) (fun _ _ _ h => h) (by rfl) ?_ (by assumption) ?_; rotate_left; (next => (intro w' hSw; (try dsimp only at hSw); go_simp; (try with_reducible rfl))); (try simp only [Act.put, List.setIfInBounds_toArray, List.set_cons_zero, List.set_cons_succ])
      refine wpAnyT_oneL 13 (by rfl) (by kernel_rfl) (by rfl) (fun K hK => ?_); go_simp
      refine hK.out _ _ ?_ (fun hHeld => ?_); (next => (exact ⟨(do5.alloc _).cell 0, db.alloc _⟩)); clear hK K; (try simp only [Act.put, List.setIfInBounds_toArray, List.set_cons_zero, List.set_cons_succ])
      refine wpAnyT_oneL 14 (by rfl) (by kernel_rfl) (by rfl) (fun K hK => ?_)
      refine wp_append2 (.tmp 21) (.tmp 30) 33 rfl 46 i0 _ 3 40 Try.uSheets HI.out.1 HI.out.2.1 HI.out.2.2.1 HI.out.2.2.2 rfl (by decide) A l.length cap (flatS l) rfl ?_ (some ⟨w5.heap.size, 0, none⟩) 1 1 [Value.int .i64 s.num, .int .i64 s.at_, .slice A5 s.xs.length cap5] rfl rfl ?_ (H3.out _ _) ?_ ?_ ?_
      · exact ((HT.out.1.row.fr (((Fr.refl [] wr).alloc _).drew.trans hf5) (by simp)).alloc _)
      · exact fun _ => ⟨_, rfl, fun q u hu => by rw [addr_add, Nat.zero_add]; exact (Blk.new _ _ _).cell' hu⟩
      · unfold maxLen; omega
      · omega
      intro A9 cap9 w9 hr9 hf9 hfp9 hn9
      have db9 := (db.alloc (.cells #[.int .i64 s.num, .int .i64 s.at_, .slice A5 s.xs.length cap5] 46)).fr hf9 (fun hm => by have := HT.out.1.row.lt _ hm; omega)
      have do9 := (do5.alloc (.cells #[.int .i64 s.num, .int .i64 s.at_, .slice A5 s.xs.length cap5] 46)).fr hf9 HT.out.2.2.2.2.2.2.2.2.2.1
      have co9 := do9.cell 0
      have zo9 := do9.frozen 0
      simp only [List.getElem?_cons_zero] at co9
      refine hK.out _ _ ?_ (fun hHeld => ?_); (next => (exact ⟨co9, db9⟩)); clear hK K; (try simp only [Act.put, List.setIfInBounds_toArray, List.set_cons_zero, List.set_cons_succ])
      refine wpAnyT_oneL 15 (by rfl) (by kernel_rfl) (by rfl) (fun K hK => ?_); go_simp
      refine hK.out _ _ ?_ (fun hHeld => ?_); (next => (exact ⟨co9, db9⟩)); clear hK K; (try simp only [Act.put, List.setIfInBounds_toArray, List.set_cons_zero, List.set_cons_succ])
      refine wpAnyT_oneL 16 (by rfl) (by kernel_rfl) (by rfl) (fun K hK => ?_); go_simp
      refine hK.out _ _ ?_ (fun hHeld => ?_); (next => (exact ⟨co9, db9⟩)); clear hK K; (try simp only [Act.put, List.setIfInBounds_toArray, List.set_cons_zero, List.set_cons_succ])
      refine wpAnyT_lastL (by rfl) (by kernel_rfl) (by rfl) (fun K hK => ?_); go_simp
      refine hK.out _ _ ?_; clear hK K; (try simp only [Act.put, List.setIfInBounds_toArray, List.set_cons_zero, List.set_cons_succ]); refine wpAnyT_doneL (by kernel_rfl) ?_
      refine NoPanic.normal ?_
      have HR9 := Lib.hid (And.intro hr9 do9)
      clear hr9 do9 do5 DB db db9 hHeld
      go_wp2
      go_roundw
      case rel =>
        obtain ⟨hT, hO, hf, hsd, hsl, e1, e2, e3, hbx, hbA, hb⟩ := HT.out
        obtain ⟨hr9, do9⟩ := HR9.out
        have hfw : Fr [] wr w5 := (((Fr.refl [] wr).alloc _).drew).trans hf5
        have hT9 := hT.snoc hsz hfw hrow5 (fun x hx => by have := hfp5 x hx; simp at this; omega) ((Fr.refl _ _).alloc _) hr9 hf9 hfp9
        have hfw9 : Fr [] w w9 := ((hf.trans hfw).alloc _).trans' hf9 (fun x hx => .inr (hT.own x hx))
        refine ⟨k + 1, A9, cap9, l ++ [⟨s.num, s.at_, A5, cap5, s.xs⟩], hlt, by go_num, ?_, ?_, ?_, hfw9.setCell' (.inr (Nat.le_refl _))⟩
        · rw [List.length_append]
          exact do9.set' rfl
        · refine hT9.fr ((Fr.refl [w.heap.size] w9).setCell' (.inl (by simp))) (fun x hx hm => ?_) (fun t ht x hx hm => ?_)
          · simp at hm; subst hm
            exact hT9.row.ne_blk do9 (by decide) _ hx rfl
          · simp at hm; subst hm
            exact (hT9.data t ht).ne_blk do9 (by decide) _ hx rfl
        · rw [List.range_succ]
          have h9 := hO.snoc k A5 cap5
          rw [← e1, ← e2, ← e3] at h9
          exact h9
      case measure => simp [intOf]; omega
    · have hkn : k = n := by omega
      subst hkn
      have HT := Lib.hid (And.intro hb (And.intro hT (And.intro hO hf)))
      clear hb hT hO hf
      go_wp2
      go_ret
      obtain ⟨hb, hT, hO, hf⟩ := HT.out
      refine ⟨⟨w.heap.size, A, cap, l⟩, rfl, ⟨hb, hT.row, hT.data⟩, hO, hf, fun x hx => ?_⟩
      rcases List.mem_append.1 hx with hx | hx
      · rcases List.mem_cons.1 hx with rfl | hx
        · exact Nat.le_refl _
        · exact hT.own x hx
      · obtain ⟨s, hs, hx⟩ := List.mem_flatMap.1 hx
        exact hT.new s hs x hx
end Go.Proofs.Ytaicpgkoailnkaa
