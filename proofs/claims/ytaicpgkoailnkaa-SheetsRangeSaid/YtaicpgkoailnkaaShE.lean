/- The shelf: keep. -/
import Derived.Test.YtaicpgkoailnkaaShD
namespace Go.Proofs.Ytaicpgkoailnkaa
open Go.RowKit

/-- A shelf's two lists, at cell off of block d. -/
structure Racks (w : World) (d off : Nat) (t : TypeId) (cs : List Value) (O : Option Addr) (oc : Nat) (W : Option Addr) (wc : Nat) (outs wants : List Value) : Prop where
  blk : Blk w d t cs
  ty : t ≠ 32
  ty2 : t ≠ 5
  c0 : cs[off]? = some (.slice O outs.length oc)
  c1 : cs[off + 1]? = some (.slice W outs.length wc)
  len : wants.length = outs.length
  o : Row w 32 1 O outs.length oc outs
  w_ : Row w 32 1 W outs.length wc wants
  ap : ∀ x ∈ fpOf O, x ∉ fpOf W
theorem Racks.fr {w w' : World} {d off : Nat} {t : TypeId} {cs : List Value} {O : Option Addr} {oc : Nat} {W : Option Addr} {wc : Nat} {outs wants : List Value} (h : Racks w d off t cs O oc W wc outs wants) {S : List Nat} (hf : Fr S w w') (h0 : d ∉ S) (h1 : ∀ x ∈ fpOf O, x ∉ S) (h2 : ∀ x ∈ fpOf W, x ∉ S) : Racks w' d off t cs O oc W wc outs wants :=
  ⟨h.blk.fr hf h0, h.ty, h.ty2, h.c0, h.c1, h.len, h.o.fr hf h1, h.w_.fr hf h2, h.ap⟩

set_option maxRecDepth 100000 in
set_option maxHeartbeats 4000000 in
theorem keep_any (d off : Nat) (t : TypeId) (cs : List Value) (O : Option Addr) (oc : Nat) (W : Option Addr) (wc : Nat) (outs wants : List Value) (A : Option Addr) (cap : Nat) (xs : List Int) (w : World) (h : Racks w d off t cs O oc W wc outs wants)
    (hx : Row w 5 1 A xs.length cap (bvals xs)) (hb : xs.length ≤ 140737488351232) (hl : outs.length * 24 ≤ 140737488351232) :
    Calls Try.prog 44 #[.pointer (some ⟨d, off, none⟩), .slice A xs.length cap] w fun r w' => r = .returned (.tuple #[]) ∧ ∃ (O' : Option Addr) (oc' : Nat) (W' : Option Addr) (wc' : Nat) (A2 : Option Addr) (cap2 : Nat),
      Racks w' d off t ((cs.set off (.slice O' (outs.length + 1) oc')).set (off + 1) (.slice W' (outs.length + 1) wc')) O' oc' W' wc' (outs ++ [.slice A xs.length cap]) (wants ++ [.slice A2 xs.length cap2]) ∧
      Row w' 5 1 A2 xs.length cap2 (bvals xs) ∧ (∀ x ∈ fpOf A2, w.heap.size ≤ x) ∧ (∀ x ∈ fpOf O', x ∈ fpOf O ∨ w.heap.size ≤ x) ∧ (∀ x ∈ fpOf W', x ∈ fpOf W ∨ w.heap.size ≤ x) ∧ Fr (d :: (fpOf O ++ fpOf W)) w w' := by
  obtain ⟨i0, hi, hz0, hz1, hz2⟩ := info_parts Try.iByte
  have HI := Lib.hid (And.intro hi (And.intro hz0 (And.intro hz1 hz2)))
  obtain ⟨j0, hj, hy0, hy1, hy2⟩ := info_parts Try.iBytes
  have HJ := Lib.hid (And.intro hj (And.intro hy0 (And.intro hy1 hy2)))
  have hdO : d ∉ fpOf O := fun hm => h.o.ne_blk h.blk h.ty _ hm rfl
  have hdW : d ∉ fpOf W := fun hm => h.w_.ne_blk h.blk h.ty _ hm rfl
  have v0 := h.blk.cell' h.c0
  have hba := h.blk.alloc (.cells #[.slice A xs.length cap] 32)
  have hdl := h.blk.lt
  obtain ⟨n, hn⟩ : ∃ n, outs.length = n := ⟨_, rfl⟩
  obtain ⟨m, hm⟩ : ∃ m, xs.length = m := ⟨_, rfl⟩
  have HH := Lib.hid h
  have h3 : ∀ (A : Option Addr) (m cap : Nat), ∀ u ∈ [Value.slice A m cap], u.oneCell' = true := by simp [Value.oneCell']
  have H3 := Lib.hid h3
  rw [hn] at v0 hl ⊢
  rw [hm] at hx hb hba ⊢
  have HR := Lib.hid (And.intro hx (And.intro hdO (And.intro hdW (And.intro hba (And.intro hn hm)))))
  clear hi hz0 hz1 hz2 hj hy0 hy1 hy2 h hx hdO hdW hba hn hm h3
  go_enter Try.func44, Try.ntmps44
  go_upto_region 1 with (at_builtin; refine wpList_append2 rfl (.tmp 8) (.tmp 10) 51 rfl 32 j0 _ 1 24 Try.uByss HJ.out.1 HJ.out.2.1 HJ.out.2.2.1 HJ.out.2.2.2 rfl (by decide) O n oc outs rfl ?_ (some ⟨w.heap.size, 0, none⟩) 1 1 [Value.slice A m cap] rfl rfl ?_ (H3.out _ _ _) ?_ ?_ ?_; (have := HH.out.o.alloc (.cells #[.slice A m cap] 32); rw [HR.out.2.2.2.2.1] at this; exact this); (exact fun _ => ⟨_, rfl, fun q u hu => by rw [addr_add, Nat.zero_add]; exact (Blk.new _ _ _).cell' hu⟩); (unfold maxLen; omega); (omega); (intro O9 oc9 w9 hr9 hf9 hfp9 hn9; have d9 := HR.out.2.2.2.1.fr hf9 HR.out.2.1; have c9 := d9.cell' HH.out.c0; have z9 := d9.frozen off; rw [HR.out.2.2.2.2.1] at c9; have HR9 := Lib.hid (And.intro hr9 (And.intro hf9 (And.intro hfp9 d9))); clear hr9 hf9 hfp9 hn9 d9))
  obtain ⟨w1, hw1⟩ : ∃ w1, w9.setCell ⟨d, off, none⟩ (.slice O9 (n + 1) oc9) = w1 := ⟨_, rfl⟩
  have hb1 : Blk w1 d t (cs.set off (.slice O9 (n + 1) oc9)) := by rw [← hw1]; exact HR9.out.2.2.2.set_ _ _
  have hc1 : (cs.set off (.slice O9 (n + 1) oc9))[off + 1]? = some (.slice W n wc) := by
    rw [List.getElem?_set_ne (by omega), HH.out.c1, HR.out.2.2.2.2.1]
  have hO9d : d ∉ fpOf O9 := fun hm => HR9.out.1.ne_blk HR9.out.2.2.2 HH.out.ty _ hm rfl
  have hf1 : Fr (d :: fpOf O) w w1 := by rw [← hw1]; exact (((Fr.refl _ _).alloc _).trans (HR9.out.2.1.mono (fun x hx => List.mem_cons_of_mem _ hx))).setCell' (.inl List.mem_cons_self)
  have hO1 : Row w1 32 1 O9 (n + 1) oc9 (outs ++ [.slice A m cap]) := by rw [← hw1]; exact HR9.out.1.far hO9d
  have hOn : ∀ x ∈ fpOf O9, x ∈ fpOf O ∨ w.heap.size ≤ x := fun x hx => (HR9.out.2.2.1 x hx).imp id (fun h => by simp at h; omega)
  have hW1 : Row w1 32 1 W n wc wants := by
    have := HH.out.w_.fr hf1 (fun x hx hm => by
      rcases List.mem_cons.1 hm with rfl | hm
      · exact HR.out.2.2.1 hx
      · exact HH.out.ap x hm hx)
    rw [HR.out.2.2.2.2.1] at this
    exact this
  have hx1 : Row w1 5 1 A m cap (bvals xs) := HR.out.1.fr hf1 (fun x hx hm => by
    rcases List.mem_cons.1 hm with rfl | hm
    · exact HR.out.1.ne_blk HH.out.blk HH.out.ty2 _ hx rfl
    · exact HR.out.1.ne_row HH.out.o (by decide) x hx hm)
  have HQ := Lib.hid (And.intro hb1 (And.intro hc1 (And.intro hO9d (And.intro hf1 (And.intro hO1 (And.intro hOn (And.intro hW1 hx1)))))))
  have co := hb1.cell' hc1
  rw [hw1]
  have hsz := hf1.size
  have hn0 := HR.out.2.2.2.2.1
  have hm0 := HR.out.2.2.2.2.2
  have HN := Lib.hid (And.intro hn0 hm0)
  clear hb1 hc1 hO9d hf1 hO1 hOn hW1 hx1 hw1 c9 z9 hn0 hm0
  have hmix : Try.prog.follows .mixedOrders = true := by kernel_rfl
  refine wp_region_noPanic (wp_region_till 11 (fun w' => w'.cell? ⟨d, off + 1, none⟩ = some (.slice W n wc)) hmix co (fun hHeld => ?_))
  refine wpAnyT_takeL 0 (v := ?_) (by rfl) (by kernel_rfl) (by decide) (by kernel_rfl) (by kernel_rfl) (by kernel_rfl) (fun _ _ _ h => h) (by rfl) ?_ (by assumption) ?_; rotate_left; (next => (intro w' hSw; (try dsimp only at hSw); go_simp; (try with_reducible rfl))); (try simp only [Act.put, List.setIfInBounds_toArray, List.set_cons_zero, List.set_cons_succ])
  refine wpAnyT_takeL 1 (v := ?_) (by rfl) (by kernel_rfl) (by decide) (by kernel_rfl) (by kernel_rfl) (by kernel_rfl) (fun _ _ _ h => h) (by rfl) ?_ (by assumption) ?_; rotate_left; (next => (intro w' hSw; (try dsimp only at hSw); go_simp; (try with_reducible rfl))); (try simp only [Act.put, List.setIfInBounds_toArray, List.set_cons_zero, List.set_cons_succ])
  refine wpAnyT_takeL 2 (v := ?_) (by rfl) (by kernel_rfl) (by decide) (by kernel_rfl) (by kernel_rfl) (by kernel_rfl) (fun _ _ _ h => h) (by rfl) ?_ (by assumption) ?_; rotate_left; (next => (intro w' hSw; (try dsimp only at hSw); go_simp; (try with_reducible rfl))); (try simp only [Act.put, List.setIfInBounds_toArray, List.set_cons_zero, List.set_cons_succ])
  refine wpAnyT_takeL 3 (v := ?_) (by rfl) (by kernel_rfl) (by decide) (by kernel_rfl) (by kernel_rfl) (by kernel_rfl) (fun _ _ _ h => h) (by rfl) ?_ (by assumption) ?_; rotate_left; (next => (intro w' hSw; (try dsimp only at hSw); go_simp; (try with_reducible rfl))); (try simp only [Act.put, List.setIfInBounds_toArray, List.set_cons_zero, List.set_cons_succ])
  refine wpAnyT_takeL 4 (v := ?_) (by rfl) (by kernel_rfl) (by decide) (by kernel_rfl) (by kernel_rfl) (by kernel_rfl) (fun _ _ _ h => h) (by rfl) ?_ (by assumption) ?_; rotate_left; (next => (intro w' hSw; (try dsimp only at hSw); go_simp; (try with_reducible rfl))); (try simp only [Act.put, List.setIfInBounds_toArray, List.set_cons_zero, List.set_cons_succ])
  refine wpAnyT_takeL 5 (v := ?_) (by rfl) (by kernel_rfl) (by decide) (by kernel_rfl) (by kernel_rfl) (by kernel_rfl) (fun _ _ _ h => h) (by rfl) ?_ (by assumption) ?_; rotate_left; (next => (intro w' hSw; (try dsimp only at hSw); go_simp; (try with_reducible rfl))); (try simp only [Act.put, List.setIfInBounds_toArray, List.set_cons_zero, List.set_cons_succ])
  refine wpAnyT_oneL 6 (by rfl) (by kernel_rfl) (by rfl) (fun K hK => ?_)
  refine wp_append2 (.const (.slice none 0 0)) (.tmp 19) 32 rfl 5 i0 _ 1 1 Try.uBytes HI.out.1 HI.out.2.1 HI.out.2.2.1 HI.out.2.2.2 rfl (by decide) none 0 0 [] rfl (Row.nil _ _ _) A m cap (bvals xs) rfl ?_ ?_ (bvals_one _) ?_ ?_ ?_
  · rw [bvals_length, HN.out.2, Nat.mul_one]
  · exact Rds.src (size := 1) HQ.out.2.2.2.2.2.2.2.rds.drew (by decide) (by rw [bvals_length, HN.out.2, Nat.mul_one])
  · unfold maxLen; omega
  · omega
  intro A5 cap5 w5 hr5 hf5 hfp5 hn5
  rw [Nat.zero_add, List.nil_append] at hr5
  rw [Nat.zero_add]
  have hf5' : Fr [] w1 w5 := (Fr.refl [] w1).drew.trans hf5
  have hb5 := HQ.out.1.fr hf5' (by simp)
  refine hK.out _ _ ?_ (fun hHeld => ?_); (next => (exact hb5.cell' HQ.out.2.1)); clear hK K; (try simp only [Act.put, List.setIfInBounds_toArray, List.set_cons_zero, List.set_cons_succ])
  refine wpAnyT_oneL 7 (by rfl) (by kernel_rfl) (by rfl) (fun K hK => ?_); go_simp
  refine hK.out _ _ ?_ (fun hHeld => ?_); (next => (exact (hb5.alloc _).cell' HQ.out.2.1)); clear hK K; (try simp only [Act.put, List.setIfInBounds_toArray, List.set_cons_zero, List.set_cons_succ])
  refine wpAnyT_oneL 8 (by rfl) (by kernel_rfl) (by rfl) (fun K hK => ?_)
  refine wp_append2 (.tmp 18) (.tmp 21) 51 rfl 32 j0 _ 1 24 Try.uByss HJ.out.1 HJ.out.2.1 HJ.out.2.2.1 HJ.out.2.2.2 rfl (by decide) W n wc wants rfl ?_ (some ⟨w5.heap.size, 0, none⟩) 1 1 [Value.slice A5 m cap5] rfl rfl ?_ (H3.out _ _ _) ?_ ?_ ?_
  · exact (HQ.out.2.2.2.2.2.2.1.fr hf5' (by simp)).alloc _
  · exact fun _ => ⟨_, rfl, fun q u hu => by rw [addr_add, Nat.zero_add]; exact (Blk.new _ _ _).cell' hu⟩
  · unfold maxLen; omega
  · omega
  intro W9 wc9 w9 hr9 hf9 hfp9 hn9
  have d9 := (hb5.alloc (.cells #[.slice A5 m cap5] 32)).fr hf9 HR.out.2.2.1
  have co9 := d9.cell' HQ.out.2.1
  have zo9 := d9.frozen (off + 1)
  refine hK.out _ _ ?_ (fun hHeld => ?_); (next => (exact co9)); clear hK K; (try simp only [Act.put, List.setIfInBounds_toArray, List.set_cons_zero, List.set_cons_succ])
  refine wpAnyT_oneL 9 (by rfl) (by kernel_rfl) (by rfl) (fun K hK => ?_); go_simp
  refine hK.out _ _ ?_ (fun hHeld => ?_); (next => (exact co9)); clear hK K; (try simp only [Act.put, List.setIfInBounds_toArray, List.set_cons_zero, List.set_cons_succ])
  refine wpAnyT_oneL 10 (by rfl) (by kernel_rfl) (by rfl) (fun K hK => ?_); go_simp
  refine hK.out _ _ ?_ (fun hHeld => ?_); (next => (exact co9)); clear hK K; (try simp only [Act.put, List.setIfInBounds_toArray, List.set_cons_zero, List.set_cons_succ])
  refine wpAnyT_lastL (by rfl) (by kernel_rfl) (by rfl) (fun K hK => ?_); go_simp
  refine hK.out _ _ ?_; clear hK K; (try simp only [Act.put, List.setIfInBounds_toArray, List.set_cons_zero, List.set_cons_succ]); refine wpAnyT_doneL (by kernel_rfl) ?_
  refine NoPanic.normal ?_
  have HE := Lib.hid (And.intro hr9 (And.intro hf9 (And.intro hfp9 (And.intro d9 (And.intro hr5 (And.intro hf5' hfp5))))))
  clear hr9 hf9 hfp9 hn9 d9 hr5 hf5 hfp5 hn5 hb5 hf5' hHeld co9 zo9
  go_wp2
  go_end0
  obtain ⟨hr9, hf9, hfp9, d9, hr5, hf5, hfp5⟩ := HE.out
  obtain ⟨hb1, hc1, hO9d, hf1, hO1, hOn, hW1, hx1⟩ := HQ.out
  obtain ⟨hn0, hm0⟩ := HN.out
  have hW9d : d ∉ fpOf W9 := fun hm => hr9.ne_blk d9 HH.out.ty _ hm rfl
  have s5 := hf5.size
  have hOW : ∀ x ∈ fpOf O9, x ∉ fpOf W := fun x hx hm => by
    rcases hOn x hx with h | h
    · exact HH.out.ap x h hm
    · have := HH.out.w_.lt x hm; omega
  have hA5d : ∀ x ∈ fpOf A5, w.heap.size ≤ x := fun x hx => (hfp5 x hx).elim (fun h => by simp [fpOf] at h) (fun h => by simp at h; omega)
  have hO9 := ((hO1.fr hf5 (by simp)).alloc (.cells #[.slice A5 m cap5] 32)).fr hf9 hOW
  refine ⟨rfl, O9, oc9, W9, wc9, A5, cap5, ⟨d9.set_ _ _, HH.out.ty, HH.out.ty2, ?_, ?_, by simp [HH.out.len], ?_, ?_, ?_⟩, ?_, hA5d, hOn, fun x hx => ?_, ?_⟩
  · rw [List.getElem?_set_ne (by omega), List.getElem?_set_self ((List.getElem?_eq_some_iff.1 HH.out.c0).1), List.length_append, List.length_singleton, hn0]
  · rw [List.getElem?_set_self (by rw [List.length_set]; exact (List.getElem?_eq_some_iff.1 HH.out.c1).1), List.length_append, List.length_singleton, hn0]
  · rw [List.length_append, List.length_singleton, hn0]
    exact hO9.far hO9d
  · rw [List.length_append, List.length_singleton, hn0]
    exact hr9.far hW9d
  · intro x hx hm
    rcases hfp9 x hm with h | h
    · exact hOW x hx h
    · have := (hO1.fr hf5 (by simp)).lt x hx
      simp at h; omega
  · refine ((hr5.alloc _).fr hf9 (fun x hx hm => ?_)).far (fun hm => ?_)
    · have := HH.out.w_.lt x hm; have := hA5d x hx; omega
    · have := hA5d _ hm; omega
  · rcases hfp9 x hx with h | h
    · exact .inl h
    · simp at h; right; omega
  · refine ((((hf1.mono (fun x hx => ?_)).trans (hf5.mono (by simp))).alloc _).trans (hf9.mono (fun x hx => List.mem_cons_of_mem _ (List.mem_append_right _ hx)))).setCell' (.inl List.mem_cons_self)
    rcases List.mem_cons.1 hx with rfl | hx
    · exact List.mem_cons_self
    · exact List.mem_cons_of_mem _ (List.mem_append_left _ hx)
end Go.Proofs.Ytaicpgkoailnkaa
