/- The law's loan of sheets: a list with marked room behind it and behind each one's bytes. -/
import Derived.Test.YtaicpgkoailnkaaShB
import Derived.Test.YtaicpgkoailnkaaTill
import Derived.Test.YtaicpgkoailnkaaRefU
namespace Go.Proofs.Ytaicpgkoailnkaa
open Go.RowKit

theorem Try.uByss : Try.prog.underlying 51 = some (.slice 32) := by kernel_rfl
theorem Try.iBytes : (Try.prog.info? 32).map (fun i => (i.zero, i.size, i.bytes)) = some (some (.slice none 0 0), 1, 24) := by kernel_rfl

/-- One sheet's bytes with what stands behind them. -/
def Sh.wide (s : Sh) : Value := .slice s.A (s.xs.length + 5) s.cap
/-- A loan of the sheets l: l' lies in memory of its own, from block base on. -/
structure Loaned (w : World) (base : Nat) (A : Option Addr) (cap : Nat) (DA : Option Addr) (dcap : Nat) (l l' : List Sh) : Prop where
  told : Told w base A cap l'
  marks : ∀ s ∈ l', Row w 5 1 s.A (s.xs.length + 5) s.cap (bvals (s.xs ++ List.replicate 5 165))
  drow : Row w 32 1 DA l'.length dcap (l'.map Sh.wide)
  dnew : ∀ x ∈ fpOf DA, base ≤ x
  keys : l'.map Sh.key = l.map Sh.key
theorem Loaned.len {w : World} {base : Nat} {A : Option Addr} {cap : Nat} {DA : Option Addr} {dcap : Nat} {l l' : List Sh} (h : Loaned w base A cap DA dcap l l') : l'.length = l.length := by simpa using congrArg List.length h.keys
theorem Loaned.fr {w w' : World} {base : Nat} {A : Option Addr} {cap : Nat} {DA : Option Addr} {dcap : Nat} {l l' : List Sh} (h : Loaned w base A cap DA dcap l l') {S : List Nat} (hf : Fr S w w') (h1 : ∀ b ∈ fpOf A, b ∉ S) (h2 : ∀ s ∈ l', ∀ b ∈ fpOf s.A, b ∉ S) (h3 : ∀ b ∈ fpOf DA, b ∉ S) : Loaned w' base A cap DA dcap l l' :=
  ⟨h.told.fr hf h1 h2, fun s hs => (h.marks s hs).fr hf (h2 s hs), h.drow.fr hf h3, h.dnew, h.keys⟩

/-- One more sheet lent. -/
theorem Loaned.snoc {w w' : World} {base : Nat} {A : Option Addr} {cap : Nat} {DA : Option Addr} {dcap : Nat} {l l' : List Sh} {s : Sh} {cs : List Value} {A9 D9 A5 : Option Addr} {cap9 dcap9 cap5 : Nat} (h : Loaned w base A cap DA dcap l l') (hL : Blk w base 93 cs) (hf : Fr (base :: (fpOf DA ++ fpOf A)) w w')
    (hrow : Row w' 46 3 A9 (l'.length + 1) cap9 (flatS l' ++ [.int .i64 s.num, .int .i64 s.at_, .slice A5 s.xs.length cap5])) (hA9 : ∀ x ∈ fpOf A9, base ≤ x)
    (hd : Row w' 5 1 A5 (s.xs.length + 5) cap5 (bvals (s.xs ++ List.replicate 5 165))) (h5 : ∀ x ∈ fpOf A5, w.heap.size ≤ x)
    (hD : Row w' 32 1 D9 (l'.length + 1) dcap9 (l'.map Sh.wide ++ [.slice A5 (s.xs.length + 5) cap5])) (hD9 : ∀ x ∈ fpOf D9, base ≤ x) : Loaned w' base A9 cap9 D9 dcap9 (l ++ [s]) (l' ++ [⟨s.num, s.at_, A5, cap5, s.xs⟩]) := by
  have hlt := hL.lt
  have hoff : ∀ t ∈ l', ∀ x ∈ fpOf t.A, x ∉ base :: (fpOf DA ++ fpOf A) := fun t ht x hx hm => by
    rcases List.mem_cons.1 hm with rfl | hm
    · exact (h.told.data t ht).ne_blk hL (by decide) _ hx rfl
    · rcases List.mem_append.1 hm with hm | hm
      · exact (h.told.data t ht).ne_row h.drow (by decide) x hx hm
      · exact h.told.ne t ht x hx hm
  have hsd : Row w' 5 1 A5 s.xs.length cap5 (bvals s.xs) := by
    have h1 := hd.short (m := s.xs.length) (by omega) (.inl (by
      rintro rfl
      rcases hd.cases with ⟨_, h0, _⟩ | ⟨g, _, h0, _⟩
      · omega
      · cases h0))
    rw [bvals_take, Nat.mul_one, List.take_left'] at h1
    · exact h1
    · rfl
  refine ⟨⟨?_, hA9, fun t ht => ?_, fun t ht x hx => ?_, ?_⟩, fun t ht => ?_, ?_, hD9, ?_⟩
  · rw [flatS_append, List.length_append, List.length_singleton]
    exact hrow
  · rcases List.mem_append.1 ht with ht | ht
    · exact (h.told.data t ht).fr hf (hoff t ht)
    · simp only [List.mem_singleton] at ht
      subst ht
      exact hsd
  · rcases List.mem_append.1 ht with ht | ht
    · exact h.told.new t ht x hx
    · simp only [List.mem_singleton] at ht
      subst ht
      have := h5 x hx
      omega
  · rw [List.pairwise_append]
    refine ⟨h.told.apart, List.pairwise_singleton _ _, fun t ht u hu x hx hm => ?_⟩
    simp only [List.mem_singleton] at hu
    subst hu
    have h1 := h5 x hm
    have h2 := (h.told.data t ht).lt x hx
    omega
  · rcases List.mem_append.1 ht with ht | ht
    · exact (h.marks t ht).fr hf (hoff t ht)
    · simp only [List.mem_singleton] at ht
      subst ht
      exact hd
  · rw [List.map_append, List.length_append, List.length_singleton]
    exact hD
  · rw [List.map_append, List.map_append, h.keys]
    rfl

/-- The sheet that marks the room behind. -/
def mark : Sh := ⟨-7, 77, none, 0, []⟩
theorem Loaned.mark {w w' : World} {base : Nat} {A : Option Addr} {cap : Nat} {DA : Option Addr} {dcap : Nat} {l l' : List Sh} {cs rest : List Value} {A9 : Option Addr} {cap9 m : Nat} (h : Loaned w base A cap DA dcap l l') (hL : Blk w base 93 cs) (hf : Fr (base :: fpOf A) w w')
    (hrow : Row w' 46 3 A9 (l'.length + m + 1) cap9 (flatS l' ++ rest)) (hA9 : ∀ x ∈ fpOf A9, base ≤ x) : Loaned w' base A9 cap9 DA dcap l l' := by
  have hoff : ∀ t ∈ l', ∀ x ∈ fpOf t.A, x ∉ base :: fpOf A := fun t ht x hx hm => by
    rcases List.mem_cons.1 hm with rfl | hm
    · exact (h.told.data t ht).ne_blk hL (by decide) _ hx rfl
    · exact h.told.ne t ht x hx hm
  refine ⟨⟨?_, hA9, fun t ht => (h.told.data t ht).fr hf (hoff t ht), h.told.new, h.told.apart⟩, fun t ht => (h.marks t ht).fr hf (hoff t ht), h.drow.fr hf (fun x hx hm => ?_), h.dnew, h.keys⟩
  · have h1 := hrow.short (m := l'.length) (by omega) (.inl (by
      rintro rfl
      rcases hrow.cases with ⟨_, h0, _⟩ | ⟨g, _, h0, _⟩
      · omega
      · cases h0))
    rw [List.take_left' (flatS_length l')] at h1
    exact h1
  · rcases List.mem_cons.1 hm with rfl | hm
    · exact h.drow.ne_blk hL (by decide) _ hx rfl
    · exact h.drow.ne_row h.told.row (by decide) x hx hm

set_option maxRecDepth 100000 in
set_option maxHeartbeats 8000000 in
theorem loan_any (A0 : Option Addr) (cap0 : Nat) (l : List Sh) (w : World) (h : Lent w A0 l) :
    Calls Try.prog 42 #[.slice A0 l.length cap0] w fun r w' => r = .returned (.pointer (some ⟨w.heap.size, 0, none⟩)) ∧ ∃ (A : Option Addr) (cap : Nat) (DA : Option Addr) (dcap : Nat) (l' : List Sh),
      Blk w' w.heap.size 93 [.slice A l.length cap, .slice DA l.length dcap] ∧ Loaned w' w.heap.size A cap DA dcap l l' ∧ Row w' 46 3 A (l.length + 3) cap (flatS (l' ++ List.replicate 3 mark)) ∧ Fr [] w w' := by
  obtain ⟨i0, hi, hz0, hz1, hz2⟩ := info_parts Try.iSheet
  have HI := Lib.hid (And.intro hi (And.intro hz0 (And.intro hz1 hz2)))
  obtain ⟨j0, hj, hy0, hy1, hy2⟩ := info_parts Try.iBytes
  have HJ := Lib.hid (And.intro hj (And.intro hy0 (And.intro hy1 hy2)))
  have hlong := h.long
  have HH := Lib.hid h
  obtain ⟨n, hn⟩ : ∃ n, l.length = n := ⟨_, rfl⟩
  rw [hn] at hlong ⊢
  have HN := Lib.hid hn
  clear hi hz0 hz1 hz2 hj hy0 hy1 hy2 h hn
  go_enter Try.func42, Try.ntmps42
  go_wp2
  go_loopw [10] (fun i wr => ∃ (k : Nat) (A : Option Addr) (cap : Nat) (DA : Option Addr) (dcap : Nat) (l' : List Sh), k ≤ n ∧ i = .int .i64 k ∧ Blk wr w.heap.size 93 [.slice A k cap, .slice DA k dcap] ∧ Loaned wr w.heap.size A cap DA dcap (l.take k) l' ∧ Fr [] w wr) (fun i _ => n - (intOf i).toNat)
  case atStart => exact ⟨0, none, 0, none, 0, [], Nat.zero_le _, rfl, Blk.new _ _ _, ⟨Told.nil _ _, by simp, Row.nil _ _ _, by simp [fpOf], rfl⟩, (Fr.refl _ _).alloc _⟩
  case round =>
    obtain ⟨k, A, cap, DA, dcap, l', hk, rfl, hb, hL, hf⟩ := hrel
    by_cases hlt : k < n
    · have hkl : k < l.length := by have := HN.out; omega
      obtain ⟨s, hs⟩ : ∃ s, l[k]? = some s := ⟨l[k], List.getElem?_eq_getElem hkl⟩
      have hsm := List.mem_of_getElem? hs
      have hLr := HH.out.fr hf
      obtain ⟨b, o, rfl, g0, g1, g2⟩ := (show Seen wr A0 l from ⟨hLr.rds, fun s hs => ⟨(hLr.data s hs).1, (hLr.data s hs).2.2⟩⟩).cells hs
      obtain ⟨d1, d2, d3⟩ := hLr.data s hsm
      have k0 : (0 : Int) ≤ (k : Int) := by omega
      have k1 : (k : Int) < (n : Int) := by omega
      have hll : l'.length = k := by rw [hL.len, List.length_take]; omega
      obtain ⟨xl, hxl⟩ : ∃ xl, s.xs.length = xl := ⟨_, rfl⟩
      have hlent := fun (W : World) (hW : Rds W s.A (bvals s.xs)) => lent_any s.A s.cap s.xs W hW d3
      rw [hxl] at g2 d3 hlent
      have hsz := hf.size
      have hbl := hb.lt
      have hne : wr.heap.size ≠ w.heap.size := by omega
      have hne2 : ¬ wr.heap.size = w.heap.size := hne
      have hbA : w.heap.size ∉ fpOf A := fun hm => hL.told.row.ne_blk hb (by decide) _ hm rfl
      have hbD : w.heap.size ∉ fpOf DA := fun hm => hL.drow.ne_blk hb (by decide) _ hm rfl
      have hba := hb.alloc (.cells #[.int .i64 s.num, .int .i64 s.at_, .slice s.A xl s.cap] 46)
      have hbx : Blk (wr.alloc (.cells #[.int .i64 s.num, .int .i64 s.at_, .slice s.A xl s.cap] 46)) wr.heap.size 46 [.int .i64 s.num, .int .i64 s.at_, .slice s.A xl s.cap] := Blk.new _ _ _
      have HL := Lib.hid (And.intro hL (And.intro hf (And.intro hll (And.intro hxl (And.intro hbA (And.intro hbD (And.intro d1 hs)))))))
      have HE := Lib.hid hlent
      have HB := Lib.hid (And.intro hba hbx)
      have HB0 := Lib.hid hb
      clear hL hf hll hxl hbA hbD d1 d2 hs hsm hLr hlent hb hba hbx
      go_upto_region 6 with (first | (go_at_call 45; (with_reducible refine (HE.out _ (HL.out.2.2.2.2.2.2.1.fr ((Fr.refl [] wr).alloc _) (by simp))).mono ?_); rintro r w5 ⟨A5, cap5, rfl, hr5, hf5, hfp5⟩; have q5 := HB.out.2.fr hf5 (by simp); have z2 := q5.frozen 2; have c2 := q5.cell' (i := 2) rfl; have HR5 := Lib.hid (And.intro hr5 (And.intro hf5 (And.intro hfp5 q5))); clear hr5 hf5 hfp5 q5))
      obtain ⟨w6, hw6⟩ : ∃ w6, w5.setCell ⟨wr.heap.size, 2, none⟩ (.slice A5 xl cap5) = w6 := ⟨_, rfl⟩
      have hb6 : Blk w6 wr.heap.size 46 [.int .i64 s.num, .int .i64 s.at_, .slice A5 xl cap5] := by rw [← hw6]; exact HR5.out.2.2.2.set' rfl
      have hl6 : Blk w6 w.heap.size 93 [.slice A k cap, .slice DA k dcap] := by rw [← hw6]; exact (HB.out.1.fr HR5.out.2.1 (by simp)).far' hne.symm
      have hf6 : Fr [] wr w6 := by rw [← hw6]; exact (((Fr.refl [] wr).alloc _).trans HR5.out.2.1).setCell' (.inr (Nat.le_refl _))
      have hx5 : ∀ x ∈ fpOf A5, wr.heap.size < x := fun x hx => by have := HR5.out.2.2.1 x hx; simp at this; omega
      have hr6 : Row w6 5 1 A5 (xl + 5) cap5 (bvals (s.xs ++ List.replicate 5 165)) := by
        rw [← hw6]
        exact HR5.out.1.far (fun hm => by have := hx5 _ hm; omega)
      obtain ⟨g5, rfl⟩ : ∃ g, A5 = some ⟨g, 0, none⟩ := by
        rcases hr6.cases with ⟨_, h, _⟩ | ⟨g, _, h, _⟩
        · omega
        · exact ⟨g, h⟩
      have hcap5 := hr6.cap_le
      have e1 : IntKind.i64.wrap ((xl : Int) + 5) = (xl : Int) + 5 := by rw [IntWalk.i64_in _ (by omega)]
      have e2 : (xl : Int) + 5 ≤ (cap5 : Int) := by omega
      have e3 : (0 : Int) ≤ (xl : Int) + 5 := by omega
      have e4 : ((xl : Int) + 5).toNat = xl + 5 := by omega
      have hD6 : Row w6 32 1 DA k dcap (l'.map Sh.wide) := by
        have := (HL.out.1.drow).fr hf6 (by simp)
        rw [HL.out.2.2.1] at this
        exact this
      have h3 : ∀ u ∈ [Value.slice (some ⟨g5, 0, none⟩) (xl + 5) cap5], u.oneCell' = true := by simp [Value.oneCell']
      have HR := Lib.hid (And.intro hr6 (And.intro hf6 (And.intro hx5 (And.intro hD6 h3))))
      rw [hw6]
      have co := hl6.cell' (i := 1) rfl
      clear HB HR5 hr6 hf6 hx5 hD6 h3 z2 c2 hw6
      have hmix : Try.prog.follows .mixedOrders = true := by kernel_rfl
      have bx := fun (w' : World) (hh : Blk w' wr.heap.size 46 [.int .i64 s.num, .int .i64 s.at_, .slice (some ⟨g5, 0, none⟩) xl cap5]) => hh.cell' (i := 2) rfl
      refine wp_region_noPanic (wp_region_till 16 (fun w' => w'.cell? ⟨w.heap.size, 1, none⟩ = some (.slice DA k dcap) ∧ Blk w' wr.heap.size 46 [.int .i64 s.num, .int .i64 s.at_, .slice (some ⟨g5, 0, none⟩) xl cap5]) hmix ⟨co, hb6.drew⟩ (fun hHeld => ?_))
      refine wpAnyT_takeL 0 (v := ?_) (by rfl) (by kernel_rfl) (by decide) (by kernel_rfl) (by kernel_rfl) (by kernel_rfl) (fun _ _ _ h => h) (by rfl) ?_ (by assumption) ?_; rotate_left; (next => (intro w' hSw; (try dsimp only at hSw); go_simp; (try with_reducible rfl))); (try simp only [Act.put, List.setIfInBounds_toArray, List.set_cons_zero, List.set_cons_succ])
      refine wpAnyT_takeL 1 (v := ?_) (by rfl) (by kernel_rfl) (by decide) (by kernel_rfl) (by kernel_rfl) (by kernel_rfl) (fun _ _ _ h => h) (by rfl) ?_ (by assumption) ?_; rotate_left; (next => (intro w' hSw; (try dsimp only at hSw); go_simp; (try with_reducible rfl))); (try simp only [Act.put, List.setIfInBounds_toArray, List.set_cons_zero, List.set_cons_succ])
      refine wpAnyT_takeL 2 (v := ?_) (by rfl) (by kernel_rfl) (by decide) (by kernel_rfl) (by kernel_rfl) (by kernel_rfl) (fun _ _ _ h => h) (by rfl) ?_ (by assumption) ?_; rotate_left; (next => (intro w' hSw; (try dsimp only at hSw); go_simp; (try with_reducible rfl))); (try simp only [Act.put, List.setIfInBounds_toArray, List.set_cons_zero, List.set_cons_succ])
      refine wpAnyT_takeL 3 (v := ?_) (by rfl) (by kernel_rfl) (by decide) (by kernel_rfl) (by kernel_rfl) (by kernel_rfl) (fun _ _ _ h => h) (by rfl) ?_ (by assumption) ?_; rotate_left; (next => (intro w' hSw; (try dsimp only at hSw); go_simp; (try with_reducible rfl))); (try simp only [Act.put, List.setIfInBounds_toArray, List.set_cons_zero, List.set_cons_succ])
      refine wpAnyT_takeL 4 (v := ?_) (by rfl) (by kernel_rfl) (by decide) (by kernel_rfl) (by kernel_rfl) (by kernel_rfl) (fun _ _ _ h => h) (by rfl) ?_ (by assumption) ?_; rotate_left; (next => (intro w' hSw; (try dsimp only at hSw); go_simp; (try with_reducible rfl))); (try simp only [Act.put, List.setIfInBounds_toArray, List.set_cons_zero, List.set_cons_succ])
      refine wpAnyT_takeL 5 (v := ?_) (by rfl) (by kernel_rfl) (by decide) (by kernel_rfl) (by kernel_rfl) (by kernel_rfl) (fun _ _ _ h => h) (by rfl) ?_ (by assumption) ?_; rotate_left; (next => (intro w' hSw; (try dsimp only at hSw); go_simp; (try with_reducible rfl))); (try simp only [Act.put, List.setIfInBounds_toArray, List.set_cons_zero, List.set_cons_succ])
      refine wpAnyT_takeL 6 (v := ?_) (by rfl) (by kernel_rfl) (by decide) (by kernel_rfl) (by kernel_rfl) (by kernel_rfl) (fun _ _ _ h => h) (by rfl) ?_ (by assumption) ?_; rotate_left; (next => (intro w' hSw; (try dsimp only at hSw); go_simp; (try with_reducible rfl))); (try simp only [Act.put, List.setIfInBounds_toArray, List.set_cons_zero, List.set_cons_succ])
      refine wpAnyT_takeL 7 (v := ?_) (by rfl) (by kernel_rfl) (by decide) (by kernel_rfl) (by kernel_rfl) (by kernel_rfl) (fun _ _ _ h => h) (by rfl) ?_ (by assumption) ?_; rotate_left; (next => (intro w' hSw; (try dsimp only at hSw); go_simp; (try with_reducible rfl))); (try simp only [Act.put, List.setIfInBounds_toArray, List.set_cons_zero, List.set_cons_succ])
      refine wpAnyT_takeL 8 (v := ?_) (by rfl) (by kernel_rfl) (by decide) (by kernel_rfl) (by kernel_rfl) (by kernel_rfl) (fun _ _ _ h => h) (by rfl) ?_ (by assumption) ?_; rotate_left; (next => (intro w' hSw; (try dsimp only at hSw); go_simp; (try with_reducible rfl))); (try simp only [Act.put, List.setIfInBounds_toArray, List.set_cons_zero, List.set_cons_succ])
      refine wpAnyT_takeL 9 (v := ?_) (by rfl) (by kernel_rfl) (by decide) (by kernel_rfl) (by kernel_rfl) (by kernel_rfl) (fun _ _ _ h => h) (by rfl) ?_ (by assumption) ?_; rotate_left; (next => (intro w' hSw; (try dsimp only at hSw); go_simp; (try with_reducible rfl))); (try simp only [Act.put, List.setIfInBounds_toArray, List.set_cons_zero, List.set_cons_succ])
      refine wpAnyT_takeL 10 (v := ?_) (by rfl) (by kernel_rfl) (by decide) (by kernel_rfl) (by kernel_rfl) (by kernel_rfl) (fun _ _ _ h => h) (by rfl) ?_ (by assumption) ?_; rotate_left; (next => (intro w' hSw; (try dsimp only at hSw); go_simp; (try with_reducible rfl))); (try simp only [Act.put, List.setIfInBounds_toArray, List.set_cons_zero, List.set_cons_succ])
      refine wpAnyT_takeL 11 (v := ?_) (by rfl) (by kernel_rfl) (by decide) (by kernel_rfl) (by kernel_rfl) (by kernel_rfl) (fun _ _ _ h => h) (by rfl) ?_ (by assumption) ?_; rotate_left; (next => (intro w' hSw; (try dsimp only at hSw); go_simp; (try with_reducible rfl))); (try simp only [Act.put, List.setIfInBounds_toArray, List.set_cons_zero, List.set_cons_succ])
      refine wpAnyT_oneL 12 (by rfl) (by kernel_rfl) (by rfl) (fun K hK => ?_); go_simp
      refine hK.out _ _ ?_ (fun hHeld => ?_); (next => (exact ⟨(hl6.drew.alloc _).cell' rfl, hb6.drew.alloc _⟩)); clear hK K; (try simp only [Act.put, List.setIfInBounds_toArray, List.set_cons_zero, List.set_cons_succ])
      refine wpAnyT_oneL 13 (by rfl) (by kernel_rfl) (by rfl) (fun K hK => ?_)
      refine wp_append2 (.tmp 22) (.tmp 30) 51 rfl 32 j0 _ 1 24 Try.uByss HJ.out.1 HJ.out.2.1 HJ.out.2.2.1 HJ.out.2.2.2 rfl (by decide) DA k dcap (l'.map Sh.wide) rfl ?_ (some ⟨w6.heap.size, 0, none⟩) 1 1 [Value.slice (some ⟨g5, 0, none⟩) (xl + 5) cap5] rfl rfl ?_ HR.out.2.2.2.2 ?_ ?_ ?_
      · exact HR.out.2.2.2.1.drew.alloc _
      · exact fun _ => ⟨_, rfl, fun q u hu => by rw [addr_add, Nat.zero_add]; exact (Blk.new _ _ _).cell' hu⟩
      · unfold maxLen; omega
      · omega
      intro D9 dcap9 w9 hr9 hf9 hfp9 hn9
      have db9 := (hb6.drew.alloc (.cells #[.slice (some ⟨g5, 0, none⟩) (xl + 5) cap5] 32)).fr hf9 (fun hm => by have := HL.out.1.drow.lt _ hm; omega)
      have dl9 := (hl6.drew.alloc (.cells #[.slice (some ⟨g5, 0, none⟩) (xl + 5) cap5] 32)).fr hf9 HL.out.2.2.2.2.2.1
      have co9 := dl9.cell' (i := 1) rfl
      have zo9 := dl9.frozen 1
      refine hK.out _ _ ?_ (fun hHeld => ?_); (next => (exact ⟨co9, db9⟩)); clear hK K; (try simp only [Act.put, List.setIfInBounds_toArray, List.set_cons_zero, List.set_cons_succ])
      refine wpAnyT_oneL 14 (by rfl) (by kernel_rfl) (by rfl) (fun K hK => ?_); go_simp
      refine hK.out _ _ ?_ (fun hHeld => ?_); (next => (exact ⟨co9, db9⟩)); clear hK K; (try simp only [Act.put, List.setIfInBounds_toArray, List.set_cons_zero, List.set_cons_succ])
      refine wpAnyT_oneL 15 (by rfl) (by kernel_rfl) (by rfl) (fun K hK => ?_); go_simp
      refine hK.out _ _ ?_ (fun hHeld => ?_); (next => (exact ⟨co9, db9⟩)); clear hK K; (try simp only [Act.put, List.setIfInBounds_toArray, List.set_cons_zero, List.set_cons_succ])
      refine wpAnyT_lastL (by rfl) (by kernel_rfl) (by rfl) (fun K hK => ?_); go_simp
      refine hK.out _ _ ?_; clear hK K; (try simp only [Act.put, List.setIfInBounds_toArray, List.set_cons_zero, List.set_cons_succ]); refine wpAnyT_doneL (by kernel_rfl) ?_
      refine NoPanic.normal ?_
      obtain ⟨w7, hw7⟩ : ∃ w7, w9.setCell ⟨w.heap.size, 1, none⟩ (.slice D9 (k + 1) dcap9) = w7 := ⟨_, rfl⟩
      have hb7 : Blk w7 wr.heap.size 46 [.int .i64 s.num, .int .i64 s.at_, .slice (some ⟨g5, 0, none⟩) xl cap5] := by rw [← hw7]; exact db9.far' hne
      have hl7 : Blk w7 w.heap.size 93 [.slice A k cap, .slice D9 (k + 1) dcap9] := by rw [← hw7]; exact dl9.set' rfl
      have hr6' := HR.out.1.drew.alloc (.cells #[.slice (some ⟨g5, 0, none⟩) (xl + 5) cap5] 32)
      have hD9b : w.heap.size ∉ fpOf D9 := fun hm => hr9.ne_blk dl9 (by decide) _ hm rfl
      have hf69 : Fr (w.heap.size :: fpOf DA) w6 w7 := by rw [← hw7]; exact ((((Fr.refl [] w6).drew.alloc _).mono (by simp)).trans (hf9.mono (fun x hx => List.mem_cons_of_mem _ hx))).setCell' (.inl List.mem_cons_self)
      have hD7 : Row w7 32 1 D9 (k + 1) dcap9 (l'.map Sh.wide ++ [.slice (some ⟨g5, 0, none⟩) (xl + 5) cap5]) := by rw [← hw7]; exact hr9.far hD9b
      have hDn : ∀ x ∈ fpOf D9, w.heap.size ≤ x := fun x hx => by
        rcases hfp9 x hx with h | h
        · exact HL.out.1.dnew x h
        · have := HR.out.2.1.size; simp at h; omega
      have hAD : ∀ x ∈ fpOf A, x ∉ w.heap.size :: fpOf DA := fun x hx hm => by
        rcases List.mem_cons.1 hm with rfl | hm
        · exact HL.out.2.2.2.2.1 hx
        · exact HL.out.1.told.row.ne_row HL.out.1.drow (by decide) x hx hm
      have hA7 : Row w7 46 3 A k cap (flatS l') := by
        have := (HL.out.1.told.row.fr HR.out.2.1 (by simp)).fr hf69 hAD
        rw [HL.out.2.2.1] at this
        exact this
      have h3 : ∀ u ∈ [Value.int .i64 s.num, .int .i64 s.at_, .slice (some ⟨g5, 0, none⟩) xl cap5], u.oneCell' = true := by simp [Value.oneCell']
      have HR7 := Lib.hid (And.intro hf69 (And.intro hD7 (And.intro hDn (And.intro hA7 (And.intro h3 (And.intro hAD hD9b))))))
      rw [hw7]
      have co7 := hl7.cell' (i := 0) rfl
      clear hw7 hf69 hD7 hDn hA7 h3 hAD hr6' hD9b db9 dl9 co9 zo9 hr9 hf9 hfp9 hn9 hHeld hb6 hl6 co e1 e2 e3 e4
      go_upto_region 7 with fail
      refine wp_region_noPanic (wp_region_till 10 (fun w' => w'.cell? ⟨w.heap.size, 0, none⟩ = some (.slice A k cap) ∧ Blk w' wr.heap.size 46 [.int .i64 s.num, .int .i64 s.at_, .slice (some ⟨g5, 0, none⟩) xl cap5]) hmix ⟨co7, hb7.drew⟩ (fun hHeld => ?_))
      clear bx
      have bx0 := fun (w' : World) (hh : Blk w' wr.heap.size 46 [.int .i64 s.num, .int .i64 s.at_, .slice (some ⟨g5, 0, none⟩) xl cap5]) => hh.cell' (i := 0) rfl
      have bx1 := fun (w' : World) (hh : Blk w' wr.heap.size 46 [.int .i64 s.num, .int .i64 s.at_, .slice (some ⟨g5, 0, none⟩) xl cap5]) => hh.cell' (i := 1) rfl
      have bx2 := fun (w' : World) (hh : Blk w' wr.heap.size 46 [.int .i64 s.num, .int .i64 s.at_, .slice (some ⟨g5, 0, none⟩) xl cap5]) => hh.cell' (i := 2) rfl
      refine wpAnyT_takeL 0 (v := ?_) (by rfl) (by kernel_rfl) (by decide) (by kernel_rfl) (by kernel_rfl) (by kernel_rfl) (fun _ _ _ h => h) (by rfl) ?_ (by assumption) ?_; rotate_left; (next => (intro w' hSw; (try dsimp only at hSw); go_simp; (try with_reducible rfl))); (try simp only [Act.put, List.setIfInBounds_toArray, List.set_cons_zero, List.set_cons_succ])
      refine wpAnyT_takeL 1 (v := ?_) (by rfl) (by kernel_rfl) (by decide) (by kernel_rfl) (by kernel_rfl) (by kernel_rfl) (fun _ _ _ h => h) (by rfl) ?_ (by assumption) ?_; rotate_left; (next => (intro w' hSw; (try dsimp only at hSw); go_simp; (try with_reducible rfl))); (try simp only [Act.put, List.setIfInBounds_toArray, List.set_cons_zero, List.set_cons_succ])
      refine wpAnyT_takeL 2 (v := ?_) (by rfl) (by kernel_rfl) (by decide) (by kernel_rfl) (by kernel_rfl) (by kernel_rfl) (fun _ _ _ h => h) (by rfl) ?_ (by assumption) ?_; rotate_left; (next => (intro w' hSw; (try dsimp only at hSw); go_simp; (try with_reducible rfl))); (try simp only [Act.put, List.setIfInBounds_toArray, List.set_cons_zero, List.set_cons_succ])
      refine wpAnyT_takeL 3 (v := ?_) (by rfl) (by kernel_rfl) (by decide) (by kernel_rfl) (by kernel_rfl) (by kernel_rfl) (fun _ _ _ h => h) (by rfl) ?_ (by assumption) ?_; rotate_left; (next => (intro w' hSw; (try dsimp only at hSw); go_simp; (try with_reducible rfl))); (try simp only [Act.put, List.setIfInBounds_toArray, List.set_cons_zero, List.set_cons_succ])
      refine wpAnyT_takeL 4 (v := ?_) (by rfl) (by kernel_rfl) (by decide) (by kernel_rfl) (by kernel_rfl) (by kernel_rfl) (fun _ _ _ h => h) (by rfl) ?_ (by assumption) ?_; rotate_left; (next => (intro w' hSw; (try dsimp only at hSw); go_simp; (try with_reducible rfl))); (try simp only [Act.put, List.setIfInBounds_toArray, List.set_cons_zero, List.set_cons_succ])
      refine wpAnyT_takeL 5 (v := ?_) (by rfl) (by kernel_rfl) (by decide) (by kernel_rfl) (by kernel_rfl) (by kernel_rfl) (fun _ _ _ h => h) (by rfl) ?_ (by assumption) ?_; rotate_left; (next => (intro w' hSw; (try dsimp only at hSw); go_simp; (try with_reducible rfl))); (try simp only [Act.put, List.setIfInBounds_toArray, List.set_cons_zero, List.set_cons_succ])
      refine wpAnyT_oneL 6 (by rfl) (by kernel_rfl) (by rfl) (fun K hK => ?_); go_simp
      refine hK.out _ _ ?_ (fun hHeld => ?_); (next => (exact ⟨(hl7.drew.alloc _).cell' rfl, hb7.drew.alloc _⟩)); clear hK K; (try simp only [Act.put, List.setIfInBounds_toArray, List.set_cons_zero, List.set_cons_succ])
      refine wpAnyT_oneL 7 (by rfl) (by kernel_rfl) (by rfl) (fun K hK => ?_)
      refine wp_append2 (.tmp 38) (.tmp 40) 33 rfl 46 i0 _ 3 40 Try.uSheets HI.out.1 HI.out.2.1 HI.out.2.2.1 HI.out.2.2.2 rfl (by decide) A k cap (flatS l') rfl ?_ (some ⟨w7.heap.size, 0, none⟩) 1 1 [Value.int .i64 s.num, .int .i64 s.at_, .slice (some ⟨g5, 0, none⟩) xl cap5] rfl rfl ?_ HR7.out.2.2.2.2.1 ?_ ?_ ?_
      · exact HR7.out.2.2.2.1.drew.alloc _
      · exact fun _ => ⟨_, rfl, fun q u hu => by rw [addr_add, Nat.zero_add]; exact (Blk.new _ _ _).cell' hu⟩
      · unfold maxLen; omega
      · omega
      intro A9 cap9 w9 hr9 hf9 hfp9 hn9
      have dl9 := (hl7.drew.alloc (.cells #[.int .i64 s.num, .int .i64 s.at_, .slice (some ⟨g5, 0, none⟩) xl cap5] 46)).fr hf9 HL.out.2.2.2.2.1
      have hbA7 : wr.heap.size ∉ fpOf A := fun hm => by have := HL.out.1.told.row.lt _ hm; omega
      have db9 := (hb7.drew.alloc (.cells #[.int .i64 s.num, .int .i64 s.at_, .slice (some ⟨g5, 0, none⟩) xl cap5] 46)).fr hf9 hbA7
      have co9 := dl9.cell' (i := 0) rfl
      have zo9 := dl9.frozen 0
      refine hK.out _ _ ?_ (fun hHeld => ?_); (next => (exact ⟨co9, db9⟩)); clear hK K; (try simp only [Act.put, List.setIfInBounds_toArray, List.set_cons_zero, List.set_cons_succ])
      refine wpAnyT_oneL 8 (by rfl) (by kernel_rfl) (by rfl) (fun K hK => ?_); go_simp
      refine hK.out _ _ ?_ (fun hHeld => ?_); (next => (exact ⟨co9, db9⟩)); clear hK K; (try simp only [Act.put, List.setIfInBounds_toArray, List.set_cons_zero, List.set_cons_succ])
      refine wpAnyT_oneL 9 (by rfl) (by kernel_rfl) (by rfl) (fun K hK => ?_); go_simp
      refine hK.out _ _ ?_ (fun hHeld => ?_); (next => (exact ⟨co9, db9⟩)); clear hK K; (try simp only [Act.put, List.setIfInBounds_toArray, List.set_cons_zero, List.set_cons_succ])
      refine wpAnyT_lastL (by rfl) (by kernel_rfl) (by rfl) (fun K hK => ?_); go_simp
      refine hK.out _ _ ?_; clear hK K; (try simp only [Act.put, List.setIfInBounds_toArray, List.set_cons_zero, List.set_cons_succ]); refine wpAnyT_doneL (by kernel_rfl) ?_
      refine NoPanic.normal ?_
      have HR9 := Lib.hid (And.intro hr9 (And.intro hf9 (And.intro hfp9 dl9)))
      clear hr9 hf9 hfp9 hn9 dl9 db9 co9 zo9 hHeld hb7 hl7 co7 bx0 bx1 bx2
      go_wp2
      go_roundw
      case rel =>
        obtain ⟨hL, hf, hll, hxl, hbA, hbD, d1, hs⟩ := HL.out
        obtain ⟨hr6, hf6, hx5, _, _⟩ := HR.out
        obtain ⟨hf69, hD7, hDn, hA7, _, hAD, hD9b⟩ := HR7.out
        obtain ⟨hr9, hf9, hfp9, dl9⟩ := HR9.out
        have hA9b : w.heap.size ∉ fpOf A9 := fun hm => hr9.ne_blk dl9 (by decide) _ hm rfl
        have s6 := hf6.size
        have s7 := hf69.size
        have hg5 : wr.heap.size < g5 := hx5 g5 (by simp [fpOf])
        have hdA : ∀ x ∈ fpOf DA, x < wr.heap.size := hL.drow.lt
        have hlA : ∀ x ∈ fpOf A, x < wr.heap.size := hL.told.row.lt
        have hfull : Fr (w.heap.size :: (fpOf DA ++ fpOf A)) wr (w9.setCell ⟨w.heap.size, 0, none⟩ (.slice A9 (k + 1) cap9)) := by
          have e1 : Fr (w.heap.size :: (fpOf DA ++ fpOf A)) wr w7 := (hf6.mono (by simp)).trans (hf69.mono (fun x hx => by
            rcases List.mem_cons.1 hx with rfl | hx
            · exact List.mem_cons_self
            · exact List.mem_cons_of_mem _ (List.mem_append_left _ hx)))
          exact ((e1.drew.alloc _).trans (hf9.mono (fun x hx => List.mem_cons_of_mem _ (List.mem_append_right _ hx)))).setCell' (.inl List.mem_cons_self)
        subst hxl
        have hS := hL.snoc (s := s) (w' := w9.setCell ⟨w.heap.size, 0, none⟩ (.slice A9 (k + 1) cap9)) (A9 := A9) (cap9 := cap9) (D9 := D9) (dcap9 := dcap9) (A5 := some ⟨g5, 0, none⟩) (cap5 := cap5) HB0.out hfull (by rw [hll]; exact hr9.far hA9b)
          (fun x hx => (hfp9 x hx).elim (hL.told.own x) (fun h => by simp at h; omega))
          ((((hr6.fr hf69 (fun x hx hm => by
              simp [fpOf] at hx
              subst hx
              rcases List.mem_cons.1 hm with hm | hm
              · omega
              · have := hdA _ hm; omega)).drew.alloc _).fr hf9 (fun x hx hm => by
              simp [fpOf] at hx
              subst hx
              have := hlA _ hm; omega)).far (fun hm => by simp [fpOf] at hm; omega))
          (fun x hx => by have := hx5 x hx; omega)
          (by
            rw [hll]
            exact ((hD7.drew.alloc _).fr hf9 (fun x hx hm => hD7.ne_row hA7 (by decide) x hx hm)).far hD9b) hDn
        have e : l.take (k + 1) = l.take k ++ [s] := by rw [List.take_add_one, hs]; rfl
        rw [← e] at hS
        refine ⟨k + 1, A9, cap9, D9, dcap9, l' ++ [⟨s.num, s.at_, some ⟨g5, 0, none⟩, cap5, s.xs⟩], hlt, by go_num, dl9.set' rfl, hS, hf.trans' hfull (fun x hx => ?_)⟩
        · right
          rcases List.mem_cons.1 hx with rfl | hx
          · exact Nat.le_refl _
          · rcases List.mem_append.1 hx with hx | hx
            · exact hL.dnew x hx
            · exact hL.told.own x hx
      case measure => simp [intOf]; omega
    · have hkn : k = n := by omega
      subst hkn
      rw [List.take_of_length_le (by rw [HN.out]; exact Nat.le_refl _)] at hL
      have hll : l'.length = k := by rw [hL.len, HN.out]
      have hsz := hf.size
      have hbl := hb.lt
      have HL := Lib.hid (And.intro hL (And.intro hf (And.intro hll hb)))
      have h3 : ∀ u ∈ [Value.int .i64 (-7), .int .i64 77, .slice none 0 0], u.oneCell' = true := by simp [Value.oneCell']
      have H3 := Lib.hid h3
      clear hL hf hll hb hk hlt h3
      go_wp2
      obtain ⟨wo, rfl⟩ : ∃ wo : World, wo = wr := ⟨_, rfl⟩
      go_loopw [45] (fun i wr => ∃ (j : Nat) (A : Option Addr) (cap : Nat), j ≤ 3 ∧ i = .int .i64 j ∧ Blk wr w.heap.size 93 [.slice A (k + j) cap, .slice DA k dcap] ∧ Loaned wr w.heap.size A cap DA dcap l l' ∧ Row wr 46 3 A (k + j) cap (flatS (l' ++ List.replicate j mark)) ∧ Fr [] w wr) (fun i _ => 3 - (intOf i).toNat)
      case atStart =>
        obtain ⟨hL, hf, hll, hb⟩ := HL.out
        have hr := hL.told.row
        rw [hll] at hr
        exact ⟨0, A, cap, by omega, rfl, hb, hL, by simpa using hr, hf⟩
      case round =>
        obtain ⟨j, A, cap, hj, rfl, hb, hL, hr, hf⟩ := hrel
        have hll := HL.out.2.2.1
        by_cases hlt : j < 3
        · have co := hb.cell' (i := 0) rfl
          have hbA : w.heap.size ∉ fpOf A := fun hm => hr.ne_blk hb (by decide) _ hm rfl
          have hba := hb.alloc (.cells #[.int .i64 (-7), .int .i64 77, .slice none 0 0] 46)
          have HB := Lib.hid (And.intro hb (And.intro hL (And.intro hr (And.intro hf (And.intro hll (And.intro hbA hba))))))
          have j1 : (j : Int) < 3 := by omega
          clear hb hL hr hf hll hbA hba
          go_wp2_with (at_builtin; refine wpList_append2 rfl (.tmp 51) (.tmp 53) 33 rfl 46 i0 _ 3 40 Try.uSheets HI.out.1 HI.out.2.1 HI.out.2.2.1 HI.out.2.2.2 rfl (by decide) A (k + j) cap (flatS (l' ++ List.replicate j mark)) rfl ?_ (some ⟨wr.heap.size, 0, none⟩) 1 1 [Value.int .i64 (-7), .int .i64 77, .slice none 0 0] rfl rfl ?_ H3.out ?_ ?_ ?_; (exact HB.out.2.2.1.alloc _); (exact fun _ => ⟨_, rfl, fun q u hu => by rw [addr_add, Nat.zero_add]; exact (Blk.new _ _ _).cell' hu⟩); (unfold maxLen; omega); (omega); (intro A9 cap9 w9 hr9 hf9 hfp9 hn9; have d9 := HB.out.2.2.2.2.2.2.fr hf9 HB.out.2.2.2.2.2.1; have c9 := d9.cell' (i := 0) rfl; have z9 := d9.frozen 0; have HR9 := Lib.hid (And.intro hr9 (And.intro hf9 (And.intro hfp9 d9))); clear hr9 hf9 hfp9 hn9 d9))
          go_roundw
          case rel =>
            obtain ⟨hb, hL, hr, hf, hll, hbA, hba⟩ := HB.out
            obtain ⟨hr9, hf9, hfp9, d9⟩ := HR9.out
            have hsz := hf.size
            have hA9b : w.heap.size ∉ fpOf A9 := fun hm => hr9.ne_blk d9 (by decide) _ hm rfl
            have hfull : Fr (w.heap.size :: fpOf A) wr (w9.setCell ⟨w.heap.size, 0, none⟩ (.slice A9 (k + j + 1) cap9)) := (((Fr.refl _ _).alloc _).trans (hf9.mono (fun x hx => List.mem_cons_of_mem _ hx))).setCell' (.inl List.mem_cons_self)
            have hA9 : ∀ x ∈ fpOf A9, w.heap.size ≤ x := fun x hx => (hfp9 x hx).elim (hL.told.own x) (fun h => by simp at h; omega)
            have hr10 := hr9.far (o := 0) (u := .slice A9 (k + j + 1) cap9) hA9b
            have e : flatS (l' ++ List.replicate j mark) ++ [Value.int .i64 (-7), .int .i64 77, .slice none 0 0] = flatS (l' ++ List.replicate (j + 1) mark) := by
              rw [List.replicate_succ', ← List.append_assoc, flatS_append (l' ++ _)]; rfl
            rw [e] at hr10
            have hr11 := hr10
            rw [flatS_append] at hr11
            refine ⟨j + 1, A9, cap9, hlt, by go_num, d9.set' rfl, hL.mark (m := j) hb hfull (by rw [hll]; exact hr11) hA9, hr10, hf.trans' hfull (fun x hx => ?_)⟩
            rcases List.mem_cons.1 hx with rfl | hx
            · exact .inr (Nat.le_refl _)
            · exact .inr (hL.told.own x hx)
          case measure => simp [intOf]; omega
        · have hj3 : j = 3 := by omega
          subst hj3
          have hcap := hr.cap_le
          obtain ⟨g, rfl⟩ : ∃ g, A = some ⟨g, 0, none⟩ := by
            rcases hr.cases with ⟨_, h, _⟩ | ⟨g, _, h, _⟩
            · omega
            · exact ⟨g, h⟩
          have co := hb.cell' (i := 0) rfl
          have zo := hb.frozen 0
          have e0 : (0 : Int) ≤ (k : Int) := by omega
          have e1 : (k : Int) ≤ (cap : Int) := by omega
          have HB := Lib.hid (And.intro hb (And.intro hL (And.intro hr (And.intro hf hll))))
          clear hb hL hr hf hll hj hlt hcap
          go_wp2
          go_ret
          obtain ⟨hb, hL, hr, hf, hll⟩ := HB.out
          have hfx : Fr [w.heap.size] wr (wr.setCell ⟨w.heap.size, 0, none⟩ (.slice (some ⟨g, 0, none⟩) k cap)) := (Fr.refl _ _).setCell' (.inl (by simp))
          refine ⟨rfl, some ⟨g, 0, none⟩, cap, DA, dcap, l', hb.set' rfl, hL.fr hfx (fun x hx hm => ?_) (fun s hs x hx hm => ?_) (fun x hx hm => ?_), hr.fr hfx (fun x hx hm => ?_), hf.setCell' (.inr (Nat.le_refl _))⟩
          · simp only [List.mem_singleton] at hm
            exact hr.ne_blk hb (by decide) x hx hm
          · simp only [List.mem_singleton] at hm
            exact (hL.told.data s hs).ne_blk hb (by decide) x hx hm
          · simp only [List.mem_singleton] at hm
            exact hL.drow.ne_blk hb (by decide) x hx hm
          · simp only [List.mem_singleton] at hm
            exact hr.ne_blk hb (by decide) x hx hm
end Go.Proofs.Ytaicpgkoailnkaa
