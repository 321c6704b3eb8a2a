/- Slices of the call's own, over any program: what append and copy do to them, with the one block that may have been written named (fpOf), for elements of any number of cells. No statement of a law stands here. -/
import Derived.Test.YtaicpgkoailnkaaMem
import Derived.Deep.RegionLaw
import Derived.Laws.CopyOwn
namespace Go.Proofs.Ytaicpgkoailnkaa
open Go.RowKit

/-- The block of a slice's array, if there is one. -/
def fpOf : Option Addr → List Nat
  | some a => [a.block]
  | none => []

/-- A slice value of n elements of type e (size cells each), the cells xs, in a block of its own. -/
def Row (w : World) (e : TypeId) (size : Nat) (A : Option Addr) (n cap : Nat) (xs : List Value) : Prop := w.ownsRow 0 e size (.slice A n cap) n xs

section
variable {w w' : World} {e : TypeId} {size : Nat} {A : Option Addr} {n cap : Nat} {xs : List Value}

theorem Row.nil (w : World) (e : TypeId) (size : Nat) : Row w e size none 0 0 [] := World.ownsRow_nil w 0 e size
theorem Row.len (h : Row w e size A n cap xs) : xs.length = n * size := h.1
theorem Row.fr (h : Row w e size A n cap xs) {S : List Nat} (hf : Fr S w w') (hd : ∀ b ∈ fpOf A, b ∉ S) : Row w' e size A n cap xs :=
  ownsRow_fr h hf (fun g hg => hd g (by cases A <;> simp_all [Value.ownBlock, fpOf]))
theorem Row.drew (h : Row w e size A n cap xs) : Row w.drew e size A n cap xs := h
theorem Row.drewN (h : Row w e size A n cap xs) (k : Nat) : Row (w.drewN k) e size A n cap xs := h
theorem Row.alloc (h : Row w e size A n cap xs) (o : Obj) : Row (w.alloc o) e size A n cap xs := World.ownsRow.alloc h o
theorem Row.lt (h : Row w e size A n cap xs) : ∀ b ∈ fpOf A, b < w.heap.size := fun b hb =>
  (World.ownsRow.lt h b (by cases A <;> simp_all [Value.ownBlock, fpOf])).2
theorem Row.far (h : Row w e size A n cap xs) {b o : Nat} {u : Value} (hb : b ∉ fpOf A) : Row (w.setCell ⟨b, o, none⟩ u) e size A n cap xs :=
  h.fr ((Fr.refl [b] w).setCell' (.inl (by simp))) (fun c hc => by simp; rintro rfl; exact hb hc)
/-- nil, or a whole block of which it is a beginning. -/
theorem Row.cases (h : Row w e size A n cap xs) : (A = none ∧ n = 0 ∧ cap = 0 ∧ xs = []) ∨
    ∃ g cur, A = some ⟨g, 0, none⟩ ∧ Blk w g e cur ∧ n ≤ cap ∧ cap ≤ maxLen ∧ cur.length = cap * size ∧ cur.take (n * size) = xs := by
  obtain ⟨h1, ⟨hv, h0⟩ | ⟨g, c, cur, hv, _, hg, h2, h3, h4, h5⟩⟩ := h
  · left
    injection hv with ha hn hc
    subst h0
    exact ⟨ha, rfl, hc, List.eq_nil_of_length_eq_zero (by simpa using h1)⟩
  · right
    injection hv with ha hn hc
    subst hc
    exact ⟨g, cur.toList, ha, by unfold Blk; simpa using hg, h2, h3, by simpa using h4, h5⟩
theorem Row.of_blk {g : Nat} {cur : List Value} (h : Blk w g e cur) (hn : n ≤ cap) (hc : cap ≤ maxLen) (hl : cur.length = cap * size) (ht : cur.take (n * size) = xs) : Row w e size (some ⟨g, 0, none⟩) n cap xs := by
  refine ⟨?_, .inr ⟨g, cap, cur.toArray, rfl, Nat.zero_le _, h, hn, hc, by simpa using hl, by simpa using ht⟩⟩
  rw [← ht, List.length_take, hl, Nat.min_eq_left (Nat.mul_le_mul_right _ hn)]
theorem Row.ne_blk (h : Row w e size A n cap xs) {g : Nat} {t : TypeId} {cs : List Value} (hb : Blk w g t cs) (ht : t ≠ e) : ∀ b ∈ fpOf A, b ≠ g := by
  rcases h.cases with ⟨rfl, _⟩ | ⟨g', cur, rfl, hg, _⟩
  · simp [fpOf]
  · simp only [fpOf, List.mem_singleton]
    rintro b rfl
    exact hg.ne hb (Ne.symm ht)
theorem Row.cell (h : Row w e size A n cap xs) {j : Nat} {u : Value} (hu : xs[j]? = some u) : ∃ g, A = some ⟨g, 0, none⟩ ∧ w.cell? ⟨g, j, none⟩ = some u := by
  rcases h.cases with ⟨rfl, _, _, rfl⟩ | ⟨g, cur, rfl, hg, _, _, _, ht⟩
  · simp at hu
  · refine ⟨g, rfl, hg.cell' ?_⟩
    rw [← ht, List.getElem?_take] at hu
    split at hu
    · exact hu
    · cases hu
end

/-- A slice that reads as these cells, wherever it lies (nil let in). -/
def Rds (w : World) (A : Option Addr) (xs : List Value) : Prop := xs ≠ [] → ∃ b o, A = some ⟨b, o, none⟩ ∧ ∀ j u, xs[j]? = some u → w.cell? ⟨b, o + j, none⟩ = some u

section
variable {w w' : World} {e : TypeId} {size : Nat} {A : Option Addr} {n cap : Nat} {xs : List Value}
theorem Rds.nil (w : World) (A : Option Addr) : Rds w A [] := fun h => absurd rfl h
theorem Rds.fr (h : Rds w A xs) {S : List Nat} (hf : Fr S w w') (hd : ∀ b ∈ fpOf A, b ∉ S) : Rds w' A xs := fun hx => by
  obtain ⟨b, o, rfl, hc⟩ := h hx
  exact ⟨b, o, rfl, fun j u hu => hf.cell (hd b (by simp [fpOf])) (hc j u hu)⟩
theorem Rds.drew (h : Rds w A xs) : Rds w.drew A xs := h
theorem Rds.drewN (h : Rds w A xs) (k : Nat) : Rds (w.drewN k) A xs := h
theorem Rds.lt (h : Rds w A xs) (hx : xs ≠ []) : ∀ b ∈ fpOf A, b < w.heap.size := by
  obtain ⟨b, o, rfl, hc⟩ := h hx
  obtain ⟨u, r, rfl⟩ : ∃ u r, xs = u :: r := by cases xs <;> simp_all
  intro c hcm
  simp only [fpOf, List.mem_singleton] at hcm
  rw [hcm]
  exact World.block_lt_of_cell? w ⟨b, o + 0, none⟩ (hc 0 u rfl)
theorem Row.rds (h : Row w e size A n cap xs) : Rds w A xs := fun hx => by
  rcases h.cases with ⟨_, _, _, rfl⟩ | ⟨g, cur, rfl, hg, _, _, _, ht⟩
  · exact absurd rfl hx
  · refine ⟨g, 0, rfl, fun j u hu => ?_⟩
    obtain ⟨g', hA, hc⟩ := h.cell hu
    simp only [Option.some.injEq, Addr.mk.injEq] at hA
    rw [Nat.zero_add, hA.1]; exact hc
theorem Rds.src (h : Rds w A xs) {m : Nat} (hs : 0 < size) (hl : xs.length = m * size) : 0 < m → ∃ ad, A = some ad ∧ ∀ j u, xs[j]? = some u → w.cell? (ad.add j) = some u := fun hm => by
  obtain ⟨b, o, rfl, hc⟩ := h (by
    rintro rfl
    have := Nat.mul_pos hm hs
    simp at hl; omega)
  exact ⟨_, rfl, fun j u hu => by rw [addr_add]; exact hc j u hu⟩
end

section
variable {P : Program}

theorem run_append2 (w : World) (t ty e : TypeId) (i : TypeInfo) (z : Value) (size bytes : Nat) (ht : P.underlying t = some (.slice e)) (hi : P.info? e = some i) (hz : i.zero = some z)
    (hsize : i.size = size) (hby : i.bytes = bytes) (hzs : z.cells.size = size) (hsz : 0 < size)
    (A : Option Addr) (n cap : Nat) (xs : List Value) (hown : Row w e size A n cap xs)
    (sp : Option Addr) (m c : Nat) (news : List Value) (hl : news.length = m * size) (hnews : 0 < m → ∃ ad, sp = some ad ∧ ∀ j u, news[j]? = some u → w.cell? (ad.add j) = some u) (h1 : ∀ u ∈ news, u.oneCell' = true)
    (h63 : n + m ≤ maxLen) (hbytes : (n + m) * bytes ≤ 140737488355328) :
    ∃ A' cap' w', (Builtin.append_ #[t, t] ty #[.slice A n cap, .slice sp m c]).run P w = .ok (.slice A' (n + m) cap') w' ∧ Row w' e size A' (n + m) cap' (xs ++ news) ∧ Fr (fpOf A) w w' ∧
      (∀ b ∈ fpOf A', b ∈ fpOf A ∨ w.heap.size ≤ b) ∧ (A' = none ↔ A = none ∧ m = 0) := by
  by_cases hm : m = 0
  · subst hm
    obtain rfl : news = [] := List.eq_nil_of_length_eq_zero (by simpa using hl)
    refine ⟨A, cap, w, ?_, by simpa using hown, Fr.refl _ _, fun b hb => .inl hb, by simp⟩
    have hnc : n ≤ cap := by
      rcases hown.cases with ⟨_, rfl, rfl, _⟩ | ⟨_, _, _, _, h, _⟩ <;> omega
    have hf : (Builtin.firstCells i.size 0 (.slice sp 0 c)).run P w = .ok #[] w := by
      cases sp <;> simp [Builtin.firstCells, loadCells, loadCellsFrom]
    cases A <;> simp [Builtin.append_, run_underlying ht, sizeOf, typeInfo, hi, Builtin.lenOf, hnc, hf, storeCells]
  · obtain ⟨ad, rfl, hc⟩ := hnews (by omega)
    obtain ⟨v', w', hr, h2, h3, h4⟩ := run_append_own (P := P) w 0 t ty e i z size bytes ht hi hz hsize hby hzs hsz (.slice A n cap) n xs hown ad m c news hl hc h1 h63 hbytes (Nat.zero_le _)
    have hs2 := h2.2
    have key : ∃ A' cap', v' = .slice A' (n + m) cap' := by
      rcases hs2 with ⟨_, h0⟩ | ⟨g, cap', cur, hv, _⟩
      · omega
      · exact ⟨_, _, hv⟩
    obtain ⟨A', cap', rfl⟩ := key
    have hfp : Fr (fpOf A) w w' := (Fr.refl _ w).grown h3 (fun k hk => by cases A <;> simp_all [Value.ownBlock, fpOf])
    have hA' : A' ≠ none := by
      rintro rfl
      rcases hs2 with ⟨_, h0⟩ | ⟨g, cap', cur, hv, _⟩
      · omega
      · cases hv
    refine ⟨A', cap', w', hr, h2, hfp, ?_, by simp [hA', hm]⟩
    subst hsize hby
    rcases hown.cases with ⟨rfl, rfl, rfl, rfl⟩ | ⟨g, cur, rfl, hg, hnc, hcm, hcl, htk⟩
    · have hr2 := run_append_nil (P := P) w t ty e i z ht hi hz ad m c news hl hc (by omega) (by simp only [maxLen] at h63; omega) (by have hb := hbytes; simp only [Nat.zero_add] at hb; omega)
      rw [hr] at hr2
      injection hr2 with hv hw
      injection hv with ha
      rw [ha]
      simp [fpOf]
    · by_cases hroom : n + m ≤ cap
      · have hfit : n * i.size + news.length ≤ cur.toArray.size := by simp only [List.size_toArray]; rw [hl, hcl, ← Nat.add_mul]; exact Nat.mul_le_mul_right _ hroom
        have hr2 := run_append_room (P := P) w t ty e i ht hi g n cap cur.toArray hg ad m c news hl hc h1 hroom hfit
        rw [hr] at hr2
        injection hr2 with hv hw
        injection hv with ha
        rw [ha]
        simp [fpOf]
      · have holds : ∀ j u, xs[j]? = some u → w.cell? ((⟨g, 0, none⟩ : Addr).add j) = some u := World.ownsRow.cells hown (g := g) rfl
        have hr2 := run_append_grow (P := P) w t ty e i z ht hi hz ⟨g, 0, none⟩ n cap xs hown.1 holds ad m c news hl hc (by omega) (by simp only [maxLen] at h63; omega) (growslice_fits (by omega) hbytes)
        rw [hr] at hr2
        injection hr2 with hv hw
        injection hv with ha
        rw [ha]
        simp [fpOf]

theorem wp_append2 {o : Oper} {a : Act} {w : World} {K : Act → World → Prop} {Q : Exit → Act → World → Prop} (s x : Operand) (t : TypeId)
    (ho : o.op = .call { callee := .builtin .append, args := #[s, x], argTypes := #[t, t] })
    (e : TypeId) (i : TypeInfo) (z : Value) (size bytes : Nat) (ht : P.underlying t = some (.slice e)) (hi : P.info? e = some i) (hz : i.zero = some z)
    (hsize : i.size = size) (hby : i.bytes = bytes) (hzs : z.cells.size = size) (hsz : 0 < size)
    (A : Option Addr) (n cap : Nat) (xs : List Value) (hs : a.eval s = .slice A n cap) (hown : Row w e size A n cap xs)
    (sp : Option Addr) (m c : Nat) (news : List Value) (hx : a.eval x = .slice sp m c) (hl : news.length = m * size) (hnews : 0 < m → ∃ ad, sp = some ad ∧ ∀ j u, news[j]? = some u → w.cell? (ad.add j) = some u) (h1 : ∀ u ∈ news, u.oneCell' = true)
    (h63 : n + m ≤ maxLen) (hbytes : (n + m) * bytes ≤ 140737488355328)
    (h : ∀ A' cap' w', Row w' e size A' (n + m) cap' (xs ++ news) → Fr (fpOf A) w w' → (∀ b ∈ fpOf A', b ∈ fpOf A ∨ w.heap.size ≤ b) → Hid (A' = none ↔ A = none ∧ m = 0) → K (a.put o.dst (.slice A' (n + m) cap')) w') : o.wp P a w K Q := by
  obtain ⟨A', cap', w', hr, h2, h3, h4, h5⟩ := run_append2 (P := P) w t o.type e i z size bytes ht hi hz hsize hby hzs hsz A n cap xs hown sp m c news hl hnews h1 h63 hbytes
  unfold Oper.wp execOp
  simp only [ho, resolve, invoke, builtin, Sem.run_bind, Sem.run_pure, Result.andThen_ok, List.map_toArray, List.map_cons, List.map_nil, hs, hx, hr]
  exact h A' cap' w' h2 h3 h4 h5

theorem wpList_append2 {w : World} {ops : Array Oper} {rest : List Oper} {o : Oper} {a : Act} {Q : Exit → Act → World → Prop} (hgd : o.guard = none) (s x : Operand) (t : TypeId)
    (ho : o.op = .call { callee := .builtin .append, args := #[s, x], argTypes := #[t, t] })
    (e : TypeId) (i : TypeInfo) (z : Value) (size bytes : Nat) (ht : P.underlying t = some (.slice e)) (hi : P.info? e = some i) (hz : i.zero = some z)
    (hsize : i.size = size) (hby : i.bytes = bytes) (hzs : z.cells.size = size) (hsz : 0 < size)
    (A : Option Addr) (n cap : Nat) (xs : List Value) (hs : a.eval s = .slice A n cap) (hown : Row w e size A n cap xs)
    (sp : Option Addr) (m c : Nat) (news : List Value) (hx : a.eval x = .slice sp m c) (hl : news.length = m * size) (hnews : 0 < m → ∃ ad, sp = some ad ∧ ∀ j u, news[j]? = some u → w.cell? (ad.add j) = some u) (h1 : ∀ u ∈ news, u.oneCell' = true)
    (h63 : n + m ≤ maxLen) (hbytes : (n + m) * bytes ≤ 140737488355328)
    (h : ∀ A' cap' w', Row w' e size A' (n + m) cap' (xs ++ news) → Fr (fpOf A) w w' → (∀ b ∈ fpOf A', b ∈ fpOf A ∨ w.heap.size ≤ b) → Hid (A' = none ↔ A = none ∧ m = 0) → wpList P ops Q rest (a.put o.dst (.slice A' (n + m) cap')) w') :
    wpList P ops Q (o :: rest) a w :=
  wpList_plain hgd fun _ hK => wp_append2 s x t ho e i z size bytes ht hi hz hsize hby hzs hsz A n cap xs hs hown sp m c news hx hl hnews h1 h63 hbytes fun A' cap' w' r1 r2 r3 r4 => hK _ _ (h A' cap' w' r1 r2 r3 r4)

theorem step_append2 {w : World} {ops : Array Oper} {o : Oper} {a : Act} {K : Act → World → Prop} {Q : Exit → Act → World → Prop} {E : Prop} (hgd : o.guard = none) (s x : Operand) (t : TypeId)
    (ho : o.op = .call { callee := .builtin .append, args := #[s, x], argTypes := #[t, t] })
    (e : TypeId) (i : TypeInfo) (z : Value) (size bytes : Nat) (ht : P.underlying t = some (.slice e)) (hi : P.info? e = some i) (hz : i.zero = some z)
    (hsize : i.size = size) (hby : i.bytes = bytes) (hzs : z.cells.size = size) (hsz : 0 < size)
    (A : Option Addr) (n cap : Nat) (xs : List Value) (hs : a.eval s = .slice A n cap) (hown : Row w e size A n cap xs)
    (sp : Option Addr) (m c : Nat) (news : List Value) (hx : a.eval x = .slice sp m c) (hl : news.length = m * size) (hnews : 0 < m → ∃ ad, sp = some ad ∧ ∀ j u, news[j]? = some u → w.cell? (ad.add j) = some u) (h1 : ∀ u ∈ news, u.oneCell' = true)
    (h63 : n + m ≤ maxLen) (hbytes : (n + m) * bytes ≤ 140737488355328)
    (h : ∀ A' cap' w', Row w' e size A' (n + m) cap' (xs ++ news) → Fr (fpOf A) w w' → (∀ b ∈ fpOf A', b ∈ fpOf A ∨ w.heap.size ≤ b) → Hid (A' = none ↔ A = none ∧ m = 0) → K (a.put o.dst (.slice A' (n + m) cap')) w') :
    if Region.wanted o (yielded ops a.tmps) = true then Oper.wp P o a w K Q else E := by
  have hw : Region.wanted o (yielded ops a.tmps) = true := by simp [Region.wanted, hgd]
  rw [if_pos hw]
  exact wp_append2 s x t ho e i z size bytes ht hi hz hsize hby hzs hsz A n cap xs hs hown sp m c news hx hl hnews h1 h63 hbytes h

theorem made_list (zs : List Value) (n : Nat) : madeCells zs.toArray (n * zs.length) = (List.replicate n zs).flatten.toArray := by
  apply Array.ext'
  simp only [madeCells, Array.toList_map, Array.toList_range]
  induction n with
  | zero => simp
  | succ n ih =>
    rw [List.replicate_succ', List.flatten_append, Nat.succ_mul, List.range_add, List.map_append, ih, List.map_map]
    congr 1
    simp only [List.flatten_cons, List.flatten_nil, List.append_nil]
    apply List.ext_getElem (by simp)
    intro k h1 h2
    simp only [List.getElem_map, List.getElem_range, Function.comp_apply, List.size_toArray]
    have hk : (n * zs.length + k) % zs.length = k := by
      rw [Nat.mul_comm, Nat.mul_add_mod]; exact Nat.mod_eq_of_lt h2
    rw [hk]
    simp [h2]

/-- make([]T, n): the zero elements, cell by cell, in a new block. -/
theorem run_make2 (t e : TypeId) (i : TypeInfo) (z : Value) (zs : List Value) (ht : P.underlying t = some (.slice e)) (hi : P.info? e = some i) (hz : i.zero = some z) (hzs : z.cells = zs.toArray) (hs : i.size = zs.length)
    (kl kc : IntKind) (n : Nat) (hb : i.bytes * n ≤ 281474976710656) (h63 : (n : Int) ≤ 9223372036854775807) (w : World) :
    (Instr.makeSlice t (.int kl (n : Int)) (.int kc (n : Int))).run P w = .ok (.slice (some ⟨w.heap.size, 0, none⟩) n n) (w.alloc (.cells (List.replicate n zs).flatten.toArray e)) := by
  have hb' : (i.bytes : Int) * (n : Int) ≤ 281474976710656 := by
    have h : ((i.bytes * n : Nat) : Int) ≤ 281474976710656 := by omega
    rwa [Int.natCast_mul] at h
  have hr := run_make (P := P) w t e i z ht hi hz kl kc n n (by omega) (Int.le_refl _) hb' h63
  simp only [Int.toNat_natCast] at hr
  rw [hr, hzs, hs, made_list zs n]

/-- copy onto the beginning of a block of one's own. -/
theorem run_copy2 (w : World) (dT sT ty elem : TypeId) (i : TypeInfo) (g dLen dCap : Nat) (sp : Option Addr) (sLen sCap : Nat) (cur : List Value) (t : TypeId) (cs : List Value)
    (hu : P.underlying dT = some (.slice elem)) (hi : P.info? elem = some i)
    (hg : Blk w g t cur) (hn : cs.length = Nat.min sLen dLen * i.size)
    (hsrc : 0 < cs.length → ∃ ad, sp = some ad ∧ ∀ j v, cs[j]? = some v → w.cell? (ad.add j) = some v) (hfit : cs.length ≤ cur.length) (h1 : ∀ v ∈ cs, v.oneCell' = true) :
    ∃ w', (Builtin.copy_ #[dT, sT] ty #[.slice (some ⟨g, 0, none⟩) dLen dCap, .slice sp sLen sCap]).run P w = .ok (goInt (Nat.min sLen dLen)) w' ∧ Blk w' g t (cs ++ cur.drop cs.length) ∧ Fr [g] w w' := by
  have hf : (Builtin.firstCells i.size (Nat.min sLen dLen) (.slice sp sLen sCap)).run P w = .ok cs.toArray w := by
    by_cases h0 : cs.length = 0
    · obtain rfl : cs = [] := List.eq_nil_of_length_eq_zero h0
      have hz : Nat.min sLen dLen * i.size = 0 := by simpa using hn.symm
      cases sp <;> simp [Builtin.firstCells, loadCells, hz, loadCellsFrom]
    · obtain ⟨ad, rfl, hc⟩ := hsrc (by omega)
      exact run_firstCells_some (P := P) w i.size _ ad sLen sCap cs hn hc
  have hst := run_storeCells_at P g 0 t cs 0 cur.toArray w hg (by simpa using hfit) h1
  simp only [Nat.add_zero, Nat.zero_add, List.take_zero, List.nil_append] at hst
  refine ⟨w.setRow g (cs ++ cur.drop cs.length).toArray, ?_, ?_, ?_⟩
  · simp [Builtin.copy_, run_underlying hu, Builtin.lenOf, sizeOf, typeInfo, hi, hf, hst]
  · exact setRow_heap w g cur.toArray _ t _ hg
  · exact ⟨rfl, rfl, rfl, by simp [World.setRow], fun k _ hk => setRow_other w g k _ (by simpa using hk)⟩

theorem step_copy2 {w : World} {ops : Array Oper} {o : Oper} {a : Act} {K : Act → World → Prop} {Q : Exit → Act → World → Prop} {E : Prop} (hgd : o.guard = none) (d s : Operand) (dT sT : TypeId)
    (ho : o.op = .call { callee := .builtin .copy, args := #[d, s], argTypes := #[dT, sT] }) (elem : TypeId) (i : TypeInfo) (hu : P.underlying dT = some (.slice elem)) (hi : P.info? elem = some i)
    (sp : Option Addr) (dLen dCap sLen sCap : Nat) (g : Nat) (hd : a.eval d = .slice (some ⟨g, 0, none⟩) dLen dCap) (hs : a.eval s = .slice sp sLen sCap)
    (cur : List Value) (t : TypeId) (hg : Blk w g t cur) (cs : List Value) (hn : cs.length = Nat.min sLen dLen * i.size)
    (hsrc : 0 < cs.length → ∃ ad, sp = some ad ∧ ∀ j v, cs[j]? = some v → w.cell? (ad.add j) = some v) (hfit : cs.length ≤ cur.length) (h1 : ∀ v ∈ cs, v.oneCell' = true)
    (h : ∀ w', Blk w' g t (cs ++ cur.drop cs.length) → Fr [g] w w' → K (a.put o.dst (goInt (Nat.min sLen dLen))) w') :
    if Region.wanted o (yielded ops a.tmps) = true then Oper.wp P o a w K Q else E := by
  have hw : Region.wanted o (yielded ops a.tmps) = true := by simp [Region.wanted, hgd]
  rw [if_pos hw]
  obtain ⟨w', hr, h2, h3⟩ := run_copy2 (P := P) w dT sT o.type elem i g dLen dCap sp sLen sCap cur t cs hu hi hg hn hsrc hfit h1
  unfold Oper.wp execOp
  simp only [ho, resolve, invoke, builtin, Sem.run_bind, Sem.run_pure, Result.andThen_ok, List.map_toArray, List.map_cons, List.map_nil, hd, hs, hr]
  exact h w' h2 h3

theorem wpList_copy2 {w : World} {ops : Array Oper} {rest : List Oper} {o : Oper} {a : Act} {Q : Exit → Act → World → Prop} (hgd : o.guard = none) (d s : Operand) (dT sT : TypeId)
    (ho : o.op = .call { callee := .builtin .copy, args := #[d, s], argTypes := #[dT, sT] }) (elem : TypeId) (i : TypeInfo) (hu : P.underlying dT = some (.slice elem)) (hi : P.info? elem = some i)
    (sp : Option Addr) (dLen dCap sLen sCap : Nat) (g : Nat) (hd : a.eval d = .slice (some ⟨g, 0, none⟩) dLen dCap) (hs : a.eval s = .slice sp sLen sCap)
    (cur : List Value) (t : TypeId) (hg : Blk w g t cur) (cs : List Value) (hn : cs.length = Nat.min sLen dLen * i.size)
    (hsrc : 0 < cs.length → ∃ ad, sp = some ad ∧ ∀ j v, cs[j]? = some v → w.cell? (ad.add j) = some v) (hfit : cs.length ≤ cur.length) (h1 : ∀ v ∈ cs, v.oneCell' = true)
    (h : ∀ w', Blk w' g t (cs ++ cur.drop cs.length) → Fr [g] w w' → wpList P ops Q rest (a.put o.dst (goInt (Nat.min sLen dLen))) w') :
    wpList P ops Q (o :: rest) a w := by
  refine wpList_plain hgd fun K hK => ?_
  obtain ⟨w', hr, h2, h3⟩ := run_copy2 (P := P) w dT sT o.type elem i g dLen dCap sp sLen sCap cur t cs hu hi hg hn hsrc hfit h1
  unfold Oper.wp execOp
  simp only [ho, resolve, invoke, builtin, Sem.run_bind, Sem.run_pure, Result.andThen_ok, List.map_toArray, List.map_cons, List.map_nil, hd, hs, hr]
  exact hK _ _ (h w' h2 h3)
end

end Go.Proofs.Ytaicpgkoailnkaa
