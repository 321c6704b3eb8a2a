/- As XRangeV, but a round may write what was made for it: the iterator's contract IterW, and the loop's laws. No statement of a law stands here. -/
import Derived.Test.YtaicpgkoailnkaaRangeV
namespace Go.Proofs.Ytaicpgkoailnkaa
open Go.RowKit

/-- The blocks that were made between two worlds. -/
def made (A W : World) : List Nat := List.range' A.heap.size (W.heap.size - A.heap.size)
theorem made_mem {A W : World} {x : Nat} : x ∈ made A W ↔ A.heap.size ≤ x ∧ x < A.heap.size + (W.heap.size - A.heap.size) := by
  unfold made
  rw [List.mem_range'_1]
theorem made_off {A W : World} {F : List Nat} {x : Nat} (h : x ∉ F) (hx : x < A.heap.size) : x ∉ F ++ made A W := fun hm => by
  rcases List.mem_append.1 hm with hm | hm
  · exact h hm
  · have := (made_mem.1 hm).1; omega
theorem Kept.made {F : List Nat} {A W B : World} (hf : Fr [] A W) (h : Kept (F ++ made A W) W B) : Kept F A B :=
  ⟨Nat.le_trans hf.size h.size, fun k o ho hc hF => h.cells k o (hf.obj (by simp) ho) hc (made_off hF (Array.getElem?_eq_some_iff.1 ho).1)⟩
theorem made_sub {F F' : List Nat} {A W : World} (hf : Fr [] A W) (h : ∀ b ∈ F', b ∈ F ++ made A W ∨ W.heap.size ≤ b) : ∀ b ∈ F', b ∈ F ∨ A.heap.size ≤ b := fun b hb => by
  rcases h b hb with h | h
  · rcases List.mem_append.1 h with h | h
    · exact .inl h
    · exact .inr (made_mem.1 h).1
  · have := hf.size; right; omega
/-- As IterV, but a round may write what was made for it, too: what is given belongs to it. -/
def IterW (P : Program) (gf : Nat) (lb : Array Value) (N : Nat) (V : Nat → Array Value → World → World → Prop) (w0 : World) (E : World → World → Prop) (R : List Nat) : Prop :=
  ∀ (l : Nat) (J : Nat → List Nat → World → Prop) (Jx : World → Prop) (W : World),
    NC w0.heap.size w0 W →
    (∀ k F A B, J k F A → Fr [] A B → J k F B) → (∀ A B, Jx A → Fr [] A B → Jx B) →
    (∀ (k : Nat) (F : List Nat) (A B : World) (xk : Array Value), k < N → J k F A → Fr [] A B → V k xk A B → YieldAt Fence.wide 0 P l xk B fun e C =>
      (e = .returned (.bool true) ∧ ∃ F', J (k + 1) F' C ∧ Kept F A C ∧ ∀ b ∈ F', b ∈ F ∨ A.heap.size ≤ b) ∨ (e = .returned (.bool false) ∧ Jx C)) →
    (∀ B, E W B → ∃ F, J 0 F B ∧ ∀ b ∈ F, b < W.heap.size ∧ b ∉ R) →
    CallsIn Fence.wide 0 P gf (#[.func (.yield l) #[] #[]] ++ lb) W fun e B => (∃ v, e = .returned v) ∧ ((∃ F, J N F B) ∨ Jx B)

section
variable {P : Program} {n : Nat} {g : Operand} {ps : Array Tmp} {assign body : Code} {Q : Exit → Act → World → Prop} {a : Act} {w : World}

/-- THE LOOP, OUTERMOST. -/
theorem range_outerW {gf : Nat} {lb : Array Value} (hg : a.eval g = .func (.func gf) #[] lb) (eg : ∀ args w, (callFunc gf args).run P w = .ok (.enter gf args) w)
    (N : Nat) (V : Nat → Array Value → World → World → Prop) (hps : ∀ k x A B, V k x A B → x.size = ps.size) (E : World → World → Prop) (hE : ∀ A B, E A B → ∀ (j : Nat) (o : Obj), A.heap[j]? = some o → o.isCells = false → B.heap[j]? = some o) {R : List Nat} (hit : IterW P gf lb N V w E R)
    (J : Nat → List Nat → World → Prop) (Jx : Code → World → Prop) (F0 : List Nat)
    (hJ : ∀ k F A B, J k F A → NC w.heap.size A B → J k F B) (hJx : ∀ c A B, Jx c A → NC w.heap.size A B → Jx c B)
    (h0 : ∀ A B, NC w.heap.size w A → E A B → J 0 F0 B) (hF0 : ∀ b ∈ F0, b < w.heap.size ∧ b ∉ R)
    (hround : ∀ (l k : Nat) (F : List Nat) (A W : World) (xk : Array Value), k < N → w.heap.size ≤ l → (∃ r, W.heap[l]? = some (.loop r)) → l ∉ F → J k F A → Fr [] A W → V k xk A W →
      assign.wpIn (Fence.wide.inRound l) 0 P (Exit.then (fun a1 W1 => Fr [] W W1 ∧ ∀ W2, NC w.heap.size W1 W2 → W1.heap.size = W2.heap.size → (∃ r, W2.heap[l]? = some (.loop r)) → body.wpIn (Fence.wide.inRound l) 0 P (roundOut (F ++ made A W) k J Jx W2) a1 W2) (fun _ _ _ => False))
        { tmps := (ps.zip xk).foldl (fun t (p, v) => t.setIfInBounds p v) a.tmps, defers := [] } W)
    (hdone : ∀ (D : Nat) (F : List Nat) (W : World), w.heap.size ≤ D → D ∉ F → J N F W → W.heap[D]? = some (.deferred (some [])) → Q .normal { a with defers := { target := .collected D, args := #[] } :: a.defers } W)
    (hstop : ∀ (D : Nat) (c : Code) (W : World), w.heap.size ≤ D → Jx c W → W.heap[D]? = some (.deferred (some [])) → c.wpIn Fence.wide n P Q { a with defers := { target := .collected D, args := #[] } :: a.defers } W) :
    (Code.rangeFunc g ps assign body).wpIn Fence.wide n P Q a w := by
  refine wpIn_rangeFunc ?_
  intro fn hfn
  obtain ⟨rec, hrec⟩ : ∃ rec : LoopState → Option Code → Loop, rec = fun st pe => { state := st, pending := pe, fn, tmps := a.tmps, params := ps, assign, body, defers := w.heap.size } := ⟨_, rfl⟩
  obtain ⟨W1, hW1⟩ : ∃ W1, (w.alloc (.deferred (some []))).alloc (.loop (rec .ready none)) = W1 := ⟨_, rfl⟩
  have hL1 : W1.heap[w.heap.size + 1]? = some (.loop (rec .ready none)) := by
    rw [← hW1]; have := World.alloc_heap_new (w.alloc (.deferred (some []))) (.loop (rec .ready none)); rwa [World.size_alloc] at this
  have hK1 : W1.heap[w.heap.size]? = some (.deferred (some [])) := by
    rw [← hW1]; exact (Below.heap_alloc _ _ _ (by simp)).trans (World.alloc_heap_new w _)
  have hf1 : Fr [] w W1 := by rw [← hW1]; exact ((Fr.refl [] w).alloc _).alloc _
  have hs1 : W1.heap.size = w.heap.size + 2 := by rw [← hW1]; simp
  refine ⟨w.heap.size + 1, [{ target := .collected w.heap.size, args := #[] }], W1, { target := .fn (.func gf) lb, args := #[.func (.yield (w.heap.size + 1)) #[] #[]] }, W1, gf,
    #[.func (.yield (w.heap.size + 1)) #[] #[]] ++ lb, W1, ?_, ?_, fun _ _ => trivial, ?_, fun h => by simp [Fence.wide] at h, ?_⟩
  · rw [← hW1, hrec]; exact run_enterLoop_outer _ _ _ _ _
  · simp only [resolve, hg]
    simp [go_sem]
  · simp [invoke, go_sem, eg]
  · have hr0 : ∀ st pe, (rec st pe).state = st ∧ (rec st pe).pending = pe ∧ (rec st pe).fn = fn ∧ (rec st pe).tmps = a.tmps ∧ (rec st pe).params = ps ∧ (rec st pe).assign = assign ∧ (rec st pe).body = body := by
      rw [hrec]; exact fun _ _ => ⟨rfl, rfl, rfl, rfl, rfl, rfl, rfl⟩
    have hr1 : ∀ st pe st' pe', ({ rec st pe with state := st', pending := pe' } : Loop) = rec st' pe' := by rw [hrec]; exact fun _ _ _ _ => rfl
    refine (callsIn_any (hit (w.heap.size + 1)
      (fun k F W => J k F W ∧ w.heap.size ∉ F ∧ w.heap.size + 1 ∉ F ∧ W.heap[w.heap.size + 1]? = some (.loop (rec .ready none)) ∧ W.heap[w.heap.size]? = some (.deferred (some [])))
      (fun W => ∃ c, Jx c W ∧ W.heap[w.heap.size + 1]? = some (.loop (rec .done (some c))) ∧ W.heap[w.heap.size]? = some (.deferred (some [])))
      W1 (NC.of_fr hf1)
      (fun k F A B hj hf => ⟨hJ _ _ _ _ hj.1 (NC.of_fr hf), hj.2.1, hj.2.2.1, hf.obj (by simp) hj.2.2.2.1, hf.obj (by simp) hj.2.2.2.2⟩)
      (fun A B hj hf => by obtain ⟨c, h1, h2, h3⟩ := hj; exact ⟨c, hJx _ _ _ h1 (NC.of_fr hf), hf.obj (by simp) h2, hf.obj (by simp) h3⟩)
      ?_ ?_)).mono ?_
    · rintro k F A W xk hk ⟨hj, hD, hl, hL0, hK0⟩ hfA hV
      have hL := hfA.obj (by simp) hL0
      have hK := hfA.obj (by simp) hK0
      obtain ⟨fn', tmps', as', bo', hy, hR⟩ := round_of (P := P) (m := 0) (xk := xk) (k := k) a.tmps hr0 hr1 hfn (Nat.le_succ _) hL (made_off hl (Array.getElem?_eq_some_iff.1 hL0).1) (hps _ _ _ _ hV) hJ hJx (hround _ k F A W xk hk (Nat.le_succ _) ⟨_, hL⟩ hl hj hfA hV)
      refine ⟨fn', tmps', as', bo', hy, hR.mono ?_⟩
      have hD' := made_off (W := W) hD (Array.getElem?_eq_some_iff.1 hK0).1
      have hl' := made_off (W := W) hl (Array.getElem?_eq_some_iff.1 hL0).1
      have hDs : w.heap.size < W.heap.size := (Array.getElem?_eq_some_iff.1 hK).1
      have hLs : w.heap.size + 1 < W.heap.size := (Array.getElem?_eq_some_iff.1 hL).1
      rintro e B (⟨rfl, hL2, F', hj2, hkept, hF', oth⟩ | ⟨rfl, c, hL2, hx, oth⟩)
      · exact .inl ⟨rfl, F', ⟨hj2, fun hm => (hF' _ hm).elim hD' (fun h => by omega), fun hm => (hF' _ hm).elim hl' (fun h => by omega), hL2, oth _ _ hD' (by omega) hK⟩, hkept.made hfA, made_sub hfA hF'⟩
      · exact .inr ⟨rfl, c, hx, hL2, oth _ _ hD' (by omega) hK⟩
    · intro B hB
      exact ⟨F0, ⟨h0 W1 B (NC.of_fr hf1) hB, fun hm => by have := (hF0 _ hm).1; omega, fun hm => by have := (hF0 _ hm).1; omega, hE _ _ hB _ _ hL1 rfl, hE _ _ hB _ _ hK1 rfl⟩, fun b hb => ⟨by have := (hF0 b hb).1; omega, (hF0 b hb).2⟩⟩
    · rintro e W2 ⟨⟨v, rfl⟩, (⟨F, hj, hD, hl, hL, hK⟩ | ⟨c, hx, hL, hK⟩)⟩
      · have hend := run_endLoop (P := P) hL (by rw [(hr0 _ _).1]; simp)
        rw [(hr0 _ _).2.1] at hend
        exact ⟨none, _, hend, hdone _ F _ (Nat.le_refl _) hD (hJ _ _ _ _ hj (NC.putObj (Nat.le_succ _) hL rfl)) ((World.putObj_heap_other (by omega)).trans hK)⟩
      · have hend := run_endLoop (P := P) hL (by rw [(hr0 _ _).1]; simp)
        rw [(hr0 _ _).2.1] at hend
        exact ⟨some c, _, hend, hstop _ c _ (Nat.le_refl _) (hJx _ _ _ hx (NC.putObj (Nat.le_succ _) hL rfl)) ((World.putObj_heap_other (by omega)).trans hK)⟩

/-- THE LOOP WITHIN A ROUND of loop l₀. -/
theorem range_innerW {l₀ : Nat} {r₀ : Loop} (hr₀ : w.heap[l₀]? = some (.loop r₀)) {gf : Nat} {lb : Array Value} (hg : a.eval g = .func (.func gf) #[] lb) (eg : ∀ args w, (callFunc gf args).run P w = .ok (.enter gf args) w)
    (N : Nat) (V : Nat → Array Value → World → World → Prop) (hps : ∀ k x A B, V k x A B → x.size = ps.size) (E : World → World → Prop) (hE : ∀ A B, E A B → ∀ (j : Nat) (o : Obj), A.heap[j]? = some o → o.isCells = false → B.heap[j]? = some o) {R : List Nat} (hit : IterW P gf lb N V w E R)
    (J : Nat → List Nat → World → Prop) (Jx : Code → World → Prop) (F0 : List Nat)
    (hJ : ∀ k F A B, J k F A → NC w.heap.size A B → J k F B) (hJx : ∀ c A B, Jx c A → NC w.heap.size A B → Jx c B)
    (h0 : ∀ A B, NC w.heap.size w A → E A B → J 0 F0 B) (hF0 : ∀ b ∈ F0, b < w.heap.size ∧ b ∉ R)
    (hround : ∀ (l k : Nat) (F : List Nat) (A W : World) (xk : Array Value), k < N → w.heap.size ≤ l → (∃ r, W.heap[l]? = some (.loop r)) → l ∉ F → J k F A → Fr [] A W → V k xk A W →
      assign.wpIn (Fence.wide.inRound l) 0 P (Exit.then (fun a1 W1 => Fr [] W W1 ∧ ∀ W2, NC w.heap.size W1 W2 → W1.heap.size = W2.heap.size → (∃ r, W2.heap[l]? = some (.loop r)) → body.wpIn (Fence.wide.inRound l) 0 P (roundOut (F ++ made A W) k J Jx W2) a1 W2) (fun _ _ _ => False))
        { tmps := (ps.zip xk).foldl (fun t (p, v) => t.setIfInBounds p v) a.tmps, defers := [] } W)
    (hdone : ∀ (F : List Nat) (W : World), J N F W → Q .normal a W)
    (hstop : ∀ (c : Code) (W : World), Jx c W → c.wpIn (Fence.wide.inRound l₀) n P Q a W) :
    (Code.rangeFunc g ps assign body).wpIn (Fence.wide.inRound l₀) n P Q a w := by
  refine wpIn_rangeFunc ?_
  intro fn hfn
  obtain ⟨rec, hrec⟩ : ∃ rec : LoopState → Option Code → Loop, rec = fun st pe => { state := st, pending := pe, fn, tmps := a.tmps, params := ps, assign, body, defers := r₀.defers } := ⟨_, rfl⟩
  obtain ⟨W1, hW1⟩ : ∃ W1, w.alloc (.loop (rec .ready none)) = W1 := ⟨_, rfl⟩
  have hL1 : W1.heap[w.heap.size]? = some (.loop (rec .ready none)) := by
    rw [← hW1]; exact World.alloc_heap_new w _
  have hf1 : Fr [] w W1 := by rw [← hW1]; exact (Fr.refl [] w).alloc _
  have hs1 : W1.heap.size = w.heap.size + 1 := by rw [← hW1]; simp
  refine ⟨w.heap.size, [], W1, { target := .fn (.func gf) lb, args := #[.func (.yield w.heap.size) #[] #[]] }, W1, gf,
    #[.func (.yield w.heap.size) #[] #[]] ++ lb, W1, ?_, ?_, fun _ _ => trivial, ?_, fun h => by simp [Fence.wide, Fence.inRound] at h, ?_⟩
  · rw [← hW1, hrec]; exact run_enterLoop_inner hr₀ _ _ _ _ _
  · simp only [resolve, hg]
    simp [go_sem]
  · simp [invoke, go_sem, eg]
  · have hr0 : ∀ st pe, (rec st pe).state = st ∧ (rec st pe).pending = pe ∧ (rec st pe).fn = fn ∧ (rec st pe).tmps = a.tmps ∧ (rec st pe).params = ps ∧ (rec st pe).assign = assign ∧ (rec st pe).body = body := by
      rw [hrec]; exact fun _ _ => ⟨rfl, rfl, rfl, rfl, rfl, rfl, rfl⟩
    have hr1 : ∀ st pe st' pe', ({ rec st pe with state := st', pending := pe' } : Loop) = rec st' pe' := by rw [hrec]; exact fun _ _ _ _ => rfl
    refine (CallsIn.inRound l₀ (callsIn_any (hit w.heap.size
      (fun k F W => J k F W ∧ w.heap.size ∉ F ∧ W.heap[w.heap.size]? = some (.loop (rec .ready none)))
      (fun W => ∃ c, Jx c W ∧ W.heap[w.heap.size]? = some (.loop (rec .done (some c))))
      W1 (NC.of_fr hf1)
      (fun k F A B hj hf => ⟨hJ _ _ _ _ hj.1 (NC.of_fr hf), hj.2.1, hf.obj (by simp) hj.2.2⟩)
      (fun A B hj hf => by obtain ⟨c, h1, h2⟩ := hj; exact ⟨c, hJx _ _ _ h1 (NC.of_fr hf), hf.obj (by simp) h2⟩)
      ?_ ?_))).mono ?_
    · rintro k F A W xk hk ⟨hj, hl, hL0⟩ hfA hV
      have hL := hfA.obj (by simp) hL0
      obtain ⟨fn', tmps', as', bo', hy, hR⟩ := round_of (P := P) (m := 0) (xk := xk) (k := k) a.tmps hr0 hr1 hfn (Nat.le_refl _) hL (made_off hl (Array.getElem?_eq_some_iff.1 hL0).1) (hps _ _ _ _ hV) hJ hJx (hround _ k F A W xk hk (Nat.le_refl _) ⟨_, hL⟩ hl hj hfA hV)
      refine ⟨fn', tmps', as', bo', hy, hR.mono ?_⟩
      have hl' := made_off (W := W) hl (Array.getElem?_eq_some_iff.1 hL0).1
      have hLs : w.heap.size < W.heap.size := (Array.getElem?_eq_some_iff.1 hL).1
      rintro e B (⟨rfl, hL2, F', hj2, hkept, hF', oth⟩ | ⟨rfl, c, hL2, hx, oth⟩)
      · exact .inl ⟨rfl, F', ⟨hj2, fun hm => (hF' _ hm).elim hl' (fun h => by omega), hL2⟩, hkept.made hfA, made_sub hfA hF'⟩
      · exact .inr ⟨rfl, c, hx, hL2⟩
    · intro B hB
      exact ⟨F0, ⟨h0 W1 B (NC.of_fr hf1) hB, fun hm => by have := (hF0 _ hm).1; omega, hE _ _ hB _ _ hL1 rfl⟩, fun b hb => ⟨by have := (hF0 b hb).1; omega, (hF0 b hb).2⟩⟩
    · rintro e W2 ⟨⟨v, rfl⟩, (⟨F, hj, hl, hL⟩ | ⟨c, hx, hL⟩)⟩
      · have hend := run_endLoop (P := P) hL (by rw [(hr0 _ _).1]; simp)
        rw [(hr0 _ _).2.1] at hend
        exact ⟨none, _, hend, hdone F _ (hJ _ _ _ _ hj (NC.putObj (Nat.le_refl _) hL rfl))⟩
      · have hend := run_endLoop (P := P) hL (by rw [(hr0 _ _).1]; simp)
        rw [(hr0 _ _).2.1] at hend
        exact ⟨some c, _, hend, hstop c _ (hJx _ _ _ hx (NC.putObj (Nat.le_refl _) hL rfl))⟩
end
end Go.Proofs.Ytaicpgkoailnkaa
