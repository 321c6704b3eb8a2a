/- From a walk that leaves what came in as it lay to a law's statement, over any program; a slice opened to a list of things. No statement of a law stands here. -/
import Derived.WalkKit
import Derived.ProofKit
import Derived.OpenShut
import Derived.SizedLaws
import Derived.Carry
import Derived.Below
import Derived.ChangeSame
import Derived.Deep.Slices
import Derived.Test.YtaicpgkoailnkaaOwn
namespace Go.Proofs.Ytaicpgkoailnkaa
open Go.ChangeShapes Go.WideShapes Go.ChangeAt Go.RowKit Go.Deep

section
variable {H : Type} {enc : TypeId × Value → H} {P : Program}

/-- What came in reads as it read, wherever all that lay lies as it lay. -/
theorem trodAll_below (hl : laidOutB P = true) {W W' : World} (hb : Below W.heap.size W W') : ∀ {ts : List TypeId} {vs : List Value} {ds : List (DataW H)} {ps : List MemPlace},
    (∀ t ∈ ts, P.readableRec t = true ∧ t < P.types.size) → DataW.TrodAll enc P W 0 (fun _ => true) true ts vs ds ps → (∀ x ∈ ps, x.block < W.heap.size) → DataW.TrodAll enc P W' 0 (fun b => decide (b < W.heap.size)) true ts vs ds ps := by
  intro ts
  induction ts with
  | nil =>
    intro vs ds ps _ h _
    obtain ⟨rfl, rfl, rfl⟩ := trodAll_nil h
    exact trodAll_mk0
  | cons t ts ih =>
    intro vs ds ps hr h hlt
    obtain ⟨v, vs', d, ds', p, q, rfl, rfl, rfl, h0, h1⟩ := trodAll_cons h
    obtain ⟨r1, r2⟩ := hr t (by simp)
    exact trodAll_cons_mk (Below.trod hl r1 r2 h0 hb (fun x hx => hlt x (by simp [hx]))) (ih (fun t ht => hr t (by simp [ht])) h1 (fun x hx => hlt x (by simp [hx])))

/-- A law's last step: it has handed back true, and all that lay lies as it lay. -/
theorem post_law {f : Func} {s : ChangeSpec} {apart fresh handsOn : Bool} {W W' : World} {args : Array Value} {ds gs : List (DataW H)} {before : List MemPlace} {tb : TypeId}
    (hl : laidOutB P = true) (hp : ∀ t ∈ f.params.toList, P.readableRec t = true ∧ t < P.types.size) (hr : f.resultTypes = #[tb]) (hub : P.underlying tb = some .bool) (hv : s.vars = [])
    (hres : (s.fn H (ds ++ gs)).results = [.lit (.bool true)]) (harg : (s.fn H (ds ++ gs)).args = ds) (hvar : (s.fn H (ds ++ gs)).vars = [])
    (hW : DataW.Whole enc P f.params.toList s.vars apart W args.toList ds gs before) (hb : Below W.heap.size W W') :
    s.post enc P f apart fresh handsOn false W args (.bool true) W' := by
  obtain ⟨pa, pv, h1, h2, hps, hz, hn⟩ := id hW
  have hlt : ∀ p ∈ before, p.block < W.heap.size := fun p hp => hW.lt p hp
  have hv2 := h2
  rw [hv] at hv2
  obtain ⟨rfl, rfl⟩ := trodVars_none hv2
  refine ⟨ds, [], before, [], pa, [], hW, ?_, ?_, ?_, World.keptBut_mono (fun p hp => ⟨hp, ?_⟩) (hb.frame (· ∈ before)), fun h => by cases h⟩
  · rw [hres, hr]
    exact trodAll_mk1 (shut_bool hub _)
  · rw [harg]
    exact trodAll_below hl hb hp h1 (fun x hx => hlt x (by rw [hps]; simp [hx]))
  · rw [hvar, hv]; rfl
  · rw [hps] at hp
    simpa using hp
end

/-- Of each index a thing: a list of them. -/
theorem list_of {α : Type} (R : Nat → α → Prop) : ∀ (n : Nat), (∀ i, i < n → ∃ a, R i a) → ∃ l : List α, l.length = n ∧ ∀ (i : Nat) (a : α), l[i]? = some a → R i a
  | 0, _ => ⟨[], rfl, fun i a h => by simp at h⟩
  | n + 1, h => by
    obtain ⟨l, hl, hr⟩ := list_of R n (fun i hi => h i (by omega))
    obtain ⟨a, ha⟩ := h n (by omega)
    refine ⟨l ++ [a], by simp [hl], fun i x hx => ?_⟩
    by_cases hi : i < n
    · rw [List.getElem?_append_left (by omega)] at hx; exact hr i x hx
    · by_cases he : i = n
      · subst he
        rw [List.getElem?_append_right (by omega), hl] at hx
        simp at hx; subst hx; exact ha
      · rw [List.getElem?_eq_none (by simp [hl]; omega)] at hx; cases hx

theorem mem_get {α : Type} {l : List α} {a : α} (h : a ∈ l) : ∃ i : Nat, l[i]? = some a := by
  obtain ⟨i, hi, rfl⟩ := List.getElem_of_mem h
  exact ⟨i, List.getElem?_eq_getElem hi⟩

/-- Things that lie one behind the other, each of so many cells: the cells, all. -/
theorem rds_of {α : Type} {w : World} {a : Addr} {size : Nat} (hs : 0 < size) (cells : α → List Value) (hc : ∀ x, (cells x).length = size) (M : List α)
    (h : ∀ (i : Nat) (x : α), M[i]? = some x → ∀ j, j < size → w.cell? ((a.add (i * size)).add j) = (cells x)[j]?) : Rds w (some a) (M.flatMap cells) := by
  intro hne
  obtain ⟨b, o, s⟩ := a
  have hM : M ≠ [] := fun h => hne (by simp [h])
  obtain ⟨x0, hx0⟩ : ∃ x, M[0]? = some x := by
    cases M with
    | nil => exact absurd rfl hM
    | cons x r => exact ⟨x, rfl⟩
  have h0 := h 0 x0 hx0 0 hs
  rw [Nat.zero_mul] at h0
  have hs0 : s = none := by
    cases s with
    | none => rfl
    | some q =>
      have : ((⟨b, o, some q⟩ : Addr).add 0).add 0 = ⟨b, o, some q⟩ := rfl
      rw [this] at h0
      have hlen : 0 < (cells x0).length := by rw [hc]; exact hs
      rw [List.getElem?_eq_getElem hlen] at h0
      unfold World.cell? at h0
      split at h0 <;> simp at h0
  subst hs0
  refine ⟨b, o, rfl, fun j u hu => ?_⟩
  have hlen : ∀ (l : List α), (l.flatMap cells).length = l.length * size := by
    intro l
    induction l with
    | nil => simp
    | cons y l ih => simp only [List.flatMap_cons, List.length_append, hc, ih, List.length_cons]; rw [Nat.succ_mul]; omega
  have hget : ∀ (l : List α) (i j : Nat) (x : α), l[i]? = some x → j < size → (l.flatMap cells)[i * size + j]? = (cells x)[j]? := by
    intro l
    induction l with
    | nil => intro i j x hx; simp at hx
    | cons y l ih =>
      intro i j x hx hj
      rw [List.flatMap_cons]
      cases i with
      | zero =>
        simp at hx; subst hx
        rw [List.getElem?_append_left (by rw [hc]; omega)]; simp
      | succ i =>
        rw [List.getElem?_append_right (by rw [hc, Nat.succ_mul]; omega), hc, Nat.succ_mul]
        rw [show i * size + size + j - size = i * size + j by omega]
        exact ih i j x (by simpa using hx) hj
  have hjl : j < M.length * size := by rw [← hlen]; exact (List.getElem?_eq_some_iff.1 hu).1
  have hi : j / size < M.length := Nat.div_lt_of_lt_mul (by rw [Nat.mul_comm]; exact hjl)
  have hjd : j / size * size + j % size = j := by rw [Nat.mul_comm]; exact Nat.div_add_mod j size
  have hx := List.getElem?_eq_getElem hi
  have hm := Nat.mod_lt j hs
  have h2 := h _ _ hx _ hm
  rw [addr_add, addr_add, Nat.add_assoc, hjd] at h2
  rw [h2, ← hget M _ _ _ hx hm, hjd]
  exact hu

section
variable {H : Type} {P : Program}
theorem weightsAll_mem {e : TypeId} {d : DataW H} {n : Nat} (hn : n ∈ d.weights P e) : ∀ {l : List (DataW H)}, d ∈ l → n ∈ DataW.weightsAll P e l
  | x :: r, h => by
    rw [DataW.weightsAll, List.mem_append]
    rcases List.mem_cons.1 h with rfl | h
    · exact .inl hn
    · exact .inr (weightsAll_mem hn h)
theorem weights_slice {t e : TypeId} {elems spare : List (DataW H)} (ht : P.underlying t = some (.slice e)) : DataW.weights P t (.slice elems spare) = (elems.length + spare.length) * P.bytesOf e :: (DataW.weightsAll P e elems ++ DataW.weightsAll P e spare) := by
  rw [DataW.weights, ht]
theorem weights_elem {t e : TypeId} {elems spare : List (DataW H)} {d : DataW H} {n : Nat} (ht : P.underlying t = some (.slice e)) (hd : d ∈ elems) (hn : n ∈ d.weights P e) : n ∈ DataW.weights P t (.slice elems spare) := by
  rw [weights_slice ht]
  exact List.mem_cons_of_mem _ (List.mem_append.2 (.inl (weightsAll_mem hn hd)))
theorem weights_part {t : TypeId} {fs : Array Field} {parts : List (DataW H)} {j : Nat} {f : Field} {d : DataW H} {n : Nat} (ht : P.underlying t = some (.struct fs)) (hf : fs[j]? = some f) (hd : parts[j]? = some d) (hn : n ∈ d.weights P f.type) : n ∈ DataW.weights P t (.agg parts) := by
  rw [DataW.weights, ht]
  exact DataW.weights_mem_each (j := j) (by simp [hf]) hd n hn
end
end Go.Proofs.Ytaicpgkoailnkaa
