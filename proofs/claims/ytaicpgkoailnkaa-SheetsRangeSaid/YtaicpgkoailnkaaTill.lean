/- A region that draws its order and whose last operation waits for all the others, over any program: what is held need not hold behind that last one. No statement of a law stands here. -/
import Derived.Deep.RegionHeld3
import Derived.Test.YtaicpgkoailnkaaMem
import Derived.Test.YtaicpgkoailnkaaOwn
namespace Go.Proofs.Ytaicpgkoailnkaa
open Go.RowKit

section
variable {P : Program} {ops : Array Oper} {Q : Exit → Act → World → Prop} {md : Region.Mode} {S : World → Prop} {L : Nat}

/-- Whatever order is picked, and S holds behind every operation but number L. -/
def wpAnyT (P : Program) (md : Region.Mode) (ops : Array Oper) (Q : Exit → Act → World → Prop) (S : World → Prop) (L : Nat) : Nat → Array Bool → Act → World → Prop
  | 0, listed, a, w => Region.ready md ops listed = [] ∧ Q .normal a w
  | fuel + 1, listed, a, w =>
    (Region.ready md ops listed = [] → Q .normal a w) ∧
    ∀ i ∈ Region.ready md ops listed, wpOp P ops Q i (fun a' w' => (i ≠ L → S w') ∧ wpAnyT P md ops Q S L fuel (listed.setIfInBounds i true) a' w') a w

theorem wpAny_of_till : ∀ (fuel : Nat) (listed : Array Bool) (a : Act) (w : World), wpAnyT P md ops Q S L fuel listed a w → wpAny P md ops Q fuel listed a w
  | 0, _, _, _, h => h
  | fuel + 1, _, _, _, h => ⟨h.1, fun i hi => wpOp_mono (fun a' w' h' => wpAny_of_till fuel _ a' w' h'.2) (h.2 i hi)⟩

/-- Number L waits for number i. -/
def waits (md : Region.Mode) (ops : Array Oper) (L i : Nat) : Bool := match ops[L]? with
  | some o => o.after.any fun e => Region.binds md e && e.on == i
  | none => false

theorem waits_not_ready {i : Nat} {listed : Array Bool} (hw : waits md ops L i = true) (hL : L ∈ Region.ready md ops listed) (hi : i ∈ Region.ready md ops listed) : False := by
  obtain ⟨_, oL, hoL, hall⟩ := mem_ready.1 hL
  unfold waits at hw
  rw [hoL] at hw
  obtain ⟨k, hk, h⟩ := Array.any_eq_true.1 hw
  simp only [Bool.and_eq_true, beq_iff_eq] at h
  have h1 := hall _ (Array.getElem_mem hk) h.1
  have h0 := (mem_ready.1 hi).1
  rw [h.2] at h1
  rcases Nat.lt_or_ge i listed.size with h' | h'
  · simp [h'] at h0 h1; rw [h0] at h1; cases h1
  · simp [Array.getElem?_eq_none h'] at h1

theorem wpAnyT_first {i : Nat} {oi : Oper} {v : Value} (hi : ops[i]? = some oi) (hsel : ∀ (j : Nat) (o : Oper) cs b, ops[j]? = some o → o.op ≠ .select cs b) (hwait : waits md ops L i = true) (hiL : i ≠ L)
    (hQ : ∀ c a w, Q (.panic c) (a.put oi.dst v) w → Q (.panic c) a w) :
    ∀ (fuel : Nat) (listed : Array Bool) (a : Act) (w : World),
      (∀ j oj, ops[j]? = some oj → j ≠ i → listed.getD j true = false → (∀ e ∈ oj.after, Region.binds md e = true → e.on ≠ i) → oi.apart ops oj = true) →
      i ∈ Region.ready md ops listed → YieldsIf P ops S oi v a → S w →
      wpAnyT P md ops Q S L fuel (listed.setIfInBounds i true) (a.put oi.dst v) w → wpAnyT P md ops Q S L (fuel + 1) listed a w := by
  intro fuel
  induction fuel with
  | zero =>
    intro listed a w _ hr hy hS H
    refine ⟨fun h => (by rw [h] at hr; cases hr), fun j hj => ?_⟩
    by_cases hji : j = i
    · subst hji; exact hy.wpOp hi hS ⟨fun _ => hS, H⟩
    · have := ready_mono hj hji
      rw [H.1] at this
      cases this
  | succ fuel ih =>
    intro listed a w hfree hr hy hS H
    refine ⟨fun h => (by rw [h] at hr; cases hr), fun j hj => ?_⟩
    by_cases hji : j = i
    · subst hji; exact hy.wpOp hi hS ⟨fun _ => hS, H⟩
    · have hjL : j ≠ L := fun e => by subst e; exact waits_not_ready hwait hj hr
      have h1 := H.2 j (ready_mono hj hji)
      obtain ⟨hjun, oj, hoj, hall⟩ := mem_ready.1 hj
      have hnot : ∀ e ∈ oj.after, Region.binds md e = true → e.on ≠ i := fun e he hb heq => by
        have h1 := hall e he hb
        have h0 := (mem_ready.1 hr).1
        rw [heq] at h1
        rcases Nat.lt_or_ge i listed.size with h' | h'
        · simp [h'] at h0 h1; rw [h0] at h1; cases h1
        · simp [Array.getElem?_eq_none h'] at h1
      have h2 := wpOp_putIf hoj (hfree j oj hoj hji hjun hnot) (fun cs b => hsel i oi cs b hi) (fun cs b => hsel j oj cs b hoj) hQ hy h1
      have hfree' : ∀ k ok, ops[k]? = some ok → k ≠ i → (listed.setIfInBounds j true).getD k true = false →
          (∀ e ∈ ok.after, Region.binds md e = true → e.on ≠ i) → oi.apart ops ok = true := fun k ok hk hki hun hno => by
        refine hfree k ok hk hki ?_ hno
        by_cases hjk : j = k
        · subst hjk; exact hjun
        · rw [getD_set_ne true hjk] at hun; exact hun
      refine wpOp_mono (fun a' w' h3 => ⟨h3.2.1, ih (listed.setIfInBounds j true) a' w' hfree' (ready_mono hr (Ne.symm hji)) h3.1 (h3.2.1 hjL) ?_⟩) h2
      rw [Array.setIfInBounds_comm _ _ hji]
      exact h3.2.2
end

section
variable {P : Program} {md : Region.Mode} {l rest : List Oper} {oi : Oper} {v : Value} {Q : Exit → Act → World → Prop} {S : World → Prop} {L fuel : Nat} {listed : Array Bool} {a : Act} {w : World}
theorem drop_get {i : Nat} (hi : l.drop i = oi :: rest) : l.toArray[i]? = some oi := by
  have := congrArg List.head? hi
  rw [List.head?_drop] at this
  simpa using this
theorem wpAnyT_takeL (i : Nat) (hi : l.drop i = oi :: rest) (hwait : waits md l.toArray L i = true) (hiL : i ≠ L)
    (hs : Region.noSelect l.toArray = true) (hf : Region.free md l.toArray listed i = true) (hr : (Region.ready md l.toArray listed).contains i = true)
    (hQ : ∀ c a w, Q (.panic c) (a.put oi.dst v) w → Q (.panic c) a w) (hw : Region.wanted oi (yielded l.toArray a.tmps) = true) (hy : ∀ w', S w' → (execOp a.eval oi).run P w' = .ok (.value v) w') (hS : S w)
    (h : wpAnyT P md l.toArray Q S L fuel (listed.setIfInBounds i true) (a.put oi.dst v) w) : wpAnyT P md l.toArray Q S L (fuel + 1) listed a w :=
  wpAnyT_first (drop_get hi) (Region.noSelect_spec hs) hwait hiL hQ fuel listed a w (Region.free_spec (drop_get hi) hf) (by simpa using hr) (.inl ⟨hw, hy⟩) hS h
theorem wpAnyT_oneL (i : Nat) (hi : l.drop i = oi :: rest) (hr : Region.ready md l.toArray listed = [i]) (hw : Region.wanted oi (yielded l.toArray a.tmps) = true)
    (h : ∀ K' : Act → World → Prop, Shut (∀ a w, S w → (S w → wpAnyT P md l.toArray Q S L fuel (listed.setIfInBounds i true) a w) → K' a w) → Oper.wp P oi a w K' Q) : wpAnyT P md l.toArray Q S L (fuel + 1) listed a w := by
  refine ⟨fun h0 => (by rw [hr] at h0; cases h0), fun j hj => ?_⟩
  rw [hr] at hj
  simp only [List.mem_singleton] at hj
  subst hj
  refine wpOp_step (drop_get hi) (fun K' hK => ?_)
  rw [if_pos hw]
  exact h K' (fun a w hS hW => hK a w ⟨fun _ => hS, hW hS⟩)
theorem wpAnyT_lastL (hi : l.drop L = oi :: rest) (hr : Region.ready md l.toArray listed = [L]) (hw : Region.wanted oi (yielded l.toArray a.tmps) = true)
    (h : ∀ K' : Act → World → Prop, Shut (∀ a w, wpAnyT P md l.toArray Q S L fuel (listed.setIfInBounds L true) a w → K' a w) → Oper.wp P oi a w K' Q) : wpAnyT P md l.toArray Q S L (fuel + 1) listed a w := by
  refine ⟨fun h0 => (by rw [hr] at h0; cases h0), fun j hj => ?_⟩
  rw [hr] at hj
  simp only [List.mem_singleton] at hj
  subst hj
  refine wpOp_step (drop_get hi) (fun K' hK => ?_)
  rw [if_pos hw]
  exact h K' (fun a w hW => hK a w ⟨fun h => absurd rfl h, hW⟩)
theorem wpAnyT_doneL (hr : Region.ready md l.toArray listed = []) (h : Q .normal a w) : wpAnyT P md l.toArray Q S L fuel listed a w := by
  cases fuel with
  | zero => exact ⟨hr, h⟩
  | succ fuel => exact ⟨fun _ => h, by rw [hr]; simp⟩
theorem wp_region_till {id : Nat} (L : Nat) (S : World → Prop) (hm : P.follows .mixedOrders = true) (hS : S w.drew) (h : S w.drew → wpAnyT P .any l.toArray Q S L l.toArray.size (Array.replicate l.toArray.size false) a w.drew) : (Code.region id l.toArray true).wp P Q a w :=
  wp_region_any hm (wpAny_of_till _ _ _ _ (h hS))
end
end Go.Proofs.Ytaicpgkoailnkaa
