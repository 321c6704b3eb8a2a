/- A range over a function, over any program, at the wide fence: a region that draws its order, walked in a round; the loop's law, outermost and within a round, for an iterator whose rounds may write the blocks of a footprint (and new ones). No statement of a law stands here. -/
import Derived.RangeFuncNested
import Derived.RangeFuncLeaves
import Derived.Shelf.Abstract
import Derived.Shelf.RegionOpen
import Derived.OwnWalkIn
import Derived.TacticsInMore
import Derived.LoopNIn
import Derived.LoopIn
import Derived.Deep.RegionHeld3
import Derived.Test.YtaicpgkoailnkaaMem
import Derived.Test.YtaicpgkoailnkaaOwn
namespace Go.Proofs.Ytaicpgkoailnkaa
open Go.RowKit

/-! ### A region that draws its order, in a round -/
section
variable {P : Program}

theorem rowsIn_wide {n : Nat} {row : String} {args : Array Value} {w : World} {R : Value → World → Prop} (h : Rows P row args w R) : RowsIn Fence.wide n P row args w R :=
  fun c cs _ => let ⟨v, w', r, s⟩ := h c cs; ⟨v, w', r, stepsIn_wide.2 s⟩

theorem uponIn_of_upon {l n : Nat} {o : Oper} {a : Act} {next next' : Act → World → Prop} {Q : Exit → Act → World → Prop} (hn : ∀ a w, next a w → next' a w) :
    ∀ r, o.upon P a next Q r → o.uponIn (Fence.wide.inRound l) n P a next' Q r := by
  have hd : (Fence.wide.inRound l).depth.isSome = true → 1 ≤ n := fun h => by simp [Fence.wide, Fence.inRound] at h
  intro r h
  cases r with
  | ok x w =>
    cases x <;> simp only [Oper.upon, Oper.uponIn] at h ⊢
    case value v => exact hn _ _ h
    case skip => exact hn _ _ h
    case defer d => exact hn _ _ h
    case enter f args =>
      refine ⟨hd, CallsIn.inRound l (callsIn_wide.2 (h.mono ?_))⟩
      intro e w' he
      cases e with
      | returned v => exact hn _ _ he
      | panicked c => exact he
      | outgrown => exact he
    case row row args => exact ⟨hd, rowsIn_wide (h.mono fun v w' he => hn _ _ he)⟩
  | halt x w =>
    cases x <;> simp only [Oper.upon, Oper.uponIn] at h ⊢
    case panic v => exact h

def noDefer (ops : Array Oper) : Bool := ops.all fun o => match o.op with | .defer _ => false | _ => true

theorem wpOpsIn_of_wpOps {l n : Nat} {ops : Array Oper} {Q : Exit → Act → World → Prop} (hd : noDefer ops = true) (hQ : ∀ a w, ¬ Q .outgrown a w) :
    ∀ (is : List Nat) (a : Act) (w : World), wpOps P ops Q is a w → wpOpsIn (Fence.wide.inRound l) n P ops Q is a w := by
  intro is
  induction is with
  | nil => exact fun a w h => h
  | cons i rest ih =>
    intro a w h
    simp only [wpOps] at h
    simp only [wpOpsIn]
    cases ho : ops[i]? with
    | none => simp only [ho] at h ⊢; exact ih _ _ h
    | some o =>
      simp only [ho] at h ⊢
      split
      · rename_i hw
        simp only [hw, if_true] at h
        rcases h with h | ⟨_, a0, w0, hq⟩
        · refine ⟨fun _ _ => trivial, ?_⟩
          have hnd : ∀ c, o.op ≠ .defer c := by
            intro c hc
            have hall := Array.all_eq_true.1 hd i (Array.getElem?_eq_some_iff.1 ho).1
            have hoi : ops[i]'(Array.getElem?_eq_some_iff.1 ho).1 = o := (Array.getElem?_eq_some_iff.1 ho).2
            rw [hoi, hc] at hall
            cases hall
          rw [Oper.semAt_eq _ _ _ hnd]
          exact uponIn_of_upon (fun a w h => ih a w h) _ h
        · exact absurd hq (hQ _ _)
      · rename_i hw
        simp only [hw] at h
        exact ⟨fun _ _ => trivial, ih _ _ h⟩

/-- THE BEGINNING, IN A ROUND: then as of any region: 'wpAnyH_take', 'wpAnyH_ready', 'wpAnyH_done'. -/
theorem wpIn_region_heldR {l n id : Nat} {ops : Array Oper} {Q : Exit → Act → World → Prop} {S : World → Prop} {a : Act} {w : World} (hm : P.follows .mixedOrders = true) (hd : noDefer ops = true) (hQ : ∀ a w, ¬ Q .outgrown a w)
    (hS : S w.drew) (h : S w.drew → wpAnyH P .any ops Q S ops.size (Array.replicate ops.size false) a w.drew) : (Code.region id ops true).wpIn (Fence.wide.inRound l) n P Q a w :=
  wpIn_region_draw fun t => by
    simp only [Region.schedule, hm, Bool.true_or, if_true]
    exact wpOpsIn_of_wpOps hd hQ _ _ _ (wpAny_sound ops.size t _ a _ (wpAny_of_held _ _ _ _ (h hS)))
/-- One operation of a region that is held, taken first. -/
theorem wpAnyH_takeL {md : Region.Mode} {l rest : List Oper} {oi : Oper} {v : Value} {Q : Exit → Act → World → Prop} {S : World → Prop} {fuel : Nat} {listed : Array Bool} {a : Act} {w : World} (i : Nat) (hi : l.drop i = oi :: rest)
    (hs : Region.noSelect l.toArray = true) (hf : Region.free md l.toArray listed i = true) (hr : (Region.ready md l.toArray listed).contains i = true)
    (hQ : ∀ c a w, Q (.panic c) (a.put oi.dst v) w → Q (.panic c) a w) (hw : Region.wanted oi (yielded l.toArray a.tmps) = true) (hy : ∀ w', S w' → (execOp a.eval oi).run P w' = .ok (.value v) w') (hS : S w)
    (h : wpAnyH P md l.toArray Q S fuel (listed.setIfInBounds i true) (a.put oi.dst v) w) : wpAnyH P md l.toArray Q S (fuel + 1) listed a w := by
  have hg : l.toArray[i]? = some oi := by
    have := congrArg List.head? hi
    rw [List.head?_drop] at this
    simpa using this
  exact wpAnyH_take hg hs hf hr hQ (.inl ⟨hw, hy⟩) hS h

/-- One operation of a region that is held: the only one that may come up. -/
theorem wpAnyH_oneL {md : Region.Mode} {l rest : List Oper} {oi : Oper} {Q : Exit → Act → World → Prop} {S : World → Prop} {fuel : Nat} {listed : Array Bool} {a : Act} {w : World} (i : Nat) (hi : l.drop i = oi :: rest)
    (hr : Region.ready md l.toArray listed = [i]) (hw : Region.wanted oi (yielded l.toArray a.tmps) = true)
    (h : ∀ K' : Act → World → Prop, Shut (∀ a w, S w → (S w → wpAnyH P md l.toArray Q S fuel (listed.setIfInBounds i true) a w) → K' a w) → Oper.wp P oi a w K' Q) : wpAnyH P md l.toArray Q S (fuel + 1) listed a w := by
  have hg : l.toArray[i]? = some oi := by
    have := congrArg List.head? hi
    rw [List.head?_drop] at this
    simpa using this
  refine wpAnyH_ready hr (by simp) (AllReadyH.cons hg (fun K hK => ?_) AllReadyH.nil)
  rw [if_pos hw]
  exact h K hK

/-- What is held may be more from here on. -/
theorem wpAnyH_weaker {md : Region.Mode} {ops : Array Oper} {Q : Exit → Act → World → Prop} {S S2 : World → Prop} (hS : ∀ w, S2 w → S w) : ∀ (fuel : Nat) (listed : Array Bool) (a : Act) (w : World), wpAnyH P md ops Q S2 fuel listed a w → wpAnyH P md ops Q S fuel listed a w
  | 0, _, _, _, h => h
  | fuel + 1, _, _, _, h => ⟨h.1, fun i hi => wpOp_mono (fun a' w' h' => ⟨hS _ h'.1, wpAnyH_weaker hS fuel _ a' w' h'.2⟩) (h.2 i hi)⟩

/-- One of several operations that may come up. -/
theorem AllReadyH_consL {md : Region.Mode} {l rest : List Oper} {oi : Oper} {rs : List Nat} {Q : Exit → Act → World → Prop} {S : World → Prop} {fuel : Nat} {listed : Array Bool} {a : Act} {w : World} (i : Nat) (hi : l.drop i = oi :: rest)
    (hw : Region.wanted oi (yielded l.toArray a.tmps) = true)
    (h : ∀ K' : Act → World → Prop, Shut (∀ a w, S w → (S w → wpAnyH P md l.toArray Q S fuel (listed.setIfInBounds i true) a w) → K' a w) → Oper.wp P oi a w K' Q)
    (hs : AllReadyH P md l.toArray Q S fuel listed a w rs) : AllReadyH P md l.toArray Q S fuel listed a w (i :: rs) := by
  have hg : l.toArray[i]? = some oi := by
    have := congrArg List.head? hi
    rw [List.head?_drop] at this
    simpa using this
  refine AllReadyH.cons hg (fun K hK => ?_) hs
  rw [if_pos hw]
  exact h K hK

/-- A QUIET REGION, IN A ROUND: one walk in the text's order. -/
theorem wpIn_region_quietR {lp n id : Nat} {l : List Oper} {Q : Exit → Act → World → Prop} {a : Act} {w : World} (hm : P.follows .mixedOrders = true) (hB : Region.lexB .any l.toArray = true) (hd : noDefer l.toArray = true) (hQ : ∀ a w, ¬ Q .outgrown a w)
    (h : wpQuiet P l.toArray (fun w' => ∃ n, w' = w.drewN n) (fun a' => ∀ w', (∃ n, w' = w.drewN n) → Q .normal a' w') l a) : (Code.region id l.toArray true).wpIn (Fence.wide.inRound lp) n P Q a w :=
  wpIn_region_draw fun t => by
    simp only [Region.schedule, hm, Bool.true_or, if_true]
    simp only [Region.lexB, Bool.and_eq_true] at hB
    refine wpOpsIn_of_wpOps hd hQ _ _ _ (wpAny_sound l.toArray.size t _ a _ (wpAny_of_quiet (C := fun w' => ∃ n, w' = w.drewN n) (Q := fun a' => ∀ w', (∃ n, w' = w.drewN n) → Q .normal a' w') (fun _ w' hw' h => h w' hw') _ _ _ _ ⟨1, rfl⟩ ?_))
    have := wpAnyQ_lex (C := fun w' => ∃ n, w' = w.drewN n) (md := .any) hB.1 l 0 (Array.replicate l.toArray.size false) a (by simp) (by simpa using hB.2) h
    simpa using this
end

/-! ### What abides new blocks and a turn of a loop's record -/
/-- New blocks; what held cells lies as it lay; what lay below n₀ too. -/
structure NC (n₀ : Nat) (W W' : World) : Prop where
  os : W'.os = W.os
  tape : W'.tape = W.tape
  output : W'.output = W.output
  size : W.heap.size ≤ W'.heap.size
  low : ∀ k, k < n₀ → k < W.heap.size → W'.heap[k]? = W.heap[k]?
  cells : ∀ (k : Nat) (o : Obj), W.heap[k]? = some o → o.isCells = true → W'.heap[k]? = some o

section
variable {n₀ : Nat} {W W1 W' : World}
theorem NC.refl (n₀ : Nat) (W : World) : NC n₀ W W := ⟨rfl, rfl, rfl, Nat.le_refl _, fun _ _ _ => rfl, fun _ _ h _ => h⟩
theorem NC.trans (h : NC n₀ W W1) (k : NC n₀ W1 W') : NC n₀ W W' :=
  ⟨k.os.trans h.os, k.tape.trans h.tape, k.output.trans h.output, Nat.le_trans h.size k.size, fun j hj hs => (k.low j hj (Nat.lt_of_lt_of_le hs h.size)).trans (h.low j hj hs), fun j o ho hc => k.cells j o (h.cells j o ho hc) hc⟩
theorem NC.of_fr (h : Fr [] W W') : NC n₀ W W' := ⟨h.os, h.tape, h.output, h.size, fun k _ hs => h.block k hs (by simp), fun k o ho _ => h.obj (by simp) ho⟩
theorem NC.putObj {l : Nat} {o o' : Obj} (hl : n₀ ≤ l) (ho : W.heap[l]? = some o) (hc : o.isCells = false) : NC n₀ W (W.putObj l o') :=
  ⟨rfl, rfl, rfl, by simp, fun k hk _ => World.putObj_heap_other (by omega), fun k x hx hxc => by
    by_cases e : k = l
    · subst e; rw [ho] at hx; cases hx; rw [hc] at hxc; cases hxc
    · exact (World.putObj_heap_other e).trans hx⟩
theorem Blk.nc {g : Nat} {t : TypeId} {cs : List Value} (h : Blk W g t cs) (hn : NC n₀ W W') : Blk W' g t cs := hn.cells g _ h rfl
theorem Row.nc {e : TypeId} {size : Nat} {A : Option Addr} {n cap : Nat} {xs : List Value} (h : Row W e size A n cap xs) (hn : NC n₀ W W') : Row W' e size A n cap xs := by
  rcases h.cases with ⟨rfl, rfl, rfl, rfl⟩ | ⟨g, cur, rfl, hg, h1, h2, h3, h4⟩
  · exact Row.nil _ _ _
  · exact Row.of_blk (hg.nc hn) h1 h2 h3 h4
/-- What is kept of a world whose heap ends at n₀ (or below) is kept on. -/
theorem Fr.nc {S : List Nat} {w : World} (h : Fr S w W) (hn : NC n₀ W W') (hw : w.heap.size ≤ n₀) : Fr S w W' :=
  ⟨hn.os.trans h.os, hn.tape.trans h.tape, hn.output.trans h.output, Nat.le_trans h.size hn.size, fun k hk hS => (hn.low k (by omega) (Nat.lt_of_lt_of_le hk h.size)).trans (h.block k hk hS)⟩
theorem Rds.nc {A : Option Addr} {xs : List Value} (h : Rds W A xs) (hn : NC n₀ W W') : Rds W' A xs := fun hx => by
  obtain ⟨b, o, rfl, hc⟩ := h hx
  refine ⟨b, o, rfl, fun j u hu => ?_⟩
  have h1 := hc j u hu
  refine (World.cell?_of_block ?_).trans h1
  obtain ⟨x, hx1, hx2⟩ : ∃ x, W.heap[b]? = some x ∧ x.isCells = true := by
    unfold World.cell? at h1
    cases hb : W.heap[b]? with
    | none => simp [hb] at h1
    | some x => exact ⟨x, rfl, by cases x <;> simp_all [Obj.isCells]⟩
  exact (hn.cells b x hx1 hx2).trans hx1.symm
end


/-! ### The iterator's contract -/
/-- Of what held cells only the blocks of F may have turned. -/
structure Kept (F : List Nat) (A B : World) : Prop where
  size : A.heap.size ≤ B.heap.size
  cells : ∀ (k : Nat) (o : Obj), A.heap[k]? = some o → o.isCells = true → k ∉ F → B.heap[k]? = some o

theorem Kept.blk {F : List Nat} {A B : World} (h : Kept F A B) {g : Nat} {t : TypeId} {cs : List Value} (hg : Blk A g t cs) (hF : g ∉ F) : Blk B g t cs := h.cells g _ hg rfl hF

/-- What a function that is ranged over does: it gives xs, one by one, or stops where a round has left; its own steps make new blocks alone, but for what E lets it do ahead of the first round. A round may write the blocks of the footprint F and new ones; none of R is among them at the start. -/
def IterC (P : Program) (gf : Nat) (lb : Array Value) (xs : List (Array Value)) (w0 : World) (E : World → World → Prop) (R : List Nat) : Prop :=
  ∀ (l : Nat) (J : Nat → List Nat → World → Prop) (Jx : World → Prop) (W : World),
    NC w0.heap.size w0 W →
    (∀ k F A B, J k F A → Fr [] A B → J k F B) → (∀ A B, Jx A → Fr [] A B → Jx B) →
    (∀ (k : Nat) (F : List Nat) (A : World) (hk : k < xs.length), J k F A → YieldAt Fence.wide 0 P l xs[k] A fun e B =>
      (e = .returned (.bool true) ∧ ∃ F', J (k + 1) F' B ∧ Kept F A B ∧ ∀ b ∈ F', b ∈ F ∨ A.heap.size ≤ b) ∨ (e = .returned (.bool false) ∧ Jx B)) →
    (∀ B, E W B → ∃ F, J 0 F B ∧ ∀ b ∈ F, b < W.heap.size ∧ b ∉ R) →
    CallsIn Fence.wide 0 P gf (#[.func (.yield l) #[] #[]] ++ lb) W fun e B => (∃ v, e = .returned v) ∧ ((∃ F, J xs.length F B) ∨ Jx B)

theorem callsIn_any {n m : Nat} {P : Program} {f : FuncId} {args : Array Value} {w : World} {R : Ending → World → Prop} (h : CallsIn Fence.wide n P f args w R) : CallsIn Fence.wide m P f args w R := callsIn_wide.2 (callsIn_wide.1 h)
theorem roundIn_any {n m l : Nat} {P : Program} {f : FuncId} {tmps : Array Value} {assign body : Code} {w : World} {R : Ending → World → Prop} (h : RoundIn Fence.wide n P l f tmps assign body w R) : RoundIn Fence.wide m P l f tmps assign body w R :=
  ⟨h.1, fun c cs _ => h.2 c cs (room_wide _)⟩

/-- How the body of a round may be left. -/
def roundOut (F : List Nat) (k : Nat) (J : Nat → List Nat → World → Prop) (Jx : Code → World → Prop) (Wb : World) : Exit → Act → World → Prop
  | .normal, _, W' => ∃ F', Fr F Wb W' ∧ J (k + 1) F' W' ∧ ∀ b ∈ F', b ∈ F ∨ Wb.heap.size ≤ b
  | .ret, _, W' => Fr F Wb W' ∧ Jx .ret W'
  | .exit id, _, W' => Fr F Wb W' ∧ Jx (.exit id) W'
  | .goto t, _, W' => Fr F Wb W' ∧ Jx (.goto t) W'
  | .panic _, _, _ => False
  | .outgrown, _, _ => False

section
variable {P : Program} {n : Nat} {g : Operand} {ps : Array Tmp} {assign body : Code} {Q : Exit → Act → World → Prop} {a : Act} {w : World}

/-- ONE ROUND, whichever loop it is of: from the record, ready, to the record, ready again or done. -/
theorem round_of {l n0 m : Nat} {fn : FuncId} {rec : LoopState → Option Code → Loop} {xk : Array Value} {k : Nat} {F : List Nat} {W : World} {J : Nat → List Nat → World → Prop} {Jx : Code → World → Prop} (tmps : Array Value)
    (hrec : ∀ st pe, (rec st pe).state = st ∧ (rec st pe).pending = pe ∧ (rec st pe).fn = fn ∧ (rec st pe).tmps = tmps ∧ (rec st pe).params = ps ∧ (rec st pe).assign = assign ∧ (rec st pe).body = body)
    (hrs : ∀ st pe st' pe', { rec st pe with state := st', pending := pe' } = rec st' pe')
    (hfn : Fence.wide.fn fn) (hn0 : n0 ≤ l) (hl : W.heap[l]? = some (.loop (rec .ready none))) (hlF : l ∉ F) (hsz : xk.size = ps.size)
    (hJ : ∀ k F A B, J k F A → NC n0 A B → J k F B) (hJx : ∀ c A B, Jx c A → NC n0 A B → Jx c B)
    (hround : assign.wpIn (Fence.wide.inRound l) m P (Exit.then (fun a1 W1 => Fr [] W W1 ∧ ∀ W2, NC n0 W1 W2 → W1.heap.size = W2.heap.size → (∃ r, W2.heap[l]? = some (.loop r)) → body.wpIn (Fence.wide.inRound l) m P (roundOut F k J Jx W2) a1 W2) (fun _ _ _ => False))
      { tmps := (ps.zip xk).foldl (fun t (p, v) => t.setIfInBounds p v) tmps, defers := [] } W) :
    YieldAt Fence.wide m P l xk W fun e B =>
      (e = .returned (.bool true) ∧ B.heap[l]? = some (.loop (rec .ready none)) ∧ ∃ F', J (k + 1) F' B ∧ Kept F W B ∧ (∀ b ∈ F', b ∈ F ∨ W.heap.size ≤ b) ∧ ∀ (j : Nat) (o : Obj), j ∉ F → j ≠ l → W.heap[j]? = some o → B.heap[j]? = some o) ∨
      (e = .returned (.bool false) ∧ ∃ c, B.heap[l]? = some (.loop (rec .done (some c))) ∧ Jx c B ∧ ∀ (j : Nat) (o : Obj), j ∉ F → j ≠ l → W.heap[j]? = some o → B.heap[j]? = some o) := by
  obtain ⟨h1, h2, h3, h4, h5, h6, h7⟩ := hrec .ready none
  have hy := run_yield (P := P) (args := xk) hl (by rw [h5]; exact hsz)
  rw [h3, h4, h5, h6, h7] at hy
  refine ⟨fn, _, assign, body, hy, roundIn_of_wpIn hfn (wpIn_mono hround ?_)⟩
  intro e a1 W1 he
  cases e with
  | normal =>
    obtain ⟨hf1, hbody⟩ := he
    have hl1 := hf1.obj (by simp) hl
    have hlt1 : l < W1.heap.size := (Array.getElem?_eq_some_iff.1 hl1).1
    refine ⟨_, run_beginRound hl1 h1, ?_⟩
    have hnc : NC n0 W1 (W1.putObj l (.loop { rec .ready none with state := .busy })) := NC.putObj hn0 hl1 rfl
    have hl2 : (W1.putObj l (.loop { rec .ready none with state := .busy })).heap[l]? = some (.loop { rec .ready none with state := .busy }) := World.putObj_heap_same hlt1
    generalize hW2 : W1.putObj l (.loop { rec .ready none with state := .busy }) = W2 at *
    have hsz2 : W1.heap.size = W2.heap.size := by rw [← hW2]; simp
    have oth2 : ∀ (j : Nat) (o : Obj), j ≠ l → W.heap[j]? = some o → W2.heap[j]? = some o := fun j o hj ho => by
      rw [← hW2]; exact (World.putObj_heap_other hj).trans (hf1.obj (by simp) ho)
    refine wpIn_mono (hbody W2 hnc hsz2 ⟨_, hl2⟩) ?_
    have fin : ∀ (jump : Option Code) (W3 : World), Fr F W2 W3 →
        (Instr.endRound l jump).run P W3 = .ok (.bool jump.isNone) (W3.putObj l (.loop (rec (if jump.isNone then .ready else .done) jump))) ∧ NC n0 W3 (W3.putObj l (.loop (rec (if jump.isNone then .ready else .done) jump))) ∧
        (W3.putObj l (.loop (rec (if jump.isNone then .ready else .done) jump))).heap[l]? = some (.loop (rec (if jump.isNone then .ready else .done) jump)) ∧
        ∀ (j : Nat) (o : Obj), j ∉ F → j ≠ l → W.heap[j]? = some o → (W3.putObj l (.loop (rec (if jump.isNone then .ready else .done) jump))).heap[j]? = some o := fun jump W3 hf3 => by
      have hl3 := hf3.obj hlF hl2
      have he := run_endRound (P := P) jump hl3
      have e1 : ({ ({ rec .ready none with state := .busy } : Loop) with state := if jump.isNone then .ready else .done, pending := jump } : Loop) = rec (if jump.isNone then .ready else .done) jump := hrs .ready none _ _
      rw [e1] at he
      exact ⟨he, NC.putObj hn0 hl3 rfl, World.putObj_heap_same (Array.getElem?_eq_some_iff.1 hl3).1, fun j o hj hjl ho => (World.putObj_heap_other hjl).trans (hf3.obj hj (oth2 j o hjl ho))⟩
    intro e a3 W3 hp
    cases e with
    | normal =>
      obtain ⟨F', hf3, hj3, hF'⟩ := hp
      obtain ⟨hr, hnc3, hl4, oth⟩ := fin none W3 hf3
      refine ⟨_, _, hr, .inl ⟨rfl, hl4, F', hJ _ _ _ _ hj3 hnc3, ?_, fun b hb => (hF' b hb).imp id (fun h => by have := hf1.size; omega), oth⟩⟩
      refine ⟨?_, fun j o ho hc hjF => ?_⟩
      · have s1 := hf1.size; have s3 := hf3.size; have s4 := hnc3.size; omega
      · exact oth j o hjF (fun e => by subst e; rw [hl] at ho; cases ho; cases hc) ho
    | ret =>
      obtain ⟨hf3, hx⟩ := hp
      obtain ⟨hr, hnc3, hl4, oth⟩ := fin (some .ret) W3 hf3
      exact ⟨_, _, hr, .inr ⟨rfl, .ret, hl4, hJx _ _ _ hx hnc3, oth⟩⟩
    | exit id =>
      obtain ⟨hf3, hx⟩ := hp
      obtain ⟨hr, hnc3, hl4, oth⟩ := fin (some (.exit id)) W3 hf3
      exact ⟨_, _, hr, .inr ⟨rfl, .exit id, hl4, hJx _ _ _ hx hnc3, oth⟩⟩
    | goto t =>
      obtain ⟨hf3, hx⟩ := hp
      obtain ⟨hr, hnc3, hl4, oth⟩ := fin (some (.goto t)) W3 hf3
      exact ⟨_, _, hr, .inr ⟨rfl, .goto t, hl4, hJx _ _ _ hx hnc3, oth⟩⟩
    | panic ch => exact hp.elim
    | outgrown => exact hp.elim
  | exit id => exact he.elim
  | goto l => exact he.elim
  | ret => exact he.elim
  | panic ch => exact he.elim
  | outgrown => exact he.elim

/-- THE LOOP, OUTERMOST. -/
theorem range_outer {gf : Nat} {lb : Array Value} (hg : a.eval g = .func (.func gf) #[] lb) (eg : ∀ args w, (callFunc gf args).run P w = .ok (.enter gf args) w)
    (xs : List (Array Value)) (hps : ∀ x ∈ xs, x.size = ps.size) (E : World → World → Prop) (hE : ∀ A B, E A B → ∀ (j : Nat) (o : Obj), A.heap[j]? = some o → o.isCells = false → B.heap[j]? = some o) {R : List Nat} (hit : IterC P gf lb xs w E R)
    (J : Nat → List Nat → World → Prop) (Jx : Code → World → Prop) (F0 : List Nat)
    (hJ : ∀ k F A B, J k F A → NC w.heap.size A B → J k F B) (hJx : ∀ c A B, Jx c A → NC w.heap.size A B → Jx c B)
    (h0 : ∀ A B, NC w.heap.size w A → E A B → J 0 F0 B) (hF0 : ∀ b ∈ F0, b < w.heap.size ∧ b ∉ R)
    (hround : ∀ (l k : Nat) (F : List Nat) (W : World) (hk : k < xs.length), w.heap.size ≤ l → (∃ r, W.heap[l]? = some (.loop r)) → l ∉ F → J k F W →
      assign.wpIn (Fence.wide.inRound l) 0 P (Exit.then (fun a1 W1 => Fr [] W W1 ∧ ∀ W2, NC w.heap.size W1 W2 → W1.heap.size = W2.heap.size → (∃ r, W2.heap[l]? = some (.loop r)) → body.wpIn (Fence.wide.inRound l) 0 P (roundOut F k J Jx W2) a1 W2) (fun _ _ _ => False))
        { tmps := (ps.zip xs[k]).foldl (fun t (p, v) => t.setIfInBounds p v) a.tmps, defers := [] } W)
    (hdone : ∀ (D : Nat) (F : List Nat) (W : World), w.heap.size ≤ D → D ∉ F → J xs.length F W → W.heap[D]? = some (.deferred (some [])) → Q .normal { a with defers := { target := .collected D, args := #[] } :: a.defers } W)
    (hstop : ∀ (D : Nat) (c : Code) (W : World), w.heap.size ≤ D → Jx c W → W.heap[D]? = some (.deferred (some [])) → c.wpIn Fence.wide n P Q { a with defers := { target := .collected D, args := #[] } :: a.defers } W) :
    (Code.rangeFunc g ps assign body).wpIn Fence.wide n P Q a w := by
  refine wpIn_rangeFunc ?_
  intro fn hfn
  obtain ⟨rec, hrec⟩ : ∃ rec : LoopState → Option Code → Loop, rec = fun st pe => { state := st, pending := pe, fn, tmps := a.tmps, params := ps, assign, body, defers := w.heap.size } := ⟨_, rfl⟩
  obtain ⟨W1, hW1⟩ : ∃ W1, (w.alloc (.deferred (some []))).alloc (.loop (rec .ready none)) = W1 := ⟨_, rfl⟩
  have hL1 : W1.heap[w.heap.size + 1]? = some (.loop (rec .ready none)) := by
    rw [← hW1]; have := World.alloc_heap_new (w.alloc (.deferred (some []))) (.loop (rec .ready none)); rwa [World.size_alloc] at this
  have hK1 : W1.heap[w.heap.size]? = some (.deferred (some [])) := by
    rw [← hW1]; exact (Below.heap_alloc _ _ _ (by simp)).trans (World.alloc_heap_new w _)
  have hf1 : Fr [] w W1 := by rw [← hW1]; exact ((Fr.refl [] w).alloc _).alloc _
  have hs1 : W1.heap.size = w.heap.size + 2 := by rw [← hW1]; simp
  refine ⟨w.heap.size + 1, [{ target := .collected w.heap.size, args := #[] }], W1, { target := .fn (.func gf) lb, args := #[.func (.yield (w.heap.size + 1)) #[] #[]] }, W1, gf,
    #[.func (.yield (w.heap.size + 1)) #[] #[]] ++ lb, W1, ?_, ?_, fun _ _ => trivial, ?_, fun h => by simp [Fence.wide] at h, ?_⟩
  · rw [← hW1, hrec]; exact run_enterLoop_outer _ _ _ _ _
  · simp only [resolve, hg]
    simp [go_sem]
  · simp [invoke, go_sem, eg]
  · have hr0 : ∀ st pe, (rec st pe).state = st ∧ (rec st pe).pending = pe ∧ (rec st pe).fn = fn ∧ (rec st pe).tmps = a.tmps ∧ (rec st pe).params = ps ∧ (rec st pe).assign = assign ∧ (rec st pe).body = body := by
      rw [hrec]; exact fun _ _ => ⟨rfl, rfl, rfl, rfl, rfl, rfl, rfl⟩
    have hr1 : ∀ st pe st' pe', ({ rec st pe with state := st', pending := pe' } : Loop) = rec st' pe' := by rw [hrec]; exact fun _ _ _ _ => rfl
    refine (callsIn_any (hit (w.heap.size + 1)
      (fun k F W => J k F W ∧ w.heap.size ∉ F ∧ w.heap.size + 1 ∉ F ∧ W.heap[w.heap.size + 1]? = some (.loop (rec .ready none)) ∧ W.heap[w.heap.size]? = some (.deferred (some [])))
      (fun W => ∃ c, Jx c W ∧ W.heap[w.heap.size + 1]? = some (.loop (rec .done (some c))) ∧ W.heap[w.heap.size]? = some (.deferred (some [])))
      W1 (NC.of_fr hf1)
      (fun k F A B hj hf => ⟨hJ _ _ _ _ hj.1 (NC.of_fr hf), hj.2.1, hj.2.2.1, hf.obj (by simp) hj.2.2.2.1, hf.obj (by simp) hj.2.2.2.2⟩)
      (fun A B hj hf => by obtain ⟨c, h1, h2, h3⟩ := hj; exact ⟨c, hJx _ _ _ h1 (NC.of_fr hf), hf.obj (by simp) h2, hf.obj (by simp) h3⟩)
      ?_ ?_)).mono ?_
    · rintro k F W hk ⟨hj, hD, hl, hL, hK⟩
      obtain ⟨fn', tmps', as', bo', hy, hR⟩ := round_of (P := P) (m := 0) (xk := xs[k]) (k := k) a.tmps hr0 hr1 hfn (Nat.le_succ _) hL hl (hps _ (List.getElem_mem hk)) hJ hJx (hround _ k F W hk (Nat.le_succ _) ⟨_, hL⟩ hl hj)
      refine ⟨fn', tmps', as', bo', hy, hR.mono ?_⟩
      have hDs : w.heap.size < W.heap.size := (Array.getElem?_eq_some_iff.1 hK).1
      have hLs : w.heap.size + 1 < W.heap.size := (Array.getElem?_eq_some_iff.1 hL).1
      rintro e B (⟨rfl, hL2, F', hj2, hkept, hF', oth⟩ | ⟨rfl, c, hL2, hx, oth⟩)
      · exact .inl ⟨rfl, F', ⟨hj2, fun hm => (hF' _ hm).elim hD (fun h => by omega), fun hm => (hF' _ hm).elim hl (fun h => by omega), hL2, oth _ _ hD (by omega) hK⟩, hkept, hF'⟩
      · exact .inr ⟨rfl, c, hx, hL2, oth _ _ hD (by omega) hK⟩
    · intro B hB
      exact ⟨F0, ⟨h0 W1 B (NC.of_fr hf1) hB, fun hm => by have := (hF0 _ hm).1; omega, fun hm => by have := (hF0 _ hm).1; omega, hE _ _ hB _ _ hL1 rfl, hE _ _ hB _ _ hK1 rfl⟩, fun b hb => ⟨by have := (hF0 b hb).1; omega, (hF0 b hb).2⟩⟩
    · rintro e W2 ⟨⟨v, rfl⟩, (⟨F, hj, hD, hl, hL, hK⟩ | ⟨c, hx, hL, hK⟩)⟩
      · have hend := run_endLoop (P := P) hL (by rw [(hr0 _ _).1]; simp)
        rw [(hr0 _ _).2.1] at hend
        exact ⟨none, _, hend, hdone _ F _ (Nat.le_refl _) hD (hJ _ _ _ _ hj (NC.putObj (Nat.le_succ _) hL rfl)) ((World.putObj_heap_other (by omega)).trans hK)⟩
      · have hend := run_endLoop (P := P) hL (by rw [(hr0 _ _).1]; simp)
        rw [(hr0 _ _).2.1] at hend
        exact ⟨some c, _, hend, hstop _ c _ (Nat.le_refl _) (hJx _ _ _ hx (NC.putObj (Nat.le_succ _) hL rfl)) ((World.putObj_heap_other (by omega)).trans hK)⟩

/-- THE LOOP WITHIN A ROUND of loop l₀. -/
theorem range_inner {l₀ : Nat} {r₀ : Loop} (hr₀ : w.heap[l₀]? = some (.loop r₀)) {gf : Nat} {lb : Array Value} (hg : a.eval g = .func (.func gf) #[] lb) (eg : ∀ args w, (callFunc gf args).run P w = .ok (.enter gf args) w)
    (xs : List (Array Value)) (hps : ∀ x ∈ xs, x.size = ps.size) (E : World → World → Prop) (hE : ∀ A B, E A B → ∀ (j : Nat) (o : Obj), A.heap[j]? = some o → o.isCells = false → B.heap[j]? = some o) {R : List Nat} (hit : IterC P gf lb xs w E R)
    (J : Nat → List Nat → World → Prop) (Jx : Code → World → Prop) (F0 : List Nat)
    (hJ : ∀ k F A B, J k F A → NC w.heap.size A B → J k F B) (hJx : ∀ c A B, Jx c A → NC w.heap.size A B → Jx c B)
    (h0 : ∀ A B, NC w.heap.size w A → E A B → J 0 F0 B) (hF0 : ∀ b ∈ F0, b < w.heap.size ∧ b ∉ R)
    (hround : ∀ (l k : Nat) (F : List Nat) (W : World) (hk : k < xs.length), w.heap.size ≤ l → (∃ r, W.heap[l]? = some (.loop r)) → l ∉ F → J k F W →
      assign.wpIn (Fence.wide.inRound l) 0 P (Exit.then (fun a1 W1 => Fr [] W W1 ∧ ∀ W2, NC w.heap.size W1 W2 → W1.heap.size = W2.heap.size → (∃ r, W2.heap[l]? = some (.loop r)) → body.wpIn (Fence.wide.inRound l) 0 P (roundOut F k J Jx W2) a1 W2) (fun _ _ _ => False))
        { tmps := (ps.zip xs[k]).foldl (fun t (p, v) => t.setIfInBounds p v) a.tmps, defers := [] } W)
    (hdone : ∀ (F : List Nat) (W : World), J xs.length F W → Q .normal a W)
    (hstop : ∀ (c : Code) (W : World), Jx c W → c.wpIn (Fence.wide.inRound l₀) n P Q a W) :
    (Code.rangeFunc g ps assign body).wpIn (Fence.wide.inRound l₀) n P Q a w := by
  refine wpIn_rangeFunc ?_
  intro fn hfn
  obtain ⟨rec, hrec⟩ : ∃ rec : LoopState → Option Code → Loop, rec = fun st pe => { state := st, pending := pe, fn, tmps := a.tmps, params := ps, assign, body, defers := r₀.defers } := ⟨_, rfl⟩
  obtain ⟨W1, hW1⟩ : ∃ W1, w.alloc (.loop (rec .ready none)) = W1 := ⟨_, rfl⟩
  have hL1 : W1.heap[w.heap.size]? = some (.loop (rec .ready none)) := by
    rw [← hW1]; exact World.alloc_heap_new w _
  have hf1 : Fr [] w W1 := by rw [← hW1]; exact (Fr.refl [] w).alloc _
  have hs1 : W1.heap.size = w.heap.size + 1 := by rw [← hW1]; simp
  refine ⟨w.heap.size, [], W1, { target := .fn (.func gf) lb, args := #[.func (.yield w.heap.size) #[] #[]] }, W1, gf,
    #[.func (.yield w.heap.size) #[] #[]] ++ lb, W1, ?_, ?_, fun _ _ => trivial, ?_, fun h => by simp [Fence.wide, Fence.inRound] at h, ?_⟩
  · rw [← hW1, hrec]; exact run_enterLoop_inner hr₀ _ _ _ _ _
  · simp only [resolve, hg]
    simp [go_sem]
  · simp [invoke, go_sem, eg]
  · have hr0 : ∀ st pe, (rec st pe).state = st ∧ (rec st pe).pending = pe ∧ (rec st pe).fn = fn ∧ (rec st pe).tmps = a.tmps ∧ (rec st pe).params = ps ∧ (rec st pe).assign = assign ∧ (rec st pe).body = body := by
      rw [hrec]; exact fun _ _ => ⟨rfl, rfl, rfl, rfl, rfl, rfl, rfl⟩
    have hr1 : ∀ st pe st' pe', ({ rec st pe with state := st', pending := pe' } : Loop) = rec st' pe' := by rw [hrec]; exact fun _ _ _ _ => rfl
    refine (CallsIn.inRound l₀ (callsIn_any (hit w.heap.size
      (fun k F W => J k F W ∧ w.heap.size ∉ F ∧ W.heap[w.heap.size]? = some (.loop (rec .ready none)))
      (fun W => ∃ c, Jx c W ∧ W.heap[w.heap.size]? = some (.loop (rec .done (some c))))
      W1 (NC.of_fr hf1)
      (fun k F A B hj hf => ⟨hJ _ _ _ _ hj.1 (NC.of_fr hf), hj.2.1, hf.obj (by simp) hj.2.2⟩)
      (fun A B hj hf => by obtain ⟨c, h1, h2⟩ := hj; exact ⟨c, hJx _ _ _ h1 (NC.of_fr hf), hf.obj (by simp) h2⟩)
      ?_ ?_))).mono ?_
    · rintro k F W hk ⟨hj, hl, hL⟩
      obtain ⟨fn', tmps', as', bo', hy, hR⟩ := round_of (P := P) (m := 0) (xk := xs[k]) (k := k) a.tmps hr0 hr1 hfn (Nat.le_refl _) hL hl (hps _ (List.getElem_mem hk)) hJ hJx (hround _ k F W hk (Nat.le_refl _) ⟨_, hL⟩ hl hj)
      refine ⟨fn', tmps', as', bo', hy, hR.mono ?_⟩
      have hLs : w.heap.size < W.heap.size := (Array.getElem?_eq_some_iff.1 hL).1
      rintro e B (⟨rfl, hL2, F', hj2, hkept, hF', oth⟩ | ⟨rfl, c, hL2, hx, oth⟩)
      · exact .inl ⟨rfl, F', ⟨hj2, fun hm => (hF' _ hm).elim hl (fun h => by omega), hL2⟩, hkept, hF'⟩
      · exact .inr ⟨rfl, c, hx, hL2⟩
    · intro B hB
      exact ⟨F0, ⟨h0 W1 B (NC.of_fr hf1) hB, fun hm => by have := (hF0 _ hm).1; omega, hE _ _ hB _ _ hL1 rfl⟩, fun b hb => ⟨by have := (hF0 b hb).1; omega, (hF0 b hb).2⟩⟩
    · rintro e W2 ⟨⟨v, rfl⟩, (⟨F, hj, hl, hL⟩ | ⟨c, hx, hL⟩)⟩
      · have hend := run_endLoop (P := P) hL (by rw [(hr0 _ _).1]; simp)
        rw [(hr0 _ _).2.1] at hend
        exact ⟨none, _, hend, hdone F _ (hJ _ _ _ _ hj (NC.putObj (Nat.le_refl _) hL rfl))⟩
      · have hend := run_endLoop (P := P) hL (by rw [(hr0 _ _).1]; simp)
        rw [(hr0 _ _).2.1] at hend
        exact ⟨some c, _, hend, hstop c _ (hJx _ _ _ hx (NC.putObj (Nat.le_refl _) hL rfl))⟩
end

end Go.Proofs.Ytaicpgkoailnkaa
