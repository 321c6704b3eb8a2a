/- Package sheets, walked: Snap. -/
import Derived.Test.YtaicpgkoailnkaaSheetK
import Derived.Outline
namespace Go.Proofs.Ytaicpgkoailnkaa
open Go.RowKit

section
variable {P : Program}
theorem fold_set (cs : List Value) : ∀ (k : Nat) (z : Array Value), k + cs.length ≤ z.size →
    (cs.zipIdx k).foldl (fun (a : Array Value) (x : Value × Nat) => a.setIfInBounds x.2 x.1) z = (z.toList.take k ++ cs ++ z.toList.drop (k + cs.length)).toArray := by
  induction cs with
  | nil => intro k z h; simp
  | cons c cs ih =>
    intro k z h
    simp only [List.length_cons] at h
    have h2 := ih (k + 1) (z.setIfInBounds k c) (by simp; omega)
    rw [List.zipIdx_cons, List.foldl_cons, h2]
    apply congrArg List.toArray
    simp only [Array.toList_setIfInBounds]
    have hk : k < z.toList.length := by simp; omega
    rw [List.take_succ_eq_append_getElem (by simpa using hk), List.getElem_set_self, List.take_set_of_le (by omega), List.drop_set_of_lt (by omega)]
    simp [Nat.add_assoc, Nat.add_comm 1]

theorem run_build_pre (w : World) (t : TypeId) (it : TypeInfo) (fields : Array Field) (z : Value) (cs : List Value) (rest : List (Nat × Nat))
    (h1 : P.info? t = some it) (h2 : P.underlying t = some (.struct fields)) (h3 : it.zero = some z) (h4 : fields.toList.mapM (fun f => (P.info? f.type).map fun i => (f.offset, i.size)) = some ((0, cs.length) :: rest)) (h5 : cs.length ≤ z.cells.size) :
    (Instr.build t #[(0, .agg cs.toArray)]).run P w = .ok (.agg (cs ++ z.cells.toList.drop cs.length).toArray) w := by
  refine run_build w t #[(0, .agg cs.toArray)] _ ?_
  unfold Program.built
  rw [h1, h2]
  simp only [h3, h4]
  generalize z.cells = zc at *
  have hf := fold_set cs 0 zc (by omega)
  simp only [List.take_zero, List.nil_append, Nat.zero_add] at hf
  have hc : (Value.agg cs.toArray).cells = cs.toArray := rfl
  simp [Instr.fill, hc, hf, h5]
theorem wpList_build1 {ops : Array Oper} {rest : List Oper} {o : Oper} {a : Act} {w : World} {Q : Exit → Act → World → Prop} (hgd : o.guard = none) (t : TypeId) (x : Operand) (ho : o.op = .build t #[(0, x)]) (u v : Value) (hx : a.eval x = u)
    (hb : (Instr.build t #[(0, u)]).run P w = .ok v w) (h : wpList P ops Q rest (a.put o.dst v) w) : wpList P ops Q (o :: rest) a w :=
  wpList_plain hgd fun _ hK => by
    unfold Oper.wp execOp
    simp only [ho, hx, List.map_toArray, List.map_cons, List.map_nil, Sem.run_bind, hb, Result.andThen_ok, Sem.run_pure]
    exact hK _ _ h
end

def falseB : Value → Bool
  | .bool false => true
  | _ => false
theorem falseB_eq {v : Value} (h : falseB v = true) : v = .bool false := by
  unfold falseB at h
  split at h
  · rfl
  · cases h
set_option maxRecDepth 100000 in
theorem bookOk : (match Try.prog.info? 77, Try.prog.underlying 77 with
    | some it, some (.struct fields) =>
      (match it.zero, fields.toList.mapM (fun f => (Try.prog.info? f.type).map fun i => (f.offset, i.size)) with
        | some z, some pl => decide (pl = [(0, 138), (138, 8)]) && (z.cells.size == 146) && (z.cells.toList.drop 138).all falseB
        | _, _ => false)
    | _, _ => false) = true := by kernel_rfl

theorem book_build (cs : List Value) (hc : cs.length = 138) (W : World) : (Instr.build 77 #[(0, .agg cs.toArray)]).run Try.prog W = .ok (.agg (cs ++ List.replicate 8 (Value.bool false)).toArray) W := by
  have h := bookOk
  split at h
  · rename_i it fields h1 h2
    split at h
    · rename_i z pl h3 h4
      simp only [Bool.and_eq_true, decide_eq_true_eq, beq_iff_eq] at h
      obtain ⟨⟨rfl, h5⟩, h6⟩ := h
      have hl : (z.cells.toList.drop 138).length = 8 := by simp [h5]
      have hr : z.cells.toList.drop 138 = List.replicate 8 (Value.bool false) := by
        rw [List.eq_replicate_iff]
        exact ⟨hl, fun v hv => falseB_eq (List.all_eq_true.1 h6 v hv)⟩
      rw [run_build_pre W 77 it fields z cs [(138, 8)] h1 h2 h3 (by rw [h4, hc]) (by omega), hc, hr]
    · cases h
  · cases h

set_option maxRecDepth 100000 in
set_option maxHeartbeats 2000000 in
theorem Snap_any (b n h : Nat) (pc : Nat → Nat) (tp : Nat → Int) (ow : Nat → Bool) (lf : Nat → Leaf) (w : World) (hb : Bk w b n h pc tp ow lf) :
    Calls Try.prog 15 #[.pointer (some ⟨b, 0, none⟩)] w fun r w' => r = .returned (.pointer (some ⟨w.heap.size, 0, none⟩)) ∧ Bk w' b n h pc tp (fun _ => false) lf ∧ Bk w' w.heap.size n h pc tp (fun _ => false) lf ∧ Fr [b] w w' := by
  obtain ⟨⟨f, hf, hft, hfo⟩, hlv, hok, hinj⟩ := id hb
  have HB := Lib.hid hb
  have hbs := hf.lt
  clear hb
  go_enter Try.func15, Try.ntmps15
  go_wp2
  go_loopw [4] (fun i wr => ∃ (k : Nat) (g : Nat → Value), k ≤ 8 ∧ i = .int .i64 k ∧ Blf wr b 77 146 g ∧ TreeF g n h pc tp ∧ (∀ j, j < 8 → g (138 + j) = .bool (if j < k then false else ow j)) ∧ Leaves wr pc lf ∧ Fr [b] w wr ∧ wr.heap.size = w.heap.size) (fun i _ => 8 - (intOf i).toNat)
  case atStart => exact ⟨0, f, by omega, rfl, hf, hft, fun j hj => by rw [hfo j hj]; simp, hlv, Fr.refl _ _, rfl⟩
  case round =>
    obtain ⟨k, g, hk, rfl, hg, hgt, hgo, hgl, hgf, hgs⟩ := hrel
    by_cases hk8 : k < 8
    · have k0 : (0 : Int) ≤ (k : Int) := by omega
      have k1 : (k : Int) < 8 := by omega
      have cO := hg.cell (i := 138 + k) (by omega)
      have zO := hg.frozen (138 + k)
      have hgl2 := hgl.setB (o := 138 + k) (u := .bool false) hg
      have HS := Lib.hid hgs
      clear hgs
      go_wp2
      go_roundw
      case rel =>
        refine ⟨k + 1, upd g (138 + k) (.bool false), by omega, by go_num, hg.set_ _ _, ⟨?_, ?_, fun j hj => ?_, fun i hi => ?_⟩, fun j hj => ?_, hgl2, hgf.setCell' (.inl (by simp)), by simp [World.setCell, HS.out]⟩
        · rw [upd_ne (by omega)]; exact hgt.n
        · rw [upd_ne (by omega)]; exact hgt.wd
        · rw [upd_ne (by omega)]; exact hgt.pc j hj
        · rw [upd_ne (by omega)]; exact hgt.tp i hi
        · by_cases e : j = k
          · subst e; rw [upd_eq]; simp
          · rw [upd_ne (by omega), hgo j hj]
            by_cases e2 : j < k
            · rw [if_pos e2, if_pos (by omega)]
            · rw [if_neg e2, if_neg (by omega)]
      case measure => simp [intOf]; omega
    · have hk9 : k = 8 := by omega
      subst hk9
      have hbk : Bk wr b n h pc tp (fun _ => false) lf := ⟨⟨g, hg, hgt, fun j hj => by rw [hgo j hj, if_pos hj]⟩, hgl, hok, hinj⟩
      obtain ⟨cs, hcs⟩ : ∃ cs, (List.range 138).map g = cs := ⟨_, rfl⟩
      have hcl : cs.length = 138 := by rw [← hcs]; simp
      have hpre : ∀ (j : Nat) (v : Value), cs[j]? = some v → wr.cell? ⟨b, j, none⟩ = some v := by
        intro j v hv
        rw [← hcs] at hv
        have hj : j < 138 := by have := (List.getElem?_eq_some_iff.1 hv).1; simpa using this
        rw [hg.cell (by omega)]
        simpa [hj] using hv
      obtain ⟨d, hd1, hd2⟩ := Try.uTree'
      have hi8 : (Try.prog.info? 74).map (·.size) = some cs.length := by rw [Try.iTree, hcl]
      have hbu := fun W => book_build cs hcl W
      have HBU := Lib.hid hbu
      clear hbu
      have HG := Lib.hid (And.intro hi8 (And.intro hpre (And.intro hd1 hd2)))
      have HF := Lib.hid (And.intro hbk (And.intro hgf (And.intro hcs (And.intro hcl (And.intro hg (And.intro hgt (And.intro hgl (And.intro hok (And.intro hinj hgs)))))))))
      clear hi8 hg hgt hgl hgf hgo hbk hpre hd1 hd2 hf hft hfo hlv hok hinj hcs hcl hgs
      go_wp2_with (first | (refine wpList_load_pre rfl 74 (.tmp 15) rfl b rfl cs d HG.out.2.1 HG.out.2.2.1 HG.out.2.2.2 HG.out.1 ?_) | (refine wpList_build1 rfl 77 (.tmp 16) rfl (.agg cs.toArray) _ rfl (HBU.out _) ?_))
      go_ret
      obtain ⟨hbk, hgf, hcs, hcl, hg, hgt, hgl, hok, hinj, hgs⟩ := HF.out
      rw [hgs]
      refine ⟨rfl, hbk.fr ((Fr.refl [] wr).alloc _) (by simp) (by simp) (by simp), ⟨⟨fun i => if i < 138 then g i else .bool false, ?_, ?_, fun j hj => by dsimp only; rw [if_neg (by omega)]⟩, hgl.fr ((Fr.refl [] wr).alloc _) (by simp) (by simp), hok, hinj⟩, hgf.alloc _⟩
      · rw [← hgs]
        refine Blf.of_list (Blk.new _ _ _) (by simp [hcl]) (fun i hi => ?_)
        by_cases h1 : i < 138
        · rw [if_pos h1, List.getElem?_append_left (by omega), ← hcs]
          simp [h1]
        · rw [if_neg h1, List.getElem?_append_right (by omega), hcl]
          obtain ⟨m, hm⟩ : ∃ m, i - 138 = m := ⟨_, rfl⟩
          rw [hm]
          have hm8 : m < 8 := by omega
          match m, hm8 with
          | 0, _ | 1, _ | 2, _ | 3, _ | 4, _ | 5, _ | 6, _ | 7, _ => rfl
      · exact ⟨by rw [if_pos (by omega)]; exact hgt.n, by rw [if_pos (by omega)]; exact hgt.wd, fun j hj => by rw [if_pos (by omega)]; exact hgt.pc j hj, fun i hi => by rw [if_pos (by omega)]; exact hgt.tp i hi⟩
end Go.Proofs.Ytaicpgkoailnkaa
