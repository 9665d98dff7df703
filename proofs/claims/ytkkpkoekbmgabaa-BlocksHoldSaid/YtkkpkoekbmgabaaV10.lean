/-
  Part 10 of an abstract machine that answers as the model does.
  Code: what the abstract machine says of it holds of every walk of it.
  Functions and rounds: the abstract machine's calls are the model's.
  Rounds; the oracle that the abstract machine's own calls make.
-/
import Derived.Test.YtkkpkoekbmgabaaV9
import Derived.Scope
set_option linter.all false
set_option linter.unusedVariables false
set_option linter.unusedSimpArgs false
set_option linter.unusedSectionVars false
namespace Go.VM
open Go

def exOf : Ex → Exit
  | .normal => .normal
  | .exit id => .exit id
  | .ret => .ret

theorem least {p : Nat → Prop} (h : ∃ n, p n) : ∃ n, p n ∧ ∀ m, p m → n ≤ m := by
  obtain ⟨n, hn⟩ := h
  induction n using Nat.strongRecOn with
  | _ n ih =>
    by_cases hl : ∃ m, m < n ∧ p m
    · obtain ⟨m, h1, h2⟩ := hl; exact ih m h1 h2
    · exact ⟨n, hn, fun m hm => by
        rcases Nat.lt_or_ge m n with h | h
        · exact absurd ⟨m, h, hm⟩ hl
        · exact h⟩

theorem wpIn_loopN {F : Fence} {n : Nat} {P : Program} {Q : Exit → Act → World → Prop} {a : Act} {w : World} {c : Code} (J : Nat → Act → World → Prop) (h0 : ∃ m, J m a w) (hz : ∀ a w, ¬ J 0 a w)
    (round : ∀ m a w, J (m + 1) a w → c.wpIn F n P (Exit.then (J m) Q) a w) : (Code.loop c).wpIn F n P Q a w := by
  classical
  refine wpIn_loop (fun a w => ∃ m, J m a w) (fun a w => if h : ∃ m, J m a w then (least h).choose else 0) h0 fun a w hI => ?_
  have hs := (least hI).choose_spec
  simp only [dif_pos hI]
  generalize (least hI).choose = m at hs ⊢
  cases m with
  | zero => exact absurd hs.1 (hz a w)
  | succ m =>
    refine wpIn_mono (round m a w hs.1) fun e a' w' hq => ?_
    cases e with
    | normal =>
      have hI' : ∃ m, J m a' w' := ⟨m, hq⟩
      refine ⟨hI', ?_⟩
      simp only [dif_pos hI']
      exact Nat.lt_succ_of_le ((least hI').choose_spec.2 m hq)
    | _ => exact hq

section
variable {Γ : Ctx} {base : Nat} {κ : K} {H : Heap} {w : World}

/-- A loop's record turns. -/
theorem SRel.loopTurn (h : SRel Γ base κ H w) {id l : Nat} {lo : VLoop} {L L' : Loop} {o : HObj} (hl : κ.loc id = some l) (hg : hget H id = .loop lo) (hL : w.heap[l]? = some (.loop L)) (ho : o = .dead ∨ ∃ lo', o = .loop lo' ∧ LoopRel Γ κ lo' L') :
    SRel Γ base κ (hset H id o) (w.putObj l (.loop L')) ∧ Grow κ H w κ (hset H id o) (w.putObj l (.loop L')) := by
  have hlt : l < w.heap.size := (Array.getElem?_eq_some_iff.1 hL).1
  refine h.turnOne id o l l ⟨rfl, rfl, rfl, Nat.le_refl _, by simp⟩ κ.le_refl (by rw [hg]; exact hl) rfl (fun _ _ => rfl) (fun k _ hne => World.putObj_heap_other hne) (fun a v hv => ?_) (fun k hk => ?_) (.inl rfl) ?_
  · have hne : a.block ≠ l := fun e => by
      have hc := h.imm a v hv
      unfold World.cell? at hc
      rw [e, hL] at hc
      simp at hc
    exact ⟨(World.cell?_of_block (World.putObj_heap_other hne)).trans (h.imm a v hv), .inl hv⟩
  · rcases ho with rfl | ⟨lo', rfl, _⟩
    · cases hk
    · simp only [place] at hk; rw [hl] at hk; exact (Option.some.inj hk).symm
  · rcases ho with rfl | ⟨lo', rfl, hr⟩
    · trivial
    · exact ⟨L', World.putObj_heap_same hlt, hr⟩
end

/-! ### a step of a loop over a map -/
theorem MRels.filter {I : Imm} (p : Nat → Bool) {es : List (Nat × PV × PV)} {l : List MapEntry} (hm : MRels I es l) : MRels I (es.filter fun e => p e.1) (l.filter fun x => p x.born) := by
  induction hm with
  | nil => exact .nil
  | cons k v e es l h1 h2 _ ih =>
    rw [List.filter_cons, List.filter_cons]
    dsimp only
    cases p e.born with
    | true => exact .cons _ _ _ _ _ h1 h2 ih
    | false => exact ih
theorem MRels.get {I : Imm} {es : List (Nat × PV × PV)} {l : List MapEntry} (hm : MRels I es l) : ∀ {i : Nat} {x : MapEntry}, l[i]? = some x → ∃ e, es[i]? = some e ∧ e.1 = x.born ∧ PRel I e.2.1 x.key ∧ PRel I e.2.2 x.val := by
  induction hm with
  | nil => intro i x h; simp at h
  | cons k v e es l h1 h2 _ ih =>
    intro i x h
    cases i with
    | zero => simp at h; subst h; exact ⟨_, rfl, rfl, h1, h2⟩
    | succ i => simp at h; simpa using ih h
theorem MRels.append {I : Imm} {es es2 : List (Nat × PV × PV)} {l l2 : List MapEntry} (hm : MRels I es l) (h2 : MRels I es2 l2) : MRels I (es ++ es2) (l ++ l2) := by
  induction hm with
  | nil => exact h2
  | cons k v e es l a b _ ih => exact .cons _ _ _ _ _ a b ih
theorem MRels.all {I : Imm} (p : Nat → Bool) {es : List (Nat × PV × PV)} {l : List MapEntry} (hm : MRels I es l) : es.all (fun e => p e.1) = l.all fun x => p x.born := by
  induction hm with
  | nil => rfl
  | cons k v e es l a b _ ih => simp [ih]
theorem run_choose {P : Program} (w : World) (n : Nat) (hn : 0 < n) : ∃ (j : Nat) (w1 : World), j < n ∧ (w1 = w ∨ w1 = w.drew) ∧ (choose (Question.mapNext n)).run P w = .ok j w1 := by
  by_cases hf : n ≤ 1
  · exact ⟨0, w, by omega, .inl rfl, by simp [choose, Sem.run, Question.forced, hf]⟩
  · exact ⟨_, w.drew, Nat.mod_lt _ (by omega), .inr rfl, by
      simp only [choose, Sem.run, Question.forced, decide_eq_true_eq, hf, if_false, Question.cut]
      rfl⟩
section
variable {Γ : Ctx} {base : Nat} {κ : K} {H : Heap} {w : World} {o : Oper} {a : Act} {r : Regs}
/-- An iterator steps. -/
theorem SRel.iterTurn (h : SRel Γ base κ H w) {id k m km since last clk : Nat} {seen seen' : List Nat} (hl : κ.loc id = some k) (hg : hget H id = .iter (some m) since seen last) (hm : κ.loc m = some km) (hw : w.heap[k]? = some (.mapIter (some km) since seen.toArray last)) :
    SRel Γ base κ (hset H id (.iter (some m) since seen' clk)) (w.putObj k (.mapIter (some km) since seen'.toArray clk)) ∧ Grow κ H w κ (hset H id (.iter (some m) since seen' clk)) (w.putObj k (.mapIter (some km) since seen'.toArray clk)) := by
  have hlt : k < w.heap.size := (Array.getElem?_eq_some_iff.1 hw).1
  refine h.turnOne id _ k k ⟨rfl, rfl, rfl, Nat.le_refl _, by simp⟩ κ.le_refl (by rw [hg]; exact hl) rfl (fun _ _ => rfl) (fun j _ hne => World.putObj_heap_other hne) (fun a v hv => ?_) (fun j hj => ?_) (.inl rfl) ?_
  · have hne : a.block ≠ k := fun e => by
      have hc := h.imm a v hv
      unfold World.cell? at hc
      rw [e, hw] at hc
      simp at hc
    exact ⟨(World.cell?_of_block (World.putObj_heap_other hne)).trans (h.imm a v hv), .inl hv⟩
  · simp only [place] at hj; rw [hl] at hj; exact (Option.some.inj hj).symm
  · refine ⟨some km, World.putObj_heap_same hlt, (fun h => by cases h), fun m' h => ?_⟩
    injection h with h; subst h; exact ⟨km, rfl, hm⟩
theorem step_in {O N : Array MapEntry} {eo en : List (Nat × PV × PV)} (f1 : MRels κ.imm eo O.toList) (f2 : MRels κ.imm en N.toList) {w1 : World} (hb : SRel Γ base κ H w1 ∧ Grow κ H w κ H w1) {id k m km since last clk nx j : Nat} {seen : List Nat}
    (hl : κ.loc id = some k) (hg : hget H id = .iter (some m) since seen last) (hm : κ.loc m = some km) (hw : w1.heap[k]? = some (.mapIter (some km) since seen.toArray last)) {ty : TypeId} {l : List (Regs × Heap)}
    (hstep : (Instr.next (.pointer (some ⟨k, 0, none⟩)) false ty).run Γ.P w = (match ((O ++ N).map some : Array (Option MapEntry))[j]? with
                | some (some e) => (do setObj k (.mapIter (some km) since (seen.toArray.push e.born) clk); pure (.tuple #[.bool true, e.key, e.val]) : Sem Value)
                | some none => pure (.tuple #[.bool false])
                | none => stuck "Next: no such candidate").run Γ.P w1) (hj : j < (O ++ N).size)
    {C : AV → Heap → Prop} (fin : ∀ v H', (∃ v' w', (Instr.next (.pointer (some ⟨k, 0, none⟩)) false ty).run Γ.P w = .ok v' w' ∧ VRel κ v v' ∧ SRel Γ base κ H' w' ∧ Grow κ H w κ H' w') → C v H')
    (hmem : ∀ p, p ∈ ((eo ++ en).map fun e => (upd r nx (.pv (.tup [.bool true, e.2.1, e.2.2])), hset H id (.iter (some m) since (seen ++ [e.1]) clk))) → p ∈ l) : ∃ v H', (upd r nx v, H') ∈ l ∧ C v H' := by
  have fA := f1.append f2
  have hx : (O.toList ++ N.toList)[j]? = some (O ++ N)[j] := by rw [← Array.toList_append, Array.getElem?_toList, Array.getElem?_eq_getElem hj]
  obtain ⟨e, g1, g2, g3, g4⟩ := fA.get hx
  have ht := hb.1.iterTurn (seen' := seen ++ [e.1]) (clk := clk) hl hg hm hw
  refine ⟨.pv (.tup [.bool true, e.2.1, e.2.2]), _, hmem _ (List.mem_map.2 ⟨e, List.mem_of_getElem? g1, rfl⟩), fin _ _ ⟨.tuple #[.bool true, (O ++ N)[j].key, (O ++ N)[j].val], _, ?_, .pv _ _ (.tup _ [.bool true, (O ++ N)[j].key, (O ++ N)[j].val] (.cons _ _ _ _ (.bool _) (.cons _ _ _ _ g3 (.cons _ _ _ _ g4 .nil)))), ht.1, hb.2.trans ht.2⟩⟩
  rw [hstep, Array.getElem?_map, Array.getElem?_eq_getElem hj]
  have hlt : k < w1.heap.size := (Array.getElem?_eq_some_iff.1 hw).1
  have hse : (setObj k (.mapIter (some km) since (seen.toArray.push (O ++ N)[j].born) clk)).run Γ.P w1 = .ok () (w1.putObj k (.mapIter (some km) since (seen ++ [e.1]).toArray clk)) := by
    simp only [setObj, Sem.run, hw]
    rw [g2]
    simp [World.putObj]
  simp only [Option.map_some, Sem.run_bind, hse, Result.andThen_ok, Sem.run_pure]
theorem next_ok (hs : SRel Γ base κ H w) (hr : RRel κ r a) {x : Operand} {it nx : Nat} (hx : compOpd x = some (.t it)) (hop : o.op = .next x false) {l : List (Regs × Heap)} (hst : stepM it nx r H = some l) :
    ∃ v H', (upd r nx v, H') ∈ l ∧ OpOK Γ base κ H w o a v H' := by
  have hv : VRel κ (r it) (a.eval x) := opd_rel hr hx
  unfold stepM at hst
  have fin : ∀ v H', (∃ v' w', (Instr.next (a.eval x) false o.type).run Γ.P w = .ok v' w' ∧ VRel κ v v' ∧ SRel Γ base κ H' w' ∧ Grow κ H w κ H' w') → OpOK Γ base κ H w o a v H' := fun v H' ⟨v', w', h1, h2, h3, h4⟩ =>
    RunOK.op (s := Instr.next (a.eval x) false o.type) (by simp only [execOp, hop]) ⟨v', κ, w', h1, h2, h3, h4⟩
  generalize a.eval x = vx at hv fin
  split at hst
  · rename_i id off hit
    rw [hit] at hv
    cases hb : Nat.beq off 0 with
    | false => rw [hb] at hst; cases hst
    | true =>
    rw [hb] at hst; simp only [cond_true] at hst
    have h0 := Nat.eq_of_beq_eq_true hb
    subst h0
    split at hst
    · rename_i m since seen last hg
      cases hv with
      | ptr _ _ k hl =>
      obtain ⟨_, hob⟩ := hs.obj id k (by rw [hg]; exact hl)
      rw [hg] at hob
      obtain ⟨mk, hw, hn1, hn2⟩ := hob
      split at hst
      · injection hst with hst; subst hst
        have := hn1 rfl; subst this
        refine ⟨_, H, List.mem_singleton.2 rfl, fin _ _ ⟨.tuple #[.bool false], w, ?_, .pv _ _ (.tup [.bool false] [.bool false] (.cons _ _ _ _ (.bool _) .nil)), hs, Grow.refl _ _ _⟩⟩
        simp only [Instr.next, getObj, Sem.run_bind, Sem.run, hw, Result.andThen_ok]
        rfl
      · rename_i m
        obtain ⟨km, rfl, hlm⟩ := hn2 m rfl
        split at hst
        · rename_i clk es hgm
          obtain ⟨_, hob⟩ := hs.obj m km (by rw [hgm]; exact hlm)
          rw [hgm] at hob
          obtain ⟨ents, hwm, hm⟩ := hob
          rw [Bool.cond_eq_ite] at hst
          split at hst
          · cases hst
          · rename_i hbad
            injection hst with hst; subst hst
            have hbad' : (!seen.toArray.isEmpty && !ents.isEmpty && ents.all fun x => decide (x.born ≥ last)) = false := by
              have e1 : seen.toArray.isEmpty = seen.isEmpty := by simp
              have e2 : ents.isEmpty = es.isEmpty := by
                have := hm.length
                rw [Bool.eq_iff_iff]; simp [Array.isEmpty_iff]
                constructor
                · intro h; rw [h] at this; simpa using this
                · intro h; rw [h] at this; simp at this; exact Array.eq_empty_of_size_eq_zero this.symm
              have e3 : (ents.all fun x => decide (x.born ≥ last)) = es.all fun e => Nat.ble last e.1 := by
                rw [hm.all (fun n => Nat.ble last n), ← Array.all_toList]
                congr 1; funext x
                rw [Bool.eq_iff_iff]; simp
              rw [e1, e2, e3]
              exact Bool.not_eq_true _ ▸ hbad
            have f1 := (hm.filter fun n => !seen.contains n).filter fun n => Nat.blt n since
            have f2 := (hm.filter fun n => !seen.contains n).filter fun n => Nat.ble since n
            have g0 : (ents.filter fun e => !seen.toArray.contains e.born).toList = ents.toList.filter fun e => !seen.contains e.born := by
              rw [Array.toList_filter]; congr 1; funext e; simp
            have g1 : ((ents.filter fun e => !seen.toArray.contains e.born).filter fun x => decide (x.born < since)).toList = (ents.toList.filter fun e => !seen.contains e.born).filter fun x => Nat.blt x.born since := by
              rw [Array.toList_filter, g0]; congr 1; funext e
              rw [Bool.eq_iff_iff]; simp [Nat.blt]; omega
            have g2 : ((ents.filter fun e => !seen.toArray.contains e.born).filter fun x => decide (x.born ≥ since)).toList = (ents.toList.filter fun e => !seen.contains e.born).filter fun x => Nat.ble since x.born := by
              rw [Array.toList_filter, g0]; congr 1; funext e
              rw [Bool.eq_iff_iff]; simp
            rw [← g1] at f1
            rw [← g2] at f2
            generalize hO : (ents.filter fun e => !seen.toArray.contains e.born).filter (fun x => decide (x.born < since)) = O at f1 g1
            generalize hN : (ents.filter fun e => !seen.toArray.contains e.born).filter (fun x => decide (x.born ≥ since)) = N at f2 g2
            have hOe : (oldM since seen es).isEmpty = O.isEmpty := by
              have h1 : (oldM since seen es).length = O.size := by have := f1.length; simpa [oldM] using this
              rw [Bool.eq_iff_iff]; simp only [List.isEmpty_iff, Array.isEmpty_iff]
              constructor
              · intro h; rw [h] at h1; exact Array.eq_empty_of_size_eq_zero h1.symm
              · intro h; rw [h] at h1; exact List.eq_nil_of_length_eq_zero h1
            have hpos : 0 < ((if O.isEmpty then #[none] else #[]) ++ (O ++ N).map some : Array (Option MapEntry)).size := by
              cases he : O.isEmpty with
              | true => simp; omega
              | false =>
                have : O.size ≠ 0 := fun h => by rw [Array.eq_empty_of_size_eq_zero h] at he; simp at he
                simp; omega
            obtain ⟨j, w1, hj, hw1, hrun⟩ := run_choose (P := Γ.P) w _ hpos
            have base1 : SRel Γ base κ H w1 ∧ Grow κ H w κ H w1 := by
              rcases hw1 with rfl | rfl
              · exact ⟨hs, Grow.refl _ _ _⟩
              · exact hs.drew
            have hw' : w1.heap[k]? = some (.mapIter (some km) since seen.toArray last) := by rcases hw1 with rfl | rfl <;> exact hw
            have hstep : (Instr.next (.pointer (some ⟨k, 0, none⟩)) false o.type).run Γ.P w = (match ((if O.isEmpty then #[none] else #[]) ++ (O ++ N).map some : Array (Option MapEntry))[j]? with
                | some (some e) => (do setObj k (.mapIter (some km) since (seen.toArray.push e.born) clk); pure (.tuple #[.bool true, e.key, e.val]) : Sem Value)
                | some none => pure (.tuple #[.bool false])
                | none => stuck "Next: no such candidate").run Γ.P w1 := by
              simp only [Instr.next, getObj, Sem.run_bind, Sem.run, hw, hwm, Result.andThen_ok, hbad', Bool.false_eq_true, if_false, hO, hN, hrun]
              rfl
            rw [Array.getElem?_append] at hstep
            cases he : O.isEmpty with
            | true =>
              rw [he] at hstep hOe
              simp only [if_true, hOe, cond_true] at hstep ⊢
              by_cases hj0 : j < (#[none] : Array (Option MapEntry)).size
              · have : j = 0 := by simp at hj0; exact hj0
                subst this
                simp only [hj0, if_true] at hstep
                refine ⟨_, H, List.mem_append_left _ (List.mem_singleton.2 rfl), fin _ _ ⟨.tuple #[.bool false], w1, ?_, .pv _ _ (.tup [.bool false] [.bool false] (.cons _ _ _ _ (.bool _) .nil)), base1.1, base1.2⟩⟩
                rw [hstep]; rfl
              · simp only [hj0, if_false] at hstep
                have hjn : j - 1 < (O ++ N).size := by simp [he] at hj hj0 ⊢; omega
                exact step_in f1 f2 base1 hl hg hlm hw' hstep (by simpa using hjn) fin (fun p hp => List.mem_append_right _ hp)
            | false =>
              rw [he] at hstep hOe
              simp only [Bool.false_eq_true, if_false, hOe, cond_false, Array.size_empty, Nat.not_lt_zero, List.nil_append, Nat.sub_zero] at hstep ⊢
              have hjn : j < (O ++ N).size := by simp [he] at hj ⊢; omega
              exact step_in f1 f2 base1 hl hg hlm hw' hstep (by simpa using hjn) fin (fun p hp => hp)
        · cases hst
    · cases hst
  · cases hst
end

theorem some_bind {α β : Type} {x : Option α} {F : α → Option β} {y : β} (h : x.bind F = some y) : ∃ p, x = some p ∧ F p = some y := by
  cases x with
  | none => cases h
  | some p => exact ⟨p, rfl, h⟩
theorem all_blt {l : List Nat} {n : Nat} (h : l.all (fun t => Nat.blt t n) = true) : ∀ t ∈ l, t < n := fun t ht => blt_lt (List.all_eq_true.1 h t ht)

section
variable {P : Program} {b : Frame} {a : Act} {k : List Item} {cs : List Frame} {w : World} {F : Fence} {n : Nat} {Q : Exit → Act → World → Prop}
theorem stepR_scope {c : Code} : step P (lone (b.atR a (.code (.scope c) :: k)) cs w) = .next (lone (b.atR a (.code c :: .inScope c :: k)) cs w) :=
  step_lone_go (by simp [stepG, stepG.exec, Frame.atR])
theorem stepR_inScope {c : Code} : step P (lone (b.atR a (.inScope c :: k)) cs w) = .next (lone (b.atR a k) cs w) :=
  step_lone_go (by simp [stepG, stepG.exec, Frame.atR])
theorem wpIn_scope {c : Code} (h : c.wpIn F n P (Exit.noGoto Q) a w) : (Code.scope c).wpIn F n P Q a w := by
  intro b k cs hro hb hr
  have h0 : (lone (b.atR a (.code (.scope c) :: k)) cs w).fenced P F := fenced_calm hb hr rfl
  obtain ⟨e, a₁, w₁, hq, harr⟩ := h b (.inScope c :: k) cs hro hb hr
  cases e with
  | normal => exact ⟨.normal, a₁, w₁, hq, .head h0 stepR_scope (StepsIn.trans harr (.one (fenced_calm hb hr rfl) stepR_inScope))⟩
  | exit id =>
    have hx : exitTo id (.inScope c :: k) = exitTo id k := by simp [exitTo]
    exact ⟨.exit id, a₁, w₁, hq, fun k' hk => .head h0 stepR_scope (harr.1 k' (by rw [hx]; exact hk)),
      fun hr' hk => let ⟨k₁, h1, h2⟩ := harr.2 hr' (by rw [hx]; exact hk); ⟨k₁, h1, .head h0 stepR_scope h2⟩⟩
  | goto l => exact hq.elim
  | ret => exact ⟨_, a₁, w₁, hq, .of_steps (.one h0 stepR_scope) harr⟩
  | panic ch => exact ⟨_, a₁, w₁, hq, .of_steps (.one h0 stepR_scope) harr⟩
  | outgrown => exact ⟨_, a₁, w₁, hq, .of_steps (.one h0 stepR_scope) harr⟩
end

/-! ### less is known -/
section
variable {Γ : Ctx} {base sz n : Nat} {κ κ0 : K} {H H' Hs : Heap} {w w0 : World} {r r' : Regs} {a : Act}
theorem SRel.less (h : SRel Γ base κ H w) (hl : H.length ≤ H'.length) (hh : ∀ id, hget H' id = .dead ∨ hget H' id = hget H id) : SRel Γ base κ H' w := by
  have pl : ∀ id k, place κ id (hget H' id) = some k → hget H' id = hget H id := fun id k hk => by
    rcases hh id with e | e
    · rw [e] at hk; cases hk
    · exact e
  refine ⟨h.imm, fun id k hk => ?_, fun id id' k h1 h2 => ?_, fun id hid => h.fresh id (Nat.le_trans hl hid), h.base, h.gv, h.gn⟩
  · have e := pl id k hk
    rw [e] at hk ⊢
    exact h.obj id k hk
  · rw [pl id k h1] at h1; rw [pl id' k h2] at h2
    exact h.inj id id' k h1 h2
theorem Marks.less {ds : List Deferred} (h : Marks sz κ H w ds) (hh : ∀ id, hget H' id = .dead ∨ hget H' id = hget H id) : Marks sz κ H' w ds := by
  induction h with
  | nil => exact .nil
  | cons D ds h1 h2 h3 h4 _ ih =>
    refine .cons D ds h1 h2 (fun id hp => ?_) h4 ih
    rcases hh id with e | e
    · rw [e] at hp; cases hp
    · rw [e] at hp; exact h3 id hp
theorem Grow.less (g : Grow κ0 Hs w0 κ H w) (hl : H.length ≤ H'.length) (hh : ∀ id, hget H' id = .dead ∨ hget H' id = hget H id) (hi : ∀ id, id < Hs.length → Idle κ id → hget H' id = hget H id) : Grow κ0 Hs w0 κ H' w := by
  refine ⟨g.le, g.size, Nat.le_trans g.len hl, g.os, g.tape, g.output, g.drawn, g.frame, fun id k hk => ?_, g.imm, fun id h1 h2 => ?_⟩
  · rcases hh id with e | e
    · rw [e] at hk; cases hk
    · rw [e] at hk; exact g.places id k hk
  · obtain ⟨g1, g2⟩ := g.idle id h1 h2
    exact ⟨(hi id h1 g2).trans g1, g2⟩
theorem Conf.less (h : Conf Γ base sz n κ H w r a) (hr : ∀ t, r' t = .any ∨ r' t = r t) (hl : H.length ≤ H'.length) (hh : ∀ id, hget H' id = .dead ∨ hget H' id = hget H id) : Conf Γ base sz n κ H' w r' a := by
  refine ⟨h.srel.less hl hh, fun t => ?_, h.size, h.marks.less hh⟩
  rcases hr t with e | e
  · rw [e]; exact .any _
  · rw [e]; exact h.regs t
end
theorem hget_range (f : Nat → HObj) (n id : Nat) : hget ((List.range n).map f) id = if id < n then f id else .dead := by
  have key : ∀ (l : List Nat) (id : Nat), hget (l.map f) id = match l[id]? with | some x => f x | none => .dead := by
    intro l
    induction l with
    | nil => intro id; cases id <;> rfl
    | cons a l ih => intro id; cases id with
      | zero => rfl
      | succ id => show hget (l.map f) id = _; rw [ih id, List.getElem?_cons_succ]
  rw [key]
  by_cases h : id < n
  · rw [if_pos h, List.getElem?_range h]
  · rw [if_neg h, List.getElem?_eq_none (by simp; omega)]
theorem foldl_max {α : Type} (f : α → Nat) (l : List α) : ∀ n, n ≤ l.foldl (fun n y => max n (f y)) n ∧ ∀ y ∈ l, f y ≤ l.foldl (fun n y => max n (f y)) n := by
  induction l with
  | nil => intro n; exact ⟨Nat.le_refl _, fun y h => by cases h⟩
  | cons a l ih =>
    intro n
    obtain ⟨h1, h2⟩ := ih (max n (f a))
    refine ⟨Nat.le_trans (Nat.le_max_left _ _) h1, fun y hy => ?_⟩
    rcases List.mem_cons.1 hy with e | e
    · subst e; exact Nat.le_trans (Nat.le_max_right _ _) h1
    · exact h2 y e
/-- What is the same at all ends is so at each. -/
theorem meetL_spec {n0 id0 : Nat} {L : List Res} {p : Res} (h : meetL n0 id0 L = some p) {x : Res} (hx : x ∈ L) :
    p.1 = x.1 ∧ (∀ t, p.2.1 t = .any ∨ p.2.1 t = x.2.1 t) ∧ x.2.2.length ≤ p.2.2.length ∧ (∀ id, hget p.2.2 id = .dead ∨ hget p.2.2 id = hget x.2.2 id) ∧ ∀ id, id < n0 → id ≠ id0 → hget p.2.2 id = hget x.2.2 id := by
  cases L with
  | nil => cases h
  | cons x0 xs =>
    simp only [meetL] at h
    split at h
    · rename_i hc
      injection h with h; subst h
      obtain ⟨c1, c2⟩ := hc
      have e1 : x.1 = x0.1 := by
        rcases List.mem_cons.1 hx with e | e
        · rw [e]
        · exact c1 x e
      have hlen : x.2.2.length ≤ (x0 :: xs).foldl (fun n y => max n y.2.2.length) 0 := (foldl_max (fun y : Res => y.2.2.length) (x0 :: xs) 0).2 x hx
      refine ⟨e1.symm, fun t => ?_, by simpa using hlen, fun id => ?_, fun id h1 h2 => ?_⟩
      · dsimp only
        split
        · rename_i hall
          right
          rcases List.mem_cons.1 hx with e | e
          · rw [e]
          · exact (hall x e).symm
        · exact .inl rfl
      · dsimp only
        rw [hget_range]
        split
        · split
          · rename_i hall
            right
            rcases List.mem_cons.1 hx with e | e
            · rw [e]
            · exact (hall.2 x e).symm
          · exact .inl rfl
        · exact .inl rfl
      · dsimp only
        rw [hget_range]
        have ex : hget x0.2.2 id = hget x.2.2 id := by
          rcases List.mem_cons.1 hx with e | e
          · rw [e]
          · exact (c2 id h1 h2 x e).symm
        split
        · rw [if_pos ⟨h2, fun y hy => c2 id h1 h2 y hy⟩, ex]
        · rename_i hn
          rw [hget_ge (by omega)]
    · cases h
theorem gatherM_mem {f : Regs → Heap → Option (List Res)} : ∀ {l : List (Regs × Heap)} {L : List Res}, gatherM l f = some L → ∀ p ∈ l, ∃ lp, f p.1 p.2 = some lp ∧ ∀ x ∈ lp, x ∈ L := by
  intro l
  induction l with
  | nil => intro L h p hp; cases hp
  | cons q l ih =>
    intro L h p hp
    simp only [gatherM] at h
    obtain ⟨a, h1, h2⟩ := some_bind h
    obtain ⟨b, h3, h4⟩ := some_bind h2
    injection h4 with h4; subst h4
    rcases List.mem_cons.1 hp with e | e
    · subst e; exact ⟨a, h1, fun x hx => List.mem_append_left _ hx⟩
    · obtain ⟨lp, g1, g2⟩ := ih h3 p e
      exact ⟨lp, g1, fun x hx => List.mem_append_right _ (g2 x hx)⟩
theorem nextC_inv {c : Code} (h : nextC c = true) : ∃ id ops b, c = .seq (.region id ops false) b := by
  unfold nextC at h
  split at h
  · rename_i id ops draw b
    cases draw with
    | true => cases h
    | false => exact ⟨id, ops, b, rfl⟩
  · cases h
theorem mkLoop_cases (c : VCode) : mkLoop c = .loop c ∨ ∃ nx it os b, c = .seq (.ops (⟨some nx, none, .nextM (.t it)⟩ :: os)) b ∧ mkLoop c = .loopM it nx (.seq (.ops os) b) := by
  unfold mkLoop
  split
  · exact .inr ⟨_, _, _, _, rfl, rfl⟩
  · exact .inl rfl

section
variable {Γ : Ctx} {env : Env} {E : Orc} {mu : Nat → Mu} {n : Nat}

theorem evOps_bad {R : Type} {r : Regs} {H : Heap} {k : Ex → Regs → Heap → Option R} {y : R} (he : evK env E (.ops [⟨none, none, .bad⟩]) R r H k = some y) : False := by
  simp only [evK_skip, evK_ops, evK_draw, evK_seq, evK_cond, evK_block, evK_loop, evK_rangeFunc, evK_exit, evK_ret, evOps_nil, evOps_cons, wantedV, cond_true, operG, badG, cond_false, operK, opK] at he
  cases he

/-- What the abstract machine says of code holds of every walk of it. -/
def Sound (Γ : Ctx) (env : Env) (E : Orc) (mu : Nat → Mu) (n base sz : Nat) (c : Code) : Prop := ∀ (top : Bool) (ro : Option Nat), (top = true → ro = none) → ∀ {R : Type} {κ0 κ : K} {Hs H : Heap} {w0 w : World} {r : Regs} {a : Act} {k : Ex → Regs → Heap → Option R} {y : R} {Q : Exit → Act → World → Prop},
    evK env E (compCode Γ.P Γ.md mu top n c) R r H k = some y → Conf Γ base sz n κ H w r a → Grow κ0 Hs w0 κ H w → sz ≤ w0.heap.size →
    (∀ e r' H' κ' a' w', k e r' H' = some y → Conf Γ base sz n κ' H' w' r' a' → Grow κ0 Hs w0 κ' H' w' → Q (exOf e) a' w') → c.wpIn (wideR ro) 0 Γ.P Q a w
/-- A loop over a map. -/
theorem loopM_sound (hE : OrcOK Γ E) {base sz : Nat} {rid : Nat} {ops : Array Oper} {b : Code} (hb : Sound Γ env E mu n base sz b) {it nx : Nat} {os : List VOper} (hos : compOpers Γ.P mu n ops.toList ops.toList = ⟨some nx, none, .nextM (.t it)⟩ :: os)
    (top : Bool) (ro : Option Nat) (htop : top = true → ro = none) {R : Type} {κ0 κ : K} {Hs H : Heap} {w0 w : World} {r : Regs} {a : Act} {k : Ex → Regs → Heap → Option R} {y : R} {Q : Exit → Act → World → Prop}
    (he : evK env E (.loopM it nx (.seq (.ops os) (compCode Γ.P Γ.md mu top n b))) R r H k = some y) (hcf : Conf Γ base sz n κ H w r a) (hg : Grow κ0 Hs w0 κ H w) (hsz : sz ≤ w0.heap.size)
    (hQ : ∀ e r' H' κ' a' w', k e r' H' = some y → Conf Γ base sz n κ' H' w' r' a' → Grow κ0 Hs w0 κ' H' w' → Q (exOf e) a' w') : (Code.loop (.seq (.region rid ops false) b)).wpIn (wideR ro) 0 Γ.P Q a w := by
  rw [evK_loopM, loopMK_def] at he
  obtain ⟨p, he, hk⟩ := some_bind he
  unfold endsM at he
  split at he
  · rename_i iid ioff hit
    obtain ⟨L, hlim, hmeet⟩ := some_bind he
    obtain ⟨m, hm⟩ := lim_some hlim
    clear hlim he
    -- the iterator's place
    have hv0 : VRel κ (r it) (a.tmps.getD it undef) := hcf.regs it
    rw [hit] at hv0
    obtain ⟨kit, hkit⟩ : ∃ kit, κ.loc iid = some kit := by
      generalize a.tmps.getD it undef = u at hv0
      cases hv0 with | ptr _ _ k h => exact ⟨k, h⟩
    refine wpIn_loopN (fun m a w => ∃ κ1 r1 H1 l, runM (fun r h => evK env E (.seq (.ops os) (compCode Γ.P Γ.md mu top n b)) Res r h fun e r h => some (e, r, h)) it nx m r1 H1 = some l ∧ (∀ x ∈ l, x ∈ L) ∧ Conf Γ base sz n κ1 H1 w r1 a ∧ Grow κ0 Hs w0 κ1 H1 w ∧ κ1.loc iid = some kit)
      ⟨m, κ, r, H, L, hm, fun x hx => hx, hcf, hg, hkit⟩ (fun a w ⟨_, _, _, _, h, _⟩ => by cases h) fun m a1 w1 ⟨κ1, r1, H1, l, h1, h2, h3, h4, h5⟩ => ?_
    simp only [runM] at h1
    obtain ⟨sl, g1, g2⟩ := some_bind h1
    -- the region's operations
    cases hol : ops.toList with
    | nil => rw [hol] at hos; cases hos
    | cons o ol =>
    have ho0 : ops[0]? = some o := by rw [← Array.getElem?_toList, hol]; rfl
    have hos' := hos
    rw [show compOpers Γ.P mu n ops.toList ops.toList = compOpers Γ.P mu n ops.toList (o :: ol) by rw [← hol]] at hos'
    rcases compOpers_cons (P := Γ.P) (mu := mu) (n := n) (all := ops.toList) (o := o) (l := ol) with ⟨g, v, e, hgd, hdst, hop⟩ | e
    · rw [e] at hos'
      injection hos' with e1 e2
      injection e1 with e1 e3 e4
      subst e3; subst e4
      obtain ⟨x, hox, hx⟩ := compOp_nextM hop
      obtain ⟨v, H2, hmem, hok⟩ := next_ok h3.srel h3.regs hx hox g1
      obtain ⟨lp, q1, q2⟩ := gatherM_mem g2 _ hmem
      obtain ⟨x2, q3, q4⟩ := some_bind q1
      rw [evK_seq, evK_ops] at q3
      have hnd : ∀ c, o.op ≠ .defer c := fun c h => by rw [hox] at h; cases h
      refine wpIn_seq (wpIn_region ?_)
      have hlen : List.range ops.size = 0 :: List.range' 1 ol.length := by
        have : ops.size = ol.length + 1 := by rw [← Array.length_toList, hol]; rfl
        rw [this, List.range_eq_range', List.range'_succ]
      rw [hlen]
      simp only [wpOpsIn, ho0]
      rw [wanted_rel h3.regs hgd (.inl rfl)]
      have hw : wantedV r1 none = true := rfl
      rw [hw]; simp only [if_true]
      refine OpOK.step ro hnd hok _ _ fun v' κ' w' hv hs hgr => ?_
      have hcf2 : Conf Γ base sz n κ' H2 w' (upd r1 nx v) (a1.put o.dst v') := by
        have := h3.step hs hgr hdst hv
        rw [e1] at this ⊢
        exact this
      rw [← e2] at q3
      have hd1 : ops.toList.drop 1 = ol := by rw [hol]; rfl
      refine ops_sound hE ro (Q := _) (ops := ops) (mu := mu) (κ0 := κ1) (H0 := H1) (w0 := w1) ol 1 hd1 _ H2 _ w' κ' hcf2 hgr q3 fun r3 H3 κ3 a3 w3 t1 t2 t3 => ?_
      refine hb top ro htop t1 t2 t3 (Nat.le_trans hsz h4.size) fun e4 r4 H4 κ4 a4 w4 u1 u2 u3 => ?_
      injection u1 with u1
      subst u1
      cases e4 with
      | normal => exact ⟨κ4, r4, H4, lp, q4, fun x hx => h2 x (q2 x hx), u2, h4.trans u3, u3.le.loc _ _ h5⟩
      | exit id =>
        injection q4 with q4; subst q4
        have hxL : ((.exit id, r4, H4) : Res) ∈ L := h2 _ (q2 _ (List.mem_singleton.2 rfl))
        obtain ⟨s1, s2, s3, s4, s5⟩ := meetL_spec hmeet hxL
        obtain ⟨pe, pr, ph⟩ := p
        dsimp only at s1 s2 s3 s4 s5 hk
        subst s1
        refine hQ (.exit id) pr ph κ4 a4 w4 hk (u2.less s2 s3 s4) ((h4.trans u3).less s3 s4 fun i hi hid => s5 i (Nat.lt_of_lt_of_le hi hg.len) fun e => ?_)
        subst e
        have := u3.le.loc _ _ h5
        rw [hid.1] at this; cases this
      | ret =>
        injection q4 with q4; subst q4
        have hxL : ((.ret, r4, H4) : Res) ∈ L := h2 _ (q2 _ (List.mem_singleton.2 rfl))
        obtain ⟨s1, s2, s3, s4, s5⟩ := meetL_spec hmeet hxL
        obtain ⟨pe, pr, ph⟩ := p
        dsimp only at s1 s2 s3 s4 s5 hk
        subst s1
        refine hQ .ret pr ph κ4 a4 w4 hk (u2.less s2 s3 s4) ((h4.trans u3).less s3 s4 fun i hi hid => s5 i (Nat.lt_of_lt_of_le hi hg.len) fun e => ?_)
        subst e
        have := u3.le.loc _ _ h5
        rw [hid.1] at this; cases this
    · rw [e] at hos'
      injection hos' with e1 e2
      injection e1 with e1
      cases e1
  · cases he
theorem code_sound2 (hE : OrcOK Γ E) (hm : Γ.P.follows .mixedOrders = true) (hmd : env.md = Γ.md) {base sz : Nat} : ∀ (c : Code), Sound Γ env E mu n base sz c ∧ ∀ x y, c = .seq x y → Sound Γ env E mu n base sz y := by
  intro c
  induction c with
  | skip =>
    refine ⟨?_, fun x' y' h => by cases h⟩
    intro top ro htop R κ0 κ Hs H w0 w r a k y Q he hcf hg hsz hQ
    exact wpIn_skip (hQ .normal r H κ a w he hcf hg)
  | region id ops draw =>
    refine ⟨?_, fun x' y' h => by cases h⟩
    intro top ro htop R κ0 κ Hs H w0 w r a k y Q he hcf hg hsz hQ
    cases draw with
    | false =>
      simp only [compCode, cond_false, evK_skip, evK_ops, evK_draw, evK_seq, evK_cond, evK_block, evK_loop, evK_rangeFunc, evK_exit, evK_ret] at he
      refine wpIn_region ?_
      rw [List.range_eq_range']
      have := ops_sound hE ro (Q := Q) (ops := ops) (mu := mu) (l := ops.toList) 0 rfl r H a w κ hcf hg he fun r' H' κ' a' w' h1 h2 h3 => hQ .normal r' H' κ' a' w' h1 h2 h3
      simpa using this
    | true =>
      simp only [compCode, cond_true] at he
      rw [← hmd] at he
      exact compDraw_sound hE hm ro he hcf hg fun r' H' κ' a' w' h1 h2 h3 => hQ .normal r' H' κ' a' w' h1 h2 h3
  | seq x y ihx ihy =>
    refine ⟨?_, fun x' y' h => by injection h with h1 h2; subst h2; exact ihy.1⟩
    intro top ro htop R κ0 κ Hs H w0 w r a k y' Q he hcf hg hsz hQ
    simp only [compCode, evK_skip, evK_ops, evK_draw, evK_seq, evK_cond, evK_block, evK_loop, evK_rangeFunc, evK_exit, evK_ret] at he
    refine wpIn_seq (ihx.1 top ro htop he hcf hg hsz fun e r' H' κ' a' w' h1 h2 h3 => ?_)
    cases e with
    | normal => exact ihy.1 top ro htop h1 h2 h3 hsz hQ
    | exit id => exact hQ (.exit id) r' H' κ' a' w' h1 h2 h3
    | ret => exact hQ .ret r' H' κ' a' w' h1 h2 h3
  | cond c x y ihx ihy =>
    refine ⟨?_, fun x' y' h => by cases h⟩
    intro top ro htop R κ0 κ Hs H w0 w r a k y' Q he hcf hg hsz hQ
    simp only [compCode] at he
    split at he
    · rename_i c' hc
      simp only [evK_skip, evK_ops, evK_draw, evK_seq, evK_cond, evK_block, evK_loop, evK_rangeFunc, evK_exit, evK_ret] at he
      have hv := opd_rel hcf.regs hc
      split at he
      · rename_i b hb
        rw [hb] at hv
        refine wpIn_cond (bool_rel hv) ?_
        cases b with
        | true => exact ihx.1 top ro htop he hcf hg hsz hQ
        | false => exact ihy.1 top ro htop he hcf hg hsz hQ
      · cases he
    · exact (evOps_bad he).elim
  | block id c ih =>
    refine ⟨?_, fun x' y' h => by cases h⟩
    intro top ro htop R κ0 κ Hs H w0 w r a k y Q he hcf hg hsz hQ
    simp only [compCode, evK_skip, evK_ops, evK_draw, evK_seq, evK_cond, evK_block, evK_loop, evK_rangeFunc, evK_exit, evK_ret] at he
    refine wpIn_block (ih.1 top ro htop he hcf hg hsz fun e r' H' κ' a' w' h1 h2 h3 => ?_)
    cases e with
    | normal => exact hQ .normal r' H' κ' a' w' h1 h2 h3
    | ret => exact hQ .ret r' H' κ' a' w' h1 h2 h3
    | exit j =>
      simp only [exOf, Exit.inBlock]
      simp only at h1
      cases hb : Nat.beq j id with
      | true =>
        rw [hb] at h1
        rw [if_pos (Nat.eq_of_beq_eq_true hb)]
        exact hQ .normal r' H' κ' a' w' h1 h2 h3
      | false =>
        rw [hb] at h1
        rw [if_neg (fun e => by subst e; simp at hb)]
        exact hQ (.exit j) r' H' κ' a' w' h1 h2 h3
  | loop c ih =>
    refine ⟨?_, fun x' y' h => by cases h⟩
    intro top ro htop R κ0 κ Hs H w0 w r a k y Q he hcf hg hsz hQ
    simp only [compCode] at he
    have hloop : (Code.loop c).wpIn (wideR ro) 0 Γ.P Q a w ∨ evK env E (.loop (compCode Γ.P Γ.md mu top n c)) R r H k = some y := by
      cases hn : nextC c with
      | false => rw [hn] at he; exact .inr he
      | true =>
        rw [hn] at he; simp only [cond_true] at he
        obtain ⟨rid, ops, b, rfl⟩ := nextC_inv hn
        rcases mkLoop_cases (compCode Γ.P Γ.md mu top n (.seq (.region rid ops false) b)) with e | ⟨nx, it, os, b', e1, e2⟩
        · rw [e] at he; exact .inr he
        · rw [e2] at he
          simp only [compCode, cond_false] at e1
          injection e1 with e1 e3
          injection e1 with e1
          subst e3
          exact .inl (loopM_sound hE (ih.2 _ _ rfl) e1 top ro htop he hcf hg hsz hQ)
    clear he
    rcases hloop with h | he
    · exact h
    simp only [evK_loop, loopK_def] at he
    cases hi : iterE (fun r h => evK env E (compCode Γ.P Γ.md mu top n c) Res r h fun e r h => some (e, r, h)) r H with
    | none => rw [hi] at he; cases he
    | some x =>
      rw [hi] at he; simp only [Option.bind_some] at he
      obtain ⟨e, r', H'⟩ := x
      obtain ⟨m, hm⟩ := lim_some hi
      refine wpIn_loopN (fun m a w => ∃ κ r H, iterN m (fun r h => evK env E (compCode Γ.P Γ.md mu top n c) Res r h fun e r h => some (e, r, h)) r H = some (e, r', H') ∧ Conf Γ base sz n κ H w r a ∧ Grow κ0 Hs w0 κ H w)
        ⟨m, κ, r, H, hm, hcf, hg⟩ (fun a w ⟨_, _, _, h, _⟩ => by cases h) fun m a1 w1 ⟨κ1, r1, H1, h1, h2, h3⟩ => ?_
      simp only [iterN] at h1
      obtain ⟨x, h4, h5⟩ := some_bind h1
      refine ih.1 top ro htop h4 h2 h3 hsz fun e2 r2 H2 κ2 a2 w2 h6 h7 h8 => ?_
      injection h6 with h6
      subst h6
      cases e2 with
      | normal => exact ⟨κ2, r2, H2, h5, h7, h8⟩
      | exit id =>
        injection h5 with h5; injection h5 with e1 h5; injection h5 with e2 e3
        subst e1; subst e2; subst e3
        exact hQ (.exit id) _ _ κ2 a2 w2 he h7 h8
      | ret =>
        injection h5 with h5; injection h5 with e1 h5; injection h5 with e2 e3
        subst e1; subst e2; subst e3
        exact hQ .ret _ _ κ2 a2 w2 he h7 h8
  | rangeFunc f ps asg bo =>
    refine ⟨?_, fun x' y' h => by cases h⟩
    intro top ro htop R κ0 κ Hs H w0 w r a k y Q he hcf hg hsz hQ
    simp only [compCode] at he
    split at he
    · rename_i f' hf
      cases hb : (top && ps.toList.all fun t => Nat.blt t n) with
      | false => rw [hb] at he; exact (evOps_bad he).elim
      | true =>
        rw [hb] at he
        simp only [cond_true, evK_skip, evK_ops, evK_draw, evK_seq, evK_cond, evK_block, evK_loop, evK_rangeFunc, evK_exit, evK_ret] at he
        rw [Bool.and_eq_true] at hb
        have hro := htop hb.1
        subst hro
        have hfv := opd_rel hcf.regs hf
        have fin : ∀ (g : FuncId) (as bs : List AV) (va vb : List Value), a.eval f = .func (.func g) va.toArray vb.toArray → VRels κ as va → VRels κ bs vb →
            callSK E (.fn g) (as ++ .yield H.length :: bs) (H ++ [.loop ⟨.ready, r, ps.toList, compCode Γ.P Γ.md mu false n asg, compCode Γ.P Γ.md mu false n bo⟩]) (fun _ h2 =>
              hgetK h2 H.length fun o => match o with
              | .loop lo => match lo.state with
                | .ready => k .normal r (hset h2 H.length .dead)
                | .done e => k e r (hset h2 H.length .dead)
                | .busy => none
              | _ => none) = some y → (Code.rangeFunc f ps asg bo).wpIn (wideR none) 0 Γ.P Q a w := by
          intro g as bs va vb hfe ha hb2 hcall
          obtain ⟨v, H2, hE1, hE2⟩ := callSK_inv hcall
          refine wpIn_rangeFunc fun fn _ => ?_
          obtain ⟨L, hL⟩ : ∃ L : Loop, L = { state := .ready, pending := none, fn := fn, tmps := a.tmps, params := ps, assign := asg, body := bo, defers := w.heap.size } := ⟨_, rfl⟩
          obtain ⟨s1, g1⟩ := hcf.srel.allocOther (.deferred (some []))
          have hfr := hcf.srel.fresh H.length (Nat.le_refl _)
          have hle := κ.le_at (k := w.heap.size + 1) hfr.1
          have hsz1 : (w.alloc (.deferred (some []))).heap.size = w.heap.size + 1 := by simp
          have hlr : LoopRel Γ (κ.at H.length (w.heap.size + 1)) ⟨.ready, r, ps.toList, compCode Γ.P Γ.md mu false n asg, compCode Γ.P Γ.md mu false n bo⟩ L := by
            subst hL
            exact ⟨⟨rfl, rfl⟩, hcf.regs.mono hle, rfl, fun t ht => Nat.lt_of_lt_of_le (all_blt hb.2 t ht) hcf.size, mu, n, hcf.size, rfl, rfl⟩
          obtain ⟨s2, g2⟩ := s1.turnNew (κ' := κ.at H.length (w.heap.size + 1)) (.loop ⟨.ready, r, ps.toList, compCode Γ.P Γ.md mu false n asg, compCode Γ.P Γ.md mu false n bo⟩) (w.heap.size + 1) (Same.alloc _ (.loop L)) hle (fun i hi => by simp [K.at, hi]) (fun _ _ => rfl)
            (fun k hk => heap_alloc_old _ _ k hk) (fun _ _ h => .inl h) (by simp [place, K.at]) (by rw [hsz1]; exact Nat.le_refl _) ⟨L, by
              have := heap_alloc_new (w.alloc (.deferred (some []))) (.loop L)
              rwa [hsz1] at this, hlr⟩
          have g12 := g1.trans g2
          have hargs : VRels (κ.at H.length (w.heap.size + 1)) (as ++ .yield H.length :: bs) (va ++ Value.func (.yield (w.heap.size + 1)) #[] #[] :: vb) :=
            (ha.mono hle).append (.cons _ _ _ _ (.yield _ _ (K.at_same _ _ _)) (hb2.mono hle))
          have hfn := hE.ok _ _ _ _ _ hE1
          have hD : ((w.alloc (.deferred (some []))).alloc (.loop L)).heap[w.heap.size]? = some (.deferred (some [])) := by
            rw [heap_alloc_old _ _ _ (by rw [hsz1]; omega)]; exact heap_alloc_new w _
          have hmk : Marks sz (κ.at H.length (w.heap.size + 1)) (H ++ [.loop ⟨.ready, r, ps.toList, compCode Γ.P Γ.md mu false n asg, compCode Γ.P Γ.md mu false n bo⟩]) ((w.alloc (.deferred (some []))).alloc (.loop L)) ({ target := .collected w.heap.size, args := #[] } :: a.defers) := by
            refine .cons w.heap.size a.defers (Nat.le_trans hsz hg.size) hD (fun id hp => ?_) (fun d hd e => ?_) (hcf.marks.grow g12)
            · have hlt := place_lt hcf.srel (id := id) (k := w.heap.size)
              by_cases hid : id = H.length
              · rw [hid, hget_append_same] at hp
                simp [place, K.at] at hp
              · have e : place (κ.at H.length (w.heap.size + 1)) id (hget (H ++ [.loop ⟨.ready, r, ps.toList, compCode Γ.P Γ.md mu false n asg, compCode Γ.P Γ.md mu false n bo⟩]) id) = place κ id (hget (H ++ [.loop ⟨.ready, r, ps.toList, compCode Γ.P Γ.md mu false n asg, compCode Γ.P Γ.md mu false n bo⟩]) id) := by
                  cases hget (H ++ [.loop ⟨.ready, r, ps.toList, compCode Γ.P Γ.md mu false n asg, compCode Γ.P Γ.md mu false n bo⟩]) id <;> simp [place, K.at, hid]
                rw [e] at hp
                rcases Nat.lt_or_ge id H.length with h | h
                · rw [hget_append_lt h] at hp
                  have := hlt hp; omega
                · rw [hget_ge (by simp; omega)] at hp; cases hp
            · have : ∀ {ds : List Deferred}, Marks sz κ H w ds → ∀ d ∈ ds, d.target ≠ .collected w.heap.size := by
                intro ds hds
                induction hds with
                | nil => intro d hd; cases hd
                | cons D ds _ h2 _ _ _ ih =>
                  intro d hd e
                  rcases List.mem_cons.1 hd with h | h
                  · subst h
                    injection e with e
                    have := (Array.getElem?_eq_some_iff.1 h2).1
                    omega
                  · exact ih d h e
              exact this hcf.marks d hd e
          refine ⟨w.heap.size + 1, [{ target := .collected w.heap.size, args := #[] }], (w.alloc (.deferred (some []))).alloc (.loop L), { target := .fn (.func g) vb.toArray, args := va.toArray ++ #[Value.func (.yield (w.heap.size + 1)) #[] #[]] },
            (w.alloc (.deferred (some []))).alloc (.loop L), g, (va ++ Value.func (.yield (w.heap.size + 1)) #[] #[] :: vb).toArray, (w.alloc (.deferred (some []))).alloc (.loop L), ?_, ?_, fun _ _ => trivial, ?_, fun hd => (by cases hd), ?_⟩
          · rw [hL]; exact run_enterLoop_outer fn a.tmps ps asg bo
          · rw [resolve_func (x := f) hfe]; simp [Act.eval]
          · rw [invoke_func _ _ hfn]
            congr 2
            apply Array.ext'; simp
          · refine (hE.fn _ _ _ _ _ hE1 base _ _ _ s2 hargs).mono fun e w3 hout => ?_
            cases e with
            | panicked _ => exact hout.elim
            | outgrown => exact hout.elim
            | returned u =>
              obtain ⟨κ3, _, s3, g3⟩ := hout
              have hl3 : κ3.loc H.length = some (w.heap.size + 1) := g3.le.loc _ _ (K.at_same _ _ _)
              rw [hgetK_def] at hE2
              cases ho : hget H2 H.length with
              | loop lo =>
                rw [ho] at hE2; simp only at hE2
                obtain ⟨_, hob⟩ := s3.obj H.length (w.heap.size + 1) (by rw [ho]; exact hl3)
                rw [ho] at hob
                obtain ⟨L3, hL3, hr3⟩ := hob
                obtain ⟨s4, g4⟩ := s3.loopTurn (L' := { L3 with state := .exhausted }) (o := .dead) hl3 ho hL3 (.inl rfl)
                have hendL := fun hb => run_endLoop (P := Γ.P) hL3 hb
                generalize w3.putObj (w.heap.size + 1) (.loop { L3 with state := .exhausted }) = w4 at s4 g4 hendL
                have gall := (g12.trans g3).trans g4
                have hcf' : Conf Γ base sz n κ3 (hset H2 H.length .dead) w4 r { a with defers := [{ target := .collected w.heap.size, args := #[] }] ++ a.defers } :=
                  ⟨s4, hcf.regs.mono gall.le, hcf.size, hmk.grow (g3.trans g4)⟩
                have hst := hr3.state
                cases hls : lo.state with
                | ready =>
                  rw [hls] at hE2 hst; simp only at hE2
                  obtain ⟨t1, t2⟩ := hst
                  refine ⟨none, _, ?_, hQ .normal r _ κ3 _ _ hE2 hcf' (hg.trans gall)⟩
                  rw [hendL (by rw [t1]; simp), t2]
                | busy => rw [hls] at hE2; cases hE2
                | done e =>
                  rw [hls] at hE2 hst; simp only at hE2
                  obtain ⟨t1, t2, t3⟩ := hst
                  have hend := hendL (by rw [t1]; simp)
                  rw [t2] at hend
                  cases e with
                  | normal => exact absurd rfl t3
                  | exit id => exact ⟨_, _, hend, wpIn_exit (hQ (.exit id) r _ κ3 _ _ hE2 hcf' (hg.trans gall))⟩
                  | ret => exact ⟨_, _, hend, wpIn_ret (hQ .ret r _ κ3 _ _ hE2 hcf' (hg.trans gall))⟩
              | _ => rw [ho] at hE2; cases hE2
        split at he
        · rename_i g as bs hfm
          rw [hfm] at hfv
          generalize hx : a.eval f = vf at hfv
          cases hfv with
          | pv _ _ hfv => cases hfv with
            | fn _ _ _ va vb h1 h2 => exact fin g _ _ va vb hx (VRels.of_pv h1) (VRels.of_pv h2) he
        · rename_i g as bs hfm
          rw [hfm] at hfv
          generalize hx : a.eval f = vf at hfv
          cases hfv with
          | fn _ _ _ va vb h1 h2 => exact fin g _ _ va vb hx h1 h2 he
        · cases he
    · exact (evOps_bad he).elim
  | scope c ih =>
    refine ⟨?_, fun x' y' h => by cases h⟩
    intro top ro htop R κ0 κ Hs H w0 w r a k y Q he hcf hg hsz hQ
    simp only [compCode] at he
    refine wpIn_scope (ih.1 top ro htop he hcf hg hsz fun e r' H' κ' a' w' h1 h2 h3 => ?_)
    cases e with
    | normal => exact hQ .normal r' H' κ' a' w' h1 h2 h3
    | ret => exact hQ .ret r' H' κ' a' w' h1 h2 h3
    | exit j => exact hQ (.exit j) r' H' κ' a' w' h1 h2 h3
  | label l =>
    refine ⟨?_, fun x' y' h => by cases h⟩
    intro top ro htop R κ0 κ Hs H w0 w r a k y Q he hcf hg hsz hQ
    exact wpIn_label (hQ .normal r H κ a w he hcf hg)
  | exit id =>
    refine ⟨?_, fun x' y' h => by cases h⟩
    intro top ro htop R κ0 κ Hs H w0 w r a k y Q he hcf hg hsz hQ
    exact wpIn_exit (hQ (.exit id) r H κ a w he hcf hg)
  | ret =>
    refine ⟨?_, fun x' y' h => by cases h⟩
    intro top ro htop R κ0 κ Hs H w0 w r a k y Q he hcf hg hsz hQ
    exact wpIn_ret (hQ .ret r H κ a w he hcf hg)
  | _ =>
    refine ⟨?_, fun x' y' h => by cases h⟩
    intro top ro htop R κ0 κ Hs H w0 w r a k y Q he hcf hg hsz hQ
    exact (evOps_bad he).elim
theorem code_sound (hE : OrcOK Γ E) (hm : Γ.P.follows .mixedOrders = true) (hmd : env.md = Γ.md) {base sz : Nat} : ∀ (c : Code) (top : Bool) (ro : Option Nat), (top = true → ro = none) → ∀ {R : Type} {κ0 κ : K} {Hs H : Heap} {w0 w : World} {r : Regs} {a : Act} {k : Ex → Regs → Heap → Option R} {y : R} {Q : Exit → Act → World → Prop},
    evK env E (compCode Γ.P Γ.md mu top n c) R r H k = some y → Conf Γ base sz n κ H w r a → Grow κ0 Hs w0 κ H w → sz ≤ w0.heap.size →
    (∀ e r' H' κ' a' w', k e r' H' = some y → Conf Γ base sz n κ' H' w' r' a' → Grow κ0 Hs w0 κ' H' w' → Q (exOf e) a' w') → c.wpIn (wideR ro) 0 Γ.P Q a w := fun c => (code_sound2 hE hm hmd c).1
end
end Go.VM

namespace Go.VM
open Go

section
variable {Γ : Ctx}

/-- What was compiled of a function. -/
def FnComp (Γ : Ctx) (f : FuncId) (vf : VFunc) : Prop :=
  ∃ fn c mu, Γ.P.funcs[f]? = some fn ∧ fn.body = some c ∧ (fn.name == "runtime.NumGoroutine") = false ∧ vf.code = compCode Γ.P Γ.md mu true fn.ntmps c ∧ compRess Γ.P fn.results.toList = some vf.results

structure EnvOK (Γ : Ctx) (env : Env) : Prop where
  md : env.md = Γ.md
  mixed : Γ.P.follows .mixedOrders = true
  ft : ∀ f vf, env.ft f = some vf → FnComp Γ f vf
  pr : ∀ f g, env.pr f = some g → FnOK Γ.P f ∧ ∀ ps p, g ps = some p → ∀ base κ H w vs, SRel Γ base κ H w → PRels κ.imm ps vs → CallsIn Fence.wide 0 Γ.P f vs.toArray w (Out Γ base κ H w (.pv p) H)
  prH : ∀ f p, env.prH f = some p → FnOK Γ.P f ∧ ∀ E, OrcOK Γ E → ∀ args H v H', primK p E args H = some (v, H') → ∀ base κ w vs, SRel Γ base κ H w → VRels κ args vs → CallsIn Fence.wide 0 Γ.P f vs.toArray w (Out Γ base κ H w v H')

theorem SRel.shut {base : Nat} {κ : K} {H : Heap} {w : World} (h : SRel Γ base κ H w) {D : Nat} {ds : Option (List Deferred)} (hD : w.heap[D]? = some (.deferred ds)) (hn : ∀ id, place κ id (hget H id) ≠ some D) (ds' : Option (List Deferred)) : SRel Γ base κ H (w.putObj D (.deferred ds')) := by
  refine ⟨fun a v hv => ?_, fun id k hk => ?_, h.inj, h.fresh, by simpa using h.base, h.gv, fun a ha => ⟨(h.gn a ha).1, ?_⟩⟩
  · have hne : a.block ≠ D := fun e => by
      have hc := h.imm a v hv
      unfold World.cell? at hc
      rw [e, hD] at hc
      simp at hc
    exact (World.cell?_of_block (World.putObj_heap_other hne)).trans (h.imm a v hv)
  · have hne : k ≠ D := fun e => hn id (by rw [← e]; exact hk)
    obtain ⟨g1, g2⟩ := h.obj id k hk
    exact ⟨g1, g2.mono κ.le_refl (World.putObj_heap_other hne) (fun _ _ => rfl) (fun _ => rfl)⟩
  · obtain ⟨_, g2⟩ := h.gn a ha
    by_cases e : a.block = D
    · unfold World.cell?
      have hlt : D < w.heap.size := by
        rcases Nat.lt_or_ge D w.heap.size with h' | h'
        · exact h'
        · rw [Array.getElem?_eq_none h'] at hD; cases hD
      rw [e, World.putObj_heap_same hlt]
    · exact (World.cell?_of_block (World.putObj_heap_other e)).trans g2

theorem Grow.shut {κ0 κ : K} {H0 H : Heap} {w0 w : World} (g : Grow κ0 H0 w0 κ H w) {D : Nat} (hD : w0.heap.size ≤ D) (o : Obj) : Grow κ0 H0 w0 κ H (w.putObj D o) :=
  ⟨g.le, by simpa using g.size, g.len, g.os, g.tape, g.output, g.drawn, fun k hk hn => by rw [World.putObj_heap_other (by omega)]; exact g.frame k hk hn, g.places, g.imm, g.idle⟩

theorem Marks.shut {sz : Nat} {κ : K} {H : Heap} {w : World} {ds : List Deferred} (h : Marks sz κ H w ds) {D : Nat} (hne : ∀ d ∈ ds, d.target ≠ .collected D) (o : Obj) : Marks sz κ H (w.putObj D o) ds := by
  induction h with
  | nil => exact .nil
  | cons D' ds h1 h2 h3 h4 _ ih =>
    have : D' ≠ D := fun e => hne _ (List.mem_cons_self ..) (by rw [e])
    exact .cons D' ds h1 (by rw [World.putObj_heap_other this]; exact h2) h3 h4 (ih fun d hd => hne d (List.mem_cons_of_mem _ hd))

theorem marks_leave {base sz : Nat} {κ0 κ : K} {H0 H : Heap} {w0 : World} {fn : Func} {tmps : Array Value} {R : Ending → World → Prop} (hsz : w0.heap.size ≤ sz)
    (hend : ∀ w', SRel Γ base κ H w' → Grow κ0 H0 w0 κ H w' → ∃ v, (results fn tmps).run Γ.P w' = .ok v w' ∧ R (.returned v) w') :
    ∀ {ds : List Deferred} {w : World}, Marks sz κ H w ds → SRel Γ base κ H w → Grow κ0 H0 w0 κ H w → LeavesInM Fence.wide 0 Γ.P fn tmps R ds .returning w := by
  intro ds
  induction ds with
  | nil =>
    intro w _ hs hg
    obtain ⟨v, h1, h2⟩ := hend w hs hg
    exact ⟨v, h1, h2⟩
  | cons d ds ih =>
    intro w hm hs hg
    cases hm with
    | cons D _ h1 h2 h3 h4 h5 =>
      refine ⟨by simp, .inl ⟨D, _, rfl, run_takeDeferred h2, ?_⟩⟩
      exact ih (h5.shut h4 _) (hs.shut h2 h3 _) (hg.shut (Nat.le_trans hsz h1) _)

/-- The values that a function hands back. -/
def fin {R : Type} (l : List AV) (F : AV → Option R) : Option R := match l with
  | [v] => F v
  | l => F (mkTup l)

theorem asAddr_of {p : AV} {v : Value} {κ : K} (h : VRel κ p v) (hp : (∃ id off, p = .ptr id off) ∨ (∃ cs off, p = .rptr cs off) ∨ ∃ id n off, p = .gptr id n off) : ∃ a, v = .pointer (some a) := by
  rcases hp with ⟨id, off, rfl⟩ | ⟨cs, off, rfl⟩ | ⟨id, n, off, rfl⟩
  · exact ptr_val h
  · exact rptr_val h
  · cases h with | gptr => exact ⟨_, rfl⟩

/-- One of the values that a function hands back. -/
def resVal (tmps : Array Value) : ResultVar → Sem Value
  | .tmp t => pure (tmps.getD t undef)
  | .cell a t => do loadVar t (← asAddr (tmps.getD a undef))
theorem results_eq (fn : Func) (tmps : Array Value) : results fn tmps = (do let vs ← fn.results.mapM (resVal tmps); pure (if h : vs.size = 1 then vs[0] else .tuple vs)) := by
  unfold results
  congr 1

theorem results_list {base : Nat} {κ : K} {H : Heap} {w : World} {r : Regs} {tmps : Array Value} (hs : SRel Γ base κ H w) (hr : ∀ t, VRel κ (r t) (tmps.getD t undef)) {R : Type} {F : AV → Option R} {y : R} :
    ∀ (rs : List ResultVar) (vrs : List VResult) (acc : List AV), compRess Γ.P rs = some vrs → finishK vrs r H acc F = some y →
    ∃ vals vs, (rs.mapM (resVal tmps)).run Γ.P w = .ok vs w ∧ VRels κ vals vs ∧ fin (acc.reverse ++ vals) F = some y := by
  intro rs
  induction rs with
  | nil =>
    intro vrs acc hc he
    simp [compRess] at hc; subst hc
    refine ⟨[], [], rfl, .nil, ?_⟩
    simp only [finishK] at he
    rw [List.append_nil]
    split at he
    · exact he
    · rename_i hno
      unfold fin
      split
      · rename_i v hv
        have : acc = [v] := by rw [← List.reverse_reverse acc, hv]; rfl
        exact absurd this (hno v)
      · exact he
  | cons x rs ih =>
    intro vrs acc hc he
    simp only [compRess] at hc
    split at hc
    · rename_i a b h1 h2
      injection hc with hc; subst hc
      have step : ∀ (v : AV) (u : Value), finishK b r H (v :: acc) F = some y → VRel κ v u →
          (resVal tmps x).run Γ.P w = .ok u w →
          ∃ vals vs, ((x :: rs).mapM (resVal tmps)).run Γ.P w = .ok vs w ∧ VRels κ vals vs ∧ fin (acc.reverse ++ vals) F = some y := by
        intro v u hf hv hrun
        obtain ⟨vals, vs, g1, g2, g3⟩ := ih b (v :: acc) h2 hf
        refine ⟨v :: vals, u :: vs, ?_, .cons _ _ _ _ hv g2, by simpa using g3⟩
        rw [List.mapM_cons]
        simp only [Sem.run_bind]
        rw [hrun]
        simp only [Result.andThen_ok, g1, Sem.run_pure]
      cases x with
      | tmp t =>
        simp [compRes] at h1; subst h1
        simp only [finishK] at he
        exact step _ _ he (hr t) rfl
      | cell t ty =>
        simp only [compRes] at h1
        split at h1
        · rename_i n g hn hg
          injection h1 with h1; subst h1
          have hld : ∀ (u : Value), (∃ a, tmps.getD t undef = .pointer (some a)) → (Instr.loadAt ty (tmps.getD t undef)).run Γ.P w = .ok u w → ((do loadVar ty (← asAddr (tmps.getD t undef))) : Sem Value).run Γ.P w = .ok u w := by
            rintro u ⟨a, ha⟩ hl
            rw [ha] at hl ⊢
            simpa [Instr.loadAt, Instr.sureAddr, asAddr] using hl
          cases g with
          | true =>
            simp only [cond_true, finishK] at he
            have e : (loadNK n (r t) H some).bind (fun v => finishK b r H (v :: acc) F) = some y := by rw [loadNK_bind]; exact he
            obtain ⟨v, h3, h4⟩ := some_bind e
            obtain ⟨u, h5, h6⟩ := loadN_rel hs (hr t) h3 hg hn
            refine step v u h4 h6 (hld u (asAddr_of (hr t) ?_) h5)
            cases hp : r t <;> rw [hp] at h3 <;> first | exact .inl ⟨_, _, rfl⟩ | exact .inr (.inl ⟨_, _, rfl⟩) | exact .inr (.inr ⟨_, _, _, rfl⟩) | (cases h3; done)
          | false =>
            simp only [cond_false, finishK] at he
            have e : (load1K (r t) H some).bind (fun v => finishK b r H (v :: acc) F) = some y := by rw [load1K_bind]; exact he
            obtain ⟨v, h3, h4⟩ := some_bind e
            obtain ⟨u, h5, h6⟩ := load1_rel hs (hr t) h3 hg
            refine step v u h4 h6 (hld u (asAddr_of (hr t) ?_) h5)
            cases hp : r t <;> rw [hp] at h3 <;> first | exact .inl ⟨_, _, rfl⟩ | exact .inr (.inl ⟨_, _, rfl⟩) | exact .inr (.inr ⟨_, _, _, rfl⟩) | (cases h3; done)
        · cases h1
    · cases hc

theorem results_rel {base : Nat} {κ : K} {H : Heap} {w : World} {r : Regs} {tmps : Array Value} (hs : SRel Γ base κ H w) (hr : ∀ t, VRel κ (r t) (tmps.getD t undef)) {R : Type} {F : AV → Option R} {y : R} {fn : Func} {vrs : List VResult}
    (hc : compRess Γ.P fn.results.toList = some vrs) (he : finishK vrs r H [] F = some y) : ∃ v u, (results fn tmps).run Γ.P w = .ok u w ∧ VRel κ v u ∧ F v = some y := by
  obtain ⟨vals, vs, h1, h2, h3⟩ := results_list hs hr fn.results.toList vrs [] hc he
  have hrun : (results fn tmps).run Γ.P w = .ok (if h : vs.toArray.size = 1 then vs.toArray[0] else .tuple vs.toArray) w := by
    rw [results_eq, Array.mapM_eq_mapM_toList]
    simp only [Sem.run_bind, Sem.run_map]
    rw [h1]
    simp only [Result.andThen_ok, Sem.run_pure]
  rw [List.reverse_nil, List.nil_append] at h3
  unfold fin at h3
  split at h3
  · rename_i v
    cases h2 with
    | cons _ u _ _ g1 g2 =>
      cases g2
      exact ⟨v, u, by rw [hrun]; simp, g1, h3⟩
  · rename_i hno
    refine ⟨mkTup vals, .tuple vs.toArray, ?_, mkTup_rel h2, h3⟩
    rw [hrun, dif_neg]
    intro hsz
    have hl := h2.length
    simp only [List.size_toArray] at hsz
    match vals, hl with
    | [v], _ => exact hno v rfl
    | [], hl => simp at hl; omega
    | _ :: _ :: _, hl => simp at hl; omega

theorem initRegs_rel {κ : K} {args : List AV} {vs : List Value} (h : VRels κ args vs) (m : Nat) : ∀ t, VRel κ (initRegs args t) ((vs.toArray ++ Array.replicate m undef).getD t undef) := by
  intro t
  simp only [initRegs, lget_eq]
  have hl := h.length
  rw [Array.getD_eq_getD_getElem?]
  cases ha : args[t]? with
  | some p =>
    obtain ⟨v, hv, hr⟩ := h.get (i := t) (p := p) (by rw [lget_eq]; exact ha)
    have : (vs.toArray ++ Array.replicate m undef)[t]? = some v := by
      rw [Array.getElem?_append_left (by simpa using (List.getElem?_eq_some_iff.1 hv).1)]
      simpa using hv
    rw [this]
    exact hr
  | none =>
    have : ((vs.toArray ++ Array.replicate m undef)[t]?).getD undef = undef := by
      have hge : vs.length ≤ t := by rw [← hl]; exact List.getElem?_eq_none_iff.1 ha
      rw [Array.getElem?_append_right (by simpa using hge)]
      simp only [Array.getElem?_replicate]
      split <;> rfl
    rw [this]
    exact undefV_rel κ

/-- A function's call. -/
theorem fn_sound {env : Env} {E : Orc} (hE : OrcOK Γ E) (hV : EnvOK Γ env) {f : FuncId} {args : List AV} {H : Heap} {v : AV} {H' : Heap} (he : evTgtK env E (.fn f) args H (fun v h => some (v, h)) = some (v, H')) :
    FnOK Γ.P f ∧ ∀ base κ w vs, SRel Γ base κ H w → VRels κ args vs → CallsIn Fence.wide 0 Γ.P f vs.toArray w (Out Γ base κ H w v H') := by
  simp only [evTgtK] at he
  cases hf : env.ft f with
  | none =>
    rw [hf] at he; simp only at he
    cases hp : env.pr f with
    | none =>
      rw [hp] at he; simp only at he
      cases hp2 : env.prH f with
      | none => rw [hp2] at he; cases he
      | some p =>
        rw [hp2] at he; simp only [bindK_def] at he
        obtain ⟨q, h1, h2⟩ := some_bind he
        injection h2 with h2; injection h2 with e1 e2; subst e1; subst e2
        obtain ⟨g1, g2⟩ := hV.prH f p hp2
        exact ⟨g1, fun base κ w vs hs hr => g2 E hE args H _ _ h1 base κ w vs hs hr⟩
    | some g =>
      rw [hp] at he; simp only at he
      cases ha : allPV args with
      | none => rw [ha] at he; cases he
      | some ps =>
        rw [ha] at he; simp only [bindK_def] at he
        cases hg : g ps with
        | none => rw [hg] at he; cases he
        | some p =>
          rw [hg] at he
          injection he with he; injection he with e1 e2; subst e1; subst e2
          obtain ⟨h1, h2⟩ := hV.pr f g hp
          refine ⟨h1, fun base κ w vs hs hr => h2 ps p hg base κ H w vs hs ?_⟩
          rw [allPV_eq ha] at hr
          exact VRels.to_pv hr
  | some vf =>
    rw [hf] at he; simp only at he
    obtain ⟨fn, c, mu, h1, h2, h3, h4, h5⟩ := hV.ft f vf hf
    refine ⟨⟨fn, h1, by simp [h2], h3⟩, fun base κ w vs hs ha => ?_⟩
    rw [h4] at he
    refine callsIn_of_wp_marks h1 h2 trivial ?_
    have hcf : Conf Γ base w.heap.size fn.ntmps κ H w (initRegs args) { tmps := vs.toArray ++ Array.replicate (fn.ntmps - vs.toArray.size) undef, defers := [] } :=
      ⟨hs, fun t => initRegs_rel ha _ t, by simp; omega, .nil⟩
    refine code_sound hE hV.mixed hV.md c true none (fun _ => rfl) he hcf (Grow.refl _ _ _) (Nat.le_refl _) fun e r' H1 κ1 a1 w1 hk hcf1 hg1 => ?_
    have leave : finishK vf.results r' H1 [] (fun v => some (v, H1)) = some (v, H') → LeavesInM Fence.wide 0 Γ.P fn a1.tmps (Out Γ base κ H w v H') a1.defers .returning w1 := by
      intro hfin
      refine marks_leave (Nat.le_refl _) (fun w' hs' hg' => ?_) hcf1.marks hcf1.srel hg1
      obtain ⟨v1, u, g1, g2, g3⟩ := results_rel hs' hcf1.regs h5 hfin
      injection g3 with g3; injection g3 with e1 e2; subst e1; subst e2
      exact ⟨u, g1, κ1, g2, hs', hg'⟩
    cases e with
    | exit id => cases hk
    | normal => exact leave hk
    | ret => exact leave hk
end
end Go.VM

namespace Go.VM
open Go

section
variable {Γ : Ctx}

theorem updL_rel {κ : K} : ∀ {ps : List Nat} {args : List AV} {vs : List Value} {r : Regs} {tmps : Array Value}, VRels κ args vs → (∀ t, VRel κ (r t) (tmps.getD t undef)) → (∀ p ∈ ps, p < tmps.size) →
    (∀ t, VRel κ (updL r ps args t) (((ps.zip vs).foldl (fun t (p, v) => t.setIfInBounds p v) tmps).getD t undef)) ∧ ((ps.zip vs).foldl (fun t (p, v) => t.setIfInBounds p v) tmps).size = tmps.size := by
  intro ps
  induction ps with
  | nil => intro args vs r tmps _ hr _; exact ⟨fun t => by cases args <;> exact hr t, rfl⟩
  | cons p ps ih =>
    intro args vs r tmps ha hr hb
    cases ha with
    | nil => exact ⟨fun t => hr t, rfl⟩
    | cons x v as vs hx ha =>
      have hp := hb p (by simp)
      have hstep : ∀ t, VRel κ (upd r p x t) ((tmps.setIfInBounds p v).getD t undef) := by
        have := RRel.put (a := { tmps := tmps, defers := [] }) (n := tmps.size) (κ := κ) (r := r) hr (Nat.le_refl _) (d := some p) (Nat.ble_eq_true_of_le hp) hx
        exact this
      have := ih (r := upd r p x) (tmps := tmps.setIfInBounds p v) ha hstep (fun q hq => by simpa using hb q (by simp [hq]))
      simp only [updL, List.zip_cons_cons, List.foldl_cons]
      exact ⟨this.1, by rw [this.2]; simp⟩

theorem zip_foldl (ps : Array Tmp) (vs : List Value) (tmps : Array Value) : (ps.zip vs.toArray).foldl (fun tmps (t, a) => tmps.setIfInBounds t a) tmps = (ps.toList.zip vs).foldl (fun t (p, v) => t.setIfInBounds p v) tmps := by
  rw [← Array.foldl_toList]
  congr 1
  simp [Array.toList_zip]

/-- A round. -/
theorem yield_sound {env : Env} {E : Orc} (hE : OrcOK Γ E) (hV : EnvOK Γ env) {id : Nat} {args : List AV} {H : Heap} {v : AV} {H' : Heap} (he : evTgtK env E (.yield id) args H (fun v h => some (v, h)) = some (v, H')) :
    ∀ base κ w vs l, SRel Γ base κ H w → VRels κ args vs → κ.loc id = some l →
    ∃ f tmps asg body, (Instr.yield l vs.toArray).run Γ.P w = .ok (.round l f tmps asg body) w ∧ RoundIn Fence.wide 0 Γ.P l f tmps asg body w (Out Γ base κ H w v H') := by
  intro base κ w vs l hs ha hl
  simp only [evTgtK, hgetK_def] at he
  cases ho : hget H id with
  | loop lo =>
    rw [ho] at he; simp only at he
    cases hst : lo.state with
    | ready =>
      rw [hst] at he; simp only at he
      cases hb : Nat.beq args.length lo.params.length with
      | false => rw [hb] at he; cases he
      | true =>
        rw [hb] at he; simp only [cond_true] at he
        obtain ⟨_, hob⟩ := hs.obj id l (by rw [ho]; exact hl)
        rw [ho] at hob
        obtain ⟨L, hL, hr⟩ := hob
        obtain ⟨mu, n, hn, hca, hcb⟩ := hr.code
        have hlen := Nat.eq_of_beq_eq_true hb
        have hargs : vs.toArray.size = L.params.size := by
          have h1 := ha.length
          have h2 : lo.params.length = L.params.size := by rw [hr.params]; simp
          simp; omega
        refine ⟨L.fn, _, L.assign, L.body, run_yield hL hargs, ?_⟩
        rw [zip_foldl]
        obtain ⟨u1, u2⟩ := updL_rel (ps := L.params.toList) ha hr.regs (by rw [← hr.params]; exact hr.bound)
        rw [hca, hcb] at he
        have hcf : Conf Γ base 0 n κ H w (updL lo.regs lo.params args) { tmps := (L.params.toList.zip vs).foldl (fun t (p, v) => t.setIfInBounds p v) L.tmps, defers := [] } :=
          ⟨hs, fun t => by rw [hr.params]; exact u1 t, by simp only [u2]; exact hn, .nil⟩
        refine roundIn_of_wpIn trivial ?_
        refine code_sound hE hV.mixed hV.md L.assign false (some l) (fun h => by cases h) he hcf (Grow.refl _ _ _) (Nat.zero_le _) fun e r1 H1 κ1 a1 w1 hk hcf1 hg1 => ?_
        cases e with
        | exit _ => cases hk
        | ret => cases hk
        | normal =>
          simp only at hk
          have hl1 := hg1.le.loc _ _ hl
          cases ho1 : hget H1 id with
          | loop lo1 =>
            rw [ho1] at hk; simp only at hk
            cases hst1 : lo1.state with
            | ready =>
              rw [hst1] at hk; simp only at hk
              obtain ⟨_, hob1⟩ := hcf1.srel.obj id l (by rw [ho1]; exact hl1)
              rw [ho1] at hob1
              obtain ⟨L1, hL1, hr1⟩ := hob1
              have hs1 := hr1.state
              rw [hst1] at hs1
              obtain ⟨s2, g2⟩ := hcf1.srel.loopTurn (L' := { L1 with state := .busy }) (o := .loop { lo1 with state := .busy }) hl1 ho1 hL1 (.inr ⟨_, rfl, ⟨rfl, hr1.regs, hr1.params, hr1.bound, hr1.code⟩⟩)
              refine ⟨_, run_beginRound hL1 hs1.1, ?_⟩
              have hcf2 : Conf Γ base 0 n κ1 (hset H1 id (.loop { lo1 with state := .busy })) (w1.putObj l (.loop { L1 with state := .busy })) r1 a1 := ⟨s2, hcf1.regs, hcf1.size, hcf1.marks.grow g2⟩
              refine code_sound hE hV.mixed hV.md L.body false (some l) (fun h => by cases h) hk hcf2 (hg1.trans g2) (Nat.zero_le _) fun e r3 H3 κ3 a3 w3 hk3 hcf3 hg3 => ?_
              have hl3 := hg3.le.loc _ _ hl
              cases ho3 : hget H3 id with
              | loop lo3 =>
                rw [ho3] at hk3; simp only at hk3
                cases hst3 : lo3.state with
                | busy =>
                  rw [hst3] at hk3; simp only at hk3
                  injection hk3 with hk3; injection hk3 with e1 e2; subst e1; subst e2
                  obtain ⟨_, hob3⟩ := hcf3.srel.obj id l (by rw [ho3]; exact hl3)
                  rw [ho3] at hob3
                  obtain ⟨L3, hL3, hr3⟩ := hob3
                  have turn : ∀ (jump : Option Code) (st : LState), StateRel st (if jump.isNone then .ready else .done) jump →
                      SRel Γ base κ3 (hset H3 id (.loop { lo3 with state := st })) (w3.putObj l (.loop { L3 with state := if jump.isNone then .ready else .done, pending := jump })) ∧
                      Grow κ3 H3 w3 κ3 (hset H3 id (.loop { lo3 with state := st })) (w3.putObj l (.loop { L3 with state := if jump.isNone then .ready else .done, pending := jump })) := by
                    intro jump st hst
                    exact hcf3.srel.loopTurn (o := .loop { lo3 with state := st }) hl3 ho3 hL3 (.inr ⟨_, rfl, ⟨hst, hr3.regs, hr3.params, hr3.bound, hr3.code⟩⟩)
                  cases e with
                  | normal =>
                    obtain ⟨s4, g4⟩ := turn none .ready ⟨rfl, rfl⟩
                    exact ⟨_, _, run_endRound none hL3, κ3, .pv _ _ (.bool _), s4, hg3.trans g4⟩
                  | exit j =>
                    obtain ⟨s4, g4⟩ := turn (some (.exit j)) (.done (.exit j)) ⟨rfl, rfl, by simp⟩
                    exact ⟨_, _, run_endRound (some (.exit j)) hL3, κ3, .pv _ _ (.bool _), s4, hg3.trans g4⟩
                  | ret =>
                    obtain ⟨s4, g4⟩ := turn (some .ret) (.done .ret) ⟨rfl, rfl, by simp⟩
                    exact ⟨_, _, run_endRound (some .ret) hL3, κ3, .pv _ _ (.bool _), s4, hg3.trans g4⟩
                | ready => rw [hst3] at hk3; cases hk3
                | done _ => rw [hst3] at hk3; cases hk3
              | _ => rw [ho3] at hk3; cases hk3
            | busy => rw [hst1] at hk; cases hk
            | done _ => rw [hst1] at hk; cases hk
          | _ => rw [ho1] at hk; cases hk
    | busy => rw [hst] at he; cases he
    | done _ => rw [hst] at he; cases he
  | _ => rw [ho] at he; cases he

theorem evN_ok {env : Env} (hV : EnvOK Γ env) : ∀ n, OrcOK Γ (evN env n) := by
  intro n
  induction n with
  | zero => exact ⟨fun _ _ _ _ _ h => (by cases h), fun _ _ _ _ _ h => (by cases h), fun _ _ _ _ _ h => (by cases h)⟩
  | succ n ih =>
    exact ⟨fun f args H v H' h => (fn_sound ih hV h).1, fun f args H v H' h => (fn_sound ih hV h).2, fun id args H v H' h => yield_sound ih hV h⟩

theorem EE_ok {env : Env} (hV : EnvOK Γ env) : OrcOK Γ (EE env) := by
  have get : ∀ {t args H x}, EE env t args H = some x → ∃ n, evN env n t args H = some x := fun h => lim_some h
  refine ⟨fun f args H v H' h => ?_, fun f args H v H' h => ?_, fun id args H v H' h => ?_⟩
  · obtain ⟨n, hn⟩ := get h; exact (evN_ok hV n).ok _ _ _ _ _ hn
  · obtain ⟨n, hn⟩ := get h; exact (evN_ok hV n).fn _ _ _ _ _ hn
  · obtain ⟨n, hn⟩ := get h; exact (evN_ok hV n).yield _ _ _ _ _ hn
end
end Go.VM
