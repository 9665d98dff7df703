/-
  Part 8 of an abstract machine that answers as the model does.
  Code, and what comes behind it: a join of several ways.
-/
import Derived.Test.YtdbobcbjgacjpaaV7
set_option linter.all false
set_option linter.unusedVariables false
set_option linter.unusedSimpArgs false
set_option linter.unusedSectionVars false
namespace Go.VM
open Go

section
variable {R S : Type}
theorem forceK_bind (v : AV) (G : AV → Option R) (F : R → Option S) : (forceK v G).bind F = forceK v fun v => (G v).bind F := by rw [forceK_def, forceK_def]
theorem putK_bind (r : Regs) (d : Option Nat) (v : AV) (G : Regs → Option R) (F : R → Option S) : (putK r d v G).bind F = putK r d v fun v => (G v).bind F := by rw [putK_def, putK_def]
theorem evOps_bind (env : Env) (E : Orc) (F : R → Option S) (l : List VOper) : ∀ (r : Regs) (h : Heap) (k : Regs → Heap → Option R), (evOps env E l r h k).bind F = evOps env E l r h fun r h => (k r h).bind F := by
  induction l with
  | nil => intro r h k; rfl
  | cons o l ih =>
    intro r h k
    rw [evOps_cons, evOps_cons, cond_bind, operK_bind]
    simp only [forceK_bind, putK_bind, ih]
theorem evDraw_bind (env : Env) (E : Orc) (pairs : List (Nat × Nat)) (F : R → Option S) (l : List VOper) : ∀ (i : Nat) (r : Regs) (h : Heap) (ls : List (Nat × AV × Option Nat)) (es : List (Nat × Heap × Heap))
    (k : Regs → Heap → List (Nat × AV × Option Nat) → List (Nat × Heap × Heap) → Option R), (evDraw env E pairs l i r h ls es k).bind F = evDraw env E pairs l i r h ls es fun r h ls es => (k r h ls es).bind F := by
  induction l with
  | nil => intro i r h ls es k; rfl
  | cons o l ih =>
    intro i r h ls es k
    rw [evDraw_cons, evDraw_cons, cond_bind, operK_bind]
    simp only [forceK_bind, putK_bind, ih]
theorem hoist_bind (F : R → Option S) (al : List (Nat × List PV)) : ∀ (r : Regs) (h : Heap) (k : Regs → Heap → Option R), (hoist al r h k).bind F = hoist al r h fun r h => (k r h).bind F := by
  induction al with
  | nil => intro r h k; rfl
  | cons a al ih => intro r h k; exact ih _ _ _
theorem sameK_bind (a b : Option AV) (x : Option R) (F : R → Option S) : (sameK a b x).bind F = sameK a b (x.bind F) := by
  simp only [sameK_def]; split <;> rfl
theorem checkPairs_bind (ls : List (Nat × AV × Option Nat)) (es : List (Nat × Heap × Heap)) (F : R → Option S) (pairs : List (Nat × Nat)) : ∀ (x : Option R), (checkPairs ls es pairs x).bind F = checkPairs ls es pairs (x.bind F) := by
  induction pairs with
  | nil => intro x; rfl
  | cons p pairs ih =>
    intro x
    obtain ⟨i, j⟩ := p
    unfold checkPairs
    split
    · split
      · rw [sameK_bind, ih]
      · exact ih x
      · rfl
    · exact ih x
theorem loopK_bind (b : Regs → Heap → Option Res) (r : Regs) (h : Heap) (G : Ex → Regs → Heap → Option R) (F : R → Option S) : (loopK b r h G).bind F = loopK b r h fun e r h => (G e r h).bind F := by
  rw [loopK_def, loopK_def, Option.bind_assoc]
theorem callSK_bind' (E : Orc) (t : Tgt) (args : List AV) (h : Heap) (G : AV → Heap → Option R) (F : R → Option S) : (callSK E t args h G).bind F = callSK E t args h fun v h => (G v h).bind F := by
  rw [callSK_def, callSK_def, Option.bind_assoc]
theorem rangeK_bind (E : Orc) (f : AV) (ps : List Nat) (asg bo : VCode) (r : Regs) (h : Heap) (k : Ex → Regs → Heap → Option R) (F : R → Option S) : (rangeK E f ps asg bo r h k).bind F = rangeK E f ps asg bo r h fun e r h => (k e r h).bind F := by
  unfold rangeK
  simp only
  split
  · rw [callSK_bind']
    congr 1; funext v h2
    rw [hgetK_bind]
    congr 1; funext o
    split
    · split <;> rfl
    · rfl
  · rw [callSK_bind']
    congr 1; funext v h2
    rw [hgetK_bind]
    congr 1; funext o
    split
    · split <;> rfl
    · rfl
  · rfl
theorem evK_bind (env : Env) (E : Orc) (c : VCode) : ∀ {R S : Type} (F : R → Option S) (r : Regs) (h : Heap) (k : Ex → Regs → Heap → Option R), (evK env E c R r h k).bind F = evK env E c S r h fun e r h => (k e r h).bind F := by
  induction c with
  | skip => intro R S F r h k; rfl
  | ops l => intro R S F r h k; exact evOps_bind env E F l r h _
  | draw al l pairs =>
    intro R S F r h k
    rw [evK_draw, evK_draw, hoist_bind]
    simp only [evDraw_bind, checkPairs_bind]
  | seq a b ia ib =>
    intro R S F r h k
    rw [evK_seq, evK_seq, ia]
    congr 1; funext e r h
    cases e with
    | normal => exact ib F r h k
    | exit id => rfl
    | ret => rfl
  | cond c a b ia ib =>
    intro R S F r h k
    rw [evK_cond, evK_cond]
    split
    · rw [cond_bind, ia, ib]
    · rfl
  | block id c ia =>
    intro R S F r h k
    rw [evK_block, evK_block, ia]
    congr 1; funext e r h
    cases e with
    | normal => rfl
    | exit id' => exact cond_bind _ _ _ _
    | ret => rfl
  | loop c ia => intro R S F r h k; rw [evK_loop, evK_loop]; exact loopK_bind _ _ _ _ _
  | rangeFunc f ps asg bo i1 i2 => intro R S F r h k; exact rangeK_bind _ _ _ _ _ _ _ _ _
  | exit id => intro R S F r h k; rfl
  | ret => intro R S F r h k; rfl
end

section
variable {R : Type} {Q : R → Prop} {env : Env} {E : Orc}
/-- Code by itself, and then what comes behind it. -/
theorem evK_split {c : VCode} {r : Regs} {h : Heap} {k : Ex → Regs → Heap → Option R} (hx : Has (evK env E c Res r h doneK) fun x => Has (k x.1 x.2.1 x.2.2) Q) : Has (evK env E c R r h k) Q := by
  obtain ⟨x, h1, y, h2, h3⟩ := hx
  refine ⟨y, ?_, h3⟩
  have := evK_bind env E c (fun x : Res => k x.1 x.2.1 x.2.2) r h doneK
  rw [h1] at this
  exact this.symm.trans h2
/-- A part of a sequence, whose ways join. -/
theorem seq_join {a b : VCode} {r : Regs} {h : Heap} {k : Ex → Regs → Heap → Option R} (J : Ex → Regs → Heap → Prop)
    (ha : Has (evK env E a Res r h doneK) fun x => J x.1 x.2.1 x.2.2) (hb : ∀ e r h, J e r h → Has (seqK (evK env E b R) k e r h) Q) : Has (evK env E (.seq a b) R r h k) Q :=
  evK_split (c := a) (k := seqK (evK env E b R) k) (ha.mono fun x hx => hb _ _ _ hx)
/-- The same, where all ways go on with the same registers (of those that matter) and heap. -/
theorem seq_on {a b : VCode} {r : Regs} {h : Heap} {k : Ex → Regs → Heap → Option R} (L : List (Nat × AV)) (H : Heap)
    (ha : Has (evK env E a Res r h doneK) fun x => x.1 = .normal ∧ Agr x.2.1 L ∧ x.2.2 = H) (hb : ∀ r, Has (evK env E b R (setL r L) H k) Q) : Has (evK env E (.seq a b) R r h k) Q := by
  refine seq_join (fun e r h => e = .normal ∧ Agr r L ∧ h = H) ha fun e r h hj => ?_
  obtain ⟨rfl, h2, rfl⟩ := hj
  have := hb r
  rw [h2.eq] at this
  exact this
/-- The same, where a state tells them. -/
theorem seq_st {σ : Type} {a b : VCode} {r : Regs} {h : Heap} {k : Ex → Regs → Heap → Option R} (L : σ → List (Nat × AV)) (Hp : σ → Heap) (Ok : σ → Prop)
    (ha : Has (evK env E a Res r h doneK) fun x => x.1 = .normal ∧ ∃ s, Ok s ∧ Agr x.2.1 (L s) ∧ x.2.2 = Hp s) (hb : ∀ s, Ok s → ∀ r, Has (evK env E b R (setL r (L s)) (Hp s) k) Q) : Has (evK env E (.seq a b) R r h k) Q := by
  refine seq_join (fun e r h => e = .normal ∧ ∃ s, Ok s ∧ Agr r (L s) ∧ h = Hp s) ha fun e r h hj => ?_
  obtain ⟨rfl, s, ho, h2, rfl⟩ := hj
  have := hb s ho r
  rw [h2.eq] at this
  exact this
/-- One step of a sequence, which stays as it stands. -/
theorem seq_one {a b : VCode} {r : Regs} {h : Heap} {k : Ex → Regs → Heap → Option R} (ha : Has (evK env E a R r h (seqK (evK env E b R) k)) Q) : Has (evK env E (.seq a b) R r h k) Q := ha
end

/-- What comes of a function's end. -/
noncomputable def endK {R : Type} (res : List VResult) (F : AV → Heap → Option R) (e : Ex) (r : Regs) (h : Heap) : Option R :=
  match e with
  | .exit _ => none
  | _ => finishK res r h [] fun v => F v h
theorem fn_has {R : Type} {Q : R → Prop} {env : Env} {E : Orc} {f : FuncId} {vf : VFunc} {args : List AV} {h : Heap} {F : AV → Heap → Option R} (hf : env.ft f = some vf)
    (hx : Has (evK env E vf.code R (initRegs args) h (endK vf.results F)) Q) : Has (evTgtK env E (.fn f) args h F) Q := by
  simp only [evTgtK, hf]
  exact hx
end Go.VM
