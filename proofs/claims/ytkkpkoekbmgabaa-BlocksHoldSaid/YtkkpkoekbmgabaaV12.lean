/-
  Part 12 of an abstract machine that answers as the model does.
  Code, and what comes behind it: a join of several ways.
  Slices that grow: what is known of one, and how it grows.
  Loops beside which the heap grows; parts of code; texts of numbers.
  Objects that are kept while others grow; a row of bytes that grows in an object of one cell.
  Arguments of plain data that are not longer than a bound, by what their readings are of bulk; a law's statement where that bound is its condition.
  Stepping through a loop over a map.
  Loops over maps that change nothing that stood before them; what is kept of a heap.
-/
import Derived.Test.YtkkpkoekbmgabaaV11
import Derived.JoinedCond
set_option linter.all false
set_option linter.unusedVariables false
set_option linter.unusedSimpArgs false
set_option linter.unusedSectionVars false
namespace Go.VM
open Go

section
variable {R S : Type}
theorem forceK_bind (v : AV) (G : AV → Option R) (F : R → Option S) : (forceK v G).bind F = forceK v fun v => (G v).bind F := by rw [forceK_def, forceK_def]
theorem putK_bind (r : Regs) (d : Option Nat) (v : AV) (G : Regs → Option R) (F : R → Option S) : (putK r d v G).bind F = putK r d v fun v => (G v).bind F := by rw [putK_def, putK_def]
theorem evOps_bind (env : Env) (E : Orc) (F : R → Option S) (l : List VOper) : ∀ (r : Regs) (h : Heap) (k : Regs → Heap → Option R), (evOps env E l r h k).bind F = evOps env E l r h fun r h => (k r h).bind F := by
  induction l with
  | nil => intro r h k; rfl
  | cons o l ih =>
    intro r h k
    rw [evOps_cons, evOps_cons, cond_bind, operG_bind]
    simp only [forceK_bind, putK_bind, ih]
theorem evDraw_bind (env : Env) (E : Orc) (pairs : List (Nat × Nat)) (F : R → Option S) (l : List VOper) : ∀ (i : Nat) (r : Regs) (h : Heap) (ls : List (Nat × AV × Option Nat)) (es : List (Nat × Heap × Heap))
    (k : Regs → Heap → List (Nat × AV × Option Nat) → List (Nat × Heap × Heap) → Option R), (evDraw env E pairs l i r h ls es k).bind F = evDraw env E pairs l i r h ls es fun r h ls es => (k r h ls es).bind F := by
  induction l with
  | nil => intro i r h ls es k; rfl
  | cons o l ih =>
    intro i r h ls es k
    rw [evDraw_cons, evDraw_cons, cond_bind, operG_bind]
    simp only [forceK_bind, putK_bind, ih]
theorem conts_bind (env : Env) (E : Orc) (F : R → Option S) (al : List (Nat × AlS)) : ∀ (r : Regs) (h : Heap) (k : List (Nat × HSh × List PV) → List (Nat × PV) → Option R), (conts env E al r h k).bind F = conts env E al r h fun a zs => (k a zs).bind F := by
  induction al with
  | nil => intro r h k; rfl
  | cons x al ih =>
    intro r h k
    obtain ⟨t, s⟩ := x
    cases s with
    | z z => simp only [conts]; rw [ih]
    | m i pre es z v =>
      simp only [conts]
      rw [evOps_bind]
      congr 1
      funext r' h'
      split
      · rename_i kd n _
        simp only [needK_def, eqK_def]
        cases (decide (0 ≤ n) && decide (n ≤ 1099511627776))
        · rfl
        · simp only [cond_true]; rw [ih]
      · rfl
    | x i pre v =>
      simp only [conts]
      rw [evOps_bind]
      congr 1
      funext r' h'
      split
      · split
        · rw [ih]
        · rfl
      · rfl
theorem hoist_bind (F : R → Option S) (al : List (Nat × HSh × List PV)) : ∀ (r : Regs) (h : Heap) (k : Regs → Heap → Option R), (hoist al r h k).bind F = hoist al r h fun r h => (k r h).bind F := by
  induction al with
  | nil => intro r h k; rfl
  | cons a al ih => intro r h k; exact ih _ _ _
theorem sameK_bind (a b : Option AV) (x : Option R) (F : R → Option S) : (sameK a b x).bind F = sameK a b (x.bind F) := by
  simp only [sameK_def]; split <;> rfl
theorem checkBox_bind (ls : List (Nat × AV × Option Nat)) (F : R → Option S) (l : List (Nat × PV)) : ∀ (x : Option R), (checkBox ls l x).bind F = checkBox ls l (x.bind F) := by
  induction l with
  | nil => intro x; rfl
  | cons a l ih =>
    intro x
    obtain ⟨i, p⟩ := a
    simp only [checkBox]
    split
    · rw [sameK_bind, ih]
    · rfl
theorem checkPairs_bind (ls : List (Nat × AV × Option Nat)) (es : List (Nat × Heap × Heap)) (F : R → Option S) (pairs : List (Nat × Nat)) : ∀ (x : Option R), (checkPairs ls es pairs x).bind F = checkPairs ls es pairs (x.bind F) := by
  induction pairs with
  | nil => intro x; rfl
  | cons p pairs ih =>
    intro x
    obtain ⟨i, j⟩ := p
    unfold checkPairs
    split
    · split
      · rw [sameK_bind, ih]
      · exact ih x
      · rw [sameK_bind, ih]
      · rfl
    · exact ih x
theorem loopK_bind (b : Regs → Heap → Option Res) (r : Regs) (h : Heap) (G : Ex → Regs → Heap → Option R) (F : R → Option S) : (loopK b r h G).bind F = loopK b r h fun e r h => (G e r h).bind F := by
  rw [loopK_def, loopK_def, Option.bind_assoc]
theorem callSK_bind' (E : Orc) (t : Tgt) (args : List AV) (h : Heap) (G : AV → Heap → Option R) (F : R → Option S) : (callSK E t args h G).bind F = callSK E t args h fun v h => (G v h).bind F := by
  rw [callSK_def, callSK_def, Option.bind_assoc]
theorem rangeK_bind (E : Orc) (f : AV) (ps : List Nat) (asg bo : VCode) (r : Regs) (h : Heap) (k : Ex → Regs → Heap → Option R) (F : R → Option S) : (rangeK E f ps asg bo r h k).bind F = rangeK E f ps asg bo r h fun e r h => (k e r h).bind F := by
  unfold rangeK
  simp only
  split
  · rw [callSK_bind']
    congr 1; funext v h2
    rw [hgetK_bind]
    congr 1; funext o
    split
    · split <;> rfl
    · rfl
  · rw [callSK_bind']
    congr 1; funext v h2
    rw [hgetK_bind]
    congr 1; funext o
    split
    · split <;> rfl
    · rfl
  · rfl
theorem evK_bind (env : Env) (E : Orc) (c : VCode) : ∀ {R S : Type} (F : R → Option S) (r : Regs) (h : Heap) (k : Ex → Regs → Heap → Option R), (evK env E c R r h k).bind F = evK env E c S r h fun e r h => (k e r h).bind F := by
  induction c with
  | skip => intro R S F r h k; rfl
  | ops l => intro R S F r h k; exact evOps_bind env E F l r h _
  | draw al l pairs =>
    intro R S F r h k
    rw [evK_draw, evK_draw, conts_bind]
    simp only [hoist_bind, evDraw_bind, checkPairs_bind, checkBox_bind]
  | seq a b ia ib =>
    intro R S F r h k
    rw [evK_seq, evK_seq, ia]
    congr 1; funext e r h
    cases e with
    | normal => exact ib F r h k
    | exit id => rfl
    | ret => rfl
  | cond c a b ia ib =>
    intro R S F r h k
    rw [evK_cond, evK_cond]
    split
    · rw [cond_bind, ia, ib]
    · rfl
  | block id c ia =>
    intro R S F r h k
    rw [evK_block, evK_block, ia]
    congr 1; funext e r h
    cases e with
    | normal => rfl
    | exit id' => exact cond_bind _ _ _ _
    | ret => rfl
  | loop c ia => intro R S F r h k; rw [evK_loop, evK_loop]; exact loopK_bind _ _ _ _ _
  | rangeFunc f ps asg bo i1 i2 => intro R S F r h k; exact rangeK_bind _ _ _ _ _ _ _ _ _
  | exit id => intro R S F r h k; rfl
  | ret => intro R S F r h k; rfl
  | drawN l deps => intro R S F r h k; rw [evK_drawN, evK_drawN, Option.bind_assoc]
  | loopM it nx c ih => intro R S F r h k; rw [evK_loopM, evK_loopM, loopMK_def, loopMK_def, Option.bind_assoc]
end

section
variable {R : Type} {Q : R → Prop} {env : Env} {E : Orc}
/-- Code by itself, and then what comes behind it. -/
theorem evK_split {c : VCode} {r : Regs} {h : Heap} {k : Ex → Regs → Heap → Option R} (hx : Has (evK env E c Res r h doneK) fun x => Has (k x.1 x.2.1 x.2.2) Q) : Has (evK env E c R r h k) Q := by
  obtain ⟨x, h1, y, h2, h3⟩ := hx
  refine ⟨y, ?_, h3⟩
  have := evK_bind env E c (fun x : Res => k x.1 x.2.1 x.2.2) r h doneK
  rw [h1] at this
  exact this.symm.trans h2
/-- A part of a sequence, whose ways join. -/
theorem seq_join {a b : VCode} {r : Regs} {h : Heap} {k : Ex → Regs → Heap → Option R} (J : Ex → Regs → Heap → Prop)
    (ha : Has (evK env E a Res r h doneK) fun x => J x.1 x.2.1 x.2.2) (hb : ∀ e r h, J e r h → Has (seqK (evK env E b R) k e r h) Q) : Has (evK env E (.seq a b) R r h k) Q :=
  evK_split (c := a) (k := seqK (evK env E b R) k) (ha.mono fun x hx => hb _ _ _ hx)
/-- The same, where all ways go on with the same registers (of those that matter) and heap. -/
theorem seq_on {a b : VCode} {r : Regs} {h : Heap} {k : Ex → Regs → Heap → Option R} (L : List (Nat × AV)) (H : Heap)
    (ha : Has (evK env E a Res r h doneK) fun x => x.1 = .normal ∧ Agr x.2.1 L ∧ x.2.2 = H) (hb : ∀ r, Has (evK env E b R (setL r L) H k) Q) : Has (evK env E (.seq a b) R r h k) Q := by
  refine seq_join (fun e r h => e = .normal ∧ Agr r L ∧ h = H) ha fun e r h hj => ?_
  obtain ⟨rfl, h2, rfl⟩ := hj
  have := hb r
  rw [h2.eq] at this
  exact this
end

/-- What comes of a function's end. -/
noncomputable def endK {R : Type} (res : List VResult) (F : AV → Heap → Option R) (e : Ex) (r : Regs) (h : Heap) : Option R :=
  match e with
  | .exit _ => none
  | _ => finishK res r h [] fun v => F v h
theorem fn_has {R : Type} {Q : R → Prop} {env : Env} {E : Orc} {f : FuncId} {vf : VFunc} {args : List AV} {h : Heap} {F : AV → Heap → Option R} (hf : env.ft f = some vf)
    (hx : Has (evK env E vf.code R (initRegs args) h (endK vf.results F)) Q) : Has (evTgtK env E (.fn f) args h F) Q := by
  simp only [evTgtK, hf]
  exact hx
end Go.VM

namespace Go.VM
open Go

/-- A slice that may grow: none yet (e: as it was made), or the latest of its row. -/
def AppV (H : Heap) (v : AV) (e : Ext) (es n : Nat) (cs : List PV) : Prop :=
  (n = 0 ∧ cs = [] ∧ v = .pv (.sl e 0 []) ∧ e.noApp = false) ∨ (n ≠ 0 ∧ cs.length = n * es ∧ ∃ t, v = .tsl t n cs ∧ hget H t = .tok n es)
/-- What it is for others. -/
def psl (e : Ext) (n : Nat) (cs : List PV) : PV := .sl (match n with | 0 => e | _ => .nn) n cs
def tokOf : AV → Option Nat
  | .tsl t _ _ => some t
  | _ => none
/-- All but that slice's token stays. -/
def Fr (v : AV) (H H' : Heap) : Prop := H.length ≤ H'.length ∧ ∀ i, i < H.length → tokOf v ≠ some i → hget H' i = hget H i

theorem hget_lt {H : Heap} {i : Nat} {o : HObj} (h : hget H i = o) (ho : o ≠ .dead) : i < H.length := by
  induction H generalizing i with
  | nil => cases h; exact absurd rfl ho
  | cons a H ih => cases i with
    | zero => exact Nat.succ_pos _
    | succ i => exact Nat.succ_lt_succ (ih h)
theorem AppV.len {H : Heap} {v : AV} {e : Ext} {es n : Nat} {cs : List PV} (h : AppV H v e es n cs) : cs.length = n * es := by
  rcases h with ⟨rfl, rfl, _⟩ | ⟨_, h, _⟩
  · simp
  · exact h
theorem AppV.new {H : Heap} {e : Ext} {es : Nat} (he : e.noApp = false) : AppV H (.pv (.sl e 0 [])) e es 0 [] := .inl ⟨rfl, rfl, rfl, he⟩
theorem AppV.out {H : Heap} {v : AV} {e : Ext} {es n : Nat} {cs : List PV} (h : AppV H v e es n cs) : out1 H v = some (psl e n cs) := by
  rcases h with ⟨rfl, rfl, rfl, _⟩ | ⟨hn, _, t, rfl, _⟩
  · rfl
  · cases n with
    | zero => exact absurd rfl hn
    | succ n => rfl
theorem AppV.keep {H H' : Heap} {v v2 : AV} {e : Ext} {es n : Nat} {cs : List PV} (h : AppV H v2 e es n cs) (hf : Fr v H H') (hne : tokOf v2 = none ∨ tokOf v2 ≠ tokOf v) : AppV H' v2 e es n cs := by
  rcases h with h | ⟨hn, hl, t, rfl, ht⟩
  · exact .inl h
  · refine .inr ⟨hn, hl, t, rfl, ?_⟩
    rw [hf.2 t (hget_lt ht (by intro h; cases h)) (fun hh => by
      rcases hne with h | h
      · cases h
      · exact h hh.symm)]
    exact ht
/-- What isn't a token stays. -/
theorem Fr.obj {H H' : Heap} {v : AV} {e : Ext} {es n : Nat} {cs : List PV} (hv : AppV H v e es n cs) (hf : Fr v H H') {i : Nat} {o : HObj} (h : hget H i = o) (h1 : o ≠ .dead) (h2 : ∀ n es, o ≠ .tok n es) : hget H' i = o := by
  rw [hf.2 i (hget_lt h h1) (fun hh => ?_), h]
  rcases hv with ⟨_, _, rfl, _⟩ | ⟨_, _, t, rfl, ht⟩
  · cases hh
  · injection hh with hh
    subst hh
    rw [h] at ht
    exact h2 _ _ ht
theorem hget_app {H : Heap} {i : Nat} (L : Heap) (h : i < H.length) : hget (H ++ L) i = hget H i := by
  induction H generalizing i with
  | nil => cases h
  | cons a H ih => cases i with
    | zero => rfl
    | succ i => exact ih (Nat.lt_of_succ_lt_succ h)
theorem hget_hset_ne (H : Heap) {i j : Nat} (o : HObj) (h : j ≠ i) : hget (hset H i o) j = hget H j := by
  induction H generalizing i j with
  | nil => rfl
  | cons a H ih => cases i with
    | zero => cases j with
      | zero => exact absurd rfl h
      | succ j => rfl
    | succ i => cases j with
      | zero => rfl
      | succ j => exact ih (fun e => h (by rw [e]))
theorem hset_len (H : Heap) (i : Nat) (o : HObj) : (hset H i o).length = H.length := by
  induction H generalizing i with
  | nil => rfl
  | cons a H ih => cases i with
    | zero => rfl
    | succ i => show (hset H i o).length + 1 = _; rw [ih]; rfl

section
variable {R : Type} {Q : R → Prop} {F : AV → Heap → Option R}
theorem beq_ne {a b : Nat} (h : a ≠ b) : Nat.beq a b = false := by
  cases hb : Nat.beq a b with
  | false => rfl
  | true => exact absurd (Nat.eq_of_beq_eq_true hb) h
/-- A slice grows by some cells. -/
theorem app_cells {H : Heap} {s x : AV} {e : Ext} {es bytes n m : Nat} {cs new : List PV} (hs : AppV H s e es n cs) (hx : srcLen x = some m) (hsrc : ∀ G : List PV → Option R, srcK H x G = G new) (hl : new.length = m * es)
    (hb : (n + m) * bytes ≤ mostBytes) (k : ∀ v' H', AppV H' v' e es (n + m) (cs ++ new) → Fr s H H' → (tokOf v' = tokOf s ∨ tokOf v' = some H.length) → Has (F v' H') Q) :
    Has (appS false es bytes s x H F) Q := by
  rw [appS_def]
  unfold appendK
  simp only [hx, hsrc]
  rcases hs with ⟨rfl, rfl, rfl, he⟩ | ⟨hn, hcl, t, rfl, ht⟩
  · have main : Has (boolK (Nat.beq m 0) fun z => bif z then F (.pv (.sl e 0 [])) H else
        needK (Nat.ble ((0 + m) * bytes) mostBytes && Nat.beq ([] : List PV).length (mulE 0 es) && Nat.beq new.length (mulE m es)) (eqK ([] ++ new) fun cs => eqK (0 + m) fun k => bif false then F (.hs es H.length 0 k k) (H ++ [.pcells cs]) else F (.tsl H.length k cs) (H ++ [.tok k es]))) Q := by
      by_cases hm : m = 0
      · subst hm
        have : new = [] := List.eq_nil_of_length_eq_zero (by omega)
        subst this
        refine boolK_has_true rfl ?_
        exact k _ _ (.inl ⟨rfl, rfl, rfl, he⟩) ⟨Nat.le_refl _, fun _ _ _ => rfl⟩ (.inl rfl)
      · refine boolK_has_false (beq_ne hm) ?_
        refine needK_has ?_ ?_
        · simp only [Bool.and_eq_true]
          refine ⟨⟨Nat.ble_eq_true_of_le hb, ?_⟩, ?_⟩
          · rw [mulE_eq]; simp
          · rw [mulE_eq, hl]; exact Nat.beq_refl _
        · refine eqK_has ?_
          refine eqK_has ?_
          refine k _ _ (.inr ⟨by omega, by rw [List.nil_append, hl, Nat.zero_add], _, rfl, hget_append_same _ _⟩) ⟨by simp, fun i hi _ => hget_app _ hi⟩ (.inr rfl)
    show Has (bif e.noApp then _ else _) Q
    rw [he]
    exact main
  · refine hgetK_has _ ht ?_
    dsimp only
    refine needK_has (by rw [Nat.beq_refl, Nat.beq_refl]; rfl) ?_
    refine needK_has ?_ ?_
    · simp only [Bool.and_eq_true]
      refine ⟨⟨Nat.ble_eq_true_of_le hb, ?_⟩, ?_⟩
      · rw [mulE_eq, hcl]; exact Nat.beq_refl _
      · rw [mulE_eq, hl]; exact Nat.beq_refl _
    · refine eqK_has ?_
      refine eqK_has ?_
      have htl := hget_lt ht (by intro h; cases h)
      refine k _ _ (.inr ⟨by omega, by rw [List.length_append, hcl, hl, Nat.add_mul], _, rfl, hget_hset_same _ htl⟩) ⟨by rw [hset_len]; exact Nat.le_refl _, fun i _ hne => ?_⟩ (.inl rfl)
      exact hget_hset_ne _ _ (fun e => hne (by rw [e]; rfl))
theorem app_has {H : Heap} {s : AV} {e e' : Ext} {es bytes n m : Nat} {cs new : List PV} (hs : AppV H s e es n cs) (hl : new.length = m * es)
    (hb : (n + m) * bytes ≤ mostBytes) (k : ∀ v' H', AppV H' v' e es (n + m) (cs ++ new) → Fr s H H' → (tokOf v' = tokOf s ∨ tokOf v' = some H.length) → Has (F v' H') Q) :
    Has (appS false es bytes s (.pv (.sl e' m new)) H F) Q := app_cells hs rfl (fun _ => rfl) hl hb k
/-- The same by an append to what was just made. -/
theorem app_plain {H : Heap} {e e' : Ext} {mu : Bool} {es bytes n m : Nat} {cs new : List PV} (he : e.noApp = false) (hc : cs.length = n * es) (hl : new.length = m * es) (hm : m ≠ 0)
    (hb : (n + m) * bytes ≤ mostBytes) (k : Has (bif mu then F (.hs es H.length 0 (n + m) (n + m)) (H ++ [.pcells (cs ++ new)]) else F (.tsl H.length (n + m) (cs ++ new)) (H ++ [.tok (n + m) es])) Q) :
    Has (appS mu es bytes (.pv (.sl e n cs)) (.pv (.sl e' m new)) H F) Q := by
  rw [appS_def]
  have main : Has (boolK (Nat.beq m 0) fun z => bif z then F (.pv (.sl e n cs)) H else
        needK (Nat.ble ((n + m) * bytes) mostBytes && Nat.beq cs.length (mulE n es) && Nat.beq new.length (mulE m es)) (eqK (cs ++ new) fun cs => eqK (n + m) fun k => bif mu then F (.hs es H.length 0 k k) (H ++ [.pcells cs]) else F (.tsl H.length k cs) (H ++ [.tok k es]))) Q := by
    refine boolK_has_false (beq_ne hm) ?_
    refine needK_has ?_ ?_
    · simp only [Bool.and_eq_true]
      refine ⟨⟨Nat.ble_eq_true_of_le hb, ?_⟩, ?_⟩
      · rw [mulE_eq, hc]; exact Nat.beq_refl _
      · rw [mulE_eq, hl]; exact Nat.beq_refl _
    · refine eqK_has ?_
      refine eqK_has ?_
      exact k
  show Has (bif e.noApp then _ else _) Q
  rw [he]
  exact main
end
end Go.VM

namespace Go.VM
open Go

section
variable {R : Type} {Q : R → Prop}
theorem hgetK_last {L : Heap} {o : HObj} {F : HObj → Option R} (h : Has (F o) Q) : Has (hgetK (L ++ [o]) L.length F) Q := hgetK_has _ (hget_append_same L o) h
theorem hset_last (L : Heap) (o o' : HObj) : hset (L ++ [o]) L.length o' = L ++ [o'] := by
  induction L with
  | nil => rfl
  | cons a L ih => show a :: hset (L ++ [o]) L.length o' = _; rw [ih]; rfl
theorem hgetK_set {L : Heap} {o o' : HObj} {F : HObj → Option R} (h : Has (F o') Q) : Has (hgetK (hset (L ++ [o]) L.length o') L.length F) Q := by
  rw [hset_last]; exact hgetK_last h
end

/-! ### parts of code -/
def VCode.kid (c : VCode) (i : Nat) : VCode :=
  match c with
  | .seq a b => bif Nat.beq i 0 then a else b
  | .cond _ a b => bif Nat.beq i 0 then a else b
  | .block _ c => c
  | .loop c => c
  | .loopM _ _ c => c
  | .rangeFunc _ _ a b => bif Nat.beq i 0 then a else b
  | c => c
def VCode.at (c : VCode) (l : List Nat) : VCode := l.foldl VCode.kid c

/-! ### lists of whole numbers -/
/-! ### lists of values of some cells each -/
/-- The cells of a list, each of es cells. -/
def flat {α : Type} (f : α → List PV) (l : List α) : List PV := (l.map f).flatten
end Go.VM

namespace Go.VM
open Go

/-- One cell. -/
def cellOf (v : AV) : HObj := match v with
  | .pv p => .pcells [p]
  | v => .cells [v]
/-- All that is no token, but one, stays. -/
def Keep (p : Nat) (H H' : Heap) : Prop := H.length ≤ H'.length ∧ ∀ i o, i ≠ p → hget H i = o → o ≠ .dead → (∀ n es, o ≠ .tok n es) → hget H' i = o
theorem Keep.refl (p : Nat) (H : Heap) : Keep p H H := ⟨Nat.le_refl _, fun _ _ _ h _ _ => h⟩
theorem Keep.trans {p : Nat} {H H1 H2 : Heap} (h1 : Keep p H H1) (h2 : Keep p H1 H2) : Keep p H H2 :=
  ⟨Nat.le_trans h1.1 h2.1, fun i o hi h hd ht => h2.2 i o hi (h1.2 i o hi h hd ht) hd ht⟩
theorem Keep.set {p : Nat} {H H1 : Heap} (h1 : Keep p H H1) (o : HObj) : Keep p H (hset H1 p o) :=
  ⟨by rw [hset_len]; exact h1.1, fun i o' hi h hd ht => (hget_hset_ne _ _ hi).trans (h1.2 i o' hi h hd ht)⟩
/-- A row of bytes in an object of one cell. -/
def TP (H : Heap) (p : Nat) (bs : List UInt8) : Prop := ∃ v, hget H p = cellOf v ∧ AppV H v .nil 1 bs.length (bc bs)
theorem TP.out {H : Heap} {p : Nat} {bs : List UInt8} (h : TP H p bs) : (hget H p = .pcells [.sl .nil 0 []] ∧ bs = []) ∨ (bs ≠ [] ∧ ∃ t, hget H p = .cells [.tsl t bs.length (bc bs)] ∧ hget H t = .tok bs.length 1) := by
  obtain ⟨v, h1, h2⟩ := h
  rcases h2 with ⟨h3, _, rfl, _⟩ | ⟨h3, _, t, rfl, h4⟩
  · exact .inl ⟨h1, List.eq_nil_of_length_eq_zero h3⟩
  · exact .inr ⟨fun h => by rw [h] at h3; exact h3 rfl, t, h1, h4⟩
end Go.VM

namespace Go.VM
open Go Go.RowKit Go.ChangeShapes Go.WideShapes

section
variable {H : Type} {enc : TypeId × Value → H} {P : Program} {w : World} {sp : Nat → Bool} {hd : Bool} {B : Nat} {bk : DataW H → Nat}

end
section
variable {H : Type} {enc : TypeId × Value → H} {P : Program} {W : World} {B : Nat} {bk : DataW H → Nat}

end


end Go.VM

namespace Go.VM
open Go

section
variable {R : Type} {Q : R → Prop}
theorem runM_le {b : Regs → Heap → Option Res} {it nx n m : Nat} (hnm : n ≤ m) {r : Regs} {h : Heap} {l : List Res} (hl : runM b it nx n r h = some l) : runM b it nx m r h = some l := by
  induction m with
  | zero => have : n = 0 := by omega
            subst this; exact hl
  | succ m ih =>
    rcases Nat.lt_or_ge n (m + 1) with h1 | h1
    · exact runM_mono _ _ _ _ _ _ _ (ih (by omega))
    · have : n = m + 1 := by omega
      subst this; exact hl
theorem gatherM_intro {f : Regs → Heap → Option (List Res)} {P : Res → Prop} : ∀ {l : List (Regs × Heap)}, (∀ p ∈ l, ∃ lp, f p.1 p.2 = some lp ∧ lp ≠ [] ∧ ∀ x ∈ lp, P x) → ∃ L, gatherM l f = some L ∧ (l ≠ [] → L ≠ []) ∧ ∀ x ∈ L, P x := by
  intro l
  induction l with
  | nil => intro _; exact ⟨[], rfl, fun h => absurd rfl h, fun x h => by cases h⟩
  | cons p l ih =>
    intro h
    obtain ⟨lp, h1, h2, h3⟩ := h p (List.mem_cons_self ..)
    obtain ⟨L, g1, _, g3⟩ := ih fun q hq => h q (List.mem_cons_of_mem _ hq)
    refine ⟨lp ++ L, by simp only [gatherM, h1, g1, Option.bind_some], fun _ e => h2 (List.append_eq_nil_iff.1 e).1, fun x hx => ?_⟩
    rcases List.mem_append.1 hx with e | e
    · exact h3 x e
    · exact g3 x e
theorem runM_intro {b : Regs → Heap → Option Res} {it nx : Nat} {P : Res → Prop} (Inv : Nat → Regs → Heap → Prop)
    (step : ∀ m r h, Inv m r h → ∃ l, stepM it nx r h = some l ∧ l ≠ [] ∧ ∀ p ∈ l, Has (b p.1 p.2) fun x => match x.1 with | .normal => ∃ m', m' < m ∧ Inv m' x.2.1 x.2.2 | _ => P x) :
    ∀ (m : Nat) (r : Regs) (h : Heap), Inv m r h → ∃ l, runM b it nx (m + 1) r h = some l ∧ l ≠ [] ∧ ∀ x ∈ l, P x := by
  intro m
  induction m using Nat.strongRecOn with
  | _ m ih =>
    intro r h hI
    obtain ⟨l, h1, h2, h3⟩ := step m r h hI
    obtain ⟨L, g1, g2, g3⟩ := gatherM_intro (P := P) (l := l) (f := fun r h => (b r h).bind fun x => match x with
      | (.normal, r', h') => runM b it nx m r' h'
      | x => some [x]) fun p hp => by
        obtain ⟨x, q1, q2⟩ := h3 p hp
        obtain ⟨e, r', h'⟩ := x
        cases e with
        | normal =>
          obtain ⟨m', hm', hI'⟩ := q2
          obtain ⟨lp, t1, t2, t3⟩ := ih m' hm' r' h' hI'
          exact ⟨lp, by rw [q1]; exact runM_le (by omega) t1, t2, t3⟩
        | exit id => exact ⟨[(.exit id, r', h')], by rw [q1]; rfl, by simp, fun y hy => by simp at hy; subst hy; exact q2⟩
        | ret => exact ⟨[(.ret, r', h')], by rw [q1]; rfl, by simp, fun y hy => by simp at hy; subst hy; exact q2⟩
    exact ⟨L, by simp only [runM, h1, Option.bind_some]; exact g1, g2 h2, g3⟩

open Classical in
/-- A loop over a map: all its ends are alike in what is named. -/
theorem loopMK_has {b : Regs → Heap → Option Res} {it nx id : Nat} {r : Regs} {h : Heap} {F : Ex → Regs → Heap → Option R} (hit : r it = .ptr id 0) (e : Ex) (L : List (Nat × AV)) (G : Nat → Option HObj) (n1 : Nat)
    (Inv : Nat → Regs → Heap → Prop) (m0 : Nat) (h0 : Inv m0 r h)
    (step : ∀ m r h, Inv m r h → ∃ l, stepM it nx r h = some l ∧ l ≠ [] ∧ ∀ p ∈ l, Has (b p.1 p.2) fun x => match x.1 with
      | .normal => ∃ m', m' < m ∧ Inv m' x.2.1 x.2.2
      | _ => x.1 = e ∧ Agr x.2.1 L ∧ (∀ i o, i ≠ id → G i = some o → hget x.2.2 i = o) ∧ n1 ≤ x.2.2.length)
    (old : ∀ i, i < h.length → i ≠ id → ∃ o, G i = some o)
    (done : ∀ r H, (∀ i o, i ≠ id → G i = some o → hget H i = o) → n1 ≤ H.length → Has (F e (setL r L) H) Q) : Has (loopMK b it nx r h F) Q := by
  obtain ⟨l, h1, h2, h3⟩ := runM_intro Inv step m0 r h h0
  rw [loopMK_def]
  unfold endsM
  rw [hit]
  dsimp only
  have hlim : (lim fun n => runM b it nx n r h) = some l := lim_eq (f := fun n => runM b it nx n r h) (fun n x hx => runM_mono _ _ _ _ _ _ _ hx) h1
  rw [hlim, Option.bind_some]
  cases l with
  | nil => exact absurd rfl h2
  | cons x xs =>
    have hx := h3 x (List.mem_cons_self ..)
    have hxs : ∀ y ∈ xs, _ := fun y hy => h3 y (List.mem_cons_of_mem _ hy)
    simp only [meetL]
    rw [if_pos ⟨fun y hy => (hxs y hy).1.trans hx.1.symm, fun i hi hne y hy => by
      obtain ⟨o, ho⟩ := old i hi hne
      rw [(hxs y hy).2.2.1 i o hne ho, hx.2.2.1 i o hne ho]⟩]
    simp only [Option.bind_some]
    rw [hx.1]
    have hlen : x.2.2.length ≤ (x :: xs).foldl (fun n (y : Res) => max n y.2.2.length) 0 := (foldl_max (fun y : Res => y.2.2.length) (x :: xs) 0).2 x (List.mem_cons_self ..)
    have key := done (fun t => if ∀ y ∈ xs, y.2.1 t = x.2.1 t then x.2.1 t else .any) ((List.range ((x :: xs).foldl (fun n (y : Res) => max n y.2.2.length) 0)).map fun i => if i ≠ id ∧ ∀ y ∈ xs, hget y.2.2 i = hget x.2.2 i then hget x.2.2 i else .dead) (fun i o hne ho => ?_) (by
        rw [List.length_map, List.length_range]; exact Nat.le_trans hx.2.2.2 hlen)
    · rwa [Agr.eq] at key
      have hA := hx.2.1
      have hAs : ∀ y ∈ xs, Agr y.2.1 L := fun y hy => (hxs y hy).2.1
      clear hlim h3 h2 h1 hxs hx key done step
      induction L with
      | nil => trivial
      | cons p L ih =>
        obtain ⟨t, v⟩ := p
        refine ⟨?_, ih hA.2 fun y hy => (hAs y hy).2⟩
        show (if ∀ y ∈ xs, y.2.1 t = x.2.1 t then x.2.1 t else .any) = v
        rw [if_pos fun y hy => (hAs y hy).1.trans hA.1.symm]
        exact hA.1
    · have ho1 := hx.2.2.1 i o hne ho
      rw [hget_range]
      split
      · rw [if_pos ⟨hne, fun y hy => ((hxs y hy).2.2.1 i o hne ho).trans ho1.symm⟩]; exact ho1
      · rw [hget_ge (by omega)] at ho1; exact ho1
end

/-! ### a map's entries -/
/-- Stamps are apart, and below the clock. -/
def Stamps (clk : Nat) (es : List (Nat × PV × PV)) : Prop := (es.map (·.1)).Nodup ∧ ∀ e ∈ es, e.1 < clk
theorem stepM_map {it nx id m clk last : Nat} {seen : List Nat} {es : List (Nat × PV × PV)} {r : Regs} {h : Heap} (hit : r it = .ptr id 0) (hg : hget h id = .iter (some m) clk seen last) (hm : hget h m = .map clk es) (hlast : last = clk) (hclk : ∀ e ∈ es, e.1 < clk) :
    stepM it nx r h = some ((bif (es.filter fun e => !seen.contains e.1).isEmpty then [(upd r nx (.pv (.tup [.bool false])), h)] else []) ++
      (es.filter fun e => !seen.contains e.1).map fun e => (upd r nx (.pv (.tup [.bool true, e.2.1, e.2.2])), hset h id (.iter (some m) clk (seen ++ [e.1]) clk))) := by
  subst hlast
  unfold stepM
  rw [hit]
  simp only [Nat.beq_refl, cond_true, hg, hm]
  have hbad : (!seen.isEmpty && !es.isEmpty && es.all fun e => Nat.ble last e.1) = false := by
    cases es with
    | nil => simp
    | cons e es =>
      have := hclk e (List.mem_cons_self ..)
      have : Nat.ble last e.1 = false := by
        cases hb : Nat.ble last e.1 with
        | false => rfl
        | true => have := Nat.le_of_ble_eq_true hb; omega
      simp [this]
  rw [hbad]
  simp only [cond_false]
  have e1 : oldM last seen es = es.filter fun e => !seen.contains e.1 := by
    unfold oldM
    refine List.filter_eq_self.2 fun e he => ?_
    exact Nat.ble_eq_true_of_le (hclk e (List.mem_filter.1 he).1)
  have e2 : newM last seen es = [] := by
    unfold newM
    rw [List.filter_eq_nil_iff]
    intro e he hb
    have := Nat.le_of_ble_eq_true hb
    have := hclk e (List.mem_filter.1 he).1
    omega
  rw [e1, e2, List.append_nil]

theorem nodup_len {α : Type} : ∀ (l m : List α), l.Nodup → (∀ x ∈ l, x ∈ m) → l.length ≤ m.length := by
  intro l
  induction l with
  | nil => intro m _ _; exact Nat.zero_le _
  | cons a l ih =>
    intro m hn hs
    rw [List.nodup_cons] at hn
    obtain ⟨s, t, rfl⟩ := List.append_of_mem (hs a (List.mem_cons_self ..))
    have := ih (s ++ t) hn.2 fun x hx => by
      rcases List.mem_append.1 (hs x (List.mem_cons_of_mem _ hx)) with h | h
      · exact List.mem_append_left _ h
      · rcases List.mem_cons.1 h with e | h
        · exact absurd (e ▸ hx) hn.1
        · exact List.mem_append_right _ h
    simp at this ⊢; omega
section
variable {R : Type} {Q : R → Prop}
/-- A loop over a map, entry by entry. vs: the entries that were visited, in their order; M vs: what the map then has. -/
theorem rangeM_has {b : Regs → Heap → Option Res} {it nx id mp clk : Nat} {es : List (Nat × PV × PV)} {r : Regs} {h : Heap} {F : Ex → Regs → Heap → Option R} (hes : Stamps clk es)
    (M : List (Nat × PV × PV) → List (Nat × PV × PV)) (hM1 : ∀ vs e, e ∈ M vs → e ∈ es) (hM2 : ∀ vs e, e ∈ es → e ∉ vs → e ∈ M vs)
    (S : List (Nat × PV × PV) → List (Nat × AV)) (Hp : List (Nat × PV × PV) → Heap → Prop) (hS : ∀ vs, ∃ l, S vs = (it, .ptr id 0) :: l)
    (hHp : ∀ vs h, Hp vs h → hget h mp = .map clk (M vs))
    (e : Ex) (L : List (Nat × AV)) (G : Nat → Option HObj) (n1 : Nat)
    (step : ∀ vs x r h, (∀ y ∈ vs, y ∈ es) → x ∈ es → x ∉ vs → vs.Nodup → Hp vs h → hget h id = .iter (some mp) clk (vs.map (·.1)) clk →
      Has (b (upd (setL r (S vs)) nx (.pv (.tup [.bool true, x.2.1, x.2.2]))) (hset h id (.iter (some mp) clk (vs.map (·.1) ++ [x.1]) clk))) fun y => match y.1 with
        | .normal => Agr y.2.1 (S (vs ++ [x])) ∧ Hp (vs ++ [x]) y.2.2 ∧ hget y.2.2 id = .iter (some mp) clk (vs.map (·.1) ++ [x.1]) clk
        | _ => y.1 = e ∧ Agr y.2.1 L ∧ (∀ i o, i ≠ id → G i = some o → hget y.2.2 i = o) ∧ n1 ≤ y.2.2.length)
    (last : ∀ vs r h, vs.Perm es → Hp vs h → Has (b (upd (setL r (S vs)) nx (.pv (.tup [.bool false]))) h) fun y => match y.1 with
        | .normal => False
        | _ => y.1 = e ∧ Agr y.2.1 L ∧ (∀ i o, i ≠ id → G i = some o → hget y.2.2 i = o) ∧ n1 ≤ y.2.2.length)
    (hr : Agr r (S [])) (hh : Hp [] h) (hit : hget h id = .iter (some mp) clk [] clk)
    (old : ∀ i, i < h.length → i ≠ id → ∃ o, G i = some o)
    (done : ∀ r H, (∀ i o, i ≠ id → G i = some o → hget H i = o) → n1 ≤ H.length → Has (F e (setL r L) H) Q) : Has (loopMK b it nx r h F) Q := by
  have rit : ∀ vs (r : Regs), Agr r (S vs) → r it = .ptr id 0 := fun vs r hr => by
    obtain ⟨l, hl⟩ := hS vs
    rw [hl] at hr; exact hr.1
  refine loopMK_has (id := id) (rit [] r hr) e L G n1 (fun m r h => ∃ vs, m = es.length - vs.length ∧ vs.Nodup ∧ (∀ y ∈ vs, y ∈ es) ∧ Agr r (S vs) ∧ Hp vs h ∧ hget h id = .iter (some mp) clk (vs.map (·.1)) clk) es.length ⟨[], rfl, List.nodup_nil, (fun y hy => by cases hy), hr, hh, hit⟩ (fun m r h hI => ?_) old done
  obtain ⟨vs, rfl, hnd, hsub, hA, hH, hI⟩ := hI
  have hst := stepM_map (nx := nx) (rit vs r hA) hI (hHp vs h hH) rfl (fun e he => hes.2 e (hM1 vs e he))
  -- an entry is told by its stamp
  have inj : ∀ x ∈ es, ∀ y ∈ es, x.1 = y.1 → x = y := by
    have hn := hes.1
    clear hst hM1 hM2 step last hHp hsub old
    revert hn
    generalize es = l
    induction l with
    | nil => intro _ x hx; cases hx
    | cons a l ih =>
      intro hn x hx y hy hxy
      rw [List.map_cons, List.nodup_cons] at hn
      rcases List.mem_cons.1 hx with rfl | hx
      · rcases List.mem_cons.1 hy with e | hy
        · exact e.symm
        · exact absurd (List.mem_map.2 ⟨y, hy, hxy.symm⟩) hn.1
      · rcases List.mem_cons.1 hy with e | hy
        · rw [e] at hxy; exact absurd (List.mem_map.2 ⟨x, hx, hxy⟩) hn.1
        · exact ih hn.2 x hx y hy hxy
  have hseen : ∀ x ∈ es, ((vs.map (·.1)).contains x.1 = true ↔ x ∈ vs) := fun x hx => by
    rw [List.contains_iff_mem, List.mem_map]
    constructor
    · rintro ⟨y, hy, hyx⟩
      rw [← inj y (hsub y hy) x hx hyx]; exact hy
    · intro h; exact ⟨x, h, rfl⟩
  have hlen : vs.length ≤ es.length := nodup_len vs es hnd hsub
  refine ⟨_, hst, ?_, fun p hp => ?_⟩
  · cases hl : (M vs).filter fun e => !(vs.map (·.1)).contains e.1 with
    | nil => simp
    | cons a l => simp
  · rcases List.mem_append.1 hp with hp | hp
    · cases hl : ((M vs).filter fun e => !(vs.map (·.1)).contains e.1).isEmpty with
      | false => rw [hl] at hp; cases hp
      | true =>
        rw [hl] at hp
        have := List.mem_singleton.1 hp
        subst this
        have hall : ∀ x ∈ es, x ∈ vs := fun x hx => by
          refine Classical.byContradiction fun hn => ?_
          have h1 := hM2 vs x hx hn
          rw [List.isEmpty_iff, List.filter_eq_nil_iff] at hl
          have h2 := hl x h1
          simp only [Bool.not_eq_true', Bool.not_eq_false] at h2
          exact hn ((hseen x hx).1 h2)
        have hp2 : vs.Perm es := by
          have hes2 : es.Nodup := by
            have := hes.1
            unfold List.Nodup at this ⊢
            rw [List.pairwise_map] at this
            exact this.imp fun h e => h (by rw [e])
          exact (List.perm_ext_iff_of_nodup hnd hes2).2 fun x => ⟨hsub x, hall x⟩
        have := last vs r h hp2 hH
        rw [hA.eq] at this
        refine this.mono fun y hy => ?_
        obtain ⟨ye, yr, yh⟩ := y
        cases ye with
        | normal => exact hy.elim
        | exit _ => exact hy
        | ret => exact hy
    · obtain ⟨x, hx, rfl⟩ := List.mem_map.1 hp
      obtain ⟨hx1, hx2⟩ := List.mem_filter.1 hx
      have hxe := hM1 vs x hx1
      have hxv : x ∉ vs := fun h => by
        have := (hseen x hxe).2 h
        rw [this] at hx2; cases hx2
      have := step vs x r h hsub hxe hxv hnd hH hI
      rw [hA.eq] at this
      refine this.mono fun y hy => ?_
      obtain ⟨ye, yr, yh⟩ := y
      cases ye with
      | normal =>
        obtain ⟨k1, k2, k3⟩ := hy
        refine ⟨es.length - (vs ++ [x]).length, ?_, vs ++ [x], rfl, ?_, ?_, k1, k2, ?_⟩
        · have : (vs ++ [x]).length ≤ es.length := by
            refine nodup_len _ _ ?_ ?_
            · rw [List.nodup_append]
              exact ⟨hnd, by simp, fun a ha b hb e => by simp at hb; subst hb; subst e; exact hxv ha⟩
            · intro y hy
              rcases List.mem_append.1 hy with h | h
              · exact hsub y h
              · simp at h; subst h; exact hxe
          simp at this ⊢; omega
        · rw [List.nodup_append]
          exact ⟨hnd, by simp, fun a ha b hb e => by simp at hb; subst hb; subst e; exact hxv ha⟩
        · intro y hy
          rcases List.mem_append.1 hy with h | h
          · exact hsub y h
          · simp at h; subst h; exact hxe
        · rw [List.map_append]; exact k3
      | exit _ => exact hy
      | ret => exact hy
end
end Go.VM

namespace Go.VM
open Go

/-- All but these objects stays. -/
def Kp (l : List Nat) (H H' : Heap) : Prop := H.length ≤ H'.length ∧ ∀ i, i < H.length → i ∉ l → hget H' i = hget H i
theorem Kp.refl (l : List Nat) (H : Heap) : Kp l H H := ⟨Nat.le_refl _, fun _ _ _ => rfl⟩
theorem Kp.trans {l l' : List Nat} {H H1 H2 : Heap} (h1 : Kp l H H1) (h2 : Kp l' H1 H2) (hl : ∀ i ∈ l', i ∈ l ∨ H.length ≤ i) : Kp l H H2 :=
  ⟨Nat.le_trans h1.1 h2.1, fun i hi hn => (h2.2 i (Nat.lt_of_lt_of_le hi h1.1) fun hm => by
    rcases hl i hm with h | h
    · exact hn h
    · omega).trans (h1.2 i hi hn)⟩
theorem Kp.step {l : List Nat} {H H1 H2 : Heap} (h1 : Kp l H H1) (h2 : Kp [] H1 H2) : Kp l H H2 := h1.trans h2 fun _ h => by cases h
theorem Kp.app {l : List Nat} {H H1 : Heap} (h : Kp l H H1) (L : Heap) : Kp l H (H1 ++ L) := h.step ⟨by simp, fun i hi _ => hget_app L hi⟩
theorem Kp.set {l : List Nat} {H H1 : Heap} (h : Kp l H H1) (p : Nat) (o : HObj) (hp : p ∈ l ∨ H.length ≤ p) : Kp l H (hset H1 p o) :=
  ⟨by rw [hset_len]; exact h.1, fun i hi hn => (hget_hset_ne _ _ (fun e => by subst e; exact hp.elim hn fun h => by omega)).trans (h.2 i hi hn)⟩
theorem Kp.more {l l' : List Nat} {H H' : Heap} (h : Kp l H H') (hl : ∀ i ∈ l, i ∈ l') : Kp l' H H' := ⟨h.1, fun i hi hn => h.2 i hi fun hm => hn (hl i hm)⟩
theorem Kp.get {l : List Nat} {H H' : Heap} (h : Kp l H H') {i : Nat} {o : HObj} (hg : hget H i = o) (ho : o ≠ .dead) (hn : i ∉ l) : hget H' i = o := (h.2 i (hget_lt hg ho) hn).trans hg

theorem find_stamp {clk : Nat} {es : List (Nat × PV × PV)} (h : Stamps clk es) {x : Nat × PV × PV} (hx : x ∈ es) : es.find? (fun e => Nat.beq e.1 x.1) = some x := by
  have h1 := h.1
  clear h
  induction es with
  | nil => cases hx
  | cons a l ih =>
    rw [List.map_cons, List.nodup_cons] at h1
    rcases List.mem_cons.1 hx with rfl | hx
    · rw [List.find?_cons, Nat.beq_refl]
    · have hne : Nat.beq a.1 x.1 = false := by
        cases hb : Nat.beq a.1 x.1 with
        | false => rfl
        | true =>
          have := Nat.eq_of_beq_eq_true hb
          exact absurd (List.mem_map.2 ⟨x, hx, this.symm⟩) h1.1
      rw [List.find?_cons, hne]
      exact ih hx h1.2

section
variable {R : Type} {Q : R → Prop}
/-- A loop over a map that changes nothing that stood before it. -/
theorem rangeM_read {b : Regs → Heap → Option Res} {it nx mp clk : Nat} {es : List (Nat × PV × PV)} {r : Regs} {H : Heap} {F : Ex → Regs → Heap → Option R} (hm : hget H mp = .map clk es) (hes : Stamps clk es)
    (S : List (Nat × PV × PV) → List (Nat × AV)) (Ok : List (Nat × PV × PV) → Prop) (e : Ex) (L : List (Nat × AV))
    (step : ∀ vs x r h, (∀ y ∈ vs, y ∈ es) → x ∈ es → x ∉ vs → vs.Nodup → Ok vs → Kp [] H h → H.length < h.length → hget h mp = .map clk es → hget h H.length = .iter (some mp) clk (vs.map (·.1) ++ [x.1]) clk →
      Has (b (upd (setL r ((it, .ptr H.length 0) :: S vs)) nx (.pv (.tup [.bool true, x.2.1, x.2.2]))) h) fun y => match y.1 with
        | .normal => Agr y.2.1 ((it, .ptr H.length 0) :: S (vs ++ [x])) ∧ Kp [] h y.2.2 ∧ Ok (vs ++ [x])
        | _ => y.1 = e ∧ Agr y.2.1 L ∧ Kp [] h y.2.2)
    (last : ∀ vs r h, vs.Perm es → Ok vs → Kp [] H h → hget h mp = .map clk es → Has (b (upd (setL r ((it, .ptr H.length 0) :: S vs)) nx (.pv (.tup [.bool false]))) h) fun y => match y.1 with
        | .normal => False
        | _ => y.1 = e ∧ Agr y.2.1 L ∧ Kp [] h y.2.2)
    (hr : Agr r ((it, .ptr H.length 0) :: S [])) (h0 : Ok [])
    (done : ∀ r H', Kp [] H H' → Has (F e (setL r L) H') Q) : Has (loopMK b it nx r (H ++ [.iter (some mp) clk [] clk]) F) Q := by
  have hmp : mp < H.length := hget_lt hm (by intro h; cases h)
  refine rangeM_has (id := H.length) hes (fun _ => es) (fun _ _ h => h) (fun _ _ h _ => h) (fun vs => (it, .ptr H.length 0) :: S vs) (fun vs h => Kp [] H h ∧ H.length < h.length ∧ Ok vs) (fun vs => ⟨S vs, rfl⟩)
    (fun vs h hh => (hh.1.2 mp hmp (fun h => by cases h)).trans hm) e L (fun i => if i < H.length then some (hget H i) else none) H.length ?_ ?_ hr ⟨(Kp.refl _ _).app _, by simp, h0⟩ (by rw [hget_append_same]) (fun i hi hne => ?_) (fun r H' hG hn => ?_)
  · intro vs x r h h1 h2 h3 h4 hh hi
    have hk : Kp [] H (hset h H.length (.iter (some mp) clk (vs.map (·.1) ++ [x.1]) clk)) := hh.1.set _ _ (.inr (Nat.le_refl _))
    have hlt : H.length < (hset h H.length (.iter (some mp) clk (vs.map (·.1) ++ [x.1]) clk)).length := by rw [hset_len]; exact hh.2.1
    have hit2 := hget_hset_same (.iter (some mp) clk (vs.map (·.1) ++ [x.1]) clk) hh.2.1
    refine (step vs x r _ h1 h2 h3 h4 hh.2.2 hk hlt ((hk.2 mp hmp (fun h => by cases h)).trans hm) hit2).mono ?_
    intro y hy
    obtain ⟨ye, yr, yh⟩ := y
    have close : ye = e ∧ Agr yr L ∧ Kp [] (hset h H.length (.iter (some mp) clk (vs.map (·.1) ++ [x.1]) clk)) yh → ye = e ∧ Agr yr L ∧ (∀ i o, i ≠ H.length → (if i < H.length then some (hget H i) else none) = some o → hget yh i = o) ∧ H.length ≤ yh.length := by
      rintro ⟨a1, a2, a3⟩
      have hk2 := hk.step a3
      refine ⟨a1, a2, fun i o hne ho => ?_, hk2.1⟩
      split at ho
      · rename_i hi; injection ho with ho; subst ho
        exact hk2.2 i hi (fun h => by cases h)
      · cases ho
    cases ye with
    | normal =>
      obtain ⟨a1, a2, a3⟩ := hy
      refine ⟨a1, ⟨hk.step a2, Nat.lt_of_lt_of_le hlt a2.1, a3⟩, ?_⟩
      exact (a2.2 _ hlt (fun h => by cases h)).trans hit2
    | exit _ => exact close hy
    | ret => exact close hy
  · intro vs r h h1 hh
    refine (last vs r h h1 hh.2.2 hh.1 ((hh.1.2 mp hmp (fun h => by cases h)).trans hm)).mono ?_
    intro y hy
    obtain ⟨ye, yr, yh⟩ := y
    have close : ye = e ∧ Agr yr L ∧ Kp [] h yh → ye = e ∧ Agr yr L ∧ (∀ i o, i ≠ H.length → (if i < H.length then some (hget H i) else none) = some o → hget yh i = o) ∧ H.length ≤ yh.length := by
      rintro ⟨a1, a2, a3⟩
      have hk2 := hh.1.step a3
      refine ⟨a1, a2, fun i o hne ho => ?_, hk2.1⟩
      split at ho
      · rename_i hi; injection ho with ho; subst ho
        exact hk2.2 i hi (fun h => by cases h)
      · cases ho
    cases ye with
    | normal => exact hy.elim
    | exit _ => exact close hy
    | ret => exact close hy
  · rw [List.length_append, List.length_singleton] at hi
    exact ⟨hget H i, if_pos (by omega)⟩
  · refine done r H' ⟨hn, fun i hi _ => hG i _ (by omega) (if_pos hi)⟩

/-! ### entries that are named by something else -/
variable {α : Type} (E : List α) (enc : α → Nat × PV × PV)
def decs (vs : List (Nat × PV × PV)) : List α := vs.filterMap fun e => E.find? fun a => Nat.beq (enc a).1 e.1
theorem find_dec {clk : Nat} (h : Stamps clk (E.map enc)) {x : α} (hx : x ∈ E) : E.find? (fun a => Nat.beq (enc a).1 (enc x).1) = some x := by
  have h1 := h.1
  clear h
  induction E with
  | nil => cases hx
  | cons a l ih =>
    rw [List.map_cons, List.map_cons, List.nodup_cons] at h1
    rcases List.mem_cons.1 hx with rfl | hx
    · rw [List.find?_cons, Nat.beq_refl]
    · have hne : Nat.beq (enc a).1 (enc x).1 = false := by
        cases hb : Nat.beq (enc a).1 (enc x).1 with
        | false => rfl
        | true =>
          have := Nat.eq_of_beq_eq_true hb
          exact absurd (List.mem_map.2 ⟨enc x, List.mem_map.2 ⟨x, hx, rfl⟩, this.symm⟩) h1.1
      rw [List.find?_cons, hne]
      exact ih hx h1.2
variable {E enc}
theorem decs_map {clk : Nat} (h : Stamps clk (E.map enc)) : ∀ {V : List α}, (∀ y ∈ V, y ∈ E) → decs E enc (V.map enc) = V := by
  intro V
  induction V with
  | nil => intro _; rfl
  | cons a V ih =>
    intro hV
    have h1 := find_dec E enc h (hV a (List.mem_cons_self ..))
    have h2 := ih fun y hy => hV y (List.mem_cons_of_mem _ hy)
    unfold decs at h2 ⊢
    rw [List.map_cons, List.filterMap_cons, h1, h2]
theorem map_decs {vs : List (Nat × PV × PV)} (hv : ∀ y ∈ vs, y ∈ E.map enc) : ∃ V : List α, (∀ y ∈ V, y ∈ E) ∧ vs = V.map enc := by
  induction vs with
  | nil => exact ⟨[], (fun y hy => by cases hy), rfl⟩
  | cons a vs ih =>
    obtain ⟨V, h1, h2⟩ := ih fun y hy => hv y (List.mem_cons_of_mem _ hy)
    obtain ⟨x, hx, rfl⟩ := List.mem_map.1 (hv a (List.mem_cons_self ..))
    refine ⟨x :: V, ?_, by rw [List.map_cons, h2]⟩
    intro y hy
    rcases List.mem_cons.1 hy with rfl | hy
    · exact hx
    · exact h1 y hy
theorem rangeM_readT {b : Regs → Heap → Option Res} {it nx mp clk : Nat} {r : Regs} {H : Heap} {F : Ex → Regs → Heap → Option R} (hm : hget H mp = .map clk (E.map enc)) (hes : Stamps clk (E.map enc))
    (S : List α → List (Nat × AV)) (Ok : List α → Prop) (e : Ex) (L : List (Nat × AV))
    (step : ∀ V x r h, (∀ y ∈ V, y ∈ E) → x ∈ E → x ∉ V → V.Nodup → Ok V → Kp [] H h → H.length < h.length → hget h mp = .map clk (E.map enc) → hget h H.length = .iter (some mp) clk ((V.map enc).map (·.1) ++ [(enc x).1]) clk →
      Has (b (upd (setL r ((it, .ptr H.length 0) :: S V)) nx (.pv (.tup [.bool true, (enc x).2.1, (enc x).2.2]))) h) fun y => match y.1 with
        | .normal => Agr y.2.1 ((it, .ptr H.length 0) :: S (V ++ [x])) ∧ Kp [] h y.2.2 ∧ Ok (V ++ [x])
        | _ => y.1 = e ∧ Agr y.2.1 L ∧ Kp [] h y.2.2)
    (last : ∀ V r h, V.Perm E → Ok V → Kp [] H h → hget h mp = .map clk (E.map enc) → Has (b (upd (setL r ((it, .ptr H.length 0) :: S V)) nx (.pv (.tup [.bool false]))) h) fun y => match y.1 with
        | .normal => False
        | _ => y.1 = e ∧ Agr y.2.1 L ∧ Kp [] h y.2.2)
    (hr : Agr r ((it, .ptr H.length 0) :: S [])) (h0 : Ok [])
    (done : ∀ r H', Kp [] H H' → Has (F e (setL r L) H') Q) : Has (loopMK b it nx r (H ++ [.iter (some mp) clk [] clk]) F) Q := by
  refine rangeM_read hm hes (fun vs => S (decs E enc vs)) (fun vs => Ok (decs E enc vs)) e L ?_ ?_ hr h0 done
  · intro vs x r h h1 h2 h3 h4 ho hk hl hm' hi
    obtain ⟨V, g1, rfl⟩ := map_decs h1
    obtain ⟨a, ha, rfl⟩ := List.mem_map.1 h2
    have e1 := decs_map hes g1
    have e2 : decs E enc (V.map enc ++ [enc a]) = V ++ [a] := by
      have := decs_map hes (V := V ++ [a]) (fun y hy => (List.mem_append.1 hy).elim (g1 y) fun hy => List.mem_singleton.1 hy ▸ ha)
      rwa [List.map_append] at this
    simp only [e1, e2] at ho ⊢
    exact step V a r h g1 ha (fun hn => h3 (List.mem_map.2 ⟨a, hn, rfl⟩)) (List.Pairwise.of_map enc (fun _ _ h e => h (by rw [e])) h4) ho hk hl hm' hi
  · intro vs r h h1 ho hk hm'
    obtain ⟨V, g1, rfl⟩ := map_decs (fun y hy => h1.subset hy)
    have e1 := decs_map hes g1
    have hp : V.Perm E := by
      have := h1.filterMap fun e => E.find? fun a => Nat.beq (enc a).1 e.1
      change (decs E enc (V.map enc)).Perm (decs E enc (E.map enc)) at this
      rwa [e1, decs_map hes fun _ h => h] at this
    simp only [e1] at ho ⊢
    exact last V r h hp ho hk hm'
end

/-! ### two new objects -/
theorem hget_two1 (L : Heap) (a b : HObj) : hget (L ++ [a] ++ [b]) L.length = a := by rw [hget_app _ (by simp), hget_append_same]
theorem hset_two1 (L : Heap) (a b o : HObj) : hset (L ++ [a] ++ [b]) L.length o = L ++ [o] ++ [b] := by
  induction L with
  | nil => rfl
  | cons x L ih => show x :: hset (L ++ [a] ++ [b]) L.length o = _; rw [ih]; rfl
theorem hset_two2 (L : Heap) (a b a' o : HObj) : hset (L ++ [a'] ++ [b]) (L ++ [a]).length o = L ++ [a'] ++ [o] := by
  have : (L ++ [a]).length = (L ++ [a']).length := by simp
  rw [this, hset_last]
section
variable {R : Type} {Q : R → Prop} {F : HObj → Option R} {L : Heap} {a b a' b' : HObj}
theorem hgetK_two1 (h : Has (F a) Q) : Has (hgetK (L ++ [a] ++ [b]) L.length F) Q := hgetK_has _ (hget_two1 L a b) h
theorem hgetK_two2 (h : Has (F b) Q) : Has (hgetK (hset (L ++ [a] ++ [b]) L.length a') (L ++ [a]).length F) Q := hgetK_has _ (by
  rw [hset_two1, show (L ++ [a]).length = (L ++ [a']).length by simp, hget_append_same]) h
theorem hgetK_two3 (h : Has (F a') Q) : Has (hgetK (hset (hset (L ++ [a] ++ [b]) L.length a') (L ++ [a]).length b') L.length F) Q := hgetK_has _ (by
  rw [hset_two1, hset_two2, hget_two1]) h
theorem hgetK_two5 (h : Has (F a') Q) : Has (hgetK (hset (L ++ [a] ++ [b]) L.length a') L.length F) Q := hgetK_has _ (by
  rw [hset_two1, hget_two1]) h
theorem hgetK_two4 (h : Has (F b') Q) : Has (hgetK (hset (hset (L ++ [a] ++ [b]) L.length a') (L ++ [a]).length b') (L ++ [a]).length F) Q := hgetK_has _ (by
  rw [hset_two1, hset_two2, show (L ++ [a]).length = (L ++ [a']).length by simp, hget_append_same]) h
end

/-! ### statements and loops beside which the heap keeps a law -/
theorem iterE_upK {b : Regs → Heap → Option Res} {Q : Res → Prop} (n : Nat) (L : Nat → List (Nat × AV)) (Hc : Nat → Heap → Prop)
    (step : ∀ i, i < n → ∀ r h, Hc i h → Has (b (setL r (L i)) h) fun x => match x.1 with | .normal => Agr x.2.1 (L (i + 1)) ∧ Hc (i + 1) x.2.2 | _ => Q x)
    (last : ∀ r h, Hc n h → Has (b (setL r (L n)) h) fun x => match x.1 with | .normal => False | _ => Q x)
    {r : Regs} {h : Heap} (ha : Agr r (L 0)) (hh : Hc 0 h) : Has (iterE b r h) Q := by
  refine iterE_loop (σ := Nat × Heap) (fun s => n - s.1) (fun s => L s.1) (fun s => s.2) (fun s => s.1 ≤ n ∧ Hc s.1 s.2) (fun ⟨i, J⟩ ⟨hi, hj⟩ r => ?_) (0, h) ⟨Nat.zero_le _, hh⟩ ha rfl
  dsimp only at hi hj ⊢
  rcases Nat.lt_or_ge i n with h1 | h1
  · refine (step i h1 r J hj).mono fun x hx => ?_
    obtain ⟨e, r', h'⟩ := x
    cases e with
    | normal => exact ⟨(i + 1, h'), ⟨h1, hx.2⟩, by dsimp only; omega, hx.1, rfl⟩
    | exit id => exact hx
    | ret => exact hx
  · have : i = n := by omega
    subst this
    refine (last r J hj).mono fun x hx => ?_
    obtain ⟨e, r', h'⟩ := x
    cases e with
    | normal => exact hx.elim
    | exit id => exact hx
    | ret => exact hx
/-- A statement that may return. -/
theorem seq_ifK {R : Type} {Q : R → Prop} {env : Env} {E : Orc} {a b : VCode} {r : Regs} {h : Heap} {k : Ex → Regs → Heap → Option R} (Lr : List (Nat × AV)) (Pr : Heap → Prop) (L : List (Nat × AV)) (Pn : Heap → Prop)
    (ha : Has (evK env E a Res r h doneK) fun x => (x.1 = .ret ∧ Agr x.2.1 Lr ∧ Pr x.2.2) ∨ (x.1 = .normal ∧ Agr x.2.1 L ∧ Pn x.2.2))
    (hr : ∀ r h, Pr h → Has (k .ret (setL r Lr) h) Q) (hn : ∀ r h, Pn h → Has (evK env E b R (setL r L) h k) Q) : Has (evK env E (.seq a b) R r h k) Q := by
  refine seq_join (fun e r h => (e = .ret ∧ Agr r Lr ∧ Pr h) ∨ (e = .normal ∧ Agr r L ∧ Pn h)) ha fun e r h hj => ?_
  rcases hj with ⟨rfl, h2, h3⟩ | ⟨rfl, h2, h3⟩
  · have := hr r h h3
    rw [h2.eq] at this
    exact this
  · have := hn r h h3
    rw [h2.eq] at this
    exact this
/-- A statement that goes on. -/
theorem seq_onK {R : Type} {Q : R → Prop} {env : Env} {E : Orc} {a b : VCode} {r : Regs} {h : Heap} {k : Ex → Regs → Heap → Option R} (L : List (Nat × AV)) (Pn : Heap → Prop)
    (ha : Has (evK env E a Res r h doneK) fun x => x.1 = .normal ∧ Agr x.2.1 L ∧ Pn x.2.2) (hn : ∀ r h, Pn h → Has (evK env E b R (setL r L) h k) Q) : Has (evK env E (.seq a b) R r h k) Q := by
  refine seq_join (fun e r h => e = .normal ∧ Agr r L ∧ Pn h) ha fun e r h hj => ?_
  obtain ⟨rfl, h2, h3⟩ := hj
  have := hn r h h3
  rw [h2.eq] at this
  exact this
end Go.VM
