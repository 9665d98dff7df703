/-
  Part 8 of an abstract machine that answers as the model does.
  A region that draws its order: registers and heap after any closed set of its operations.
  A region that draws its order: whatever order is drawn, it ends as the abstract machine says.
  A region that draws its order: the walk over all orders.
-/
import Derived.Test.YtkkpkoekbmgabaaV7
set_option linter.all false
set_option linter.unusedVariables false
set_option linter.unusedSimpArgs false
set_option linter.unusedSectionVars false
namespace Go.VM
open Go

abbrev St := Nat → Bool

/-- Registers after the operations of a set. -/
def regS (S : St) : List VOper → List Ev → Nat → Regs → Regs
  | o :: l, e :: T, i, r => regS S l T (i + 1) (if S i then put r o.dst e.v else r)
  | _, _, _, r => r
/-- The heap after the effects of a set. -/
def heapS (md : FuncId → Mode) (S : St) : List VOper → List Ev → Nat → Heap → Heap
  | o :: l, e :: T, i, h => heapS md S l T (i + 1) (if S i && isEf md o then e.ha else h)
  | _, _, _, h => h

theorem put_other {r : Regs} {d : Option Nat} {v : AV} {t : Nat} (h : d ≠ some t) : put r d v t = r t := by
  cases d with
  | none => rfl
  | some u =>
    simp only [put, upd]
    have : Nat.beq t u = false := by
      cases hb : Nat.beq t u with
      | false => rfl
      | true => exact absurd (by rw [Nat.eq_of_beq_eq_true hb]) h
    rw [this]; rfl
theorem put_same {r : Regs} {v : AV} {t : Nat} : put r (some t) v t = v := by simp [put, upd]

theorem regS_skip {S : St} {t : Nat} : ∀ {l : List VOper} {T : List Ev} {k : Nat} {r : Regs}, (∀ j o, l[j]? = some o → S (k + j) = true → o.dst ≠ some t) → regS S l T k r t = r t := by
  intro l
  induction l with
  | nil => intro T k r _; cases T <;> rfl
  | cons o l ih =>
    intro T k r h
    cases T with
    | nil => rfl
    | cons e T =>
      simp only [regS]
      rw [ih fun j o' hj hs => h (j + 1) o' (by simpa using hj) (by rwa [Nat.add_assoc, Nat.add_comm 1 j] at hs)]
      cases hS : S k with
      | false => rfl
      | true =>
        simp only [if_true]
        exact put_other (h 0 o rfl (by simpa using hS))

theorem put_comm' {r : Regs} {d d' : Option Nat} {v v' : AV} (h : ∀ t, d = some t → d' ≠ some t) : put (put r d v) d' v' = put (put r d' v') d v := by
  funext t
  by_cases h1 : d = some t
  · subst h1
    rw [put_other (h t rfl), put_same, put_same]
  · rw [put_other (d := d) h1]
    by_cases h2 : d' = some t
    · subst h2; rw [put_same, put_same]
    · rw [put_other h2, put_other h2, put_other h1]

theorem regS_put {S : St} {d : Option Nat} {v : AV} : ∀ {l : List VOper} {T : List Ev} {k : Nat} {r : Regs}, (∀ j o, l[j]? = some o → S (k + j) = true → ∀ t, d = some t → o.dst ≠ some t) → regS S l T k (put r d v) = put (regS S l T k r) d v := by
  intro l
  induction l with
  | nil => intro T k r _; cases T <;> rfl
  | cons o l ih =>
    intro T k r h
    cases T with
    | nil => rfl
    | cons e T =>
      simp only [regS]
      have hn : ∀ j o', l[j]? = some o' → S (k + 1 + j) = true → ∀ t, d = some t → o'.dst ≠ some t := fun j o' hj hs => h (j + 1) o' (by simpa using hj) (by rwa [Nat.add_assoc, Nat.add_comm 1 j] at hs)
      cases hS : S k with
      | false => simp only [Bool.false_eq_true, if_false]; exact ih hn
      | true =>
        simp only [if_true]
        rw [put_comm' (h 0 o rfl (by simpa using hS)), ih hn]

/-- A set with one more. -/
def St.add (S : St) (i : Nat) : St := fun j => S j || Nat.beq j i
theorem St.add_same (S : St) (i : Nat) : S.add i i = true := by simp [St.add]
theorem St.add_other {S : St} {i j : Nat} (h : j ≠ i) : S.add i j = S j := by
  have : Nat.beq j i = false := by
    cases hb : Nat.beq j i with
    | false => rfl
    | true => exact absurd (Nat.eq_of_beq_eq_true hb) h
  simp [St.add, this]

theorem regS_congr {S S' : St} : ∀ {l : List VOper} {T : List Ev} {k : Nat} {r : Regs}, (∀ j, k ≤ j → S j = S' j) → regS S l T k r = regS S' l T k r := by
  intro l
  induction l with
  | nil => intro T k r _; cases T <;> rfl
  | cons o l ih =>
    intro T k r h
    cases T with
    | nil => rfl
    | cons e T =>
      simp only [regS]
      rw [h k (Nat.le_refl _), ih fun j hj => h j (by omega)]

/-- One operation more. -/
theorem regS_add {S : St} : ∀ {l : List VOper} {T : List Ev} {k m : Nat} {r : Regs} {o : VOper} {e : Ev}, l[m]? = some o → T[m]? = some e → S (k + m) = false →
    (∀ j o', l[j]? = some o' → m < j → S (k + j) = true → ∀ t, o.dst = some t → o'.dst ≠ some t) → regS (S.add (k + m)) l T k r = put (regS S l T k r) o.dst e.v := by
  intro l
  induction l with
  | nil => intro T k m r o e h; simp at h
  | cons o0 l ih =>
    intro T k m r o e hl hT hS hno
    cases T with
    | nil => simp at hT
    | cons e0 T =>
      cases m with
      | zero =>
        simp at hl hT; subst hl; subst hT
        simp only [Nat.add_zero] at hS ⊢
        simp only [regS, St.add_same, if_true, hS, Bool.false_eq_true, if_false]
        rw [← regS_put (S := S) (l := l) (T := T) (k := k + 1) (r := r) fun j o' hj hs t ht => hno (j + 1) o' (by simpa using hj) (by omega) (by rwa [Nat.add_assoc, Nat.add_comm 1 j] at hs) t ht]
        exact regS_congr fun j hj => St.add_other (by omega)
      | succ m =>
        simp at hl hT
        simp only [regS]
        rw [St.add_other (by omega)]
        have := ih (k := k + 1) (r := if S k = true then put r o0.dst e0.v else r) hl hT (by rwa [Nat.add_assoc, Nat.add_comm 1 m]) (fun j o' hj hm hs => hno (j + 1) o' (by simpa using hj) (by omega) (by rwa [Nat.add_assoc, Nat.add_comm 1 j] at hs))
        rw [Nat.add_assoc, Nat.add_comm 1 m] at this
        exact this

section
variable {env : Env} {E : Orc}

theorem Run.len {l : List VOper} {r r2 : Regs} {h h2 : Heap} {T : List Ev} (g : Run env E l r h T r2 h2) : T.length = l.length := by
  induction g with
  | nil => rfl
  | did _ _ _ _ _ _ _ _ _ _ _ _ _ ih => simp [ih]
  | not _ _ _ _ _ _ _ _ _ ih => simp [ih]

/-- Every operation of a run. -/
theorem Run.at {l : List VOper} {r r2 : Regs} {h h2 : Heap} {T : List Ev} (g : Run env E l r h T r2 h2) : ∀ {i : Nat} {o : VOper} {e : Ev}, l[i]? = some o → T[i]? = some e →
    (e.did = true ∧ (wantedV e.rb o.guard = true ∧ badG e.rb o.guard = false) ∧ operK env E o.op e.rb e.hb (fun v h => some (v, h)) = some (e.v, e.ha)) ∨ (e.did = false ∧ wantedV e.rb o.guard = false ∧ e.v = undefV ∧ e.ha = e.hb) := by
  induction g with
  | nil => intro i o e hl; simp at hl
  | did o l r h v h' T r2 h2 hw hbg he _ ih =>
    intro i o' e hl hT
    cases i with
    | zero => simp at hl hT; subst hl; subst hT; exact .inl ⟨rfl, ⟨hw, hbg⟩, he⟩
    | succ i => simp at hl hT; exact ih hl hT
  | not o l r h T r2 h2 hw _ ih =>
    intro i o' e hl hT
    cases i with
    | zero => simp at hl hT; subst hl; subst hT; exact .inr ⟨rfl, hw, rfl, rfl⟩
    | succ i => simp at hl hT; exact ih hl hT

/-- What an operation of the run finds at a temporary is what any closed set's registers hold there. -/
theorem Run.reg {S : St} {t : Nat} {l : List VOper} {r2 : Regs} {h h2 : Heap} {T : List Ev} {r' : Regs} (g : Run env E l r' h T r2 h2) : ∀ {k i : Nat} {r : Regs} {e : Ev}, T[i]? = some e → r t = r' t →
    (∀ j o, l[j]? = some o → o.dst = some t → (j < i → S (k + j) = true) ∧ (i ≤ j → S (k + j) = false)) → regS S l T k r t = e.rb t := by
  induction g with
  | nil => intro k i r e hT; simp at hT
  | did o l r0 h v h' T r2 h2 hw hbg he _ ih =>
    intro k i r e hT heq hc
    cases i with
    | zero =>
      simp at hT; subst hT
      rw [regS_skip fun j o' hj hs ho => by
        have := (hc j o' hj ho).2 (Nat.zero_le _)
        rw [hs] at this; cases this]
      exact heq
    | succ i =>
      simp at hT
      simp only [regS]
      refine ih (k := k + 1) hT ?_ fun j o' hj ho => ?_
      · by_cases hd : o.dst = some t
        · have := (hc 0 o rfl hd).1 (by omega)
          simp only [Nat.add_zero] at this
          rw [this, hd]
          simp [put_same]
        · rw [put_other hd]
          split
          · rw [put_other hd]; exact heq
          · exact heq
      · have := hc (j + 1) o' (by simpa using hj) ho
        rw [Nat.add_assoc, Nat.add_comm 1 j]
        exact ⟨fun hlt => this.1 (by omega), fun hle => this.2 (by omega)⟩
  | not o l r0 h T r2 h2 hw _ ih =>
    intro k i r e hT heq hc
    cases i with
    | zero =>
      simp at hT; subst hT
      rw [regS_skip fun j o' hj hs ho => by
        have := (hc j o' hj ho).2 (Nat.zero_le _)
        rw [hs] at this; cases this]
      exact heq
    | succ i =>
      simp at hT
      simp only [regS]
      refine ih (k := k + 1) hT ?_ fun j o' hj ho => ?_
      · by_cases hd : o.dst = some t
        · have := (hc 0 o rfl hd).1 (by omega)
          simp only [Nat.add_zero] at this
          rw [this, hd]
          simp [put_same]
        · rw [put_other hd]
          split
          · rw [put_other hd]; exact heq
          · exact heq
      · have := hc (j + 1) o' (by simpa using hj) ho
        rw [Nat.add_assoc, Nat.add_comm 1 j]
        exact ⟨fun hlt => this.1 (by omega), fun hle => this.2 (by omega)⟩

/-- After all of them. -/
theorem Run.regAll {S : St} {t : Nat} {l : List VOper} {r2 : Regs} {h h2 : Heap} {T : List Ev} {r' : Regs} (g : Run env E l r' h T r2 h2) : ∀ {k : Nat} {r : Regs}, r t = r' t →
    (∀ j o, l[j]? = some o → S (k + j) = true) → regS S l T k r t = r2 t := by
  induction g with
  | nil => intro k r heq _; exact heq
  | did o l r0 h v h' T r2 h2 hw hbg he _ ih =>
    intro k r heq hc
    simp only [regS]
    refine ih (k := k + 1) ?_ fun j o' hj => by
      have := hc (j + 1) o' (by simpa using hj)
      rwa [Nat.add_assoc, Nat.add_comm 1 j]
    have := hc 0 o rfl
    simp only [Nat.add_zero] at this
    rw [this]
    by_cases hd : o.dst = some t
    · rw [hd]; simp [put_same]
    · rw [put_other hd]; simp [put_other hd, heq]
  | not o l r0 h T r2 h2 hw _ ih =>
    intro k r heq hc
    simp only [regS]
    refine ih (k := k + 1) ?_ fun j o' hj => by
      have := hc (j + 1) o' (by simpa using hj)
      rwa [Nat.add_assoc, Nat.add_comm 1 j]
    have := hc 0 o rfl
    simp only [Nat.add_zero] at this
    rw [this]
    by_cases hd : o.dst = some t
    · rw [hd]; simp [put_same]
    · rw [put_other hd]; simp [put_other hd, heq]

/-! ### the heap -/
theorem heapS_skip {md : FuncId → Mode} {S : St} : ∀ {l : List VOper} {T : List Ev} {k : Nat} {h : Heap}, (∀ j o, l[j]? = some o → isEf md o = true → S (k + j) = false) → heapS md S l T k h = h := by
  intro l
  induction l with
  | nil => intro T k h _; cases T <;> rfl
  | cons o l ih =>
    intro T k h hc
    cases T with
    | nil => rfl
    | cons e T =>
      simp only [heapS]
      rw [ih fun j o' hj he => by
        have := hc (j + 1) o' (by simpa using hj) he
        rwa [Nat.add_assoc, Nat.add_comm 1 j]]
      cases he : isEf md o with
      | false => simp
      | true =>
        have := hc 0 o rfl he
        simp only [Nat.add_zero] at this
        simp [this]
theorem heapS_congr {md : FuncId → Mode} {S S' : St} : ∀ {l : List VOper} {T : List Ev} {k : Nat} {h : Heap}, (∀ j o, l[j]? = some o → isEf md o = true → S (k + j) = S' (k + j)) → heapS md S l T k h = heapS md S' l T k h := by
  intro l
  induction l with
  | nil => intro T k h _; cases T <;> rfl
  | cons o l ih =>
    intro T k h hc
    cases T with
    | nil => rfl
    | cons e T =>
      simp only [heapS]
      have e0 : (S k && isEf md o) = (S' k && isEf md o) := by
        cases he : isEf md o with
        | false => simp
        | true => have := hc 0 o rfl he; simp only [Nat.add_zero] at this; rw [this]
      rw [e0]
      exact ih fun j o' hj he => by
        have := hc (j + 1) o' (by simpa using hj) he
        rwa [Nat.add_assoc, Nat.add_comm 1 j]

/-- Operations that are no effects leave the heap. -/
def Tame (md : FuncId → Mode) (l : List VOper) (T : List Ev) : Prop := ∀ (j : Nat) (o : VOper) (e : Ev), l[j]? = some o → T[j]? = some e → isEf md o = false → e.ha = e.hb
theorem Tame.tail {md : FuncId → Mode} {o : VOper} {l : List VOper} {e : Ev} {T : List Ev} (h : Tame md (o :: l) (e :: T)) : Tame md l T := fun j o' e' hj he => h (j + 1) o' e' (by simpa using hj) (by simpa using he)

/-- How the heaps of a run follow on each other. -/
theorem Run.chain {l : List VOper} {r r2 : Regs} {h h2 : Heap} {o : VOper} {e : Ev} {T : List Ev} (g : Run env E (o :: l) r h (e :: T) r2 h2) : e.hb = h ∧ e.rb = r ∧ Run env E l (put r o.dst e.v) e.ha T r2 h2 := by
  cases g with
  | did _ _ _ _ _ _ _ _ _ hw _ he g => exact ⟨rfl, rfl, g⟩
  | not _ _ _ _ _ _ _ hw g => exact ⟨rfl, rfl, g⟩

/-- The heap ahead of an operation, behind just those effects that come before it in the run. -/
theorem Run.heap {md : FuncId → Mode} {S : St} : ∀ {l : List VOper} {T : List Ev} {r r2 : Regs} {h h2 : Heap} {k i : Nat} {e : Ev}, Run env E l r h T r2 h2 → Tame md l T → T[i]? = some e →
    (∀ j o, l[j]? = some o → isEf md o = true → (j < i → S (k + j) = true) ∧ (i ≤ j → S (k + j) = false)) → heapS md S l T k h = e.hb := by
  intro l
  induction l with
  | nil => intro T r r2 h h2 k i e g _ hT; cases g; simp at hT
  | cons o l ih =>
    intro T r r2 h h2 k i e g ht hT hc
    cases T with
    | nil => simp at hT
    | cons e0 T =>
      obtain ⟨g1, g2, g3⟩ := g.chain
      cases i with
      | zero =>
        simp at hT; subst hT
        rw [heapS_skip fun j o' hj he => (hc j o' hj he).2 (Nat.zero_le _)]
        exact g1.symm
      | succ i =>
        simp at hT
        simp only [heapS]
        have e1 : (if (S k && isEf md o) = true then e0.ha else h) = e0.ha := by
          cases he : isEf md o with
          | true => have := (hc 0 o rfl he).1 (by omega); simp only [Nat.add_zero] at this; simp [this]
          | false => simp [ht 0 o e0 rfl rfl he, g1]
        rw [e1]
        exact ih g3 ht.tail hT fun j o' hj he => by
          have := hc (j + 1) o' (by simpa using hj) he
          rw [Nat.add_assoc, Nat.add_comm 1 j]
          exact ⟨fun hlt => this.1 (by omega), fun hle => this.2 (by omega)⟩
/-- The heap behind an effect. -/
theorem Run.heapAfter {md : FuncId → Mode} {S : St} : ∀ {l : List VOper} {T : List Ev} {r r2 : Regs} {h h2 : Heap} {k i : Nat} {e : Ev}, Run env E l r h T r2 h2 → Tame md l T → T[i]? = some e →
    (∀ j o, l[j]? = some o → isEf md o = true → (j ≤ i → S (k + j) = true) ∧ (i < j → S (k + j) = false)) → heapS md S l T k h = e.ha := by
  intro l
  induction l with
  | nil => intro T r r2 h h2 k i e g _ hT; cases g; simp at hT
  | cons o l ih =>
    intro T r r2 h h2 k i e g ht hT hc
    cases T with
    | nil => simp at hT
    | cons e0 T =>
      obtain ⟨g1, g2, g3⟩ := g.chain
      have e1 : (if (S k && isEf md o) = true then e0.ha else h) = e0.ha := by
        cases he : isEf md o with
        | true => have := (hc 0 o rfl he).1 (by omega); simp only [Nat.add_zero] at this; simp [this]
        | false => simp [ht 0 o e0 rfl rfl he, g1]
      simp only [heapS]
      rw [e1]
      cases i with
      | zero =>
        simp at hT; subst hT
        exact heapS_skip fun j o' hj he => by
          have := (hc (j + 1) o' (by simpa using hj) he).2 (by omega)
          rwa [Nat.add_assoc, Nat.add_comm 1 j]
      | succ i =>
        simp at hT
        exact ih g3 ht.tail hT fun j o' hj he => by
          have := hc (j + 1) o' (by simpa using hj) he
          rw [Nat.add_assoc, Nat.add_comm 1 j]
          exact ⟨fun hlt => this.1 (by omega), fun hle => this.2 (by omega)⟩
theorem Run.heapAll {md : FuncId → Mode} {S : St} : ∀ {l : List VOper} {T : List Ev} {r r2 : Regs} {h h2 : Heap} {k : Nat}, Run env E l r h T r2 h2 → Tame md l T → (∀ j o, l[j]? = some o → S (k + j) = true) → heapS md S l T k h = h2 := by
  intro l
  induction l with
  | nil => intro T r r2 h h2 k g _ _; cases g; rfl
  | cons o l ih =>
    intro T r r2 h h2 k g ht hc
    cases T with
    | nil => have := g.len; simp at this
    | cons e0 T =>
      obtain ⟨g1, g2, g3⟩ := g.chain
      have hk := hc 0 o rfl
      simp only [Nat.add_zero] at hk
      simp only [heapS]
      have e1 : (if (S k && isEf md o) = true then e0.ha else h) = e0.ha := by
        cases he : isEf md o with
        | true => simp [hk]
        | false => simp [ht 0 o e0 rfl rfl he, g1]
      rw [e1]
      exact ih g3 ht.tail fun j o' hj => by
        have := hc (j + 1) o' (by simpa using hj)
        rwa [Nat.add_assoc, Nat.add_comm 1 j]

/-- What is read of the heap behind a closed set is what the run reads, if no effect that lies between turns it. -/
theorem Run.view {α : Type} (v : Heap → α) {md : FuncId → Mode} {S : St} (G : α) : ∀ {l : List VOper} {T : List Ev} {r r2 : Regs} {h h2 A : Heap} {k : Nat}, Run env E l r h T r2 h2 → Tame md l T → v A = G →
    (A = h ∨ ∀ j o, l[j]? = some o → isEf md o = true → S (k + j) = false) →
    (∀ j j' o o', l[j]? = some o → l[j']? = some o' → isEf md o = true → isEf md o' = true → j < j' → S (k + j') = true → S (k + j) = true) →
    (∀ j o e, l[j]? = some o → T[j]? = some e → isEf md o = true → S (k + j) = true → v e.hb = v e.ha) → v (heapS md S l T k A) = G := by
  intro l
  induction l with
  | nil => intro T r r2 h h2 A k g _ hA _ _ _; cases g; exact hA
  | cons o l ih =>
    intro T r r2 h h2 A k g ht hA hq hcl hv
    cases T with
    | nil => exact hA
    | cons e0 T =>
      obtain ⟨g1, g2, g3⟩ := g.chain
      simp only [heapS]
      have hcl' : ∀ j j' o o', l[j]? = some o → l[j']? = some o' → isEf md o = true → isEf md o' = true → j < j' → S (k + 1 + j') = true → S (k + 1 + j) = true := fun j j' o1 o2 h1 h2 h3 h4 h5 h6 => by
        have := hcl (j + 1) (j' + 1) o1 o2 (by simpa using h1) (by simpa using h2) h3 h4 (by omega) (by rwa [Nat.add_assoc, Nat.add_comm 1 j'] at h6)
        rwa [Nat.add_assoc, Nat.add_comm 1 j]
      have hv' : ∀ j o e, l[j]? = some o → T[j]? = some e → isEf md o = true → S (k + 1 + j) = true → v e.hb = v e.ha := fun j o1 e1 h1 h2 h3 h4 => hv (j + 1) o1 e1 (by simpa using h1) (by simpa using h2) h3 (by rwa [Nat.add_assoc, Nat.add_comm 1 j] at h4)
      cases he : isEf md o with
      | false =>
        simp only [Bool.and_false, Bool.false_eq_true, if_false]
        refine ih g3 ht.tail hA ?_ hcl' hv'
        rcases hq with hq | hq
        · exact .inl (by rw [ht 0 o e0 rfl rfl he, g1]; exact hq)
        · exact .inr fun j o' hj hej => by
            have := hq (j + 1) o' (by simpa using hj) hej
            rwa [Nat.add_assoc, Nat.add_comm 1 j]
      | true =>
        cases hS : S k with
        | true =>
          simp only [Bool.and_true, if_true]
          have hA' : A = h := by
            rcases hq with hq | hq
            · exact hq
            · have := hq 0 o rfl he
              simp only [Nat.add_zero] at this
              rw [hS] at this; cases this
          refine ih g3 ht.tail ?_ (.inl rfl) hcl' hv'
          rw [← hv 0 o e0 rfl rfl he (by simpa using hS), g1, ← hA']
          exact hA
        | false =>
          simp only [Bool.false_and, Bool.false_eq_true, if_false]
          refine ih g3 ht.tail hA (.inr fun j o' hj hej => ?_) hcl' hv'
          cases hs : S (k + 1 + j) with
          | false => rfl
          | true =>
            have := hcl 0 (j + 1) o o' rfl (by simpa using hj) he hej (by omega) (by rwa [Nat.add_assoc, Nat.add_comm 1 j] at hs)
            simp only [Nat.add_zero] at this
            rw [hS] at this; cases this
theorem Run.look {α : Type} (v : Heap → α) {md : FuncId → Mode} {S : St} : ∀ {l : List VOper} {T : List Ev} {r r2 : Regs} {h h2 A : Heap} {k i : Nat} {e : Ev}, Run env E l r h T r2 h2 → Tame md l T → T[i]? = some e → v A = v h →
    (A = h ∨ ∀ j o, l[j]? = some o → isEf md o = true → S (k + j) = false) →
    (∀ j j' o o', l[j]? = some o → l[j']? = some o' → isEf md o = true → isEf md o' = true → j < j' → S (k + j') = true → S (k + j) = true) →
    (∀ j o e, l[j]? = some o → T[j]? = some e → isEf md o = true → (j < i → S (k + j) = false → v e.hb = v e.ha) ∧ (i ≤ j → S (k + j) = true → v e.hb = v e.ha)) → v (heapS md S l T k A) = v e.hb := by
  intro l
  induction l with
  | nil => intro T r r2 h h2 A k i e g _ hT; cases g; simp at hT
  | cons o l ih =>
    intro T r r2 h h2 A k i e g ht hT hA hq hcl hv
    cases T with
    | nil => simp at hT
    | cons e0 T =>
      cases i with
      | zero =>
        have g1 := g.chain.1
        simp at hT; subst hT
        exact g.view v _ ht (by rw [g1]; exact hA) hq hcl fun j o' e' hj he hef hs => (hv j o' e' hj he hef).2 (Nat.zero_le _) hs
      | succ i =>
        obtain ⟨g1, g2, g3⟩ := g.chain
        simp at hT
        simp only [heapS]
        have hcl' : ∀ j j' o o', l[j]? = some o → l[j']? = some o' → isEf md o = true → isEf md o' = true → j < j' → S (k + 1 + j') = true → S (k + 1 + j) = true := fun j j' o1 o2 h1 h2 h3 h4 h5 h6 => by
          have := hcl (j + 1) (j' + 1) o1 o2 (by simpa using h1) (by simpa using h2) h3 h4 (by omega) (by rwa [Nat.add_assoc, Nat.add_comm 1 j'] at h6)
          rwa [Nat.add_assoc, Nat.add_comm 1 j]
        have hv' : ∀ j o e, l[j]? = some o → T[j]? = some e → isEf md o = true → (j < i → S (k + 1 + j) = false → v e.hb = v e.ha) ∧ (i ≤ j → S (k + 1 + j) = true → v e.hb = v e.ha) := fun j o1 e1 h1 h2 h3 => by
          have := hv (j + 1) o1 e1 (by simpa using h1) (by simpa using h2) h3
          rw [Nat.add_assoc, Nat.add_comm 1 j]
          exact ⟨fun hlt => this.1 (by omega), fun hle => this.2 (by omega)⟩
        cases he : isEf md o with
        | false =>
          simp only [Bool.and_false, Bool.false_eq_true, if_false]
          have h0 := ht 0 o e0 rfl rfl he
          refine ih g3 ht.tail hT (by rw [h0, g1]; exact hA) ?_ hcl' hv'
          rcases hq with hq | hq
          · exact .inl (by rw [h0, g1]; exact hq)
          · exact .inr fun j o' hj hej => by
              have := hq (j + 1) o' (by simpa using hj) hej
              rwa [Nat.add_assoc, Nat.add_comm 1 j]
        | true =>
          cases hS : S k with
          | true =>
            simp only [Bool.and_true, if_true]
            exact ih g3 ht.tail hT rfl (.inl rfl) hcl' hv'
          | false =>
            simp only [Bool.false_and, Bool.false_eq_true, if_false]
            refine ih g3 ht.tail hT ?_ (.inr fun j o' hj hej => ?_) hcl' hv'
            · rw [← (hv 0 o e0 rfl rfl he).1 (by omega) (by simpa using hS), g1]
              exact hA
            · cases hs : S (k + 1 + j) with
              | false => rfl
              | true =>
                have := hcl 0 (j + 1) o o' rfl (by simpa using hj) he hej (by omega) (by rwa [Nat.add_assoc, Nat.add_comm 1 j] at hs)
                simp only [Nat.add_zero] at this
                rw [hS] at this; cases this
end
end Go.VM

namespace Go.VM
open Go

/-! ### zero blocks made ahead -/
theorem SRel.wake {Γ : Ctx} {base : Nat} {κ : K} {H : Heap} {w : World} (h : SRel Γ base κ H w) {id : Nat} (hi : Idle κ id) (hl : id < H.length) {z : List PV} (hz : hget H id = .pcells z) {c : List Value} (e : TypeId) (hc : PRels κ.imm z c) (h1 : Ones c) :
    SRel Γ base (κ.at id w.heap.size) H (w.alloc (.cells c.toArray e)) := by
  have hle := κ.le_at (k := w.heap.size) hi.1
  have hp : ∀ i o, i ≠ id → place (κ.at id w.heap.size) i o = place κ i o := fun i o hne => by cases o <;> simp [place, K.at, hne]
  have hcell : ∀ a v, w.cell? a = some v → (w.alloc (.cells c.toArray e)).cell? a = some v := fun a v hv => (World.cell?_of_block (heap_alloc_old w _ _ (block_lt hv))).trans hv
  have hpid : place (κ.at id w.heap.size) id (hget H id) = some w.heap.size := by rw [hz]; exact K.at_same _ _ _
  refine ⟨fun a v hv => hcell a v (h.imm a v hv), fun i k hk => ?_, fun i i' k hk hk' => ?_, fun i hi' => ?_, Nat.le_trans h.base (by simp), fun a v hv => hle.imm a v (h.gv a v hv), fun a ha => ⟨(h.gn a ha).1, (World.cell?_of_block (heap_alloc_old w _ _ (Nat.lt_of_lt_of_le (h.gn a ha).1 h.base))).trans (h.gn a ha).2⟩⟩
  · by_cases hne : i = id
    · subst hne
      rw [hpid] at hk
      injection hk with hk; subst hk
      refine ⟨h.base, ?_⟩
      rw [hz]
      exact ⟨c, [], e, by simpa using heap_alloc_new w _, hc, fun a ha => h.imm_none a (by omega), h1⟩
    · rw [hp i _ hne] at hk
      have hlt := place_lt h hk
      obtain ⟨g1, g2⟩ := h.obj i k hk
      exact ⟨g1, g2.mono hle (heap_alloc_old w _ k hlt) (fun _ _ => rfl) (fun _ => rfl)⟩
  · by_cases hne : i = id <;> by_cases hne' : i' = id
    · rw [hne, hne']
    · subst hne
      rw [hpid] at hk; injection hk with hk; subst hk
      rw [hp _ _ hne'] at hk'
      have := place_lt h hk'; omega
    · subst hne'
      rw [hpid] at hk'; injection hk' with hk'; subst hk'
      rw [hp _ _ hne] at hk
      have := place_lt h hk; omega
    · rw [hp _ _ hne] at hk; rw [hp _ _ hne'] at hk'
      exact h.inj i i' k hk hk'
  · obtain ⟨g1, g2⟩ := h.fresh i hi'
    have hne : i ≠ id := by omega
    exact ⟨by simp [K.at, hne, g1], g2⟩

theorem Grow.wake {κ0 κ : K} {H0 H : Heap} {w0 w : World} (g : Grow κ0 H0 w0 κ H w) {id : Nat} (hi : Idle κ id) (hl : H0.length ≤ id) (o : Obj) : Grow κ0 H0 w0 (κ.at id w.heap.size) H (w.alloc o) := by
  have hle := κ.le_at (k := w.heap.size) hi.1
  refine ⟨K.le_trans g.le hle, Nat.le_trans g.size (by simp), g.len, g.os, g.tape, g.output, g.drawn, fun k hk hn => ?_, fun i k hp => ?_, g.imm, fun i hi' hid => ?_⟩
  · rw [heap_alloc_old w o k (Nat.lt_of_lt_of_le hk g.size)]; exact g.frame k hk hn
  · by_cases hne : i = id
    · subst hne
      have : k = w.heap.size := by
        cases ho : hget H i with
        | dead => rw [ho] at hp; cases hp
        | tok n es => rw [ho] at hp; simp [place, K.at, hi.2] at hp
        | row n es cs => rw [ho] at hp; simp [place, K.at, hi.2] at hp
        | bag es l => rw [ho] at hp; simp [place, K.at, hi.2] at hp
        | _ => rw [ho] at hp; simp [place, K.at] at hp; exact hp.symm
      exact .inr (by rw [this]; exact g.size)
    · have : place (κ.at id w.heap.size) i (hget H i) = place κ i (hget H i) := by cases hget H i <;> simp [place, K.at, hne]
      rw [this] at hp
      exact g.places i k hp
  · obtain ⟨g1, g2⟩ := g.idle i hi' hid
    exact ⟨g1, by simp only [K.at]; rw [if_neg (by omega)]; exact g2.1, g2.2⟩

theorem Marks.wake {sz : Nat} {κ : K} {H : Heap} {w : World} {ds : List Deferred} (h : Marks sz κ H w ds) {id : Nat} (hi : Idle κ id) (o : Obj) : Marks sz (κ.at id w.heap.size) H (w.alloc o) ds := by
  induction h with
  | nil => exact .nil
  | cons D ds h1 h2 h3 h4 _ ih =>
    have hlt : D < w.heap.size := (Array.getElem?_eq_some_iff.1 h2).1
    refine .cons D ds h1 (by rw [heap_alloc_old w o D hlt]; exact h2) (fun i hp => ?_) h4 ih
    by_cases hne : i = id
    · subst hne
      cases ho : hget H i with
      | dead => rw [ho] at hp; cases hp
      | tok n es => rw [ho] at hp; simp [place, K.at, hi.2] at hp
      | row n es cs => rw [ho] at hp; simp [place, K.at, hi.2] at hp
      | bag es l => rw [ho] at hp; simp [place, K.at, hi.2] at hp
      | _ => rw [ho] at hp; simp [place, K.at] at hp; omega
    · have : place (κ.at id w.heap.size) i (hget H i) = place κ i (hget H i) := by cases hget H i <;> simp [place, K.at, hne]
      rw [this] at hp
      exact h3 i hp

theorem load1_view {R : Type} (id off : Nat) (h : Heap) (F : AV → Option R) : load1K (.ptr id off) h F = (readObj (hget h id) off none).bind F := by
  simp only [load1K, hgetK_def]
  cases hget h id <;> simp only [readObj, getK_def, Option.bind_none]
  · cases lget _ _ <;> rfl
  · rename_i cs; cases cs[off]? <;> rfl
theorem loadN_view {R : Type} (n id off : Nat) (h : Heap) (F : AV → Option R) : loadNK n (.ptr id off) h F = (readObj (hget h id) off (some n)).bind F := by
  simp only [loadNK, hgetK_def]
  cases hget h id <;> simp only [readObj, secK_def, Option.bind_none] <;> (rename_i cs; cases Nat.ble (off + n) cs.length <;> rfl)

theorem load1_viewG {R : Type} (id n off : Nat) (h : Heap) (F : AV → Option R) : load1K (.gptr id n off) h F = (readG (hget h id) n off none).bind F := by
  simp only [load1K, hgetK_def]
  cases hget h id <;> simp only [readG, rowK, Option.bind_none]
  rename_i n' es cs
  rw [needK_def, getK_def]
  cases Nat.beq n' n <;> rfl
theorem loadN_viewG {R : Type} (m id n off : Nat) (h : Heap) (F : AV → Option R) : loadNK m (.gptr id n off) h F = (readG (hget h id) n off (some m)).bind F := by
  simp only [loadNK, hgetK_def]
  cases hget h id <;> simp only [readG, rowK, Option.bind_none]
  rename_i n' es cs
  rw [needK_def, secK_def]
  cases Nat.beq n' n <;> cases Nat.ble (off + m) cs.length <;> rfl

/-! ### which temporaries are blocks made ahead -/
def alOf : List VOper → Nat → Nat → Option Nat
  | [], _, _ => none
  | v :: l, i, t => match isAl v with
    | some (u, _) => bif Nat.beq u t then some i else alOf l (i + 1) t
    | none => alOf l (i + 1) t
theorem alOf_some : ∀ {l : List VOper} {i t j : Nat}, alOf l i t = some j → ∃ (m : Nat) (v : VOper) (z : AlK), j = i + m ∧ l[m]? = some v ∧ isAl v = some (t, z) := by
  intro l
  induction l with
  | nil => intro i t j h; cases h
  | cons v l ih =>
    intro i t j h
    simp only [alOf] at h
    have more : alOf l (i + 1) t = some j → ∃ (m : Nat) (v' : VOper) (z : AlK), j = i + m ∧ (v :: l)[m]? = some v' ∧ isAl v' = some (t, z) := by
      intro h
      obtain ⟨m, v', z, h1, h2, h3⟩ := ih h
      exact ⟨m + 1, v', z, by omega, by simpa using h2, h3⟩
    split at h
    · rename_i u z hv
      cases hb : Nat.beq u t with
      | true =>
        rw [hb] at h; simp only [cond_true] at h
        injection h with h
        exact ⟨0, v, z, by omega, rfl, by rw [hv, Nat.eq_of_beq_eq_true hb]⟩
      | false => rw [hb] at h; exact more h
    · exact more h
theorem alOf_none : ∀ {l : List VOper} {i t : Nat}, alOf l i t = none → ∀ (m : Nat) (v : VOper) (z : AlK), l[m]? = some v → isAl v ≠ some (t, z) := by
  intro l
  induction l with
  | nil => intro i t _ m v z h; simp at h
  | cons v l ih =>
    intro i t h m v' z hm hv
    simp only [alOf] at h
    split at h
    · rename_i u z' hv'
      cases hb : Nat.beq u t with
      | true => rw [hb] at h; cases h
      | false =>
        rw [hb] at h
        cases m with
        | zero =>
          simp at hm; subst hm
          rw [hv'] at hv; injection hv with hv; injection hv with hv _; subst hv
          simp at hb
        | succ m => simp at hm; exact ih h m v' z hm hv
    · rename_i hv'
      cases m with
      | zero => simp at hm; subst hm; rw [hv'] at hv; cases hv
      | succ m => simp at hm; exact ih h m v' z hm hv

theorem isAl_dst' {v : VOper} {t : Nat} {z : AlK} (h : isAl v = some (t, z)) : v.dst = some t ∧ v.guard = none ∧ ((∃ l, z = .z l ∧ v.op = .alloc l) ∨ (∃ x, z = .x x ∧ v.op = .boxH x ∧ memN x.tmps t = false) ∨ (∃ es l x, z = .m es l x ∧ v.op = .mkSliceH es l x ∧ memN x.tmps t = false)) := by
  unfold isAl at h
  split at h
  · rename_i h1 h2 h3
    injection h with h; injection h with e1 e2; subst e1; subst e2
    exact ⟨h1, h2, .inl ⟨_, rfl, h3⟩⟩
  · rename_i x h1 h2 h3
    cases hm : memN x.tmps _ with
    | true => rw [hm] at h; cases h
    | false =>
      rw [hm] at h
      injection h with h; injection h with e1 e2; subst e1; subst e2
      exact ⟨h1, h2, .inr (.inl ⟨_, rfl, h3, hm⟩)⟩
  · rename_i es l x h1 h2 h3
    cases hm : memN x.tmps _ with
    | true => rw [hm] at h; cases h
    | false =>
      rw [hm] at h
      injection h with h; injection h with e1 e2; subst e1; subst e2
      exact ⟨h1, h2, .inr (.inr ⟨_, _, _, rfl, h3, hm⟩)⟩
  · cases h
theorem isAl_dst {v : VOper} {t : Nat} {z : AlK} (h : isAl v = some (t, z)) : v.dst = some t ∧ v.guard = none := ⟨(isAl_dst' h).1, (isAl_dst' h).2.1⟩
theorem idled_al {v : VOper} {x : Nat × AlK} (h : isAl v = some x) : ∃ o, idled v = ⟨none, none, o⟩ ∧ ∀ md, clsOf md o = .none := by
  obtain ⟨t, z⟩ := x
  cases z with
  | z l => exact ⟨.idle, by simp [idled, h], fun _ => rfl⟩
  | x x => exact ⟨.idleX x, by simp [idled, h], fun _ => rfl⟩
  | m es z x => exact ⟨.idleX x, by simp [idled, h], fun _ => rfl⟩
theorem idled_no {v : VOper} (h : isAl v = none) : idled v = v := by simp [idled, h]
theorem idled_dst {v : VOper} {t : Nat} (h : (idled v).dst = some t) : isAl v = none ∧ v.dst = some t := by
  cases hv : isAl v with
  | some x => obtain ⟨o, h1, _⟩ := idled_al hv; rw [h1] at h; cases h
  | none => rw [idled_no hv] at h; exact ⟨rfl, h⟩
theorem isEf_idled (md : FuncId → Mode) (v : VOper) : isEf md (idled v) = isEf md v := by
  cases hv : isAl v with
  | some x =>
    have : isEf md v = false := by unfold isEf; rw [hv]
    obtain ⟨o, h1, h2⟩ := idled_al hv
    have h3 : isAl (⟨none, none, o⟩ : VOper) = none := rfl
    rw [h1, this]
    unfold isEf
    rw [h3]
    simp only [h2]
  | none => rw [idled_no hv]
theorem isEf_ne {md : FuncId → Mode} {v : VOper} (hv : isAl v = none) (h : isEf md v = false) : clsOf md v.op ≠ .ef := by
  intro e
  simp [isEf, hv, e] at h
theorem idled_ne {md : FuncId → Mode} {v : VOper} (h : isEf md (idled v) = false) : clsOf md (idled v).op ≠ .ef := by
  cases hv : isAl v with
  | some x => obtain ⟨o, h1, h2⟩ := idled_al hv; rw [h1]; show clsOf md o ≠ .ef; rw [h2]; intro e; cases e
  | none => rw [idled_no hv] at h ⊢; exact isEf_ne hv h

theorem Run.tame {env : Env} {E : Orc} {vs : List VOper} {T : List Ev} {r r2 : Regs} {h h2 : Heap} (g : Run env E (vs.map idled) r h T r2 h2) : Tame env.md (vs.map idled) T := by
  intro j o e hl hT he
  rcases g.at hl hT with ⟨_, _, h3⟩ | ⟨_, _, _, h3⟩
  · rw [List.getElem?_map] at hl
    obtain ⟨v, hv, rfl⟩ := map_some hl
    exact operK_keep (idled_ne he) h3
  · exact h3
end Go.VM

namespace Go.VM
open Go

theorem compOpers_get {P : Program} {mu : Nat → Mu} {n : Nat} {all : List Oper} : ∀ {l : List Oper} {i : Nat} {o : Oper}, l[i]? = some o → ∃ vi, (compOpers P mu n all l)[i]? = some vi ∧
    ((∃ g v, vi = ⟨o.dst, g, v⟩ ∧ guardOf all o = some g ∧ okDst n o.dst = true ∧ compOp P (mu (o.dst.getD 0)) o.op = some v) ∨ vi = ⟨none, none, .bad⟩) := by
  intro l
  induction l with
  | nil => intro i o h; simp at h
  | cons o0 l ih =>
    intro i o h
    cases i with
    | zero =>
      simp at h; subst h
      rcases compOpers_cons (P := P) (mu := mu) (n := n) (all := all) (o := o0) (l := l) with ⟨g, v, e, h1, h2, h3⟩ | e
      · exact ⟨_, by rw [e]; rfl, .inl ⟨g, v, rfl, h1, h2, h3⟩⟩
      · exact ⟨_, by rw [e]; rfl, .inr rfl⟩
    | succ i =>
      simp at h
      obtain ⟨vi, h1, h2⟩ := ih h
      refine ⟨vi, ?_, h2⟩
      rcases compOpers_cons (P := P) (mu := mu) (n := n) (all := all) (o := o0) (l := l) with ⟨g, v, e, _⟩ | e
      · rw [e]; simpa using h1
      · rw [e]; simpa using h1
theorem compOpers_length {P : Program} {mu : Nat → Mu} {n : Nat} {all : List Oper} : ∀ {l : List Oper}, (compOpers P mu n all l).length = l.length := by
  intro l
  induction l with
  | nil => rfl
  | cons o l ih => simp [compOpers, ih]

theorem ranged_iff {preds : List (List Nat)} {i j : Nat} : ranged preds i j = true ↔ (j < i ∧ j ∈ nth preds i) ∨ (i < j ∧ i ∈ nth preds j) := by
  simp only [ranged, Bool.or_eq_true, Bool.and_eq_true, memN_iff]
  constructor
  · rintro (⟨h1, h2⟩ | ⟨h1, h2⟩)
    · exact .inl ⟨blt_lt h1, h2⟩
    · exact .inr ⟨blt_lt h1, h2⟩
  · rintro (⟨h1, h2⟩ | ⟨h1, h2⟩)
    · exact .inl ⟨Nat.ble_eq_true_of_le h1, h2⟩
    · exact .inr ⟨Nat.ble_eq_true_of_le h1, h2⟩

structure Drawn (Γ : Ctx) (env : Env) (E : Orc) (n hlen : Nat) (mu : Nat → Mu) (ops : Array Oper) (vs : List VOper) (preds : List (List Nat)) (pairs : List (Nat × Nat)) (r00 r0 : Regs) (H0 : Heap) (T : List Ev) (r2 : Regs) (h2 : Heap) (idf : Nat → Nat) : Prop where
  vs_eq : ∃ bx ms, vs = (compOpers Γ.P mu n ops.toList ops.toList).map (hb bx ms)
  ok : drawOK env.md vs (ops.toList.map depsOf) preds pairs = true
  run : Run env E (vs.map idled) r0 H0 T r2 h2
  pair : ∀ (i j : Nat) (oi : VOper) (ei ej : Ev), (i, j) ∈ pairs → (vs.map idled)[i]? = some oi → T[i]? = some ei → ei.did = true → T[j]? = some ej → ej.did = true → ∀ p m, loadOf oi.op ei.rb = some (p, m) →
    (∃ id off, p = .ptr id off ∧ readObj (hget ej.hb id) off m = readObj (hget ej.ha id) off m) ∨ (∃ cs off, p = .rptr cs off) ∨ ∃ id n off, p = .gptr id n off ∧ readG (hget ej.hb id) n off m = readG (hget ej.ha id) n off m
  al : ∀ (j : Nat) (v : VOper) (t : Nat) (z : AlK), vs[j]? = some v → isAl v = some (t, z) → hlen ≤ idf j ∧ idf j < H0.length
  inj : ∀ (j j' : Nat) (v v' : VOper) (x x' : Nat × AlK), vs[j]? = some v → vs[j']? = some v' → isAl v = some x → isAl v' = some x' → idf j = idf j' → j = j'
  rest : ∀ t, alOf vs 0 t = none → r0 t = r00 t
  alz : ∀ (j : Nat) (v : VOper) (t : Nat) (z : List PV), vs[j]? = some v → isAl v = some (t, .z z) → r0 t = .ptr (idf j) 0 ∧ hget H0 (idf j) = .pcells z
  alx : ∀ (j : Nat) (v : VOper) (t : Nat) (x : Opd) (e : Ev), vs[j]? = some v → isAl v = some (t, .x x) → T[j]? = some e → r0 t = .ptr (idf j) 0 ∧ ∃ p c, x.ev e.rb = .pv p ∧ cellsP p = some c ∧ hget H0 (idf j) = .pcells c
  alm : ∀ (j : Nat) (v : VOper) (t es : Nat) (z : List PV) (x : Opd) (e : Ev), vs[j]? = some v → isAl v = some (t, .m es z x) → T[j]? = some e → ∃ k n, x.ev e.rb = .pv (.int k n) ∧ 0 ≤ n ∧ n ≤ 1099511627776 ∧ r0 t = .hs es (idf j) 0 n.toNat n.toNat ∧ hget H0 (idf j) = .pcells (zerosOf z n.toNat)

/-- Registers behind a closed set of operations. -/
def regR (vs : List VOper) (T : List Ev) (r00 r0 : Regs) (S : St) : Regs := fun t => match alOf vs 0 t with
  | some j => bif S j then r0 t else r00 t
  | none => regS S (vs.map idled) T 0 r0 t

section
variable {Γ : Ctx} {env : Env} {E : Orc} {n hlen : Nat} {mu : Nat → Mu} {ops : Array Oper} {vs : List VOper} {preds : List (List Nat)} {pairs : List (Nat × Nat)} {r00 r0 : Regs} {H0 : Heap} {T : List Ev} {r2 : Regs} {h2 : Heap} {idf : Nat → Nat}
variable (D : Drawn Γ env E n hlen mu ops vs preds pairs r00 r0 H0 T r2 h2 idf)
include D

theorem Drawn.vlen : vs.length = ops.size := by obtain ⟨bx, ms, h⟩ := D.vs_eq; rw [h, List.length_map, compOpers_length]; simp
theorem Drawn.tlen : T.length = ops.size := by rw [D.run.len]; simp [D.vlen]
theorem Drawn.pre {i : Nat} {vi : VOper} (hi : vs[i]? = some vi) : alone (ops.toList.map depsOf) preds i = true := by
  have := allFrom_get D.ok hi
  rw [Nat.zero_add, Bool.and_eq_true] at this
  exact this.1
theorem Drawn.two {i j : Nat} {vi vj : VOper} (hi : vs[i]? = some vi) (hj : vs[j]? = some vj) (hne : i ≠ j) : both env.md preds pairs i vi j vj = true := by
  have := allFrom_get D.ok hi
  rw [Nat.zero_add, Bool.and_eq_true] at this
  have := allFrom_get this.2 hj
  rw [Nat.zero_add, Bool.or_eq_true] at this
  rcases this with h | h
  · exact absurd (Nat.eq_of_beq_eq_true h) hne
  · exact h
theorem Drawn.c2 {i j t : Nat} {vi vj : VOper} (hi : vs[i]? = some vi) (hj : vs[j]? = some vj) (hne : i ≠ j) (hd : vj.dst = some t) (ht : t ∈ vi.names) : (j < i ∧ j ∈ nth preds i) ∨ (i < j ∧ i ∈ nth preds j) := by
  have := D.two hi hj hne
  simp only [both, Bool.and_eq_true, hd, memN_iff.2 ht, Bool.not_true, Bool.false_or] at this
  exact ranged_iff.1 this.1.1.1
theorem Drawn.c3 {i j t : Nat} {z : AlK} {vi vj : VOper} (hi : vs[i]? = some vi) (hj : vs[j]? = some vj) (hne : i ≠ j) (ha : isAl vj = some (t, z)) : (t ∈ vi.names → j < i ∧ j ∈ nth preds i) ∧ vi.dst ≠ some t := by
  have := D.two hi hj hne
  simp only [both, Bool.and_eq_true, ha] at this
  obtain ⟨⟨⟨_, h1, h3⟩, _⟩, _⟩ := this
  constructor
  · intro ht
    rw [memN_iff.2 ht] at h1
    simp only [Bool.not_true, Bool.false_or, Bool.and_eq_true, memN_iff] at h1
    exact ⟨blt_lt h1.1, h1.2⟩
  · intro hd
    rw [hd] at h3
    simp at h3
theorem Drawn.c4 {i j : Nat} {vi vj : VOper} (hi : vs[i]? = some vi) (hj : vs[j]? = some vj) (hne : i ≠ j) (h1 : isEf env.md vi = true) (h3 : isEf env.md vj = true) : (j < i ∧ j ∈ nth preds i) ∨ (i < j ∧ i ∈ nth preds j) := by
  have := D.two hi hj hne
  simp only [both, Bool.and_eq_true, h1, h3, Bool.and_self, Bool.not_true, Bool.false_or] at this
  exact ranged_iff.1 this.1.2
theorem Drawn.c5 {i j : Nat} {vi vj : VOper} (hi : vs[i]? = some vi) (hj : vs[j]? = some vj) (hne : i ≠ j) (h1 : isRd env.md vi = true) (h3 : isEf env.md vj = true) : ((j < i ∧ j ∈ nth preds i) ∨ (i < j ∧ i ∈ nth preds j)) ∨ (i, j) ∈ pairs := by
  have := D.two hi hj hne
  simp only [both, Bool.and_eq_true, h1, h3, Bool.and_self, Bool.not_true, Bool.false_or, Bool.or_eq_true, memP_iff] at this
  rcases this.2 with h | h
  · exact .inl (ranged_iff.1 h)
  · exact .inr h

theorem Drawn.preLt {i d : Nat} {vi : VOper} (hi : vs[i]? = some vi) (hd : d ∈ nth (ops.toList.map depsOf) i) : d < i := by
  have := D.pre hi
  simp only [alone, Bool.and_eq_true, List.all_eq_true] at this
  exact blt_lt (this.1 d hd)
theorem Drawn.preVia {i p : Nat} {vi : VOper} (hi : vs[i]? = some vi) (hp : p ∈ nth preds i) : p ∈ nth (ops.toList.map depsOf) i ∨ ∃ d ∈ nth (ops.toList.map depsOf) i, p ∈ nth preds d := by
  have := D.pre hi
  simp only [alone, Bool.and_eq_true, List.all_eq_true] at this
  have := this.2 p hp
  simp only [Bool.or_eq_true, memN_iff, List.any_eq_true] at this
  exact this

/-- Closed under what must come before. -/
def Closed (ops : Array Oper) (S : St) : Prop := (∀ j, S j = true → j < ops.size) ∧ ∀ j, S j = true → ∀ d ∈ nth (ops.toList.map depsOf) j, S d = true
omit D in
theorem Closed.mono {S : St} (h : Closed ops S) {i : Nat} (hi : i < ops.size) (hd : ∀ d ∈ nth (ops.toList.map depsOf) i, S d = true) : Closed ops (S.add i) := by
  constructor
  · intro j hj
    by_cases e : j = i
    · rw [e]; exact hi
    · rw [St.add_other e] at hj; exact h.1 j hj
  · intro j hj d hd'
    have : S d = true := by
      by_cases e : j = i
      · subst e; exact hd d hd'
      · rw [St.add_other e] at hj; exact h.2 j hj d hd'
    by_cases e : d = i
    · rw [e]; exact St.add_same _ _
    · rw [St.add_other e]; exact this
theorem Drawn.get {i : Nat} (h : i < ops.size) : ∃ vi, vs[i]? = some vi := ⟨vs[i]'(by rw [D.vlen]; exact h), by simp⟩
theorem Drawn.closed {S : St} (hc : Closed ops S) : ∀ j, S j = true → ∀ p ∈ nth preds j, S p = true := by
  intro j
  induction j using Nat.strongRecOn with
  | _ j ih =>
    intro hj p hp
    obtain ⟨vi, hvi⟩ := D.get (hc.1 j hj)
    rcases D.preVia hvi hp with h | ⟨d, hd, hpd⟩
    · exact hc.2 j hj p h
    · exact ih d (D.preLt hvi hd) (hc.2 j hj d hd) p hpd
theorem Drawn.readyPre {S : St} (hc : Closed ops S) {i : Nat} {vi : VOper} (hi : vs[i]? = some vi) (hd : ∀ d ∈ nth (ops.toList.map depsOf) i, S d = true) : ∀ p ∈ nth preds i, S p = true := by
  intro p hp
  rcases D.preVia hi hp with h | ⟨d, h1, h3⟩
  · exact hd p h
  · exact D.closed hc d (hd d h1) p h3

/-- What stands ahead of a ready operation has been carried out, what stands behind it has not. -/
theorem Drawn.sides {S : St} (hc : Closed ops S) {i j : Nat} {vi : VOper} (hi : vs[i]? = some vi) (hd : ∀ d ∈ nth (ops.toList.map depsOf) i, S d = true) (hn : S i = false)
    (h : (j < i ∧ j ∈ nth preds i) ∨ (i < j ∧ i ∈ nth preds j)) : (j < i ∧ S j = true) ∨ (i < j ∧ S j = false) := by
  rcases h with ⟨h1, h3⟩ | ⟨h1, h3⟩
  · exact .inl ⟨h1, D.readyPre hc hi hd j h3⟩
  · refine .inr ⟨h1, ?_⟩
    cases hs : S j with
    | false => rfl
    | true => have := D.closed hc j hs i h3; rw [hn] at this; cases this

theorem Drawn.idl {j : Nat} {o : VOper} (h : (vs.map idled)[j]? = some o) : ∃ v, vs[j]? = some v ∧ o = idled v := by
  rw [List.getElem?_map] at h
  obtain ⟨v, h1, h3⟩ := map_some h
  exact ⟨v, h1, h3.symm⟩

/-- The registers that a ready operation finds. -/
theorem Drawn.reg {S : St} (hc : Closed ops S) {i t : Nat} {vi : VOper} {e : Ev} (hi : vs[i]? = some vi) (hT : T[i]? = some e) (hna : ∀ z, isAl vi ≠ some (t, z)) (hd : ∀ d ∈ nth (ops.toList.map depsOf) i, S d = true) (hn : S i = false)
    (ht : t ∈ vi.names) : regR vs T r00 r0 S t = e.rb t := by
  unfold regR
  cases hal : alOf vs 0 t with
  | some j =>
    obtain ⟨m, v, z, h1, h3, h4⟩ := alOf_some hal
    rw [Nat.zero_add] at h1; subst h1
    have hne : i ≠ j := fun e => by subst e; rw [hi] at h3; injection h3 with h3; subst h3; exact hna _ h4
    have hS : S j = true := by
      have := (D.c3 hi h3 hne h4).1 ht
      exact D.readyPre hc hi hd j this.2
    simp only [hS, cond_true]
    rw [← D.run.reg (S := fun _ => false) (k := 0) (r := r0) hT rfl fun j' o ho hdo => ?_]
    · exact (regS_skip (S := fun _ => false) fun _ _ _ h => by cases h).symm
    · exfalso
      obtain ⟨v', hv', rfl⟩ := D.idl ho
      obtain ⟨hna', hd'⟩ := idled_dst hdo
      have hne' : j' ≠ j := fun e => by subst e; rw [hv'] at h3; injection h3 with h3; subst h3; rw [hna'] at h4; cases h4
      exact (D.c3 hv' h3 hne' h4).2 hd'
  | none =>
    refine D.run.reg (k := 0) hT rfl fun j o ho hdo => ?_
    rw [Nat.zero_add]
    obtain ⟨v', hv', rfl⟩ := D.idl ho
    obtain ⟨_, hd'⟩ := idled_dst hdo
    by_cases hne : i = j
    · subst hne; exact ⟨fun h => absurd h (Nat.lt_irrefl _), fun _ => hn⟩
    · rcases D.sides hc hi hd hn (D.c2 hi hv' hne hd' ht) with ⟨h1, h3⟩ | ⟨h1, h3⟩
      · exact ⟨fun _ => h3, fun h => by omega⟩
      · exact ⟨fun h => by omega, fun _ => h3⟩

theorem Drawn.regAdd {S : St} (hc : Closed ops S) {i : Nat} {vi : VOper} {e : Ev} (hi : vs[i]? = some vi) (hT : T[i]? = some e) (hna : isAl vi = none) (hd : ∀ d ∈ nth (ops.toList.map depsOf) i, S d = true) (hn : S i = false) :
    regR vs T r00 r0 (S.add i) = put (regR vs T r00 r0 S) vi.dst e.v := by
  have hadd := regS_add (S := S) (l := vs.map idled) (T := T) (k := 0) (m := i) (r := r0) (o := idled vi) (e := e) (by rw [List.getElem?_map, hi]; rfl) hT (by rw [Nat.zero_add]; exact hn) (fun j o' hj hlt hs t ht hd' => by
    rw [Nat.zero_add] at hs
    obtain ⟨v', hv', rfl⟩ := D.idl hj
    rw [idled_no hna] at ht
    obtain ⟨_, hd'⟩ := idled_dst hd'
    rcases D.sides hc hi hd hn (D.c2 hi hv' (by omega) hd' (by simp [VOper.names, ht])) with ⟨h1, h3⟩ | ⟨h1, h3⟩
    · omega
    · rw [hs] at h3; cases h3)
  rw [Nat.zero_add, idled_no hna] at hadd
  funext t
  cases hal : alOf vs 0 t with
  | some j =>
    obtain ⟨m, v, z, h1, h3, h4⟩ := alOf_some hal
    rw [Nat.zero_add] at h1; subst h1
    have hne : i ≠ j := fun e => by subst e; rw [hi] at h3; injection h3 with h3; subst h3; rw [hna] at h4; cases h4
    rw [put_other (D.c3 hi h3 hne h4).2]
    simp only [regR, hal, St.add_other (Ne.symm hne)]
  | none =>
    have h1 : regR vs T r00 r0 (S.add i) t = regS (S.add i) (vs.map idled) T 0 r0 t := by simp only [regR, hal]
    rw [h1, hadd]
    by_cases hdt : vi.dst = some t
    · rw [hdt, put_same, put_same]
    · rw [put_other hdt, put_other hdt]
      simp only [regR, hal]

theorem Drawn.regAl {S : St} {i t0 : Nat} {z : AlK} {vi : VOper} {e : Ev} (hi : vs[i]? = some vi) (hT : T[i]? = some e) (ha : isAl vi = some (t0, z)) (hn : S i = false) :
    regR vs T r00 r0 (S.add i) = put (regR vs T r00 r0 S) (some t0) (r0 t0) := by
  obtain ⟨oi, hio, _⟩ := idled_al ha
  have hadd := regS_add (S := S) (l := vs.map idled) (T := T) (k := 0) (m := i) (r := r0) (o := idled vi) (e := e) (by rw [List.getElem?_map, hi]; rfl) hT (by rw [Nat.zero_add]; exact hn) (fun j o' hj hlt hs t ht => by
    rw [hio] at ht; cases ht)
  rw [Nat.zero_add, hio] at hadd
  funext t
  cases hal : alOf vs 0 t with
  | some j =>
    obtain ⟨m, v, z', h1, h3, h4⟩ := alOf_some hal
    rw [Nat.zero_add] at h1; subst h1
    by_cases hne : i = j
    · subst hne
      rw [hi] at h3; injection h3 with h3; subst h3
      rw [ha] at h4; injection h4 with h4; injection h4 with h4 _; subst h4
      rw [put_same]
      simp only [regR, hal, St.add_same, cond_true]
    · have hne' : t ≠ t0 := fun e => by
        subst e
        exact (D.c3 hi h3 hne h4).2 (isAl_dst ha).1
      rw [put_other (fun e => hne' (by injection e with e; exact e.symm))]
      simp only [regR, hal, St.add_other (Ne.symm hne)]
  | none =>
    have hne' : t ≠ t0 := fun e => by
      subst e
      exact alOf_none hal i vi z hi ha
    rw [put_other (fun e => hne' (by injection e with e; exact e.symm))]
    simp only [regR, hal]
    rw [hadd]
    rfl

theorem Drawn.regAll {S : St} (hall : ∀ j, j < ops.size → S j = true) : regR vs T r00 r0 S = r2 := by
  funext t
  have h0 : regS S (vs.map idled) T 0 r0 t = r2 t := D.run.regAll rfl fun j o hj => by
    rw [Nat.zero_add]
    exact hall j (by rw [← D.vlen]; have := (List.getElem?_eq_some_iff.1 hj).1; simpa using this)
  unfold regR
  cases hal : alOf vs 0 t with
  | some j =>
    obtain ⟨m, v, z, h1, h3, h4⟩ := alOf_some hal
    rw [Nat.zero_add] at h1; subst h1
    simp only [hall j (by rw [← D.vlen]; exact (List.getElem?_eq_some_iff.1 h3).1), cond_true]
    rw [← h0]
    exact (regS_skip fun j' o ho _ hdo => by
      obtain ⟨v', hv', rfl⟩ := D.idl ho
      obtain ⟨hna', hd'⟩ := idled_dst hdo
      have hne' : j' ≠ j := fun e => by subst e; rw [hv'] at h3; injection h3 with h3; subst h3; rw [hna'] at h4; cases h4
      exact (D.c3 hv' h3 hne' h4).2 hd').symm
  | none => exact h0

theorem Drawn.effRange {i j : Nat} {oi oj : VOper} (hi : (vs.map idled)[i]? = some oi) (hj : (vs.map idled)[j]? = some oj) (hne : i ≠ j) (h1 : isEf env.md oi = true) (h3 : isEf env.md oj = true) : (j < i ∧ j ∈ nth preds i) ∨ (i < j ∧ i ∈ nth preds j) := by
  obtain ⟨v, hv, rfl⟩ := D.idl hi
  obtain ⟨v', hv', rfl⟩ := D.idl hj
  rw [isEf_idled] at h1 h3
  exact D.c4 hv hv' hne h1 h3

theorem Drawn.heapEf {S : St} (hc : Closed ops S) {i : Nat} {vi : VOper} {e : Ev} (hi : vs[i]? = some vi) (hT : T[i]? = some e) (hd : ∀ d ∈ nth (ops.toList.map depsOf) i, S d = true) (hn : S i = false) (hef : isEf env.md vi = true) :
    heapS env.md S (vs.map idled) T 0 H0 = e.hb ∧ heapS env.md (S.add i) (vs.map idled) T 0 H0 = e.ha := by
  have hli : (vs.map idled)[i]? = some (idled vi) := by rw [List.getElem?_map, hi]; rfl
  have side : ∀ j o, (vs.map idled)[j]? = some o → isEf env.md o = true → (j < i → S j = true) ∧ (i < j → S j = false) := by
    intro j o hj ho
    by_cases hne : i = j
    · subst hne; exact ⟨fun h => absurd h (Nat.lt_irrefl _), fun h => absurd h (Nat.lt_irrefl _)⟩
    · rcases D.sides hc hi hd hn (D.effRange hli hj hne (by rw [isEf_idled]; exact hef) ho) with ⟨h1, h3⟩ | ⟨h1, h3⟩
      · exact ⟨fun _ => h3, fun h => by omega⟩
      · exact ⟨fun h => by omega, fun _ => h3⟩
  constructor
  · refine D.run.heap D.run.tame hT fun j o hj ho => ?_
    rw [Nat.zero_add]
    refine ⟨(side j o hj ho).1, fun hle => ?_⟩
    rcases Nat.lt_or_ge i j with h | h
    · exact (side j o hj ho).2 h
    · have : j = i := by omega
      rw [this]; exact hn
  · refine D.run.heapAfter D.run.tame hT fun j o hj ho => ?_
    rw [Nat.zero_add]
    constructor
    · intro hle
      by_cases hne : j = i
      · rw [hne]; exact St.add_same _ _
      · rw [St.add_other hne]; exact (side j o hj ho).1 (by omega)
    · intro hlt
      rw [St.add_other (by omega)]; exact (side j o hj ho).2 hlt

theorem Drawn.heapNo {S : St} {i : Nat} {vi : VOper} (hi : vs[i]? = some vi) (hef : isEf env.md vi = false) : heapS env.md (S.add i) (vs.map idled) T 0 H0 = heapS env.md S (vs.map idled) T 0 H0 := by
  refine heapS_congr fun j o hj ho => ?_
  rw [Nat.zero_add]
  refine St.add_other fun e => ?_
  subst e
  obtain ⟨v, hv, rfl⟩ := D.idl hj
  rw [hi] at hv; injection hv with hv; subst hv
  rw [isEf_idled, hef] at ho; cases ho

theorem Drawn.heapAll {S : St} (hall : ∀ j, j < ops.size → S j = true) : heapS env.md S (vs.map idled) T 0 H0 = h2 := D.run.heapAll D.run.tame fun j o hj => by
  rw [Nat.zero_add]
  exact hall j (by rw [← D.vlen]; have := (List.getElem?_eq_some_iff.1 hj).1; simpa using this)

/-- What a ready load sees. -/
theorem Drawn.look {S : St} (hc : Closed ops S) {i : Nat} {vi : VOper} {e : Ev} (hi : vs[i]? = some vi) (hT : T[i]? = some e) (hd : ∀ d ∈ nth (ops.toList.map depsOf) i, S d = true) (hn : S i = false) (hrd : isRd env.md vi = true) (hna : isAl vi = none) (hdid : e.did = true)
    {id off : Nat} {m : Option Nat} (hl : loadOf vi.op e.rb = some (.ptr id off, m)) : readObj (hget (heapS env.md S (vs.map idled) T 0 H0) id) off m = readObj (hget e.hb id) off m := by
  have hli : (vs.map idled)[i]? = some vi := by rw [List.getElem?_map, hi]; simp [idled_no hna]
  refine D.run.look (fun h => readObj (hget h id) off m) (S := S) D.run.tame hT rfl (.inl rfl) (fun j j' o o' hj hj' h1 h3 hlt hs => ?_) (fun j o ej hj hTj hef => ?_)
  · rw [Nat.zero_add] at hs ⊢
    rcases D.effRange hj' hj (by omega) h3 h1 with ⟨_, h4⟩ | ⟨h4, _⟩
    · exact D.closed hc j' hs j h4
    · omega
  · rw [Nat.zero_add]
    obtain ⟨vj, hvj, rfl⟩ := D.idl hj
    have hef' := hef
    rw [isEf_idled] at hef
    by_cases hne : i = j
    · subst hne
      rw [hi] at hvj; injection hvj with hvj; subst hvj
      exfalso
      have : clsOf env.md vi.op = .ef := by
        unfold isEf at hef
        rw [hna] at hef
        simp only at hef
        split at hef
        · assumption
        · cases hef
      unfold isRd at hrd
      rw [this] at hrd; cases hrd
    · rcases D.c5 hi hvj hne hrd hef with hrg | hpr
      · rcases D.sides hc hi hd hn hrg with ⟨h1, h3⟩ | ⟨h1, h3⟩
        · exact ⟨fun _ h => (by rw [h3] at h; cases h), fun h => by omega⟩
        · exact ⟨fun h => by omega, fun _ h => (by rw [h3] at h; cases h)⟩
      · have key : readObj (hget ej.hb id) off m = readObj (hget ej.ha id) off m := by
          rcases D.run.at hj hTj with ⟨hdj, _, _⟩ | ⟨_, _, _, h4⟩
          · rcases D.pair i j _ e ej hpr hli hT hdid hTj hdj _ _ hl with ⟨id', off', h5, h6⟩ | ⟨cs, off', h5⟩ | ⟨id', n', off', h5, h6⟩
            · injection h5 with e1 e2; subst e1; subst e2; exact h6
            · cases h5
            · cases h5
          · rw [h4]
        exact ⟨fun _ _ => key, fun _ _ => key⟩
/-- What a ready load of a row that grows sees. -/
theorem Drawn.lookG {S : St} (hc : Closed ops S) {i : Nat} {vi : VOper} {e : Ev} (hi : vs[i]? = some vi) (hT : T[i]? = some e) (hd : ∀ d ∈ nth (ops.toList.map depsOf) i, S d = true) (hn : S i = false) (hrd : isRd env.md vi = true) (hna : isAl vi = none) (hdid : e.did = true)
    {id n' off : Nat} {m : Option Nat} (hl : loadOf vi.op e.rb = some (.gptr id n' off, m)) : readG (hget (heapS env.md S (vs.map idled) T 0 H0) id) n' off m = readG (hget e.hb id) n' off m := by
  have hli : (vs.map idled)[i]? = some vi := by rw [List.getElem?_map, hi]; simp [idled_no hna]
  refine D.run.look (fun h => readG (hget h id) n' off m) (S := S) D.run.tame hT rfl (.inl rfl) (fun j j' o o' hj hj' h1 h3 hlt hs => ?_) (fun j o ej hj hTj hef => ?_)
  · rw [Nat.zero_add] at hs ⊢
    rcases D.effRange hj' hj (by omega) h3 h1 with ⟨_, h4⟩ | ⟨h4, _⟩
    · exact D.closed hc j' hs j h4
    · omega
  · rw [Nat.zero_add]
    obtain ⟨vj, hvj, rfl⟩ := D.idl hj
    have hef' := hef
    rw [isEf_idled] at hef
    by_cases hne : i = j
    · subst hne
      rw [hi] at hvj; injection hvj with hvj; subst hvj
      exfalso
      have : clsOf env.md vi.op = .ef := by
        unfold isEf at hef
        rw [hna] at hef
        simp only at hef
        split at hef
        · assumption
        · cases hef
      unfold isRd at hrd
      rw [this] at hrd; cases hrd
    · rcases D.c5 hi hvj hne hrd hef with hrg | hpr
      · rcases D.sides hc hi hd hn hrg with ⟨h1, h3⟩ | ⟨h1, h3⟩
        · exact ⟨fun _ h => (by rw [h3] at h; cases h), fun h => by omega⟩
        · exact ⟨fun h => by omega, fun _ h => (by rw [h3] at h; cases h)⟩
      · have key : readG (hget ej.hb id) n' off m = readG (hget ej.ha id) n' off m := by
          rcases D.run.at hj hTj with ⟨hdj, _, _⟩ | ⟨_, _, _, h4⟩
          · rcases D.pair i j _ e ej hpr hli hT hdid hTj hdj _ _ hl with ⟨id', off', h5, h6⟩ | ⟨cs, off', h5⟩ | ⟨id', n'', off', h5, h6⟩
            · cases h5
            · cases h5
            · injection h5 with e1 e2 e3; subst e1; subst e2; subst e3; exact h6
          · rw [h4]
        exact ⟨fun _ _ => key, fun _ _ => key⟩
end
end Go.VM
