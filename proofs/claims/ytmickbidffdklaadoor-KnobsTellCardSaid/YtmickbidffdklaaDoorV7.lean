/-
  Part 7 of an abstract machine that answers as the model does.
  A region that draws its order: the walk over all orders.
  A region that draws its order: every order walked.
  A region that draws its order: from what was compiled.
  Code: what the abstract machine says of it holds of every walk of it.
-/
import Derived.Test.YtmickbidffdklaaDoorV6
import Derived.Scope
set_option linter.all false
set_option linter.unusedVariables false
set_option linter.unusedSimpArgs false
set_option linter.unusedSectionVars false
namespace Go.VM
open Go

theorem compOpers_get {P : Program} {mu : Nat → Mu} {n : Nat} {all : List Oper} : ∀ {l : List Oper} {i : Nat} {o : Oper}, l[i]? = some o → ∃ vi, (compOpers P mu n all l)[i]? = some vi ∧
    ((∃ g v, vi = ⟨o.dst, g, v⟩ ∧ guardOf all o = some g ∧ okDst n o.dst = true ∧ compOp P (mu (o.dst.getD 0)) o.op = some v) ∨ vi = ⟨none, none, .bad⟩) := by
  intro l
  induction l with
  | nil => intro i o h; simp at h
  | cons o0 l ih =>
    intro i o h
    cases i with
    | zero =>
      simp at h; subst h
      rcases compOpers_cons (P := P) (mu := mu) (n := n) (all := all) (o := o0) (l := l) with ⟨g, v, e, h1, h2, h3⟩ | e
      · exact ⟨_, by rw [e]; rfl, .inl ⟨g, v, rfl, h1, h2, h3⟩⟩
      · exact ⟨_, by rw [e]; rfl, .inr rfl⟩
    | succ i =>
      simp at h
      obtain ⟨vi, h1, h2⟩ := ih h
      refine ⟨vi, ?_, h2⟩
      rcases compOpers_cons (P := P) (mu := mu) (n := n) (all := all) (o := o0) (l := l) with ⟨g, v, e, _⟩ | e
      · rw [e]; simpa using h1
      · rw [e]; simpa using h1
theorem compOpers_length {P : Program} {mu : Nat → Mu} {n : Nat} {all : List Oper} : ∀ {l : List Oper}, (compOpers P mu n all l).length = l.length := by
  intro l
  induction l with
  | nil => rfl
  | cons o l ih => simp [compOpers, ih]

theorem ranged_iff {preds : List (List Nat)} {i j : Nat} : ranged preds i j = true ↔ (j < i ∧ j ∈ nth preds i) ∨ (i < j ∧ i ∈ nth preds j) := by
  simp only [ranged, Bool.or_eq_true, Bool.and_eq_true, memN_iff]
  constructor
  · rintro (⟨h1, h2⟩ | ⟨h1, h2⟩)
    · exact .inl ⟨blt_lt h1, h2⟩
    · exact .inr ⟨blt_lt h1, h2⟩
  · rintro (⟨h1, h2⟩ | ⟨h1, h2⟩)
    · exact .inl ⟨Nat.ble_eq_true_of_le h1, h2⟩
    · exact .inr ⟨Nat.ble_eq_true_of_le h1, h2⟩

/-- Boxes made ahead, or not. -/
def hb (bx : Bool) (v : VOper) : VOper := bif bx then hboxed v else v
structure Drawn (Γ : Ctx) (env : Env) (E : Orc) (n hlen : Nat) (mu : Nat → Mu) (ops : Array Oper) (vs : List VOper) (preds : List (List Nat)) (pairs : List (Nat × Nat)) (r00 r0 : Regs) (H0 : Heap) (T : List Ev) (r2 : Regs) (h2 : Heap) (idf : Nat → Nat) : Prop where
  vs_eq : ∃ bx, vs = (compOpers Γ.P mu n ops.toList ops.toList).map (hb bx)
  ok : drawOK env.md vs (ops.toList.map depsOf) preds pairs = true
  run : Run env E (vs.map idled) r0 H0 T r2 h2
  pair : ∀ (i j : Nat) (oi : VOper) (ei ej : Ev), (i, j) ∈ pairs → (vs.map idled)[i]? = some oi → T[i]? = some ei → ei.did = true → T[j]? = some ej → ej.did = true → ∀ p m, loadOf oi.op ei.rb = some (p, m) →
    (∃ id off, p = .ptr id off ∧ readObj (hget ej.hb id) off m = readObj (hget ej.ha id) off m) ∨ (∃ cs off, p = .rptr cs off)
  al : ∀ (j : Nat) (v : VOper) (t : Nat) (z : AlK), vs[j]? = some v → isAl v = some (t, z) → r0 t = .ptr (idf j) 0 ∧ hlen ≤ idf j ∧ idf j < H0.length
  inj : ∀ (j j' : Nat) (v v' : VOper) (x x' : Nat × AlK), vs[j]? = some v → vs[j']? = some v' → isAl v = some x → isAl v' = some x' → idf j = idf j' → j = j'
  rest : ∀ t, alOf vs 0 t = none → r0 t = r00 t
  alz : ∀ (j : Nat) (v : VOper) (t : Nat) (z : List PV), vs[j]? = some v → isAl v = some (t, .z z) → hget H0 (idf j) = .pcells z
  alx : ∀ (j : Nat) (v : VOper) (t : Nat) (x : Opd) (e : Ev), vs[j]? = some v → isAl v = some (t, .x x) → T[j]? = some e → ∃ p c, x.ev e.rb = .pv p ∧ cellsP p = some c ∧ hget H0 (idf j) = .pcells c

/-- Registers behind a closed set of operations. -/
def regR (vs : List VOper) (T : List Ev) (r00 r0 : Regs) (S : St) : Regs := fun t => match alOf vs 0 t with
  | some j => bif S j then r0 t else r00 t
  | none => regS S (vs.map idled) T 0 r0 t

section
variable {Γ : Ctx} {env : Env} {E : Orc} {n hlen : Nat} {mu : Nat → Mu} {ops : Array Oper} {vs : List VOper} {preds : List (List Nat)} {pairs : List (Nat × Nat)} {r00 r0 : Regs} {H0 : Heap} {T : List Ev} {r2 : Regs} {h2 : Heap} {idf : Nat → Nat}
variable (D : Drawn Γ env E n hlen mu ops vs preds pairs r00 r0 H0 T r2 h2 idf)
include D

theorem Drawn.vlen : vs.length = ops.size := by obtain ⟨bx, h⟩ := D.vs_eq; rw [h, List.length_map, compOpers_length]; simp
theorem Drawn.tlen : T.length = ops.size := by rw [D.run.len]; simp [D.vlen]
theorem Drawn.pre {i : Nat} {vi : VOper} (hi : vs[i]? = some vi) : alone (ops.toList.map depsOf) preds i = true := by
  have := allFrom_get D.ok hi
  rw [Nat.zero_add, Bool.and_eq_true] at this
  exact this.1
theorem Drawn.two {i j : Nat} {vi vj : VOper} (hi : vs[i]? = some vi) (hj : vs[j]? = some vj) (hne : i ≠ j) : both env.md preds pairs i vi j vj = true := by
  have := allFrom_get D.ok hi
  rw [Nat.zero_add, Bool.and_eq_true] at this
  have := allFrom_get this.2 hj
  rw [Nat.zero_add, Bool.or_eq_true] at this
  rcases this with h | h
  · exact absurd (Nat.eq_of_beq_eq_true h) hne
  · exact h
theorem Drawn.c2 {i j t : Nat} {vi vj : VOper} (hi : vs[i]? = some vi) (hj : vs[j]? = some vj) (hne : i ≠ j) (hd : vj.dst = some t) (ht : t ∈ vi.names) : (j < i ∧ j ∈ nth preds i) ∨ (i < j ∧ i ∈ nth preds j) := by
  have := D.two hi hj hne
  simp only [both, Bool.and_eq_true, hd, memN_iff.2 ht, Bool.not_true, Bool.false_or] at this
  exact ranged_iff.1 this.1.1.1
theorem Drawn.c3 {i j t : Nat} {z : AlK} {vi vj : VOper} (hi : vs[i]? = some vi) (hj : vs[j]? = some vj) (hne : i ≠ j) (ha : isAl vj = some (t, z)) : (t ∈ vi.names → j < i ∧ j ∈ nth preds i) ∧ vi.dst ≠ some t := by
  have := D.two hi hj hne
  simp only [both, Bool.and_eq_true, ha] at this
  obtain ⟨⟨⟨_, h1, h3⟩, _⟩, _⟩ := this
  constructor
  · intro ht
    rw [memN_iff.2 ht] at h1
    simp only [Bool.not_true, Bool.false_or, Bool.and_eq_true, memN_iff] at h1
    exact ⟨blt_lt h1.1, h1.2⟩
  · intro hd
    rw [hd] at h3
    simp at h3
theorem Drawn.c4 {i j : Nat} {vi vj : VOper} (hi : vs[i]? = some vi) (hj : vs[j]? = some vj) (hne : i ≠ j) (h1 : isEf env.md vi = true) (h3 : isEf env.md vj = true) : (j < i ∧ j ∈ nth preds i) ∨ (i < j ∧ i ∈ nth preds j) := by
  have := D.two hi hj hne
  simp only [both, Bool.and_eq_true, h1, h3, Bool.and_self, Bool.not_true, Bool.false_or] at this
  exact ranged_iff.1 this.1.2
theorem Drawn.c5 {i j : Nat} {vi vj : VOper} (hi : vs[i]? = some vi) (hj : vs[j]? = some vj) (hne : i ≠ j) (h1 : isRd env.md vi = true) (h3 : isEf env.md vj = true) : ((j < i ∧ j ∈ nth preds i) ∨ (i < j ∧ i ∈ nth preds j)) ∨ (i, j) ∈ pairs := by
  have := D.two hi hj hne
  simp only [both, Bool.and_eq_true, h1, h3, Bool.and_self, Bool.not_true, Bool.false_or, Bool.or_eq_true, memP_iff] at this
  rcases this.2 with h | h
  · exact .inl (ranged_iff.1 h)
  · exact .inr h

theorem Drawn.preLt {i d : Nat} {vi : VOper} (hi : vs[i]? = some vi) (hd : d ∈ nth (ops.toList.map depsOf) i) : d < i := by
  have := D.pre hi
  simp only [alone, Bool.and_eq_true, List.all_eq_true] at this
  exact blt_lt (this.1 d hd)
theorem Drawn.preVia {i p : Nat} {vi : VOper} (hi : vs[i]? = some vi) (hp : p ∈ nth preds i) : p ∈ nth (ops.toList.map depsOf) i ∨ ∃ d ∈ nth (ops.toList.map depsOf) i, p ∈ nth preds d := by
  have := D.pre hi
  simp only [alone, Bool.and_eq_true, List.all_eq_true] at this
  have := this.2 p hp
  simp only [Bool.or_eq_true, memN_iff, List.any_eq_true] at this
  exact this

/-- Closed under what must come before. -/
def Closed (ops : Array Oper) (S : St) : Prop := (∀ j, S j = true → j < ops.size) ∧ ∀ j, S j = true → ∀ d ∈ nth (ops.toList.map depsOf) j, S d = true
omit D in
theorem Closed.mono {S : St} (h : Closed ops S) {i : Nat} (hi : i < ops.size) (hd : ∀ d ∈ nth (ops.toList.map depsOf) i, S d = true) : Closed ops (S.add i) := by
  constructor
  · intro j hj
    by_cases e : j = i
    · rw [e]; exact hi
    · rw [St.add_other e] at hj; exact h.1 j hj
  · intro j hj d hd'
    have : S d = true := by
      by_cases e : j = i
      · subst e; exact hd d hd'
      · rw [St.add_other e] at hj; exact h.2 j hj d hd'
    by_cases e : d = i
    · rw [e]; exact St.add_same _ _
    · rw [St.add_other e]; exact this
theorem Drawn.get {i : Nat} (h : i < ops.size) : ∃ vi, vs[i]? = some vi := ⟨vs[i]'(by rw [D.vlen]; exact h), by simp⟩
theorem Drawn.closed {S : St} (hc : Closed ops S) : ∀ j, S j = true → ∀ p ∈ nth preds j, S p = true := by
  intro j
  induction j using Nat.strongRecOn with
  | _ j ih =>
    intro hj p hp
    obtain ⟨vi, hvi⟩ := D.get (hc.1 j hj)
    rcases D.preVia hvi hp with h | ⟨d, hd, hpd⟩
    · exact hc.2 j hj p h
    · exact ih d (D.preLt hvi hd) (hc.2 j hj d hd) p hpd
theorem Drawn.readyPre {S : St} (hc : Closed ops S) {i : Nat} {vi : VOper} (hi : vs[i]? = some vi) (hd : ∀ d ∈ nth (ops.toList.map depsOf) i, S d = true) : ∀ p ∈ nth preds i, S p = true := by
  intro p hp
  rcases D.preVia hi hp with h | ⟨d, h1, h3⟩
  · exact hd p h
  · exact D.closed hc d (hd d h1) p h3

/-- What stands ahead of a ready operation has been carried out, what stands behind it has not. -/
theorem Drawn.sides {S : St} (hc : Closed ops S) {i j : Nat} {vi : VOper} (hi : vs[i]? = some vi) (hd : ∀ d ∈ nth (ops.toList.map depsOf) i, S d = true) (hn : S i = false)
    (h : (j < i ∧ j ∈ nth preds i) ∨ (i < j ∧ i ∈ nth preds j)) : (j < i ∧ S j = true) ∨ (i < j ∧ S j = false) := by
  rcases h with ⟨h1, h3⟩ | ⟨h1, h3⟩
  · exact .inl ⟨h1, D.readyPre hc hi hd j h3⟩
  · refine .inr ⟨h1, ?_⟩
    cases hs : S j with
    | false => rfl
    | true => have := D.closed hc j hs i h3; rw [hn] at this; cases this

theorem Drawn.idl {j : Nat} {o : VOper} (h : (vs.map idled)[j]? = some o) : ∃ v, vs[j]? = some v ∧ o = idled v := by
  rw [List.getElem?_map] at h
  obtain ⟨v, h1, h3⟩ := map_some h
  exact ⟨v, h1, h3.symm⟩

/-- The registers that a ready operation finds. -/
theorem Drawn.reg {S : St} (hc : Closed ops S) {i t : Nat} {vi : VOper} {e : Ev} (hi : vs[i]? = some vi) (hT : T[i]? = some e) (hna : ∀ z, isAl vi ≠ some (t, z)) (hd : ∀ d ∈ nth (ops.toList.map depsOf) i, S d = true) (hn : S i = false)
    (ht : t ∈ vi.names) : regR vs T r00 r0 S t = e.rb t := by
  unfold regR
  cases hal : alOf vs 0 t with
  | some j =>
    obtain ⟨m, v, z, h1, h3, h4⟩ := alOf_some hal
    rw [Nat.zero_add] at h1; subst h1
    have hne : i ≠ j := fun e => by subst e; rw [hi] at h3; injection h3 with h3; subst h3; exact hna _ h4
    have hS : S j = true := by
      have := (D.c3 hi h3 hne h4).1 ht
      exact D.readyPre hc hi hd j this.2
    simp only [hS, cond_true]
    rw [← D.run.reg (S := fun _ => false) (k := 0) (r := r0) hT rfl fun j' o ho hdo => ?_]
    · exact (regS_skip (S := fun _ => false) fun _ _ _ h => by cases h).symm
    · exfalso
      obtain ⟨v', hv', rfl⟩ := D.idl ho
      obtain ⟨hna', hd'⟩ := idled_dst hdo
      have hne' : j' ≠ j := fun e => by subst e; rw [hv'] at h3; injection h3 with h3; subst h3; rw [hna'] at h4; cases h4
      exact (D.c3 hv' h3 hne' h4).2 hd'
  | none =>
    refine D.run.reg (k := 0) hT rfl fun j o ho hdo => ?_
    rw [Nat.zero_add]
    obtain ⟨v', hv', rfl⟩ := D.idl ho
    obtain ⟨_, hd'⟩ := idled_dst hdo
    by_cases hne : i = j
    · subst hne; exact ⟨fun h => absurd h (Nat.lt_irrefl _), fun _ => hn⟩
    · rcases D.sides hc hi hd hn (D.c2 hi hv' hne hd' ht) with ⟨h1, h3⟩ | ⟨h1, h3⟩
      · exact ⟨fun _ => h3, fun h => by omega⟩
      · exact ⟨fun h => by omega, fun _ => h3⟩

theorem Drawn.regAdd {S : St} (hc : Closed ops S) {i : Nat} {vi : VOper} {e : Ev} (hi : vs[i]? = some vi) (hT : T[i]? = some e) (hna : isAl vi = none) (hd : ∀ d ∈ nth (ops.toList.map depsOf) i, S d = true) (hn : S i = false) :
    regR vs T r00 r0 (S.add i) = put (regR vs T r00 r0 S) vi.dst e.v := by
  have hadd := regS_add (S := S) (l := vs.map idled) (T := T) (k := 0) (m := i) (r := r0) (o := idled vi) (e := e) (by rw [List.getElem?_map, hi]; rfl) hT (by rw [Nat.zero_add]; exact hn) (fun j o' hj hlt hs t ht hd' => by
    rw [Nat.zero_add] at hs
    obtain ⟨v', hv', rfl⟩ := D.idl hj
    rw [idled_no hna] at ht
    obtain ⟨_, hd'⟩ := idled_dst hd'
    rcases D.sides hc hi hd hn (D.c2 hi hv' (by omega) hd' (by simp [VOper.names, ht])) with ⟨h1, h3⟩ | ⟨h1, h3⟩
    · omega
    · rw [hs] at h3; cases h3)
  rw [Nat.zero_add, idled_no hna] at hadd
  funext t
  cases hal : alOf vs 0 t with
  | some j =>
    obtain ⟨m, v, z, h1, h3, h4⟩ := alOf_some hal
    rw [Nat.zero_add] at h1; subst h1
    have hne : i ≠ j := fun e => by subst e; rw [hi] at h3; injection h3 with h3; subst h3; rw [hna] at h4; cases h4
    rw [put_other (D.c3 hi h3 hne h4).2]
    simp only [regR, hal, St.add_other (Ne.symm hne)]
  | none =>
    have h1 : regR vs T r00 r0 (S.add i) t = regS (S.add i) (vs.map idled) T 0 r0 t := by simp only [regR, hal]
    rw [h1, hadd]
    by_cases hdt : vi.dst = some t
    · rw [hdt, put_same, put_same]
    · rw [put_other hdt, put_other hdt]
      simp only [regR, hal]

theorem Drawn.regAl {S : St} {i t0 : Nat} {z : AlK} {vi : VOper} {e : Ev} (hi : vs[i]? = some vi) (hT : T[i]? = some e) (ha : isAl vi = some (t0, z)) (hn : S i = false) :
    regR vs T r00 r0 (S.add i) = put (regR vs T r00 r0 S) (some t0) (.ptr (idf i) 0)   := by
  obtain ⟨oi, hio, _⟩ := idled_al ha
  have hadd := regS_add (S := S) (l := vs.map idled) (T := T) (k := 0) (m := i) (r := r0) (o := idled vi) (e := e) (by rw [List.getElem?_map, hi]; rfl) hT (by rw [Nat.zero_add]; exact hn) (fun j o' hj hlt hs t ht => by
    rw [hio] at ht; cases ht)
  rw [Nat.zero_add, hio] at hadd
  funext t
  cases hal : alOf vs 0 t with
  | some j =>
    obtain ⟨m, v, z', h1, h3, h4⟩ := alOf_some hal
    rw [Nat.zero_add] at h1; subst h1
    by_cases hne : i = j
    · subst hne
      rw [hi] at h3; injection h3 with h3; subst h3
      rw [ha] at h4; injection h4 with h4; injection h4 with h4 _; subst h4
      rw [put_same]
      simp only [regR, hal, St.add_same, cond_true]
      exact (D.al i vi t0 z hi ha).1
    · have hne' : t ≠ t0 := fun e => by
        subst e
        exact (D.c3 hi h3 hne h4).2 (isAl_dst ha).1
      rw [put_other (fun e => hne' (by injection e with e; exact e.symm))]
      simp only [regR, hal, St.add_other (Ne.symm hne)]
  | none =>
    have hne' : t ≠ t0 := fun e => by
      subst e
      exact alOf_none hal i vi z hi ha
    rw [put_other (fun e => hne' (by injection e with e; exact e.symm))]
    simp only [regR, hal]
    rw [hadd]
    rfl

theorem Drawn.regAll {S : St} (hall : ∀ j, j < ops.size → S j = true) : regR vs T r00 r0 S = r2 := by
  funext t
  have h0 : regS S (vs.map idled) T 0 r0 t = r2 t := D.run.regAll rfl fun j o hj => by
    rw [Nat.zero_add]
    exact hall j (by rw [← D.vlen]; have := (List.getElem?_eq_some_iff.1 hj).1; simpa using this)
  unfold regR
  cases hal : alOf vs 0 t with
  | some j =>
    obtain ⟨m, v, z, h1, h3, h4⟩ := alOf_some hal
    rw [Nat.zero_add] at h1; subst h1
    simp only [hall j (by rw [← D.vlen]; exact (List.getElem?_eq_some_iff.1 h3).1), cond_true]
    rw [← h0]
    exact (regS_skip fun j' o ho _ hdo => by
      obtain ⟨v', hv', rfl⟩ := D.idl ho
      obtain ⟨hna', hd'⟩ := idled_dst hdo
      have hne' : j' ≠ j := fun e => by subst e; rw [hv'] at h3; injection h3 with h3; subst h3; rw [hna'] at h4; cases h4
      exact (D.c3 hv' h3 hne' h4).2 hd').symm
  | none => exact h0

theorem Drawn.effRange {i j : Nat} {oi oj : VOper} (hi : (vs.map idled)[i]? = some oi) (hj : (vs.map idled)[j]? = some oj) (hne : i ≠ j) (h1 : isEf env.md oi = true) (h3 : isEf env.md oj = true) : (j < i ∧ j ∈ nth preds i) ∨ (i < j ∧ i ∈ nth preds j) := by
  obtain ⟨v, hv, rfl⟩ := D.idl hi
  obtain ⟨v', hv', rfl⟩ := D.idl hj
  rw [isEf_idled] at h1 h3
  exact D.c4 hv hv' hne h1 h3

theorem Drawn.heapEf {S : St} (hc : Closed ops S) {i : Nat} {vi : VOper} {e : Ev} (hi : vs[i]? = some vi) (hT : T[i]? = some e) (hd : ∀ d ∈ nth (ops.toList.map depsOf) i, S d = true) (hn : S i = false) (hef : isEf env.md vi = true) :
    heapS env.md S (vs.map idled) T 0 H0 = e.hb ∧ heapS env.md (S.add i) (vs.map idled) T 0 H0 = e.ha := by
  have hli : (vs.map idled)[i]? = some (idled vi) := by rw [List.getElem?_map, hi]; rfl
  have side : ∀ j o, (vs.map idled)[j]? = some o → isEf env.md o = true → (j < i → S j = true) ∧ (i < j → S j = false) := by
    intro j o hj ho
    by_cases hne : i = j
    · subst hne; exact ⟨fun h => absurd h (Nat.lt_irrefl _), fun h => absurd h (Nat.lt_irrefl _)⟩
    · rcases D.sides hc hi hd hn (D.effRange hli hj hne (by rw [isEf_idled]; exact hef) ho) with ⟨h1, h3⟩ | ⟨h1, h3⟩
      · exact ⟨fun _ => h3, fun h => by omega⟩
      · exact ⟨fun h => by omega, fun _ => h3⟩
  constructor
  · refine D.run.heap D.run.tame hT fun j o hj ho => ?_
    rw [Nat.zero_add]
    refine ⟨(side j o hj ho).1, fun hle => ?_⟩
    rcases Nat.lt_or_ge i j with h | h
    · exact (side j o hj ho).2 h
    · have : j = i := by omega
      rw [this]; exact hn
  · refine D.run.heapAfter D.run.tame hT fun j o hj ho => ?_
    rw [Nat.zero_add]
    constructor
    · intro hle
      by_cases hne : j = i
      · rw [hne]; exact St.add_same _ _
      · rw [St.add_other hne]; exact (side j o hj ho).1 (by omega)
    · intro hlt
      rw [St.add_other (by omega)]; exact (side j o hj ho).2 hlt

theorem Drawn.heapNo {S : St} {i : Nat} {vi : VOper} (hi : vs[i]? = some vi) (hef : isEf env.md vi = false) : heapS env.md (S.add i) (vs.map idled) T 0 H0 = heapS env.md S (vs.map idled) T 0 H0 := by
  refine heapS_congr fun j o hj ho => ?_
  rw [Nat.zero_add]
  refine St.add_other fun e => ?_
  subst e
  obtain ⟨v, hv, rfl⟩ := D.idl hj
  rw [hi] at hv; injection hv with hv; subst hv
  rw [isEf_idled, hef] at ho; cases ho

theorem Drawn.heapAll {S : St} (hall : ∀ j, j < ops.size → S j = true) : heapS env.md S (vs.map idled) T 0 H0 = h2 := D.run.heapAll D.run.tame fun j o hj => by
  rw [Nat.zero_add]
  exact hall j (by rw [← D.vlen]; have := (List.getElem?_eq_some_iff.1 hj).1; simpa using this)

/-- What a ready load sees. -/
theorem Drawn.look {S : St} (hc : Closed ops S) {i : Nat} {vi : VOper} {e : Ev} (hi : vs[i]? = some vi) (hT : T[i]? = some e) (hd : ∀ d ∈ nth (ops.toList.map depsOf) i, S d = true) (hn : S i = false) (hrd : isRd env.md vi = true) (hna : isAl vi = none) (hdid : e.did = true)
    {id off : Nat} {m : Option Nat} (hl : loadOf vi.op e.rb = some (.ptr id off, m)) : readObj (hget (heapS env.md S (vs.map idled) T 0 H0) id) off m = readObj (hget e.hb id) off m := by
  have hli : (vs.map idled)[i]? = some vi := by rw [List.getElem?_map, hi]; simp [idled_no hna]
  refine D.run.look (fun h => readObj (hget h id) off m) (S := S) D.run.tame hT rfl (.inl rfl) (fun j j' o o' hj hj' h1 h3 hlt hs => ?_) (fun j o ej hj hTj hef => ?_)
  · rw [Nat.zero_add] at hs ⊢
    rcases D.effRange hj' hj (by omega) h3 h1 with ⟨_, h4⟩ | ⟨h4, _⟩
    · exact D.closed hc j' hs j h4
    · omega
  · rw [Nat.zero_add]
    obtain ⟨vj, hvj, rfl⟩ := D.idl hj
    have hef' := hef
    rw [isEf_idled] at hef
    by_cases hne : i = j
    · subst hne
      rw [hi] at hvj; injection hvj with hvj; subst hvj
      exfalso
      have : clsOf env.md vi.op = .ef := by
        unfold isEf at hef
        rw [hna] at hef
        simp only at hef
        split at hef
        · assumption
        · cases hef
      unfold isRd at hrd
      rw [this] at hrd; cases hrd
    · rcases D.c5 hi hvj hne hrd hef with hrg | hpr
      · rcases D.sides hc hi hd hn hrg with ⟨h1, h3⟩ | ⟨h1, h3⟩
        · exact ⟨fun _ h => (by rw [h3] at h; cases h), fun h => by omega⟩
        · exact ⟨fun h => by omega, fun _ h => (by rw [h3] at h; cases h)⟩
      · have key : readObj (hget ej.hb id) off m = readObj (hget ej.ha id) off m := by
          rcases D.run.at hj hTj with ⟨hdj, _, _⟩ | ⟨_, _, _, h4⟩
          · rcases D.pair i j _ e ej hpr hli hT hdid hTj hdj _ _ hl with ⟨id', off', h5, h6⟩ | ⟨cs, off', h5⟩
            · injection h5 with e1 e2; subst e1; subst e2; exact h6
            · cases h5
          · rw [h4]
        exact ⟨fun _ _ => key, fun _ _ => key⟩
end
end Go.VM

namespace Go.VM
open Go

section
variable {Γ : Ctx} {env : Env} {E : Orc} {n hlen : Nat} {mu : Nat → Mu} {ops : Array Oper} {vs : List VOper} {preds : List (List Nat)} {pairs : List (Nat × Nat)} {r00 r0 : Regs} {H0 : Heap} {T : List Ev} {r2 : Regs} {h2 : Heap} {idf : Nat → Nat}

theorem nth_deps (ops : Array Oper) {i : Nat} {o : Oper} (h : ops[i]? = some o) : nth (ops.toList.map depsOf) i = depsOf o := by
  unfold nth
  rw [lget_eq, List.getElem?_map, Array.getElem?_toList, h]
  rfl
theorem depsOf_iff {o : Oper} {d : Nat} : d ∈ depsOf o ↔ ∃ e ∈ o.after, Region.binds .any e = true ∧ e.on = d := by
  unfold depsOf
  simp only [List.mem_map, List.mem_filter, Array.mem_toList_iff]
  constructor
  · rintro ⟨e, ⟨h1, h3⟩, h4⟩; exact ⟨e, h1, h3, h4⟩
  · rintro ⟨e, h1, h3, h4⟩; exact ⟨e, ⟨h1, h3⟩, h4⟩

def setOf (listed : Array Bool) : St := fun j => listed.getD j false
theorem setOf_add {listed : Array Bool} {i : Nat} (hi : i < listed.size) : setOf (listed.setIfInBounds i true) = (setOf listed).add i := by
  funext j
  by_cases h : j = i
  · subst h
    rw [St.add_same]
    simp [setOf, Array.getD, hi]
  · rw [St.add_other h]
    unfold setOf
    exact getD_set_ne false (Ne.symm h)

/-- How far an order of the region has been walked. -/
def DInv (Γ : Ctx) (env : Env) (base sz n : Nat) (ops : Array Oper) (vs : List VOper) (r00 r0 : Regs) (H0 : Heap) (T : List Ev) (idf : Nat → Nat) (κ0 : K) (Hs : Heap) (w0 : World) (listed : Array Bool) (a : Act) (w : World) : Prop :=
  listed.size = ops.size ∧ Closed ops (setOf listed) ∧ ∃ κ, Conf Γ base sz n κ (heapS env.md (setOf listed) (vs.map idled) T 0 H0) w (regR vs T r00 r0 (setOf listed)) a ∧
    Grow κ0 Hs w0 κ (heapS env.md (setOf listed) (vs.map idled) T 0 H0) w ∧
    ∀ (j : Nat) (v : VOper) (t : Nat) (z : AlK), vs[j]? = some v → isAl v = some (t, z) → setOf listed j = false → Idle κ (idf j) ∧ idf j < (heapS env.md (setOf listed) (vs.map idled) T 0 H0).length ∧ hget (heapS env.md (setOf listed) (vs.map idled) T 0 H0) (idf j) = hget H0 (idf j)

theorem loadOf_rd {md : FuncId → Mode} {v : VOper} (h : isRd md v = true) : (∃ p, v.op = .load1 p) ∨ (∃ m p, v.op = .loadN m p) := by
  unfold isRd at h
  have hc : clsOf md v.op = .rd := by
    cases hcl : clsOf md v.op <;> rw [hcl] at h <;> first | rfl | cases h
  cases hop : v.op <;> rw [hop] at hc <;> simp only [clsOf] at hc <;> try (cases hc; done)
  case load1 p => exact .inl ⟨p, rfl⟩
  case loadN m p => exact .inr ⟨m, p, rfl⟩
  case mkSlice mu _ _ _ _ => cases mu <;> cases hc
  case buildSlice mu _ _ _ _ => cases mu <;> cases hc
  case call f _ => split at hc <;> cases hc

/-- A ready operation, in the heap that it finds, does what it does in the run. -/
theorem Drawn.same (D : Drawn Γ env E n hlen mu ops vs preds pairs r00 r0 H0 T r2 h2 idf) {S : St} (hc : Closed ops S) {i : Nat} {vi : VOper} {e : Ev} (hi : vs[i]? = some vi) (hT : T[i]? = some e) (hna : isAl vi = none) (hd : ∀ d ∈ nth (ops.toList.map depsOf) i, S d = true) (hn : S i = false)
    (hdid : e.did = true) (he : operK env E vi.op e.rb e.hb (fun v h => some (v, h)) = some (e.v, e.ha)) :
    operK env E vi.op (regR vs T r00 r0 S) (heapS env.md S (vs.map idled) T 0 H0) (fun v h => some (v, h)) = some (e.v, heapS env.md (S.add i) (vs.map idled) T 0 H0) := by
  have hreg : ∀ t ∈ vi.op.tmps, regR vs T r00 r0 S t = e.rb t := fun t ht => D.reg hc hi hT (fun z e => by rw [hna] at e; cases e) hd hn (by simp [VOper.names, ht])
  rw [operK_congr hreg]
  cases hef : isEf env.md vi with
  | true =>
    obtain ⟨h1, h3⟩ := D.heapEf hc hi hT hd hn hef
    rw [h1, h3]; exact he
  | false =>
    rw [D.heapNo hi hef]
    have hne := isEf_ne hna hef
    have hk := operK_keep hne he
    cases hcl : clsOf env.md vi.op with
    | ef => exact absurd hcl hne
    | none =>
      rw [operK_none hcl _ e.hb e.hb] at he
      rw [operK_none hcl _ _ e.hb]
      obtain ⟨v1, g1, g2, g3⟩ := operK_inv he
      injection g3 with g3; injection g3 with g3 _; subst g3
      have : operK env E vi.op e.rb e.hb (fun v _ => some (v, heapS env.md S (vs.map idled) T 0 H0)) = (operK env E vi.op e.rb e.hb (fun v h => some (v, h))).bind fun p => some (p.1, heapS env.md S (vs.map idled) T 0 H0) := by rw [operK_bind]; rfl
      rw [this, g2]
      rfl
    | rd =>
      have hrd : isRd env.md vi = true := by unfold isRd; rw [hcl]
      rcases loadOf_rd hrd with ⟨p, hop⟩ | ⟨m, p, hop⟩
      · rw [hop] at he ⊢
        simp only [operK, opK] at he ⊢
        cases hp : p.ev e.rb with
        | ptr id off =>
          rw [hp] at he
          rw [load1_view] at he ⊢
          rw [D.look hc hi hT hd hn hrd hna hdid (id := id) (off := off) (m := none) (by rw [hop]; simp [loadOf, hp])]
          obtain ⟨q, g1, g2⟩ := bind_pair he
          injection g2 with g2 _; subst g2
          rw [g1]; rfl
        | rptr cs off =>
          rw [hp] at he
          simp only [load1K, getK_def] at he ⊢
          obtain ⟨q, g1, g2⟩ := bind_pair he
          injection g2 with g2 _
          rw [g1, ← g2]; rfl
        | _ => rw [hp] at he; cases he
      · rw [hop] at he ⊢
        simp only [operK, opK] at he ⊢
        cases hp : p.ev e.rb with
        | ptr id off =>
          rw [hp] at he
          rw [loadN_view] at he ⊢
          rw [D.look hc hi hT hd hn hrd hna hdid (id := id) (off := off) (m := some m) (by rw [hop]; simp [loadOf, hp])]
          obtain ⟨q, g1, g2⟩ := bind_pair he
          injection g2 with g2 _; subst g2
          rw [g1]; rfl
        | rptr cs off =>
          rw [hp] at he
          simp only [loadNK, secK_def] at he ⊢
          cases hb : Nat.ble (off + m) cs.length with
          | false => rw [hb] at he; cases he
          | true =>
            rw [hb] at he
            simp only [cond_true] at he ⊢
            injection he with he; injection he with he _
            rw [he]
        | _ => rw [hp] at he; cases he

theorem alloc_step {κ : K} {base sz : Nat} {H : Heap} {w : World} {r : Regs} {a : Act} {o : Oper} {ty : TypeId} {z : List PV} (hcf : Conf Γ base sz n κ H w r a) (hop : o.op = .alloc ty) (hz : zeroT Γ.P ty = some z) {id : Nat} (hi : Idle κ id) (hl : id < H.length) (hh : hget H id = .pcells z)
    (ro : Option Nat) {t : Nat} (hdst : o.dst = some t) (hok : okDst n o.dst = true) (K : Act → World → Prop) (Q : Exit → Act → World → Prop)
    (hK : ∀ a' ob, Conf Γ base sz n (κ.at id w.heap.size) H (w.alloc ob) (put r (some t) (.ptr id 0)) a' → K a' (w.alloc ob)) : o.wpIn (wideR ro) 0 Γ.P a w K Q := by
  obtain ⟨i, zv, hi', hzz, hzr, hz1, _⟩ := zeroT_rel (Γ := Γ) (κ := κ) hz
  have hs := hcf.srel.wake hi hl hh ty hzr hz1
  simp only [Array.toArray_toList] at hs
  have hrun : (execOp a.eval o).run Γ.P w = .ok (.value (.pointer (some ⟨w.heap.size, 0, none⟩))) (w.alloc (.cells zv.cells ty)) := by
    simp [execOp, hop, Instr.alloc, run_zeroValue' hi' hzz, newVar, run_newRow']
  refine ⟨fun _ _ => trivial, ?_⟩
  rw [Oper.semAt_eq _ _ _ (fun c e => by rw [hop] at e; cases e), hrun, Oper.uponIn_value]
  refine hK _ (.cells zv.cells ty) ⟨hs, ?_, by rw [put_size]; exact hcf.size, by rw [put_defers]; exact hcf.marks.wake hi _⟩
  rw [hdst]
  exact (hcf.regs.mono (κ.le_at hi.1)).put hcf.size (d := some t) (by rw [← hdst]; exact hok) (.ptr _ _ _ (Go.VM.K.at_same _ _ _))

theorem compOp_boxH {P : Program} {mu : Mu} {op : Op} {x : Opd} (hop : compOp P mu op = some (.boxH x)) : False := by
  cases hoo : op with
  | alloc ty =>
    skip
    rw [hoo] at hop
    obtain ⟨y, hy, hyy⟩ := map_some hop
    cases hyy
  | box ty y =>
    skip
    rw [hoo] at hop
    obtain ⟨y, hy, hyy⟩ := map_some hop
    cases hyy
  | call c =>
    skip
    rw [hoo] at hop
    simp only [compOp] at hop
    split at hop
    · split at hop
      · split at hop
        · rw [Bool.cond_eq_ite] at hop; split at hop
          · cases hop
          · cases hop
        · cases hop
      · obtain ⟨_, _, h⟩ := map_some hop; cases h
      · unfold compBuiltin at hop
        repeat' split at hop
        all_goals first
          | (cases hop; done)
          | (rw [Bool.cond_eq_ite] at hop; split at hop <;> cases hop)
      · cases hop
    · cases hop
  | makeFunc fn p q =>
    skip
    rw [hoo] at hop
    cases fn with
    | func f =>
      simp only [compOp] at hop
      split at hop <;> cases hop
    | _ => simp [compOp] at hop
  | _ =>
    skip
    rw [hoo] at hop
    simp only [compOp, compUpd] at hop
    repeat' split at hop
    all_goals (try (rw [Bool.cond_eq_ite] at hop; split at hop))
    all_goals (try (rw [Bool.cond_eq_ite] at hop; split at hop))
    all_goals first
      | (cases hop; done)
      | (injection hop with hop; cases hop; done)
      | (obtain ⟨_, _, h⟩ := map_some hop; cases h; done)
theorem compOp_box {P : Program} {mu : Mu} {op : Op} {x : Opd} (hop : compOp P mu op = some (.box x)) : ∃ ty y, op = .box ty y ∧ compOpd y = some x := by
  cases hoo : op with
  | alloc ty =>
    exfalso
    rw [hoo] at hop
    obtain ⟨y, hy, hyy⟩ := map_some hop
    cases hyy
  | box ty y =>
    rw [hoo] at hop
    obtain ⟨y', hy, hyy⟩ := map_some hop
    injection hyy with hyy; subst hyy
    exact ⟨ty, y, rfl, hy⟩
  | call c =>
    exfalso
    rw [hoo] at hop
    simp only [compOp] at hop
    split at hop
    · split at hop
      · split at hop
        · rw [Bool.cond_eq_ite] at hop; split at hop
          · cases hop
          · cases hop
        · cases hop
      · obtain ⟨_, _, h⟩ := map_some hop; cases h
      · unfold compBuiltin at hop
        repeat' split at hop
        all_goals first
          | (cases hop; done)
          | (rw [Bool.cond_eq_ite] at hop; split at hop <;> cases hop)
      · cases hop
    · cases hop
  | makeFunc fn p q =>
    exfalso
    rw [hoo] at hop
    cases fn with
    | func f =>
      simp only [compOp] at hop
      split at hop <;> cases hop
    | _ => simp [compOp] at hop
  | _ =>
    exfalso
    rw [hoo] at hop
    simp only [compOp, compUpd] at hop
    repeat' split at hop
    all_goals (try (rw [Bool.cond_eq_ite] at hop; split at hop))
    all_goals (try (rw [Bool.cond_eq_ite] at hop; split at hop))
    all_goals first
      | (cases hop; done)
      | (injection hop with hop; cases hop; done)
      | (obtain ⟨_, _, h⟩ := map_some hop; cases h; done)
theorem cellsP_of {p : PV} {c : List PV} (h : cellsP p = some c) : (AV.pv p).cellsOf = c.map .pv ∧ (AV.pv p).isTup = false := by
  cases p <;> simp only [cellsP] at h <;> first | (cases h; done) | (injection h with h; subst h; exact ⟨rfl, rfl⟩)
theorem box_step {κ : K} {base sz : Nat} {H : Heap} {w : World} {r : Regs} {a : Act} {o : Oper} {ty : TypeId} {y : Operand} {x : Opd} {p : PV} {c : List PV} (hcf : Conf Γ base sz n κ H w r a) (hop : o.op = .box ty y) (hy : compOpd y = some x)
    (hx : x.ev r = .pv p) (hc : cellsP p = some c) {id : Nat} (hi : Idle κ id) (hl : id < H.length) (hh : hget H id = .pcells c)
    (ro : Option Nat) {t : Nat} (hdst : o.dst = some t) (hok : okDst n o.dst = true) (K : Act → World → Prop) (Q : Exit → Act → World → Prop)
    (hK : ∀ a' ob, Conf Γ base sz n (κ.at id w.heap.size) H (w.alloc ob) (put r (some t) (.ptr id 0)) a' → K a' (w.alloc ob)) : o.wpIn (wideR ro) 0 Γ.P a w K Q := by
  have hv := opd_rel hcf.regs hy
  rw [hx] at hv
  obtain ⟨g0, gt⟩ := cellsP_of hc
  obtain ⟨g1, g2⟩ := cellsOf_rel hv gt
  rw [g0] at g1
  have hs := hcf.srel.wake hi hl hh ty (VRels.to_pv g1) g2
  simp only [Array.toArray_toList] at hs
  have hrun : (execOp a.eval o).run Γ.P w = .ok (.value (.pointer (some ⟨w.heap.size, 0, none⟩))) (w.alloc (.cells (a.eval y).cells ty)) := by
    simp [execOp, hop, Instr.box, newVar, run_newRow']
  refine ⟨fun _ _ => trivial, ?_⟩
  rw [Oper.semAt_eq _ _ _ (fun c e => by rw [hop] at e; cases e), hrun, Oper.uponIn_value]
  refine hK _ (.cells (a.eval y).cells ty) ⟨hs, ?_, by rw [put_size]; exact hcf.size, by rw [put_defers]; exact hcf.marks.wake hi _⟩
  rw [hdst]
  exact (hcf.regs.mono (κ.le_at hi.1)).put hcf.size (d := some t) (by rw [← hdst]; exact hok) (.ptr _ _ _ (Go.VM.K.at_same _ _ _))
theorem hb_or (bx : Bool) (v : VOper) : hb bx v = v ∨ ∃ t x, v = ⟨some t, none, .box x⟩ ∧ memN x.tmps t = false ∧ hb bx v = ⟨some t, none, .boxH x⟩ := by
  cases bx with
  | false => exact .inl rfl
  | true =>
    show hboxed v = v ∨ ∃ t x, v = ⟨some t, none, .box x⟩ ∧ memN x.tmps t = false ∧ hboxed v = _
    obtain ⟨d, g, op⟩ := v
    unfold hboxed
    split
    · rename_i t x h1 h2 h3
      simp only at h1 h2 h3
      subst h1; subst h2; subst h3
      cases hm : memN x.tmps t with
      | true => exact .inl rfl
      | false => exact .inr ⟨t, x, rfl, hm, rfl⟩
    · exact .inl rfl
theorem draw_any (D : Drawn Γ env E n hlen mu ops vs preds pairs r00 r0 H0 T r2 h2 idf) (hE : OrcOK Γ E) (ro : Option Nat) {base sz : Nat} {κ0 : K} {Hs : Heap} {w0 : World} (hlen0 : Hs.length ≤ hlen) {Q : Exit → Act → World → Prop}
    (hfin : ∀ κ a w, Conf Γ base sz n κ h2 w r2 a → Grow κ0 Hs w0 κ h2 w → Q .normal a w) :
    ∀ (fuel : Nat) (listed : Array Bool) (a : Act) (w : World), DInv Γ env base sz n ops vs r00 r0 H0 T idf κ0 Hs w0 listed a w → listed.toList.count false ≤ fuel → wpAnyIn (wideR ro) 0 Γ.P .any ops Q fuel listed a w := by
  have done : ∀ (listed : Array Bool) (a : Act) (w : World), DInv Γ env base sz n ops vs r00 r0 H0 T idf κ0 Hs w0 listed a w → Region.ready .any ops listed = [] → Q .normal a w := by
    intro listed a w hinv hr
    obtain ⟨hsz, hcl, κ, hcf, hg, _⟩ := hinv
    have hall : ∀ j, j < ops.size → setOf listed j = true := by
      intro j
      induction j using Nat.strongRecOn with
      | _ j ih =>
        intro hj
        cases hS : setOf listed j with
        | true => rfl
        | false =>
          exfalso
          have ho : ops[j]? = some ops[j] := Array.getElem?_eq_getElem hj
          obtain ⟨vj, hvj⟩ := D.get hj
          have : j ∈ Region.ready .any ops listed := by
            rw [mem_ready]
            refine ⟨?_, ops[j], ho, fun e he hb => ?_⟩
            · have hlt : j < listed.size := by rw [hsz]; exact hj
              simpa [setOf, Array.getD, hlt] using hS
            · have hd : e.on ∈ nth (ops.toList.map depsOf) j := by rw [nth_deps ops ho]; exact depsOf_iff.2 ⟨e, he, hb, rfl⟩
              have hlt := D.preLt hvj hd
              exact ih e.on hlt (by omega)
          rw [hr] at this; cases this
    rw [D.regAll hall, D.heapAll hall] at hcf
    rw [D.heapAll hall] at hg
    exact hfin κ a w hcf hg
  intro fuel
  induction fuel with
  | zero =>
    intro listed a w hinv hcnt
    have hnil : Region.ready .any ops listed = [] := by
      cases hr : Region.ready .any ops listed with
      | nil => rfl
      | cons x l =>
        exfalso
        have hx : x ∈ Region.ready .any ops listed := by rw [hr]; simp
        obtain ⟨h0, o, ho, _⟩ := mem_ready.1 hx
        have hlt : x < listed.size := by rw [hinv.1]; exact (Array.getElem?_eq_some_iff.1 ho).1
        have hf : listed[x] = false := by simpa [Array.getD, hlt] using h0
        have : false ∈ listed.toList := by rw [← hf]; simp
        have := List.count_pos_iff.2 this
        omega
    exact ⟨hnil, done listed a w hinv hnil⟩
  | succ fuel ih =>
    intro listed a w hinv hcnt
    refine ⟨done listed a w hinv, fun i hi => ?_⟩
    obtain ⟨hsz, hcl, κ, hcf, hg, hal⟩ := hinv
    obtain ⟨h0, o, ho, hafter⟩ := mem_ready.1 hi
    have hi' : i < ops.size := (Array.getElem?_eq_some_iff.1 ho).1
    have hlt : i < listed.size := by rw [hsz]; exact hi'
    have hn : setOf listed i = false := by
      have hf : listed[i] = false := by simpa [Array.getD, hlt] using h0
      simp [setOf, Array.getD, hlt, hf]
    have hd : ∀ d ∈ nth (ops.toList.map depsOf) i, setOf listed d = true := by
      intro d hd
      rw [nth_deps ops ho] at hd
      obtain ⟨e, he, hb, rfl⟩ := depsOf_iff.1 hd
      exact hafter e he hb
    have hcnt' : (listed.setIfInBounds i true).toList.count false ≤ fuel := by
      rw [Array.toList_setIfInBounds, List.count_set (by simpa using hlt)]
      have hf : listed.toList[i]'(by simpa using hlt) = false := by
        have hf : listed[i] = false := by simpa [Array.getD, hlt] using h0
        simpa using hf
      rw [hf]
      have h1 : (if (false == false) = true then 1 else 0) = 1 := rfl
      have h3 : (if (true == false) = true then 1 else 0) = 0 := rfl
      rw [h1, h3]
      omega
    have hsz' : (listed.setIfInBounds i true).size = ops.size := by simp [hsz]
    have hset := setOf_add hlt
    have hcl' : Closed ops (setOf (listed.setIfInBounds i true)) := by rw [hset]; exact hcl.mono hi' hd
    obtain ⟨vi, hv0, hcase⟩ := compOpers_get (P := Γ.P) (mu := mu) (n := n) (all := ops.toList) (l := ops.toList) (i := i) (o := o) (by rw [Array.getElem?_toList]; exact ho)
    obtain ⟨bx, hvs⟩ := D.vs_eq
    have hvi : vs[i]? = some (hb bx vi) := by rw [hvs, List.getElem?_map, hv0]; rfl
    obtain ⟨e, hT⟩ : ∃ e, T[i]? = some e := ⟨T[i]'(by rw [D.tlen]; exact hi'), by simp⟩
    rcases hb_or bx vi with hbe | ⟨t, x, rfl, hmem, hbe⟩
    rotate_left
    · rw [hbe] at hvi
      have hna : isAl (⟨some t, none, .boxH x⟩ : VOper) = some (t, .x x) := by
        show (bif memN x.tmps t then none else some (t, AlK.x x)) = _
        rw [hmem]; rfl
      rcases hcase with ⟨g, v, hvo, hgd, hdst, hop⟩ | hbad
      · injection hvo with hdt hgn hvz
        subst hgn; subst hvz
        obtain ⟨ty, y, hoty, hy⟩ := compOp_box hop
        obtain ⟨p, c, q1, q2, q3⟩ := D.alx i _ t x e hvi hna hT
        have hev : x.ev (regR vs T r00 r0 (setOf listed)) = .pv p := by
          rw [← q1]
          exact opd_congr fun t' ht' => D.reg hcl hvi hT (fun z ez => by
            rw [hna] at ez
            injection ez with ez; injection ez with ez _
            subst ez
            rw [memN_iff.2 ht'] at hmem; cases hmem) hd hn (by simp [VOper.names, VOp.tmps, ht'])
        unfold wpOpIn
        simp only [ho]
        rw [wanted_rel hcf.regs hgd]
        have hw : wantedV (regR vs T r00 r0 (setOf listed)) none = true := rfl
        rw [hw]; simp only [if_true]
        obtain ⟨hidle, hlt2, hhz⟩ := hal i _ t _ hvi hna hn
        rw [q3] at hhz
        have hnef : isEf env.md (⟨some t, none, .boxH x⟩ : VOper) = false := by unfold isEf; rw [hna]
        refine box_step hcf hoty hy hev q2 hidle hlt2 hhz ro hdt.symm hdst _ Q fun a' ob hcf' => ih _ a' _ ⟨hsz', hcl', κ.at (idf i) w.heap.size, ?_, ?_, ?_⟩ hcnt'
        · rw [hset, D.heapNo hvi hnef, D.regAl hvi hT hna hn]; exact hcf'
        · rw [hset, D.heapNo hvi hnef]; exact hg.wake hidle (Nat.le_trans hlen0 (D.al i _ t _ hvi hna).2.1) ob
        · intro j v' t' z' hj hjal hjn
          rw [hset] at hjn ⊢
          rw [D.heapNo hvi hnef]
          have hne : j ≠ i := fun e => by subst e; rw [St.add_same] at hjn; cases hjn
          rw [St.add_other hne] at hjn
          obtain ⟨k1, k2, k3⟩ := hal j v' t' z' hj hjal hjn
          have hidne : idf j ≠ idf i := fun e => hne (D.inj j i _ _ _ _ hj hvi hjal hna e)
          exact ⟨⟨by simp only [K.at]; rw [if_neg hidne]; exact k1.1, k1.2⟩, k2, k3⟩
      · cases hbad
    rw [hbe] at hvi
    have hli : (vs.map idled)[i]? = some (idled vi) := by rw [List.getElem?_map, hvi]; rfl
    unfold wpOpIn
    simp only [ho]
    rcases hcase with ⟨g, v, rfl, hgd, hdst, hop⟩ | rfl
    · rw [wanted_rel hcf.regs hgd]
      cases hna : isAl (⟨o.dst, g, v⟩ : VOper) with
      | some x =>
        obtain ⟨t, z⟩ := x
        obtain ⟨hdt, hgn, hvz⟩ := isAl_dst' hna
        simp only at hdt hgn hvz
        subst hgn
        rcases hvz with ⟨z, rfl, rfl⟩ | ⟨x, rfl, rfl, _⟩
        rotate_left
        · exact (compOp_boxH hop).elim
        have hw : wantedV (regR vs T r00 r0 (setOf listed)) none = true := rfl
        rw [hw]; simp only [if_true]
        obtain ⟨ty, hoty, hz⟩ : ∃ ty, o.op = .alloc ty ∧ zeroT Γ.P ty = some z := by
          cases hoo : o.op with
          | alloc ty =>
            rw [hoo] at hop
            obtain ⟨y, hy, hyy⟩ := map_some hop
            injection hyy with hyy; subst hyy
            exact ⟨ty, rfl, hy⟩
          | call c =>
            exfalso
            rw [hoo] at hop
            simp only [compOp] at hop
            split at hop
            · split at hop
              · split at hop
                · rw [Bool.cond_eq_ite] at hop; split at hop
                  · cases hop
                  · cases hop
                · cases hop
              · obtain ⟨_, _, h⟩ := map_some hop; cases h
              · unfold compBuiltin at hop
                repeat' split at hop
                all_goals first
                  | (cases hop; done)
                  | (rw [Bool.cond_eq_ite] at hop; split at hop <;> cases hop)
              · cases hop
            · cases hop
          | makeFunc fn p q =>
            exfalso
            rw [hoo] at hop
            cases fn with
            | func f =>
              simp only [compOp] at hop
              split at hop <;> cases hop
            | _ => simp [compOp] at hop
          | _ =>
            exfalso
            rw [hoo] at hop
            simp only [compOp, compUpd] at hop
            repeat' split at hop
            all_goals (try (rw [Bool.cond_eq_ite] at hop; split at hop))
            all_goals (try (rw [Bool.cond_eq_ite] at hop; split at hop))
            all_goals first
              | (cases hop; done)
              | (injection hop with hop; cases hop; done)
              | (obtain ⟨_, _, h⟩ := map_some hop; cases h; done)
        obtain ⟨hidle, hlt2, hhz⟩ := hal i _ t _ hvi hna hn
        rw [D.alz i _ t z hvi hna] at hhz
        have hnef : isEf env.md (⟨o.dst, none, .alloc z⟩ : VOper) = false := by unfold isEf; rw [hna]
        refine alloc_step hcf hoty hz hidle hlt2 hhz ro hdt hdst _ Q fun a' ob hcf' => ih _ a' _ ⟨hsz', hcl', κ.at (idf i) w.heap.size, ?_, ?_, ?_⟩ hcnt'
        · rw [hset, D.heapNo hvi hnef, D.regAl hvi hT hna hn]; exact hcf'
        · rw [hset, D.heapNo hvi hnef]; exact hg.wake hidle (Nat.le_trans hlen0 (D.al i _ t _ hvi hna).2.1) ob
        · intro j v' t' z' hj hjal hjn
          rw [hset] at hjn ⊢
          rw [D.heapNo hvi hnef]
          have hne : j ≠ i := fun e => by subst e; rw [St.add_same] at hjn; cases hjn
          rw [St.add_other hne] at hjn
          obtain ⟨k1, k2, k3⟩ := hal j v' t' z' hj hjal hjn
          have hidne : idf j ≠ idf i := fun e => hne (D.inj j i _ _ _ _ hj hvi hjal hna e)
          exact ⟨⟨by simp only [K.at]; rw [if_neg hidne]; exact k1.1, k1.2⟩, k2, k3⟩
      | none =>
        have hreg : ∀ t ∈ (⟨o.dst, g, v⟩ : VOper).names, regR vs T r00 r0 (setOf listed) t = e.rb t := fun t ht => D.reg hcl hvi hT (fun z e => by rw [hna] at e; cases e) hd hn ht
        have hwg : wantedV (regR vs T r00 r0 (setOf listed)) g = wantedV e.rb g := by
          cases g with
          | none => rfl
          | some q =>
            obtain ⟨t, wt⟩ := q
            simp only [wantedV]
            rw [hreg t (by simp [VOper.names])]
        rw [hwg]
        rw [idled_no hna] at hli
        have fin : ∀ (κ' : K) (w' : World) (v' : Value), VRel κ' e.v v' → SRel Γ base κ' (heapS env.md ((setOf listed).add i) (vs.map idled) T 0 H0) w' → Grow κ (heapS env.md (setOf listed) (vs.map idled) T 0 H0) w κ' (heapS env.md ((setOf listed).add i) (vs.map idled) T 0 H0) w' →
            wpAnyIn (wideR ro) 0 Γ.P .any ops Q fuel (listed.setIfInBounds i true) (a.put o.dst v') w' := by
          intro κ' w' v' hv hs hgr
          refine ih _ _ _ ⟨hsz', hcl', κ', ?_, ?_, ?_⟩ hcnt'
          · rw [hset, D.regAdd hcl hvi hT hna hd hn]; exact hcf.step hs hgr hdst hv
          · rw [hset]; exact hg.trans hgr
          · intro j v'' t' z' hj hjal hjn
            rw [hset] at hjn ⊢
            have hne : j ≠ i := fun e => by subst e; rw [St.add_same] at hjn; cases hjn
            rw [St.add_other hne] at hjn
            obtain ⟨k1, k2, k3⟩ := hal j v'' t' z' hj hjal hjn
            obtain ⟨q1, q2⟩ := hgr.idle (idf j) k2 k1
            exact ⟨q2, Nat.lt_of_lt_of_le k2 hgr.len, by rw [q1]; exact k3⟩
        rcases D.run.at hli hT with ⟨hdid, hw, hek⟩ | ⟨hdid, hw, hev, hha⟩
        · simp only at hw hek
          rw [hw]; simp only [if_true]
          exact oper_sound hE ro hcf.srel hcf.regs hop (D.same hcl hvi hT hna hd hn hdid hek) _ _ fun v' κ' w' hv hs hgr => fin κ' w' v' hv hs hgr
        · simp only at hw
          rw [hw]; simp only [Bool.false_eq_true, if_false]
          have hh : heapS env.md ((setOf listed).add i) (vs.map idled) T 0 H0 = heapS env.md (setOf listed) (vs.map idled) T 0 H0 := by
            cases hef : isEf env.md (⟨o.dst, g, v⟩ : VOper) with
            | false => exact D.heapNo hvi hef
            | true =>
              obtain ⟨k1, k2⟩ := D.heapEf hcl hvi hT hd hn hef
              rw [k1, k2, hha]
          refine ⟨fun _ _ => trivial, fin κ w undef (by rw [hev]; exact undefV_rel κ) ?_ ?_⟩
          · rw [hh]; exact hcf.srel
          · rw [hh]; exact Grow.refl _ _ _
    · exfalso
      have hna : isAl (⟨none, none, .bad⟩ : VOper) = none := rfl
      rw [idled_no hna] at hli
      rcases D.run.at hli hT with ⟨_, _, hek⟩ | ⟨_, hw, _, _⟩
      · cases hek
      · cases hw
end
end Go.VM

namespace Go.VM
open Go

def hoistR {α : Type} : List (Nat × α) → Regs → Nat → Regs
  | [], r, _ => r
  | (t, _) :: l, r, m => hoistR l (upd r t (.ptr m 0)) (m + 1)

theorem hoist_eq {R : Type} : ∀ {al : List (Nat × List PV)} {r : Regs} {h : Heap} {k : Regs → Heap → Option R}, hoist al r h k = k (hoistR al r h.length) (h ++ al.map fun p => .pcells p.2) := by
  intro al
  induction al with
  | nil => intro r h k; simp [hoist, hoistR]
  | cons p al ih =>
    intro r h k
    obtain ⟨t, z⟩ := p
    simp only [hoist, ih, hoistR, List.map_cons]
    congr 1
    · simp
    · simp

theorem hoistR_skip {t : Nat} : ∀ {l : List VOper} {r : Regs} {m : Nat}, (∀ (j : Nat) (v : VOper) (z : AlK), l[j]? = some v → isAl v ≠ some (t, z)) → hoistR (l.filterMap isAl) r m t = r t := by
  intro l
  induction l with
  | nil => intro r m _; rfl
  | cons v l ih =>
    intro r m h
    have hl : ∀ (j : Nat) (v : VOper) (z : AlK), l[j]? = some v → isAl v ≠ some (t, z) := fun j v' z hj => h (j + 1) v' z (by simpa using hj)
    cases hv : isAl v with
    | none => rw [List.filterMap_cons_none hv]; exact ih hl
    | some x =>
      obtain ⟨u, z⟩ := x
      rw [List.filterMap_cons_some hv]
      simp only [hoistR]
      rw [ih hl]
      have hne : u ≠ t := fun e => by subst e; exact h 0 v z rfl hv
      exact put_other (d := some u) (fun e => hne (by injection e))

def idAt (hl : Nat) (vs : List VOper) (j : Nat) : Nat := hl + ((vs.take j).filterMap isAl).length

theorem hoistR_get : ∀ {l : List VOper} {r : Regs} {m j : Nat} {v : VOper} {t : Nat} {z : AlK}, (∀ (i j : Nat) (vi vj : VOper) (t : Nat) (z : AlK), i ≠ j → l[i]? = some vi → l[j]? = some vj → isAl vj = some (t, z) → vi.dst ≠ some t) →
    l[j]? = some v → isAl v = some (t, z) → hoistR (l.filterMap isAl) r m t = .ptr (idAt m l j) 0 := by
  intro l
  induction l with
  | nil => intro r m j v t z _ h; simp at h
  | cons v0 l ih =>
    intro r m j v t z hdis hj hv
    have hdis' : ∀ (i j : Nat) (vi vj : VOper) (t : Nat) (z : AlK), i ≠ j → l[i]? = some vi → l[j]? = some vj → isAl vj = some (t, z) → vi.dst ≠ some t :=
      fun i j vi vj t z hne h1 h2 h3 => hdis (i + 1) (j + 1) vi vj t z (by omega) (by simpa using h1) (by simpa using h2) h3
    cases j with
    | zero =>
      simp at hj; subst hj
      rw [List.filterMap_cons_some hv]
      simp only [hoistR]
      rw [hoistR_skip fun j' v' z' hj' hv' => hdis 0 (j' + 1) v0 v' t z' (by omega) rfl (by simpa using hj') hv' (isAl_dst hv).1]
      simp [upd, idAt]
    | succ j =>
      simp at hj
      cases hv0 : isAl v0 with
      | none =>
        rw [List.filterMap_cons_none hv0, ih hdis' hj hv]
        simp [idAt, List.filterMap_cons_none hv0]
      | some x =>
        obtain ⟨u, z0⟩ := x
        rw [List.filterMap_cons_some hv0]
        simp only [hoistR]
        rw [ih hdis' hj hv]
        simp only [idAt, List.take_succ_cons, List.filterMap_cons_some hv0, List.length_cons]
        congr 1
        omega

theorem filterMap_at {l : List VOper} {j : Nat} {v : VOper} {x : Nat × AlK} (hj : l[j]? = some v) (hv : isAl v = some x) : (l.filterMap isAl)[((l.take j).filterMap isAl).length]? = some x := by
  have hl : l = l.take j ++ v :: l.drop (j + 1) := by
    have h1 := (List.getElem?_eq_some_iff.1 hj).1
    have h2 := (List.getElem?_eq_some_iff.1 hj).2
    rw [← h2, ← List.drop_eq_getElem_cons h1, List.take_append_drop]
  conv => lhs; lhs; rw [hl]
  rw [List.filterMap_append, List.filterMap_cons_some hv, List.getElem?_append_right (Nat.le_refl _)]
  simp

theorem idAt_inj {hl : Nat} {l : List VOper} {j j' : Nat} {v v' : VOper} {x x' : Nat × AlK} (hj : l[j]? = some v) (hj' : l[j']? = some v') (hv : isAl v = some x) (hv' : isAl v' = some x') (h : idAt hl l j = idAt hl l j') : j = j' := by
  have key : ∀ {j j' : Nat} {v : VOper} {x : Nat × AlK}, l[j]? = some v → isAl v = some x → j < j' → ((l.take j).filterMap isAl).length < ((l.take j').filterMap isAl).length := by
    intro j j' v x hj hv hlt
    have e : l.take j' = l.take j ++ (l.drop j).take (j' - j) := by
      conv => lhs; rw [show j' = j + (j' - j) by omega, List.take_add]
    have h1 := (List.getElem?_eq_some_iff.1 hj).1
    have h2 := (List.getElem?_eq_some_iff.1 hj).2
    rw [e, List.filterMap_append, List.length_append]
    obtain ⟨d, hd⟩ : ∃ d, j' - j = d + 1 := ⟨j' - j - 1, by omega⟩
    rw [hd, List.drop_eq_getElem_cons h1, h2, List.take_succ_cons, List.filterMap_cons_some hv]
    simp
  unfold idAt at h
  rcases Nat.lt_trichotomy j j' with hlt | hlt | hlt
  · have := key hj hv hlt; omega
  · exact hlt
  · have := key hj' hv' hlt; omega

theorem hoistR_fst {α β : Type} : ∀ {a : List (Nat × α)} {b : List (Nat × β)} {r : Regs} {m : Nat}, a.map (·.1) = b.map (·.1) → hoistR a r m = hoistR b r m := by
  intro a
  induction a with
  | nil => intro b r m h; cases b with
    | nil => rfl
    | cons y b => cases h
  | cons x a ih => intro b r m h; cases b with
    | nil => cases h
    | cons y b =>
      obtain ⟨t, x⟩ := x
      obtain ⟨u, y⟩ := y
      injection h with h1 h2
      simp only at h1
      subst h1
      exact ih h2
def alS (all : List VOper) (i : Nat) : AlK → AlS
  | .z z => .z z
  | .x x => .x i (preOf (all.take i).reverse x.tmps []) x
theorem mkAl_cons {all l : List VOper} {v : VOper} {i : Nat} {t : Nat} {z : AlK} (h : isAl v = some (t, z)) : mkAl all (v :: l) i = (t, alS all i z) :: mkAl all l (i + 1) := by
  cases z with
  | z z => simp only [mkAl, h, alS]
  | x x => simp only [mkAl, h, alS]
theorem mkAl_skip {all l : List VOper} {v : VOper} {i : Nat} (h : isAl v = none) : mkAl all (v :: l) i = mkAl all l (i + 1) := by simp only [mkAl, h]
theorem mkAl_fst {all : List VOper} : ∀ {l : List VOper} {i : Nat}, (mkAl all l i).map (·.1) = (l.filterMap isAl).map (·.1) := by
  intro l
  induction l with
  | nil => intro i; rfl
  | cons v l ih =>
    intro i
    cases hv : isAl v with
    | none => rw [mkAl_skip hv, List.filterMap_cons_none hv]; exact ih
    | some x =>
      obtain ⟨t, z⟩ := x
      rw [mkAl_cons hv, List.filterMap_cons_some hv, List.map_cons, List.map_cons, ih]
theorem mkAl_at {all : List VOper} : ∀ {l : List VOper} {i j : Nat} {v : VOper} {t : Nat} {z : AlK}, l[j]? = some v → isAl v = some (t, z) → (mkAl all l i)[((l.take j).filterMap isAl).length]? = some (t, alS all (i + j) z) := by
  intro l
  induction l with
  | nil => intro i j v t z h; simp at h
  | cons v0 l ih =>
    intro i j v t z hj hv
    cases j with
    | zero =>
      simp at hj; subst hj
      rw [mkAl_cons hv]
      simp
    | succ j =>
      simp at hj
      have := ih (i := i + 1) hj hv
      rw [Nat.add_assoc, Nat.add_comm 1 j] at this
      cases hv0 : isAl v0 with
      | none => rw [mkAl_skip hv0, List.take_succ_cons, List.filterMap_cons_none hv0]; exact this
      | some x =>
        obtain ⟨u, z0⟩ := x
        rw [mkAl_cons hv0, List.take_succ_cons, List.filterMap_cons_some hv0, List.length_cons, List.getElem?_cons_succ]; exact this
theorem map_hb_false {vs : List VOper} : vs.map (hb false) = vs := by
  have : (hb false : VOper → VOper) = id := by funext v; rfl
  rw [this, List.map_id]
theorem hget_eq (H : Heap) (i : Nat) : hget H i = (H[i]?).getD .dead := by
  induction H generalizing i with
  | nil => cases i <;> rfl
  | cons o H ih => cases i with
    | zero => rfl
    | succ i => simpa [hget] using ih i

theorem SRel.more {Γ : Ctx} {base : Nat} {κ : K} {H : Heap} {w : World} (h : SRel Γ base κ H w) (L : Heap) : SRel Γ base κ (H ++ L) w := by
  have hp : ∀ id k, place κ id (hget (H ++ L) id) = some k → hget (H ++ L) id = hget H id := by
    intro id k hk
    rcases Nat.lt_or_ge id H.length with hlt | hge
    · exact hget_append_lt hlt
    · exfalso
      obtain ⟨h1, h2⟩ := h.fresh id hge
      cases ho : hget (H ++ L) id <;> rw [ho] at hk <;> simp [place, h1, h2] at hk
  refine ⟨h.imm, fun id k hk => ?_, fun id id' k hk hk' => ?_, fun id hid => h.fresh id (by simp at hid; omega), h.base, h.gv, h.gn⟩
  · have e := hp id k hk
    rw [e] at hk ⊢
    exact h.obj id k hk
  · rw [hp id k hk] at hk; rw [hp id' k hk'] at hk'
    exact h.inj id id' k hk hk'
theorem Grow.more {κ0 κ : K} {H0 H : Heap} {w0 w : World} (g : Grow κ0 H0 w0 κ H w) (L : Heap) (hf : ∀ id, H.length ≤ id → Idle κ id) : Grow κ0 H0 w0 κ (H ++ L) w := by
  refine ⟨g.le, g.size, by have := g.len; simp; omega, g.os, g.tape, g.output, g.frame, fun id k hk => ?_, g.imm, fun id hid hi => ?_⟩
  · rcases Nat.lt_or_ge id H.length with hlt | hge
    · rw [hget_append_lt hlt] at hk; exact g.places id k hk
    · exfalso
      obtain ⟨h1, h2⟩ := hf id hge
      cases ho : hget (H ++ L) id <;> rw [ho] at hk <;> simp [place, h1, h2] at hk
  · rw [hget_append_lt (Nat.lt_of_lt_of_le hid g.len)]; exact g.idle id hid hi
theorem Marks.more {sz : Nat} {κ : K} {H : Heap} {w : World} {ds : List Deferred} (h : Marks sz κ H w ds) (L : Heap) (hf : ∀ id, H.length ≤ id → Idle κ id) : Marks sz κ (H ++ L) w ds := by
  induction h with
  | nil => exact .nil
  | cons D ds h1 h2 h3 h4 _ ih =>
    refine .cons D ds h1 h2 (fun id hk => ?_) h4 ih
    rcases Nat.lt_or_ge id H.length with hlt | hge
    · rw [hget_append_lt hlt] at hk; exact h3 id hk
    · obtain ⟨h1, h2⟩ := hf id hge
      cases ho : hget (H ++ L) id <;> rw [ho] at hk <;> simp [place, h1, h2] at hk

section
variable {Γ : Ctx} {env : Env} {E : Orc} {n : Nat} {mu : Nat → Mu} {ops : Array Oper} {R : Type}

theorem dis_of {md : FuncId → Mode} {vs : List VOper} {deps preds : List (List Nat)} {pairs : List (Nat × Nat)} (h : drawOK md vs deps preds pairs = true) :
    ∀ (i j : Nat) (vi vj : VOper) (t : Nat) (z : AlK), i ≠ j → vs[i]? = some vi → vs[j]? = some vj → isAl vj = some (t, z) → vi.dst ≠ some t := by
  intro i j vi vj t z hne hi hj ha hd
  have h1 := allFrom_get h hi
  rw [Nat.zero_add, Bool.and_eq_true] at h1
  have h2 := allFrom_get h1.2 hj
  rw [Nat.zero_add, Bool.or_eq_true] at h2
  rcases h2 with h2 | h2
  · exact hne (Nat.eq_of_beq_eq_true h2)
  · simp only [both, Bool.and_eq_true, ha] at h2
    obtain ⟨⟨⟨_, _, h3⟩, _⟩, _⟩ := h2
    rw [hd] at h3
    simp at h3

theorem draw_sound (hE : OrcOK Γ E) (hm : Γ.P.follows .mixedOrders = true) (ro : Option Nat) {base sz : Nat} {κ0 κ : K} {Hs H : Heap} {w0 w : World} {r r2 : Regs} {h2 : Heap} {a : Act} {id : Nat} {preds : List (List Nat)} {pairs : List (Nat × Nat)} {T : List Ev} {Q : Exit → Act → World → Prop} {bx : Bool} {al : List (Nat × List PV)}
    (hok : drawOK env.md ((compOpers Γ.P mu n ops.toList ops.toList).map (hb bx)) (ops.toList.map depsOf) preds pairs = true)
    (hfst : al.map (·.1) = (((compOpers Γ.P mu n ops.toList ops.toList).map (hb bx)).filterMap isAl).map (·.1))
    (hcz : ∀ (j : Nat) (v : VOper) (t : Nat) (z : List PV), ((compOpers Γ.P mu n ops.toList ops.toList).map (hb bx))[j]? = some v → isAl v = some (t, .z z) → al[((((compOpers Γ.P mu n ops.toList ops.toList).map (hb bx)).take j).filterMap isAl).length]? = some (t, z))
    (hcx : ∀ (j : Nat) (v : VOper) (t : Nat) (x : Opd) (e : Ev), ((compOpers Γ.P mu n ops.toList ops.toList).map (hb bx))[j]? = some v → isAl v = some (t, .x x) → T[j]? = some e → ∃ p c, x.ev e.rb = .pv p ∧ cellsP p = some c ∧ al[((((compOpers Γ.P mu n ops.toList ops.toList).map (hb bx)).take j).filterMap isAl).length]? = some (t, c))
    (hrun : Run env E (((compOpers Γ.P mu n ops.toList ops.toList).map (hb bx)).map idled) (hoistR al r H.length) (H ++ al.map fun p => .pcells p.2) T r2 h2)
    (hpair : ∀ (i j : Nat) (oi : VOper) (ei ej : Ev), (i, j) ∈ pairs → (((compOpers Γ.P mu n ops.toList ops.toList).map (hb bx)).map idled)[i]? = some oi → T[i]? = some ei → ei.did = true → T[j]? = some ej → ej.did = true → ∀ p m, loadOf oi.op ei.rb = some (p, m) →
      (∃ id off, p = .ptr id off ∧ readObj (hget ej.hb id) off m = readObj (hget ej.ha id) off m) ∨ (∃ cs off, p = .rptr cs off))
    (hcf : Conf Γ base sz n κ H w r a) (hg : Grow κ0 Hs w0 κ H w)
    (hfin : ∀ κ a w, Conf Γ base sz n κ h2 w r2 a → Grow κ0 Hs w0 κ h2 w → Q .normal a w) : (Code.region id ops true).wpIn (wideR ro) 0 Γ.P Q a w := by
  obtain ⟨vs, hvs⟩ : ∃ vs, vs = (compOpers Γ.P mu n ops.toList ops.toList).map (hb bx) := ⟨_, rfl⟩
  rw [← hvs] at hok hrun hpair hfst hcz hcx
  rw [hoistR_fst hfst] at hrun
  have hdis := dis_of hok
  have hlen : al.length = (vs.filterMap isAl).length := by
    have := congrArg List.length hfst
    simpa using this
  have hlt : ∀ (j : Nat) (v : VOper) (x : Nat × AlK), vs[j]? = some v → isAl v = some x → ((vs.take j).filterMap isAl).length < al.length := by
    intro j v x hj hv
    rw [hlen]
    exact (List.getElem?_eq_some_iff.1 (filterMap_at hj hv)).1
  have hgetc : ∀ (j : Nat) (t : Nat) (c : List PV), al[((vs.take j).filterMap isAl).length]? = some (t, c) → hget (H ++ al.map fun p => .pcells p.2) (idAt H.length vs j) = .pcells c := by
    intro j t c hc
    rw [hget_eq, List.getElem?_append_right (by unfold idAt; omega)]
    have e : idAt H.length vs j - H.length = ((vs.take j).filterMap isAl).length := by unfold idAt; omega
    rw [e, List.getElem?_map, hc]
    rfl
  have D : Drawn Γ env E n H.length mu ops vs preds pairs r (hoistR (vs.filterMap isAl) r H.length) (H ++ al.map fun p => .pcells p.2) T r2 h2 (idAt H.length vs) :=
    { vs_eq := ⟨bx, hvs⟩, ok := hok, run := hrun, pair := hpair
      al := fun j v t z hj hv => ⟨hoistR_get hdis hj hv, by unfold idAt; omega, by
        have := hlt j v _ hj hv
        rw [List.length_append, List.length_map]; unfold idAt; omega⟩
      inj := fun j j' v v' x x' hj hj' hv hv' h => idAt_inj hj hj' hv hv' h
      rest := fun t ht => hoistR_skip fun j v z hj hv => alOf_none ht j v z hj hv
      alz := fun j v t z hj hv => hgetc j t z (hcz j v t z hj hv)
      alx := fun j v t x e hj hv hT => by
        obtain ⟨p, c, q1, q2, q3⟩ := hcx j v t x e hj hv hT
        exact ⟨p, c, q1, q2, hgetc j t c q3⟩ }
  have hidle : ∀ id, H.length ≤ id → Idle κ id := fun id hid => hcf.srel.fresh id hid
  refine wpIn_region_any hm (draw_any D hE ro hg.len hfin ops.size _ a _ ?_ (by simp))
  have hset : setOf (Array.replicate ops.size false) = fun _ => false := by
    funext j
    simp only [setOf, Array.getD_eq_getD_getElem?, Array.getElem?_replicate]
    split <;> rfl
  have hheap : heapS env.md (fun _ => false) (vs.map idled) T 0 (H ++ al.map fun p => .pcells p.2) = H ++ al.map fun p => .pcells p.2 := heapS_skip fun _ _ _ _ => rfl
  have hreg : regR vs T r (hoistR (vs.filterMap isAl) r H.length) (fun _ => false) = r := by
    funext t
    unfold regR
    cases ht : alOf vs 0 t with
    | some j => rfl
    | none =>
      simp only
      rw [regS_skip fun _ _ _ h => by cases h]
      exact D.rest t ht
  refine ⟨by simp, ⟨fun j hj => (by rw [hset] at hj; cases hj), fun j hj => (by rw [hset] at hj; cases hj)⟩, κ, ?_, ?_, ?_⟩
  · rw [hset, hheap, hreg]
    exact ⟨(hcf.srel.drew).1.more _, hcf.regs, hcf.size, ((hcf.marks.grow (hcf.srel.drew).2).more _ hidle)⟩
  · rw [hset, hheap]
    exact (hg.trans (hcf.srel.drew).2).more _ hidle
  · intro j v t z hj hv _
    rw [hset, hheap]
    exact ⟨hidle _ (by unfold idAt; omega), (D.al j v t z hj hv).2.2, rfl⟩

theorem filterMap_nil {vs : List VOper} (h : vs.filterMap isAl = []) : vs.map idled = vs := by
  induction vs with
  | nil => rfl
  | cons v vs ih =>
    cases hv : isAl v with
    | some x => rw [List.filterMap_cons_some hv] at h; cases h
    | none =>
      rw [List.filterMap_cons_none hv] at h
      rw [List.map_cons, ih h, idled_no hv]

theorem compDraw1_sound (hE : OrcOK Γ E) (hm : Γ.P.follows .mixedOrders = true) (ro : Option Nat) {base sz : Nat} {κ0 κ : K} {Hs H : Heap} {w0 w : World} {r : Regs} {a : Act} {id : Nat} {k : Ex → Regs → Heap → Option R} {y : R} {Q : Exit → Act → World → Prop} (bx : Bool)
    (hok : drawOK env.md ((compOpers Γ.P mu n ops.toList ops.toList).map (hb bx)) (ops.toList.map depsOf) (predsOf (ops.toList.map depsOf) []) (mkPairs env.md ((compOpers Γ.P mu n ops.toList ops.toList).map (hb bx)) (predsOf (ops.toList.map depsOf) [])) = true)
    (he : evK env E (compDraw1 env.md ((compOpers Γ.P mu n ops.toList ops.toList).map (hb bx)) (predsOf (ops.toList.map depsOf) [])) R r H k = some y) (hcf : Conf Γ base sz n κ H w r a) (hg : Grow κ0 Hs w0 κ H w)
    (hQ : ∀ r' H' κ' a' w', k .normal r' H' = some y → Conf Γ base sz n κ' H' w' r' a' → Grow κ0 Hs w0 κ' H' w' → Q .normal a' w') : (Code.region id ops true).wpIn (wideR ro) 0 Γ.P Q a w := by
  unfold compDraw1 at he
  split at he
  · rename_i hal hps
    simp only [evK_skip, evK_ops, evK_draw, evK_seq, evK_cond, evK_block, evK_loop, evK_rangeFunc, evK_exit, evK_ret] at he
    obtain ⟨T, r', h', g1, g2⟩ := evOps_run he
    have hnil : ((compOpers Γ.P mu n ops.toList ops.toList).map (hb bx)).filterMap isAl = [] := by
      have := mkAl_fst (all := (compOpers Γ.P mu n ops.toList ops.toList).map (hb bx)) (l := (compOpers Γ.P mu n ops.toList ops.toList).map (hb bx)) (i := 0)
      rw [hal] at this
      exact List.map_eq_nil_iff.1 this.symm
    have none : ∀ (j : Nat) (v : VOper) (x : Nat × AlK), ((compOpers Γ.P mu n ops.toList ops.toList).map (hb bx))[j]? = some v → isAl v = some x → False := fun j v x hj hv => by
      have := filterMap_at hj hv
      rw [hnil] at this
      simp at this
    refine draw_sound hE hm ro (T := T) (r2 := r') (h2 := h') (al := []) hok (by rw [hnil]; rfl) (fun j v t z hj hv => (none j v _ hj hv).elim) (fun j v t x e hj hv => (none j v _ hj hv).elim) ?_ ?_ hcf hg fun κ' a' w' c1 c2 => hQ r' h' κ' a' w' g2 c1 c2
    · rw [filterMap_nil hnil]
      simpa [hoistR] using g1
    · intro i j oi ei ej hp
      rw [hps] at hp; cases hp
  · simp only [evK_skip, evK_ops, evK_draw, evK_seq, evK_cond, evK_block, evK_loop, evK_rangeFunc, evK_exit, evK_ret] at he
    obtain ⟨al, zs, he, hf, hheld⟩ := conts_inv he
    rw [hoist_eq] at he
    obtain ⟨T, r', h', g1, g2⟩ := evDraw_run he
    obtain ⟨g2, g3⟩ := checkPairs_inv g2
    obtain ⟨g2, g4⟩ := checkBox_inv g2
    refine draw_sound hE hm ro (T := T) (r2 := r') (h2 := h') hok (hf.trans mkAl_fst) ?_ ?_ g1 ?_ hcf hg fun κ' a' w' c1 c2 => hQ r' h' κ' a' w' g2 c1 c2
    · intro j v t z hj hv
      obtain ⟨c, q1, q2⟩ := hheld _ t _ (mkAl_at hj hv)
      have : c = z := q2
      rw [this] at q1
      exact q1
    · intro j v t x e hj hv hT
      obtain ⟨c, q1, q2⟩ := hheld _ t _ (mkAl_at hj hv)
      obtain ⟨p, q3, q4⟩ := q2
      rw [Nat.zero_add] at q3
      obtain ⟨m, q5⟩ := g4 j p q3
      have hidl : idled v = ⟨none, none, .idleX x⟩ := by simp [idled, hv]
      have hoi : (((compOpers Γ.P mu n ops.toList ops.toList).map (hb bx)).map idled)[j]? = some ⟨none, none, .idleX x⟩ := by rw [List.getElem?_map, hj, ← hidl]; rfl
      have hdid : e.did = true := by
        rcases g1.at hoi hT with ⟨h, _, _⟩ | ⟨_, h, _, _⟩
        · exact h
        · cases h
      have f1 := loadsOf_find (i := 0) (acc := []) hoi hT hdid (x := (x.ev e.rb, none)) rfl
      rw [Nat.zero_add, q5] at f1
      injection f1 with f1; injection f1 with f1 _
      exact ⟨p, c, f1.symm, q4, q1⟩
    · intro i j oi ei ej hp hoi hei hdi hej hdj p m hl
      have f1 := loadsOf_find (i := 0) (acc := []) hoi hei hdi hl
      have f2 := effsOf_find (pairs := mkPairs env.md ((compOpers Γ.P mu n ops.toList ops.toList).map (hb bx)) (predsOf (ops.toList.map depsOf) [])) (i := 0) (acc := []) hej hdj (by rw [Nat.zero_add]; exact hasSnd_mem hp)
      rw [Nat.zero_add] at f1 f2
      exact g3 i j p m ej.hb ej.ha hp f1 f2
/-- A region that draws its order, as it was compiled. -/
theorem compDraw_sound (hE : OrcOK Γ E) (hm : Γ.P.follows .mixedOrders = true) (ro : Option Nat) {base sz : Nat} {κ0 κ : K} {Hs H : Heap} {w0 w : World} {r : Regs} {a : Act} {id : Nat} {k : Ex → Regs → Heap → Option R} {y : R} {Q : Exit → Act → World → Prop}
    (he : evK env E (compDraw env.md (compOpers Γ.P mu n ops.toList ops.toList) (ops.toList.map depsOf)) R r H k = some y) (hcf : Conf Γ base sz n κ H w r a) (hg : Grow κ0 Hs w0 κ H w)
    (hQ : ∀ r' H' κ' a' w', k .normal r' H' = some y → Conf Γ base sz n κ' H' w' r' a' → Grow κ0 Hs w0 κ' H' w' → Q .normal a' w') : (Code.region id ops true).wpIn (wideR ro) 0 Γ.P Q a w := by
  unfold compDraw at he
  simp only at he
  cases hok : drawOK env.md (compOpers Γ.P mu n ops.toList ops.toList) (ops.toList.map depsOf) (predsOf (ops.toList.map depsOf) []) (mkPairs env.md (compOpers Γ.P mu n ops.toList ops.toList) (predsOf (ops.toList.map depsOf) [])) with
  | true =>
    rw [hok] at he
    simp only [cond_true] at he
    rw [← map_hb_false (vs := compOpers Γ.P mu n ops.toList ops.toList)] at he hok
    exact compDraw1_sound hE hm ro false hok he hcf hg hQ
  | false =>
    rw [hok] at he
    simp only [cond_false] at he
    have hbt : (hboxed : VOper → VOper) = hb true := rfl
    rw [hbt] at he
    cases hok2 : drawOK env.md ((compOpers Γ.P mu n ops.toList ops.toList).map (hb true)) (ops.toList.map depsOf) (predsOf (ops.toList.map depsOf) []) (mkPairs env.md ((compOpers Γ.P mu n ops.toList ops.toList).map (hb true)) (predsOf (ops.toList.map depsOf) [])) with
    | true =>
      rw [hok2] at he
      simp only [cond_true] at he
      exact compDraw1_sound hE hm ro true hok2 he hcf hg hQ
    | false =>
      rw [hok2] at he
      simp only [cond_false, evK_skip, evK_ops, evK_draw, evK_seq, evK_cond, evK_block, evK_loop, evK_rangeFunc, evK_exit, evK_ret, evOps_nil, evOps_cons, wantedV, cond_true, operK, opK] at he
      cases he
end
end Go.VM

namespace Go.VM
open Go

def exOf : Ex → Exit
  | .normal => .normal
  | .exit id => .exit id
  | .ret => .ret

theorem least {p : Nat → Prop} (h : ∃ n, p n) : ∃ n, p n ∧ ∀ m, p m → n ≤ m := by
  obtain ⟨n, hn⟩ := h
  induction n using Nat.strongRecOn with
  | _ n ih =>
    by_cases hl : ∃ m, m < n ∧ p m
    · obtain ⟨m, h1, h2⟩ := hl; exact ih m h1 h2
    · exact ⟨n, hn, fun m hm => by
        rcases Nat.lt_or_ge m n with h | h
        · exact absurd ⟨m, h, hm⟩ hl
        · exact h⟩

theorem wpIn_loopN {F : Fence} {n : Nat} {P : Program} {Q : Exit → Act → World → Prop} {a : Act} {w : World} {c : Code} (J : Nat → Act → World → Prop) (h0 : ∃ m, J m a w) (hz : ∀ a w, ¬ J 0 a w)
    (round : ∀ m a w, J (m + 1) a w → c.wpIn F n P (Exit.then (J m) Q) a w) : (Code.loop c).wpIn F n P Q a w := by
  classical
  refine wpIn_loop (fun a w => ∃ m, J m a w) (fun a w => if h : ∃ m, J m a w then (least h).choose else 0) h0 fun a w hI => ?_
  have hs := (least hI).choose_spec
  simp only [dif_pos hI]
  generalize (least hI).choose = m at hs ⊢
  cases m with
  | zero => exact absurd hs.1 (hz a w)
  | succ m =>
    refine wpIn_mono (round m a w hs.1) fun e a' w' hq => ?_
    cases e with
    | normal =>
      have hI' : ∃ m, J m a' w' := ⟨m, hq⟩
      refine ⟨hI', ?_⟩
      simp only [dif_pos hI']
      exact Nat.lt_succ_of_le ((least hI').choose_spec.2 m hq)
    | _ => exact hq

section
variable {Γ : Ctx} {base : Nat} {κ : K} {H : Heap} {w : World}

/-- A loop's record turns. -/
theorem SRel.loopTurn (h : SRel Γ base κ H w) {id l : Nat} {lo : VLoop} {L L' : Loop} {o : HObj} (hl : κ.loc id = some l) (hg : hget H id = .loop lo) (hL : w.heap[l]? = some (.loop L)) (ho : o = .dead ∨ ∃ lo', o = .loop lo' ∧ LoopRel Γ κ lo' L') :
    SRel Γ base κ (hset H id o) (w.putObj l (.loop L')) ∧ Grow κ H w κ (hset H id o) (w.putObj l (.loop L')) := by
  have hlt : l < w.heap.size := (Array.getElem?_eq_some_iff.1 hL).1
  refine h.turnOne id o l l ⟨rfl, rfl, rfl, by simp⟩ κ.le_refl (by rw [hg]; exact hl) rfl (fun _ _ => rfl) (fun k _ hne => World.putObj_heap_other hne) (fun a v hv => ?_) (fun k hk => ?_) (.inl rfl) ?_
  · have hne : a.block ≠ l := fun e => by
      have hc := h.imm a v hv
      unfold World.cell? at hc
      rw [e, hL] at hc
      simp at hc
    exact ⟨(World.cell?_of_block (World.putObj_heap_other hne)).trans (h.imm a v hv), .inl hv⟩
  · rcases ho with rfl | ⟨lo', rfl, _⟩
    · cases hk
    · simp only [place] at hk; rw [hl] at hk; exact (Option.some.inj hk).symm
  · rcases ho with rfl | ⟨lo', rfl, hr⟩
    · trivial
    · exact ⟨L', World.putObj_heap_same hlt, hr⟩
end

theorem some_bind {α β : Type} {x : Option α} {F : α → Option β} {y : β} (h : x.bind F = some y) : ∃ p, x = some p ∧ F p = some y := by
  cases x with
  | none => cases h
  | some p => exact ⟨p, rfl, h⟩
theorem all_blt {l : List Nat} {n : Nat} (h : l.all (fun t => Nat.blt t n) = true) : ∀ t ∈ l, t < n := fun t ht => blt_lt (List.all_eq_true.1 h t ht)

section
variable {P : Program} {b : Frame} {a : Act} {k : List Item} {cs : List Frame} {w : World} {F : Fence} {n : Nat} {Q : Exit → Act → World → Prop}
theorem stepR_scope {c : Code} : step P (lone (b.atR a (.code (.scope c) :: k)) cs w) = .next (lone (b.atR a (.code c :: .inScope c :: k)) cs w) :=
  step_lone_go (by simp [stepG, stepG.exec, Frame.atR])
theorem stepR_inScope {c : Code} : step P (lone (b.atR a (.inScope c :: k)) cs w) = .next (lone (b.atR a k) cs w) :=
  step_lone_go (by simp [stepG, stepG.exec, Frame.atR])
theorem wpIn_scope {c : Code} (h : c.wpIn F n P (Exit.noGoto Q) a w) : (Code.scope c).wpIn F n P Q a w := by
  intro b k cs hro hb hr
  have h0 : (lone (b.atR a (.code (.scope c) :: k)) cs w).fenced P F := fenced_calm hb hr rfl
  obtain ⟨e, a₁, w₁, hq, harr⟩ := h b (.inScope c :: k) cs hro hb hr
  cases e with
  | normal => exact ⟨.normal, a₁, w₁, hq, .head h0 stepR_scope (StepsIn.trans harr (.one (fenced_calm hb hr rfl) stepR_inScope))⟩
  | exit id =>
    have hx : exitTo id (.inScope c :: k) = exitTo id k := by simp [exitTo]
    exact ⟨.exit id, a₁, w₁, hq, fun k' hk => .head h0 stepR_scope (harr.1 k' (by rw [hx]; exact hk)),
      fun hr' hk => let ⟨k₁, h1, h2⟩ := harr.2 hr' (by rw [hx]; exact hk); ⟨k₁, h1, .head h0 stepR_scope h2⟩⟩
  | goto l => exact hq.elim
  | ret => exact ⟨_, a₁, w₁, hq, .of_steps (.one h0 stepR_scope) harr⟩
  | panic ch => exact ⟨_, a₁, w₁, hq, .of_steps (.one h0 stepR_scope) harr⟩
  | outgrown => exact ⟨_, a₁, w₁, hq, .of_steps (.one h0 stepR_scope) harr⟩
end

section
variable {Γ : Ctx} {env : Env} {E : Orc} {mu : Nat → Mu} {n : Nat}

theorem evOps_bad {R : Type} {r : Regs} {H : Heap} {k : Ex → Regs → Heap → Option R} {y : R} (he : evK env E (.ops [⟨none, none, .bad⟩]) R r H k = some y) : False := by
  simp only [evK_skip, evK_ops, evK_draw, evK_seq, evK_cond, evK_block, evK_loop, evK_rangeFunc, evK_exit, evK_ret, evOps_nil, evOps_cons, wantedV, cond_true, operK, opK] at he
  cases he

theorem code_sound (hE : OrcOK Γ E) (hm : Γ.P.follows .mixedOrders = true) (hmd : env.md = Γ.md) {base sz : Nat} : ∀ (c : Code) (top : Bool) (ro : Option Nat), (top = true → ro = none) → ∀ {R : Type} {κ0 κ : K} {Hs H : Heap} {w0 w : World} {r : Regs} {a : Act} {k : Ex → Regs → Heap → Option R} {y : R} {Q : Exit → Act → World → Prop},
    evK env E (compCode Γ.P Γ.md mu top n c) R r H k = some y → Conf Γ base sz n κ H w r a → Grow κ0 Hs w0 κ H w → sz ≤ w0.heap.size →
    (∀ e r' H' κ' a' w', k e r' H' = some y → Conf Γ base sz n κ' H' w' r' a' → Grow κ0 Hs w0 κ' H' w' → Q (exOf e) a' w') → c.wpIn (wideR ro) 0 Γ.P Q a w := by
  intro c
  induction c with
  | skip =>
    intro top ro htop R κ0 κ Hs H w0 w r a k y Q he hcf hg hsz hQ
    exact wpIn_skip (hQ .normal r H κ a w he hcf hg)
  | region id ops draw =>
    intro top ro htop R κ0 κ Hs H w0 w r a k y Q he hcf hg hsz hQ
    cases draw with
    | false =>
      simp only [compCode, cond_false, evK_skip, evK_ops, evK_draw, evK_seq, evK_cond, evK_block, evK_loop, evK_rangeFunc, evK_exit, evK_ret] at he
      refine wpIn_region ?_
      rw [List.range_eq_range']
      have := ops_sound hE ro (Q := Q) (ops := ops) (mu := mu) (l := ops.toList) 0 rfl r H a w κ hcf hg he fun r' H' κ' a' w' h1 h2 h3 => hQ .normal r' H' κ' a' w' h1 h2 h3
      simpa using this
    | true =>
      simp only [compCode, cond_true] at he
      rw [← hmd] at he
      exact compDraw_sound hE hm ro he hcf hg fun r' H' κ' a' w' h1 h2 h3 => hQ .normal r' H' κ' a' w' h1 h2 h3
  | seq x y ihx ihy =>
    intro top ro htop R κ0 κ Hs H w0 w r a k y' Q he hcf hg hsz hQ
    simp only [compCode, evK_skip, evK_ops, evK_draw, evK_seq, evK_cond, evK_block, evK_loop, evK_rangeFunc, evK_exit, evK_ret] at he
    refine wpIn_seq (ihx top ro htop he hcf hg hsz fun e r' H' κ' a' w' h1 h2 h3 => ?_)
    cases e with
    | normal => exact ihy top ro htop h1 h2 h3 hsz hQ
    | exit id => exact hQ (.exit id) r' H' κ' a' w' h1 h2 h3
    | ret => exact hQ .ret r' H' κ' a' w' h1 h2 h3
  | cond c x y ihx ihy =>
    intro top ro htop R κ0 κ Hs H w0 w r a k y' Q he hcf hg hsz hQ
    simp only [compCode] at he
    split at he
    · rename_i c' hc
      simp only [evK_skip, evK_ops, evK_draw, evK_seq, evK_cond, evK_block, evK_loop, evK_rangeFunc, evK_exit, evK_ret] at he
      have hv := opd_rel hcf.regs hc
      split at he
      · rename_i b hb
        rw [hb] at hv
        refine wpIn_cond (bool_rel hv) ?_
        cases b with
        | true => exact ihx top ro htop he hcf hg hsz hQ
        | false => exact ihy top ro htop he hcf hg hsz hQ
      · cases he
    · exact (evOps_bad he).elim
  | block id c ih =>
    intro top ro htop R κ0 κ Hs H w0 w r a k y Q he hcf hg hsz hQ
    simp only [compCode, evK_skip, evK_ops, evK_draw, evK_seq, evK_cond, evK_block, evK_loop, evK_rangeFunc, evK_exit, evK_ret] at he
    refine wpIn_block (ih top ro htop he hcf hg hsz fun e r' H' κ' a' w' h1 h2 h3 => ?_)
    cases e with
    | normal => exact hQ .normal r' H' κ' a' w' h1 h2 h3
    | ret => exact hQ .ret r' H' κ' a' w' h1 h2 h3
    | exit j =>
      simp only [exOf, Exit.inBlock]
      simp only at h1
      cases hb : Nat.beq j id with
      | true =>
        rw [hb] at h1
        rw [if_pos (Nat.eq_of_beq_eq_true hb)]
        exact hQ .normal r' H' κ' a' w' h1 h2 h3
      | false =>
        rw [hb] at h1
        rw [if_neg (fun e => by subst e; simp at hb)]
        exact hQ (.exit j) r' H' κ' a' w' h1 h2 h3
  | loop c ih =>
    intro top ro htop R κ0 κ Hs H w0 w r a k y Q he hcf hg hsz hQ
    simp only [compCode, evK_skip, evK_ops, evK_draw, evK_seq, evK_cond, evK_block, evK_loop, evK_rangeFunc, evK_exit, evK_ret, loopK_def] at he
    cases hi : iterE (fun r h => evK env E (compCode Γ.P Γ.md mu top n c) Res r h fun e r h => some (e, r, h)) r H with
    | none => rw [hi] at he; cases he
    | some x =>
      rw [hi] at he; simp only [Option.bind_some] at he
      obtain ⟨e, r', H'⟩ := x
      obtain ⟨m, hm⟩ := lim_some hi
      refine wpIn_loopN (fun m a w => ∃ κ r H, iterN m (fun r h => evK env E (compCode Γ.P Γ.md mu top n c) Res r h fun e r h => some (e, r, h)) r H = some (e, r', H') ∧ Conf Γ base sz n κ H w r a ∧ Grow κ0 Hs w0 κ H w)
        ⟨m, κ, r, H, hm, hcf, hg⟩ (fun a w ⟨_, _, _, h, _⟩ => by cases h) fun m a1 w1 ⟨κ1, r1, H1, h1, h2, h3⟩ => ?_
      simp only [iterN] at h1
      obtain ⟨x, h4, h5⟩ := some_bind h1
      refine ih top ro htop h4 h2 h3 hsz fun e2 r2 H2 κ2 a2 w2 h6 h7 h8 => ?_
      injection h6 with h6
      subst h6
      cases e2 with
      | normal => exact ⟨κ2, r2, H2, h5, h7, h8⟩
      | exit id =>
        injection h5 with h5; injection h5 with e1 h5; injection h5 with e2 e3
        subst e1; subst e2; subst e3
        exact hQ (.exit id) _ _ κ2 a2 w2 he h7 h8
      | ret =>
        injection h5 with h5; injection h5 with e1 h5; injection h5 with e2 e3
        subst e1; subst e2; subst e3
        exact hQ .ret _ _ κ2 a2 w2 he h7 h8
  | rangeFunc f ps asg bo =>
    intro top ro htop R κ0 κ Hs H w0 w r a k y Q he hcf hg hsz hQ
    simp only [compCode] at he
    split at he
    · rename_i f' hf
      cases hb : (top && ps.toList.all fun t => Nat.blt t n) with
      | false => rw [hb] at he; exact (evOps_bad he).elim
      | true =>
        rw [hb] at he
        simp only [cond_true, evK_skip, evK_ops, evK_draw, evK_seq, evK_cond, evK_block, evK_loop, evK_rangeFunc, evK_exit, evK_ret] at he
        rw [Bool.and_eq_true] at hb
        have hro := htop hb.1
        subst hro
        have hfv := opd_rel hcf.regs hf
        have fin : ∀ (g : FuncId) (as bs : List AV) (va vb : List Value), a.eval f = .func (.func g) va.toArray vb.toArray → VRels κ as va → VRels κ bs vb →
            callSK E (.fn g) (as ++ .yield H.length :: bs) (H ++ [.loop ⟨.ready, r, ps.toList, compCode Γ.P Γ.md mu false n asg, compCode Γ.P Γ.md mu false n bo⟩]) (fun _ h2 =>
              hgetK h2 H.length fun o => match o with
              | .loop lo => match lo.state with
                | .ready => k .normal r (hset h2 H.length .dead)
                | .done e => k e r (hset h2 H.length .dead)
                | .busy => none
              | _ => none) = some y → (Code.rangeFunc f ps asg bo).wpIn (wideR none) 0 Γ.P Q a w := by
          intro g as bs va vb hfe ha hb2 hcall
          obtain ⟨v, H2, hE1, hE2⟩ := callSK_inv hcall
          refine wpIn_rangeFunc fun fn _ => ?_
          obtain ⟨L, hL⟩ : ∃ L : Loop, L = { state := .ready, pending := none, fn := fn, tmps := a.tmps, params := ps, assign := asg, body := bo, defers := w.heap.size } := ⟨_, rfl⟩
          obtain ⟨s1, g1⟩ := hcf.srel.allocOther (.deferred (some []))
          have hfr := hcf.srel.fresh H.length (Nat.le_refl _)
          have hle := κ.le_at (k := w.heap.size + 1) hfr.1
          have hsz1 : (w.alloc (.deferred (some []))).heap.size = w.heap.size + 1 := by simp
          have hlr : LoopRel Γ (κ.at H.length (w.heap.size + 1)) ⟨.ready, r, ps.toList, compCode Γ.P Γ.md mu false n asg, compCode Γ.P Γ.md mu false n bo⟩ L := by
            subst hL
            exact ⟨⟨rfl, rfl⟩, hcf.regs.mono hle, rfl, fun t ht => Nat.lt_of_lt_of_le (all_blt hb.2 t ht) hcf.size, mu, n, hcf.size, rfl, rfl⟩
          obtain ⟨s2, g2⟩ := s1.turnNew (κ' := κ.at H.length (w.heap.size + 1)) (.loop ⟨.ready, r, ps.toList, compCode Γ.P Γ.md mu false n asg, compCode Γ.P Γ.md mu false n bo⟩) (w.heap.size + 1) (Same.alloc _ (.loop L)) hle (fun i hi => by simp [K.at, hi]) (fun _ _ => rfl)
            (fun k hk => heap_alloc_old _ _ k hk) (fun _ _ h => .inl h) (by simp [place, K.at]) (by rw [hsz1]; exact Nat.le_refl _) ⟨L, by
              have := heap_alloc_new (w.alloc (.deferred (some []))) (.loop L)
              rwa [hsz1] at this, hlr⟩
          have g12 := g1.trans g2
          have hargs : VRels (κ.at H.length (w.heap.size + 1)) (as ++ .yield H.length :: bs) (va ++ Value.func (.yield (w.heap.size + 1)) #[] #[] :: vb) :=
            (ha.mono hle).append (.cons _ _ _ _ (.yield _ _ (K.at_same _ _ _)) (hb2.mono hle))
          have hfn := hE.ok _ _ _ _ _ hE1
          have hD : ((w.alloc (.deferred (some []))).alloc (.loop L)).heap[w.heap.size]? = some (.deferred (some [])) := by
            rw [heap_alloc_old _ _ _ (by rw [hsz1]; omega)]; exact heap_alloc_new w _
          have hmk : Marks sz (κ.at H.length (w.heap.size + 1)) (H ++ [.loop ⟨.ready, r, ps.toList, compCode Γ.P Γ.md mu false n asg, compCode Γ.P Γ.md mu false n bo⟩]) ((w.alloc (.deferred (some []))).alloc (.loop L)) ({ target := .collected w.heap.size, args := #[] } :: a.defers) := by
            refine .cons w.heap.size a.defers (Nat.le_trans hsz hg.size) hD (fun id hp => ?_) (fun d hd e => ?_) (hcf.marks.grow g12)
            · have hlt := place_lt hcf.srel (id := id) (k := w.heap.size)
              by_cases hid : id = H.length
              · rw [hid, hget_append_same] at hp
                simp [place, K.at] at hp
              · have e : place (κ.at H.length (w.heap.size + 1)) id (hget (H ++ [.loop ⟨.ready, r, ps.toList, compCode Γ.P Γ.md mu false n asg, compCode Γ.P Γ.md mu false n bo⟩]) id) = place κ id (hget (H ++ [.loop ⟨.ready, r, ps.toList, compCode Γ.P Γ.md mu false n asg, compCode Γ.P Γ.md mu false n bo⟩]) id) := by
                  cases hget (H ++ [.loop ⟨.ready, r, ps.toList, compCode Γ.P Γ.md mu false n asg, compCode Γ.P Γ.md mu false n bo⟩]) id <;> simp [place, K.at, hid]
                rw [e] at hp
                rcases Nat.lt_or_ge id H.length with h | h
                · rw [hget_append_lt h] at hp
                  have := hlt hp; omega
                · rw [hget_ge (by simp; omega)] at hp; cases hp
            · have : ∀ {ds : List Deferred}, Marks sz κ H w ds → ∀ d ∈ ds, d.target ≠ .collected w.heap.size := by
                intro ds hds
                induction hds with
                | nil => intro d hd; cases hd
                | cons D ds _ h2 _ _ _ ih =>
                  intro d hd e
                  rcases List.mem_cons.1 hd with h | h
                  · subst h
                    injection e with e
                    have := (Array.getElem?_eq_some_iff.1 h2).1
                    omega
                  · exact ih d h e
              exact this hcf.marks d hd e
          refine ⟨w.heap.size + 1, [{ target := .collected w.heap.size, args := #[] }], (w.alloc (.deferred (some []))).alloc (.loop L), { target := .fn (.func g) vb.toArray, args := va.toArray ++ #[Value.func (.yield (w.heap.size + 1)) #[] #[]] },
            (w.alloc (.deferred (some []))).alloc (.loop L), g, (va ++ Value.func (.yield (w.heap.size + 1)) #[] #[] :: vb).toArray, (w.alloc (.deferred (some []))).alloc (.loop L), ?_, ?_, fun _ _ => trivial, ?_, fun hd => (by cases hd), ?_⟩
          · rw [hL]; exact run_enterLoop_outer fn a.tmps ps asg bo
          · rw [resolve_func (x := f) hfe]; simp [Act.eval]
          · rw [invoke_func _ _ hfn]
            congr 2
            apply Array.ext'; simp
          · refine (hE.fn _ _ _ _ _ hE1 base _ _ _ s2 hargs).mono fun e w3 hout => ?_
            cases e with
            | panicked _ => exact hout.elim
            | outgrown => exact hout.elim
            | returned u =>
              obtain ⟨κ3, _, s3, g3⟩ := hout
              have hl3 : κ3.loc H.length = some (w.heap.size + 1) := g3.le.loc _ _ (K.at_same _ _ _)
              rw [hgetK_def] at hE2
              cases ho : hget H2 H.length with
              | loop lo =>
                rw [ho] at hE2; simp only at hE2
                obtain ⟨_, hob⟩ := s3.obj H.length (w.heap.size + 1) (by rw [ho]; exact hl3)
                rw [ho] at hob
                obtain ⟨L3, hL3, hr3⟩ := hob
                obtain ⟨s4, g4⟩ := s3.loopTurn (L' := { L3 with state := .exhausted }) (o := .dead) hl3 ho hL3 (.inl rfl)
                have hendL := fun hb => run_endLoop (P := Γ.P) hL3 hb
                generalize w3.putObj (w.heap.size + 1) (.loop { L3 with state := .exhausted }) = w4 at s4 g4 hendL
                have gall := (g12.trans g3).trans g4
                have hcf' : Conf Γ base sz n κ3 (hset H2 H.length .dead) w4 r { a with defers := [{ target := .collected w.heap.size, args := #[] }] ++ a.defers } :=
                  ⟨s4, hcf.regs.mono gall.le, hcf.size, hmk.grow (g3.trans g4)⟩
                have hst := hr3.state
                cases hls : lo.state with
                | ready =>
                  rw [hls] at hE2 hst; simp only at hE2
                  obtain ⟨t1, t2⟩ := hst
                  refine ⟨none, _, ?_, hQ .normal r _ κ3 _ _ hE2 hcf' (hg.trans gall)⟩
                  rw [hendL (by rw [t1]; simp), t2]
                | busy => rw [hls] at hE2; cases hE2
                | done e =>
                  rw [hls] at hE2 hst; simp only at hE2
                  obtain ⟨t1, t2, t3⟩ := hst
                  have hend := hendL (by rw [t1]; simp)
                  rw [t2] at hend
                  cases e with
                  | normal => exact absurd rfl t3
                  | exit id => exact ⟨_, _, hend, wpIn_exit (hQ (.exit id) r _ κ3 _ _ hE2 hcf' (hg.trans gall))⟩
                  | ret => exact ⟨_, _, hend, wpIn_ret (hQ .ret r _ κ3 _ _ hE2 hcf' (hg.trans gall))⟩
              | _ => rw [ho] at hE2; cases hE2
        split at he
        · rename_i g as bs hfm
          rw [hfm] at hfv
          generalize hx : a.eval f = vf at hfv
          cases hfv with
          | pv _ _ hfv => cases hfv with
            | fn _ _ _ va vb h1 h2 => exact fin g _ _ va vb hx (VRels.of_pv h1) (VRels.of_pv h2) he
        · rename_i g as bs hfm
          rw [hfm] at hfv
          generalize hx : a.eval f = vf at hfv
          cases hfv with
          | fn _ _ _ va vb h1 h2 => exact fin g _ _ va vb hx h1 h2 he
        · cases he
    · exact (evOps_bad he).elim
  | scope c ih =>
    intro top ro htop R κ0 κ Hs H w0 w r a k y Q he hcf hg hsz hQ
    simp only [compCode] at he
    refine wpIn_scope (ih top ro htop he hcf hg hsz fun e r' H' κ' a' w' h1 h2 h3 => ?_)
    cases e with
    | normal => exact hQ .normal r' H' κ' a' w' h1 h2 h3
    | ret => exact hQ .ret r' H' κ' a' w' h1 h2 h3
    | exit j => exact hQ (.exit j) r' H' κ' a' w' h1 h2 h3
  | label l =>
    intro top ro htop R κ0 κ Hs H w0 w r a k y Q he hcf hg hsz hQ
    exact wpIn_label (hQ .normal r H κ a w he hcf hg)
  | exit id =>
    intro top ro htop R κ0 κ Hs H w0 w r a k y Q he hcf hg hsz hQ
    exact wpIn_exit (hQ (.exit id) r H κ a w he hcf hg)
  | ret =>
    intro top ro htop R κ0 κ Hs H w0 w r a k y Q he hcf hg hsz hQ
    exact wpIn_ret (hQ .ret r H κ a w he hcf hg)
  | _ =>
    intro top ro htop R κ0 κ Hs H w0 w r a k y Q he hcf hg hsz hQ
    exact (evOps_bad he).elim
end
end Go.VM
