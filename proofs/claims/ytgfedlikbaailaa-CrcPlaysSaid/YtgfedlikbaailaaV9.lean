/-
  Part 9 of an abstract machine that answers as the model does.
  Functions and rounds: the abstract machine's calls are the model's.
  Rounds; the oracle that the abstract machine's own calls make.
  The least oracle: what the code answers under it, it answers.
  Arguments of plain data, as the abstract machine's values.
  From the abstract machine's answer to a law's statement.
  A law's statement, from the abstract machine's answer.
  Stepping through the abstract machine's evaluation: an answer that has a property.
  Bytes and whole numbers of some bits; arguments that are bytes.
-/
import Derived.Test.YtgfedlikbaailaaV8
import Derived.ProofKit
set_option linter.all false
set_option linter.unusedVariables false
set_option linter.unusedSimpArgs false
set_option linter.unusedSectionVars false
namespace Go.VM
open Go

section
variable {Γ : Ctx}

/-- What was compiled of a function. -/
def FnComp (Γ : Ctx) (f : FuncId) (vf : VFunc) : Prop :=
  ∃ fn c mu, Γ.P.funcs[f]? = some fn ∧ fn.body = some c ∧ (fn.name == "runtime.NumGoroutine") = false ∧ vf.code = compCode Γ.P Γ.md mu true fn.ntmps c ∧ compRess Γ.P fn.results.toList = some vf.results

structure EnvOK (Γ : Ctx) (env : Env) : Prop where
  md : env.md = Γ.md
  mixed : Γ.P.follows .mixedOrders = true
  ft : ∀ f vf, env.ft f = some vf → FnComp Γ f vf
  pr : ∀ f g, env.pr f = some g → FnOK Γ.P f ∧ ∀ ps p, g ps = some p → ∀ base κ H w vs, SRel Γ base κ H w → PRels κ.imm ps vs → CallsIn Fence.wide 0 Γ.P f vs.toArray w (Out Γ base κ H w (.pv p) H)

theorem SRel.shut {base : Nat} {κ : K} {H : Heap} {w : World} (h : SRel Γ base κ H w) {D : Nat} {ds : Option (List Deferred)} (hD : w.heap[D]? = some (.deferred ds)) (hn : ∀ id, place κ id (hget H id) ≠ some D) (ds' : Option (List Deferred)) : SRel Γ base κ H (w.putObj D (.deferred ds')) := by
  refine ⟨fun a v hv => ?_, fun id k hk => ?_, h.inj, h.fresh, by simpa using h.base, h.gv, fun a ha => ⟨(h.gn a ha).1, ?_⟩⟩
  · have hne : a.block ≠ D := fun e => by
      have hc := h.imm a v hv
      unfold World.cell? at hc
      rw [e, hD] at hc
      simp at hc
    exact (World.cell?_of_block (World.putObj_heap_other hne)).trans (h.imm a v hv)
  · have hne : k ≠ D := fun e => hn id (by rw [← e]; exact hk)
    obtain ⟨g1, g2⟩ := h.obj id k hk
    exact ⟨g1, g2.mono κ.le_refl (World.putObj_heap_other hne) (fun _ _ => rfl) (fun _ => rfl)⟩
  · obtain ⟨_, g2⟩ := h.gn a ha
    by_cases e : a.block = D
    · unfold World.cell?
      have hlt : D < w.heap.size := by
        rcases Nat.lt_or_ge D w.heap.size with h' | h'
        · exact h'
        · rw [Array.getElem?_eq_none h'] at hD; cases hD
      rw [e, World.putObj_heap_same hlt]
    · exact (World.cell?_of_block (World.putObj_heap_other e)).trans g2

theorem Grow.shut {κ0 κ : K} {H0 H : Heap} {w0 w : World} (g : Grow κ0 H0 w0 κ H w) {D : Nat} (hD : w0.heap.size ≤ D) (o : Obj) : Grow κ0 H0 w0 κ H (w.putObj D o) :=
  ⟨g.le, by simpa using g.size, g.len, g.os, g.tape, g.output, fun k hk hn => by rw [World.putObj_heap_other (by omega)]; exact g.frame k hk hn, g.places, g.imm, g.idle⟩

theorem Marks.shut {sz : Nat} {κ : K} {H : Heap} {w : World} {ds : List Deferred} (h : Marks sz κ H w ds) {D : Nat} (hne : ∀ d ∈ ds, d.target ≠ .collected D) (o : Obj) : Marks sz κ H (w.putObj D o) ds := by
  induction h with
  | nil => exact .nil
  | cons D' ds h1 h2 h3 h4 _ ih =>
    have : D' ≠ D := fun e => hne _ (List.mem_cons_self ..) (by rw [e])
    exact .cons D' ds h1 (by rw [World.putObj_heap_other this]; exact h2) h3 h4 (ih fun d hd => hne d (List.mem_cons_of_mem _ hd))

theorem marks_leave {base sz : Nat} {κ0 κ : K} {H0 H : Heap} {w0 : World} {fn : Func} {tmps : Array Value} {R : Ending → World → Prop} (hsz : w0.heap.size ≤ sz)
    (hend : ∀ w', SRel Γ base κ H w' → Grow κ0 H0 w0 κ H w' → ∃ v, (results fn tmps).run Γ.P w' = .ok v w' ∧ R (.returned v) w') :
    ∀ {ds : List Deferred} {w : World}, Marks sz κ H w ds → SRel Γ base κ H w → Grow κ0 H0 w0 κ H w → LeavesInM Fence.wide 0 Γ.P fn tmps R ds .returning w := by
  intro ds
  induction ds with
  | nil =>
    intro w _ hs hg
    obtain ⟨v, h1, h2⟩ := hend w hs hg
    exact ⟨v, h1, h2⟩
  | cons d ds ih =>
    intro w hm hs hg
    cases hm with
    | cons D _ h1 h2 h3 h4 h5 =>
      refine ⟨by simp, .inl ⟨D, _, rfl, run_takeDeferred h2, ?_⟩⟩
      exact ih (h5.shut h4 _) (hs.shut h2 h3 _) (hg.shut (Nat.le_trans hsz h1) _)

/-- The values that a function hands back. -/
def fin {R : Type} (l : List AV) (F : AV → Option R) : Option R := match l with
  | [v] => F v
  | l => F (mkTup l)

theorem asAddr_of {p : AV} {v : Value} {κ : K} (h : VRel κ p v) (hp : (∃ id off, p = .ptr id off) ∨ (∃ cs off, p = .rptr cs off) ∨ ∃ id n off, p = .gptr id n off) : ∃ a, v = .pointer (some a) := by
  rcases hp with ⟨id, off, rfl⟩ | ⟨cs, off, rfl⟩ | ⟨id, n, off, rfl⟩
  · exact ptr_val h
  · exact rptr_val h
  · cases h with | gptr => exact ⟨_, rfl⟩

/-- One of the values that a function hands back. -/
def resVal (tmps : Array Value) : ResultVar → Sem Value
  | .tmp t => pure (tmps.getD t undef)
  | .cell a t => do loadVar t (← asAddr (tmps.getD a undef))
theorem results_eq (fn : Func) (tmps : Array Value) : results fn tmps = (do let vs ← fn.results.mapM (resVal tmps); pure (if h : vs.size = 1 then vs[0] else .tuple vs)) := by
  unfold results
  congr 1

theorem results_list {base : Nat} {κ : K} {H : Heap} {w : World} {r : Regs} {tmps : Array Value} (hs : SRel Γ base κ H w) (hr : ∀ t, VRel κ (r t) (tmps.getD t undef)) {R : Type} {F : AV → Option R} {y : R} :
    ∀ (rs : List ResultVar) (vrs : List VResult) (acc : List AV), compRess Γ.P rs = some vrs → finishK vrs r H acc F = some y →
    ∃ vals vs, (rs.mapM (resVal tmps)).run Γ.P w = .ok vs w ∧ VRels κ vals vs ∧ fin (acc.reverse ++ vals) F = some y := by
  intro rs
  induction rs with
  | nil =>
    intro vrs acc hc he
    simp [compRess] at hc; subst hc
    refine ⟨[], [], rfl, .nil, ?_⟩
    simp only [finishK] at he
    rw [List.append_nil]
    split at he
    · exact he
    · rename_i hno
      unfold fin
      split
      · rename_i v hv
        have : acc = [v] := by rw [← List.reverse_reverse acc, hv]; rfl
        exact absurd this (hno v)
      · exact he
  | cons x rs ih =>
    intro vrs acc hc he
    simp only [compRess] at hc
    split at hc
    · rename_i a b h1 h2
      injection hc with hc; subst hc
      have step : ∀ (v : AV) (u : Value), finishK b r H (v :: acc) F = some y → VRel κ v u →
          (resVal tmps x).run Γ.P w = .ok u w →
          ∃ vals vs, ((x :: rs).mapM (resVal tmps)).run Γ.P w = .ok vs w ∧ VRels κ vals vs ∧ fin (acc.reverse ++ vals) F = some y := by
        intro v u hf hv hrun
        obtain ⟨vals, vs, g1, g2, g3⟩ := ih b (v :: acc) h2 hf
        refine ⟨v :: vals, u :: vs, ?_, .cons _ _ _ _ hv g2, by simpa using g3⟩
        rw [List.mapM_cons]
        simp only [Sem.run_bind]
        rw [hrun]
        simp only [Result.andThen_ok, g1, Sem.run_pure]
      cases x with
      | tmp t =>
        simp [compRes] at h1; subst h1
        simp only [finishK] at he
        exact step _ _ he (hr t) rfl
      | cell t ty =>
        simp only [compRes] at h1
        split at h1
        · rename_i n g hn hg
          injection h1 with h1; subst h1
          have hld : ∀ (u : Value), (∃ a, tmps.getD t undef = .pointer (some a)) → (Instr.loadAt ty (tmps.getD t undef)).run Γ.P w = .ok u w → ((do loadVar ty (← asAddr (tmps.getD t undef))) : Sem Value).run Γ.P w = .ok u w := by
            rintro u ⟨a, ha⟩ hl
            rw [ha] at hl ⊢
            simpa [Instr.loadAt, Instr.sureAddr, asAddr] using hl
          cases g with
          | true =>
            simp only [cond_true, finishK] at he
            have e : (loadNK n (r t) H some).bind (fun v => finishK b r H (v :: acc) F) = some y := by rw [loadNK_bind]; exact he
            obtain ⟨v, h3, h4⟩ := some_bind e
            obtain ⟨u, h5, h6⟩ := loadN_rel hs (hr t) h3 hg hn
            refine step v u h4 h6 (hld u (asAddr_of (hr t) ?_) h5)
            cases hp : r t <;> rw [hp] at h3 <;> first | exact .inl ⟨_, _, rfl⟩ | exact .inr (.inl ⟨_, _, rfl⟩) | exact .inr (.inr ⟨_, _, _, rfl⟩) | (cases h3; done)
          | false =>
            simp only [cond_false, finishK] at he
            have e : (load1K (r t) H some).bind (fun v => finishK b r H (v :: acc) F) = some y := by rw [load1K_bind]; exact he
            obtain ⟨v, h3, h4⟩ := some_bind e
            obtain ⟨u, h5, h6⟩ := load1_rel hs (hr t) h3 hg
            refine step v u h4 h6 (hld u (asAddr_of (hr t) ?_) h5)
            cases hp : r t <;> rw [hp] at h3 <;> first | exact .inl ⟨_, _, rfl⟩ | exact .inr (.inl ⟨_, _, rfl⟩) | exact .inr (.inr ⟨_, _, _, rfl⟩) | (cases h3; done)
        · cases h1
    · cases hc

theorem results_rel {base : Nat} {κ : K} {H : Heap} {w : World} {r : Regs} {tmps : Array Value} (hs : SRel Γ base κ H w) (hr : ∀ t, VRel κ (r t) (tmps.getD t undef)) {R : Type} {F : AV → Option R} {y : R} {fn : Func} {vrs : List VResult}
    (hc : compRess Γ.P fn.results.toList = some vrs) (he : finishK vrs r H [] F = some y) : ∃ v u, (results fn tmps).run Γ.P w = .ok u w ∧ VRel κ v u ∧ F v = some y := by
  obtain ⟨vals, vs, h1, h2, h3⟩ := results_list hs hr fn.results.toList vrs [] hc he
  have hrun : (results fn tmps).run Γ.P w = .ok (if h : vs.toArray.size = 1 then vs.toArray[0] else .tuple vs.toArray) w := by
    rw [results_eq, Array.mapM_eq_mapM_toList]
    simp only [Sem.run_bind, Sem.run_map]
    rw [h1]
    simp only [Result.andThen_ok, Sem.run_pure]
  rw [List.reverse_nil, List.nil_append] at h3
  unfold fin at h3
  split at h3
  · rename_i v
    cases h2 with
    | cons _ u _ _ g1 g2 =>
      cases g2
      exact ⟨v, u, by rw [hrun]; simp, g1, h3⟩
  · rename_i hno
    refine ⟨mkTup vals, .tuple vs.toArray, ?_, mkTup_rel h2, h3⟩
    rw [hrun, dif_neg]
    intro hsz
    have hl := h2.length
    simp only [List.size_toArray] at hsz
    match vals, hl with
    | [v], _ => exact hno v rfl
    | [], hl => simp at hl; omega
    | _ :: _ :: _, hl => simp at hl; omega

theorem initRegs_rel {κ : K} {args : List AV} {vs : List Value} (h : VRels κ args vs) (m : Nat) : ∀ t, VRel κ (initRegs args t) ((vs.toArray ++ Array.replicate m undef).getD t undef) := by
  intro t
  simp only [initRegs, lget_eq]
  have hl := h.length
  rw [Array.getD_eq_getD_getElem?]
  cases ha : args[t]? with
  | some p =>
    obtain ⟨v, hv, hr⟩ := h.get (i := t) (p := p) (by rw [lget_eq]; exact ha)
    have : (vs.toArray ++ Array.replicate m undef)[t]? = some v := by
      rw [Array.getElem?_append_left (by simpa using (List.getElem?_eq_some_iff.1 hv).1)]
      simpa using hv
    rw [this]
    exact hr
  | none =>
    have : ((vs.toArray ++ Array.replicate m undef)[t]?).getD undef = undef := by
      have hge : vs.length ≤ t := by rw [← hl]; exact List.getElem?_eq_none_iff.1 ha
      rw [Array.getElem?_append_right (by simpa using hge)]
      simp only [Array.getElem?_replicate]
      split <;> rfl
    rw [this]
    exact undefV_rel κ

/-- A function's call. -/
theorem fn_sound {env : Env} {E : Orc} (hE : OrcOK Γ E) (hV : EnvOK Γ env) {f : FuncId} {args : List AV} {H : Heap} {v : AV} {H' : Heap} (he : evTgtK env E (.fn f) args H (fun v h => some (v, h)) = some (v, H')) :
    FnOK Γ.P f ∧ ∀ base κ w vs, SRel Γ base κ H w → VRels κ args vs → CallsIn Fence.wide 0 Γ.P f vs.toArray w (Out Γ base κ H w v H') := by
  simp only [evTgtK] at he
  cases hf : env.ft f with
  | none =>
    rw [hf] at he; simp only at he
    cases hp : env.pr f with
    | none => rw [hp] at he; cases he
    | some g =>
      rw [hp] at he; simp only at he
      cases ha : allPV args with
      | none => rw [ha] at he; cases he
      | some ps =>
        rw [ha] at he; simp only [bindK_def] at he
        cases hg : g ps with
        | none => rw [hg] at he; cases he
        | some p =>
          rw [hg] at he
          injection he with he; injection he with e1 e2; subst e1; subst e2
          obtain ⟨h1, h2⟩ := hV.pr f g hp
          refine ⟨h1, fun base κ w vs hs hr => h2 ps p hg base κ H w vs hs ?_⟩
          rw [allPV_eq ha] at hr
          exact VRels.to_pv hr
  | some vf =>
    rw [hf] at he; simp only at he
    obtain ⟨fn, c, mu, h1, h2, h3, h4, h5⟩ := hV.ft f vf hf
    refine ⟨⟨fn, h1, by simp [h2], h3⟩, fun base κ w vs hs ha => ?_⟩
    rw [h4] at he
    refine callsIn_of_wp_marks h1 h2 trivial ?_
    have hcf : Conf Γ base w.heap.size fn.ntmps κ H w (initRegs args) { tmps := vs.toArray ++ Array.replicate (fn.ntmps - vs.toArray.size) undef, defers := [] } :=
      ⟨hs, fun t => initRegs_rel ha _ t, by simp; omega, .nil⟩
    refine code_sound hE hV.mixed hV.md c true none (fun _ => rfl) he hcf (Grow.refl _ _ _) (Nat.le_refl _) fun e r' H1 κ1 a1 w1 hk hcf1 hg1 => ?_
    have leave : finishK vf.results r' H1 [] (fun v => some (v, H1)) = some (v, H') → LeavesInM Fence.wide 0 Γ.P fn a1.tmps (Out Γ base κ H w v H') a1.defers .returning w1 := by
      intro hfin
      refine marks_leave (Nat.le_refl _) (fun w' hs' hg' => ?_) hcf1.marks hcf1.srel hg1
      obtain ⟨v1, u, g1, g2, g3⟩ := results_rel hs' hcf1.regs h5 hfin
      injection g3 with g3; injection g3 with e1 e2; subst e1; subst e2
      exact ⟨u, g1, κ1, g2, hs', hg'⟩
    cases e with
    | exit id => cases hk
    | normal => exact leave hk
    | ret => exact leave hk
end
end Go.VM

namespace Go.VM
open Go

section
variable {Γ : Ctx}

theorem updL_rel {κ : K} : ∀ {ps : List Nat} {args : List AV} {vs : List Value} {r : Regs} {tmps : Array Value}, VRels κ args vs → (∀ t, VRel κ (r t) (tmps.getD t undef)) → (∀ p ∈ ps, p < tmps.size) →
    (∀ t, VRel κ (updL r ps args t) (((ps.zip vs).foldl (fun t (p, v) => t.setIfInBounds p v) tmps).getD t undef)) ∧ ((ps.zip vs).foldl (fun t (p, v) => t.setIfInBounds p v) tmps).size = tmps.size := by
  intro ps
  induction ps with
  | nil => intro args vs r tmps _ hr _; exact ⟨fun t => by cases args <;> exact hr t, rfl⟩
  | cons p ps ih =>
    intro args vs r tmps ha hr hb
    cases ha with
    | nil => exact ⟨fun t => hr t, rfl⟩
    | cons x v as vs hx ha =>
      have hp := hb p (by simp)
      have hstep : ∀ t, VRel κ (upd r p x t) ((tmps.setIfInBounds p v).getD t undef) := by
        have := RRel.put (a := { tmps := tmps, defers := [] }) (n := tmps.size) (κ := κ) (r := r) hr (Nat.le_refl _) (d := some p) (Nat.ble_eq_true_of_le hp) hx
        exact this
      have := ih (r := upd r p x) (tmps := tmps.setIfInBounds p v) ha hstep (fun q hq => by simpa using hb q (by simp [hq]))
      simp only [updL, List.zip_cons_cons, List.foldl_cons]
      exact ⟨this.1, by rw [this.2]; simp⟩

theorem zip_foldl (ps : Array Tmp) (vs : List Value) (tmps : Array Value) : (ps.zip vs.toArray).foldl (fun tmps (t, a) => tmps.setIfInBounds t a) tmps = (ps.toList.zip vs).foldl (fun t (p, v) => t.setIfInBounds p v) tmps := by
  rw [← Array.foldl_toList]
  congr 1
  simp [Array.toList_zip]

/-- A round. -/
theorem yield_sound {env : Env} {E : Orc} (hE : OrcOK Γ E) (hV : EnvOK Γ env) {id : Nat} {args : List AV} {H : Heap} {v : AV} {H' : Heap} (he : evTgtK env E (.yield id) args H (fun v h => some (v, h)) = some (v, H')) :
    ∀ base κ w vs l, SRel Γ base κ H w → VRels κ args vs → κ.loc id = some l →
    ∃ f tmps asg body, (Instr.yield l vs.toArray).run Γ.P w = .ok (.round l f tmps asg body) w ∧ RoundIn Fence.wide 0 Γ.P l f tmps asg body w (Out Γ base κ H w v H') := by
  intro base κ w vs l hs ha hl
  simp only [evTgtK, hgetK_def] at he
  cases ho : hget H id with
  | loop lo =>
    rw [ho] at he; simp only at he
    cases hst : lo.state with
    | ready =>
      rw [hst] at he; simp only at he
      cases hb : Nat.beq args.length lo.params.length with
      | false => rw [hb] at he; cases he
      | true =>
        rw [hb] at he; simp only [cond_true] at he
        obtain ⟨_, hob⟩ := hs.obj id l (by rw [ho]; exact hl)
        rw [ho] at hob
        obtain ⟨L, hL, hr⟩ := hob
        obtain ⟨mu, n, hn, hca, hcb⟩ := hr.code
        have hlen := Nat.eq_of_beq_eq_true hb
        have hargs : vs.toArray.size = L.params.size := by
          have h1 := ha.length
          have h2 : lo.params.length = L.params.size := by rw [hr.params]; simp
          simp; omega
        refine ⟨L.fn, _, L.assign, L.body, run_yield hL hargs, ?_⟩
        rw [zip_foldl]
        obtain ⟨u1, u2⟩ := updL_rel (ps := L.params.toList) ha hr.regs (by rw [← hr.params]; exact hr.bound)
        rw [hca, hcb] at he
        have hcf : Conf Γ base 0 n κ H w (updL lo.regs lo.params args) { tmps := (L.params.toList.zip vs).foldl (fun t (p, v) => t.setIfInBounds p v) L.tmps, defers := [] } :=
          ⟨hs, fun t => by rw [hr.params]; exact u1 t, by simp only [u2]; exact hn, .nil⟩
        refine roundIn_of_wpIn trivial ?_
        refine code_sound hE hV.mixed hV.md L.assign false (some l) (fun h => by cases h) he hcf (Grow.refl _ _ _) (Nat.zero_le _) fun e r1 H1 κ1 a1 w1 hk hcf1 hg1 => ?_
        cases e with
        | exit _ => cases hk
        | ret => cases hk
        | normal =>
          simp only at hk
          have hl1 := hg1.le.loc _ _ hl
          cases ho1 : hget H1 id with
          | loop lo1 =>
            rw [ho1] at hk; simp only at hk
            cases hst1 : lo1.state with
            | ready =>
              rw [hst1] at hk; simp only at hk
              obtain ⟨_, hob1⟩ := hcf1.srel.obj id l (by rw [ho1]; exact hl1)
              rw [ho1] at hob1
              obtain ⟨L1, hL1, hr1⟩ := hob1
              have hs1 := hr1.state
              rw [hst1] at hs1
              obtain ⟨s2, g2⟩ := hcf1.srel.loopTurn (L' := { L1 with state := .busy }) (o := .loop { lo1 with state := .busy }) hl1 ho1 hL1 (.inr ⟨_, rfl, ⟨rfl, hr1.regs, hr1.params, hr1.bound, hr1.code⟩⟩)
              refine ⟨_, run_beginRound hL1 hs1.1, ?_⟩
              have hcf2 : Conf Γ base 0 n κ1 (hset H1 id (.loop { lo1 with state := .busy })) (w1.putObj l (.loop { L1 with state := .busy })) r1 a1 := ⟨s2, hcf1.regs, hcf1.size, hcf1.marks.grow g2⟩
              refine code_sound hE hV.mixed hV.md L.body false (some l) (fun h => by cases h) hk hcf2 (hg1.trans g2) (Nat.zero_le _) fun e r3 H3 κ3 a3 w3 hk3 hcf3 hg3 => ?_
              have hl3 := hg3.le.loc _ _ hl
              cases ho3 : hget H3 id with
              | loop lo3 =>
                rw [ho3] at hk3; simp only at hk3
                cases hst3 : lo3.state with
                | busy =>
                  rw [hst3] at hk3; simp only at hk3
                  injection hk3 with hk3; injection hk3 with e1 e2; subst e1; subst e2
                  obtain ⟨_, hob3⟩ := hcf3.srel.obj id l (by rw [ho3]; exact hl3)
                  rw [ho3] at hob3
                  obtain ⟨L3, hL3, hr3⟩ := hob3
                  have turn : ∀ (jump : Option Code) (st : LState), StateRel st (if jump.isNone then .ready else .done) jump →
                      SRel Γ base κ3 (hset H3 id (.loop { lo3 with state := st })) (w3.putObj l (.loop { L3 with state := if jump.isNone then .ready else .done, pending := jump })) ∧
                      Grow κ3 H3 w3 κ3 (hset H3 id (.loop { lo3 with state := st })) (w3.putObj l (.loop { L3 with state := if jump.isNone then .ready else .done, pending := jump })) := by
                    intro jump st hst
                    exact hcf3.srel.loopTurn (o := .loop { lo3 with state := st }) hl3 ho3 hL3 (.inr ⟨_, rfl, ⟨hst, hr3.regs, hr3.params, hr3.bound, hr3.code⟩⟩)
                  cases e with
                  | normal =>
                    obtain ⟨s4, g4⟩ := turn none .ready ⟨rfl, rfl⟩
                    exact ⟨_, _, run_endRound none hL3, κ3, .pv _ _ (.bool _), s4, hg3.trans g4⟩
                  | exit j =>
                    obtain ⟨s4, g4⟩ := turn (some (.exit j)) (.done (.exit j)) ⟨rfl, rfl, by simp⟩
                    exact ⟨_, _, run_endRound (some (.exit j)) hL3, κ3, .pv _ _ (.bool _), s4, hg3.trans g4⟩
                  | ret =>
                    obtain ⟨s4, g4⟩ := turn (some .ret) (.done .ret) ⟨rfl, rfl, by simp⟩
                    exact ⟨_, _, run_endRound (some .ret) hL3, κ3, .pv _ _ (.bool _), s4, hg3.trans g4⟩
                | ready => rw [hst3] at hk3; cases hk3
                | done _ => rw [hst3] at hk3; cases hk3
              | _ => rw [ho3] at hk3; cases hk3
            | busy => rw [hst1] at hk; cases hk
            | done _ => rw [hst1] at hk; cases hk
          | _ => rw [ho1] at hk; cases hk
    | busy => rw [hst] at he; cases he
    | done _ => rw [hst] at he; cases he
  | _ => rw [ho] at he; cases he

theorem evN_ok {env : Env} (hV : EnvOK Γ env) : ∀ n, OrcOK Γ (evN env n) := by
  intro n
  induction n with
  | zero => exact ⟨fun _ _ _ _ _ h => (by cases h), fun _ _ _ _ _ h => (by cases h), fun _ _ _ _ _ h => (by cases h)⟩
  | succ n ih =>
    exact ⟨fun f args H v H' h => (fn_sound ih hV h).1, fun f args H v H' h => (fn_sound ih hV h).2, fun id args H v H' h => yield_sound ih hV h⟩

theorem EE_ok {env : Env} (hV : EnvOK Γ env) : OrcOK Γ (EE env) := by
  have get : ∀ {t args H x}, EE env t args H = some x → ∃ n, evN env n t args H = some x := fun h => lim_some h
  refine ⟨fun f args H v H' h => ?_, fun f args H v H' h => ?_, fun id args H v H' h => ?_⟩
  · obtain ⟨n, hn⟩ := get h; exact (evN_ok hV n).ok _ _ _ _ _ hn
  · obtain ⟨n, hn⟩ := get h; exact (evN_ok hV n).fn _ _ _ _ _ hn
  · obtain ⟨n, hn⟩ := get h; exact (evN_ok hV n).yield _ _ _ _ _ hn
end
end Go.VM

namespace Go.VM
open Go

/-- What is answered is answered in the end. -/
def Conv {α : Type} (x : Option α) (xs : Nat → Option α) : Prop := ∀ y, x = some y → ∃ n, ∀ m, n ≤ m → xs m = some y

section
variable {R : Type} {env : Env} {E : Orc} {Es : Nat → Orc}

theorem Conv.const {α : Type} (x : Option α) : Conv x (fun _ => x) := fun _ h => ⟨0, fun _ _ => h⟩
theorem Conv.eventually {α : Type} {x : Option α} {xs xs' : Nat → Option α} (h : Conv x xs) (he : ∃ n, ∀ m, n ≤ m → xs m = xs' m) : Conv x xs' := by
  intro y hy
  obtain ⟨n, hn⟩ := h y hy
  try dsimp only at hn
  obtain ⟨n', hn'⟩ := he
  try dsimp only at hn'
  exact ⟨max n n', fun m hm => by rw [← hn' m (by omega)]; exact hn m (by omega)⟩

theorem operK_pair_conv (hE : ∀ t args h, Conv (E t args h) (fun m => Es m t args h)) (o : VOp) (r : Regs) (h : Heap) : Conv (operK env E o r h fun v h => some (v, h)) (fun m => operK env (Es m) o r h fun v h => some (v, h)) := by
  have sk : ∀ {S : Type} (t : Tgt) (args : List AV) (h : Heap) (F : AV → Heap → Option S), Conv (callSK E t args h F) (fun m => callSK (Es m) t args h F) := by
    intro S t args h F y hy
    simp only [callSK_def] at hy ⊢
    obtain ⟨p, h1, h2⟩ := some_bind hy
    obtain ⟨n, hn⟩ := hE t args h p h1
    try dsimp only at hn
    exact ⟨n, fun m hm => by rw [hn m hm]; exact h2⟩
  have pk : ∀ {S : Type} (f : FuncId) (ps : List PV) (F : PV → Option S), Conv (callPK E f ps F) (fun m => callPK (Es m) f ps F) := by
    intro S f ps F y hy
    simp only [callPK_def, EP] at hy ⊢
    obtain ⟨p, h1, h2⟩ := some_bind hy
    obtain ⟨q, h3, h4⟩ := some_bind h1
    obtain ⟨n, hn⟩ := hE _ _ _ q h3
    try dsimp only at hn
    exact ⟨n, fun m hm => by rw [hn m hm]; simp only [Option.bind_some]; rw [h4]; exact h2⟩
  have lk : ∀ (l : List AV) (F : List PV → Option (AV × Heap)) (Fs : Nat → List PV → Option (AV × Heap)), (∀ ps, Conv (F ps) (fun m => Fs m ps)) → Conv (lendsK h l F) (fun m => lendsK h l (Fs m)) := by
    intro l
    induction l with
    | nil => intro F Fs hF; exact hF []
    | cons a l ih =>
      intro F Fs hF
      simp only [lendsK]
      split
      · exact ih _ _ fun ps => hF _
      · split
        · rename_i es id off len cap _
          simp only [hgetK_def]
          split
          · rename_i cs _
            simp only [secK_def]
            cases Nat.ble (off + len * es) cs.length
            · exact Conv.const _
            · exact ih _ _ fun ps => hF _
          · exact Conv.const _
        · exact Conv.const _
  have ck : ∀ (env : Env) (t : Tgt) (args : List AV), Conv (callK env E t args h fun v h => some (v, h)) (fun m => callK env (Es m) t args h fun v h => some (v, h)) := by
    intro env t args
    cases t with
    | yield id => exact sk _ _ _ _
    | fn f =>
      simp only [callK]
      split
      · exact sk _ _ _ _
      · split
        · exact pk _ _ _
        · exact Conv.const _
      · split
        · exact sk _ _ _ _
        · exact Conv.const _
      · split
        · exact sk _ _ _ _
        · exact Conv.const _
      · exact lk _ _ _ fun ps => sk _ _ _ _
  cases o
  case call m f xs =>
    simp only [operK]
    exact ck _ _ _
  case callV f xs =>
    simp only [operK]
    split
    · exact ck _ _ _
    · exact ck _ _ _
    · exact sk _ _ _ _
    · exact Conv.const _
  all_goals exact Conv.const _

theorem operK_split (env : Env) (E : Orc) (o : VOp) (r : Regs) (h : Heap) (F : AV → Heap → Option R) : operK env E o r h F = (operK env E o r h fun v h => some (v, h)).bind fun p => F p.1 p.2 := by rw [operK_bind]; rfl

theorem operK_conv (hE : ∀ t args h, Conv (E t args h) (fun m => Es m t args h)) {o : VOp} {r : Regs} {h : Heap} {F : AV → Heap → Option R} {Fs : Nat → AV → Heap → Option R} (hF : ∀ v h, Conv (F v h) (fun m => Fs m v h)) :
    Conv (operK env E o r h F) (fun m => operK env (Es m) o r h (Fs m)) := by
  intro y hy
  obtain ⟨v, h', h1, h2⟩ := operK_inv hy
  obtain ⟨n, hn⟩ := operK_pair_conv hE o r h _ h1
  try dsimp only at hn
  obtain ⟨n', hn'⟩ := hF v h' y h2
  try dsimp only at hn'
  refine ⟨max n n', fun m hm => ?_⟩
  show operK env (Es m) o r h (Fs m) = some y
  rw [operK_split, hn m (by omega)]
  exact hn' m (by omega)

theorem evOps_conv (hE : ∀ t args h, Conv (E t args h) (fun m => Es m t args h)) : ∀ (l : List VOper) (r : Regs) (h : Heap) (k : Regs → Heap → Option R) (ks : Nat → Regs → Heap → Option R), (∀ r h, Conv (k r h) (fun m => ks m r h)) →
    Conv (evOps env E l r h k) (fun m => evOps env (Es m) l r h (ks m)) := by
  intro l
  induction l with
  | nil => intro r h k ks hk; exact hk r h
  | cons o l ih =>
    intro r h k ks hk
    simp only [evOps_nil, evOps_cons]
    cases wantedV r o.guard with
    | true =>
      simp only [cond_true]
      refine operK_conv hE fun v h => ?_
      simp only [forceK_def, putK_def]
      exact ih _ _ _ _ hk
    | false =>
      simp only [cond_false, putK_def]
      exact ih _ _ _ _ hk

theorem evDraw_conv (hE : ∀ t args h, Conv (E t args h) (fun m => Es m t args h)) (pairs : List (Nat × Nat)) : ∀ (l : List VOper) (i : Nat) (r : Regs) (h : Heap) (ls : List (Nat × AV × Option Nat)) (es : List (Nat × Heap × Heap)) (k : Regs → Heap → List (Nat × AV × Option Nat) → List (Nat × Heap × Heap) → Option R) (ks : Nat → Regs → Heap → List (Nat × AV × Option Nat) → List (Nat × Heap × Heap) → Option R),
    (∀ r h ls es, Conv (k r h ls es) (fun m => ks m r h ls es)) → Conv (evDraw env E pairs l i r h ls es k) (fun m => evDraw env (Es m) pairs l i r h ls es (ks m)) := by
  intro l
  induction l with
  | nil => intro i r h ls es k ks hk; exact hk r h ls es
  | cons o l ih =>
    intro i r h ls es k ks hk
    simp only [evDraw_nil, evDraw_cons]
    cases wantedV r o.guard with
    | true =>
      simp only [cond_true]
      refine operK_conv hE fun v h' => ?_
      simp only [forceK_def, putK_def]
      exact ih _ _ _ _ _ _ _ hk
    | false =>
      simp only [cond_false, putK_def]
      exact ih _ _ _ _ _ _ _ hk

theorem checkBox_conv (ls : List (Nat × AV × Option Nat)) {x : Option R} {xs : Nat → Option R} (hx : Conv x xs) : ∀ l, Conv (checkBox ls l x) (fun m => checkBox ls l (xs m)) := by
  intro l
  induction l with
  | nil => exact hx
  | cons a l ih =>
    obtain ⟨i, p⟩ := a
    simp only [checkBox]
    split
    · simp only [sameK_def]
      split
      · exact ih
      · exact Conv.const _
    · exact Conv.const _
theorem conts_conv (hE : ∀ t args h, Conv (E t args h) (fun m => Es m t args h)) : ∀ (al : List (Nat × AlS)) (r : Regs) (h : Heap) (k : List (Nat × HSh × List PV) → List (Nat × PV) → Option R) (ks : Nat → List (Nat × HSh × List PV) → List (Nat × PV) → Option R), (∀ a zs, Conv (k a zs) (fun m => ks m a zs)) →
    Conv (conts env E al r h k) (fun m => conts env (Es m) al r h (ks m)) := by
  intro al
  induction al with
  | nil => intro r h k ks hk; exact hk _ _
  | cons x al ih =>
    intro r h k ks hk
    obtain ⟨t, s⟩ := x
    cases s with
    | z z => simp only [conts]; exact ih r h _ _ fun a zs => hk _ _
    | m i pre es z v =>
      simp only [conts]
      refine evOps_conv hE pre r h _ _ fun r' h' => ?_
      split
      · rename_i kd n _
        simp only [needK_def, eqK_def]
        cases (decide (0 ≤ n) && decide (n ≤ 1099511627776))
        · exact Conv.const _
        · exact ih r h _ _ fun a zs => hk _ _
      · exact Conv.const _
    | x i pre v =>
      simp only [conts]
      refine evOps_conv hE pre r h _ _ fun r' h' => ?_
      split
      · split
        · exact ih r h _ _ fun a zs => hk _ _
        · exact Conv.const _
      · exact Conv.const _

theorem checkPairs_conv (ls : List (Nat × AV × Option Nat)) (es : List (Nat × Heap × Heap)) {x : Option R} {xs : Nat → Option R} (hx : Conv x xs) : ∀ l, Conv (checkPairs ls es l x) (fun m => checkPairs ls es l (xs m)) := by
  intro l
  induction l with
  | nil => exact hx
  | cons a l ih =>
    obtain ⟨a, b⟩ := a
    simp only [checkPairs]
    split
    · split
      · simp only [sameK_def]
        split
        · exact ih
        · exact Conv.const _
      · exact ih
      · simp only [sameK_def]
        split
        · exact ih
        · exact Conv.const _
      · exact Conv.const _
    · exact ih

theorem iterN_mono (b : Regs → Heap → Option Res) : ∀ (n : Nat) (r : Regs) (h : Heap) (x : Res), iterN n b r h = some x → iterN (n + 1) b r h = some x := by
  intro n
  induction n with
  | zero => intro r h x hx; cases hx
  | succ n ih =>
    intro r h x hx
    simp only [iterN] at hx ⊢
    obtain ⟨p, h1, h2⟩ := some_bind hx
    rw [h1]
    obtain ⟨e, r', h'⟩ := p
    cases e with
    | normal => simpa [iterN] using ih r' h' x h2
    | exit id => exact h2
    | ret => exact h2
theorem iterE_intro {b : Regs → Heap → Option Res} {n : Nat} {r : Regs} {h : Heap} {x : Res} (hx : iterN n b r h = some x) : iterE b r h = some x :=
  lim_eq (f := fun n => iterN n b r h) (fun n x hx => iterN_mono b n r h x hx) hx

theorem iterE_conv {b : Regs → Heap → Option Res} {bs : Nat → Regs → Heap → Option Res} (hb : ∀ r h, Conv (b r h) (fun m => bs m r h)) (r : Regs) (h : Heap) : Conv (iterE b r h) (fun m => iterE (bs m) r h) := by
  intro x hx
  obtain ⟨n, hn⟩ := lim_some hx
  have key : ∀ (n : Nat) (r : Regs) (h : Heap), iterN n b r h = some x → ∃ N, ∀ m, N ≤ m → iterN n (bs m) r h = some x := by
    intro n
    induction n with
    | zero => intro r h hx; cases hx
    | succ n ih =>
      intro r h hx
      simp only [iterN] at hx ⊢
      obtain ⟨p, h1, h2⟩ := some_bind hx
      obtain ⟨N, hN⟩ := hb r h p h1
      try dsimp only at hN
      obtain ⟨e, r', h'⟩ := p
      cases e with
      | normal =>
        obtain ⟨N', hN'⟩ := ih r' h' h2
        exact ⟨max N N', fun m hm => by rw [hN m (by omega)]; exact hN' m (by omega)⟩
      | exit id => exact ⟨N, fun m hm => by rw [hN m hm]; exact h2⟩
      | ret => exact ⟨N, fun m hm => by rw [hN m hm]; exact h2⟩
  obtain ⟨N, hN⟩ := key n r h hn
  exact ⟨N, fun m hm => iterE_intro (hN m hm)⟩

theorem stepO_conv (hE : ∀ t args h, Conv (E t args h) (fun m => Es m t args h)) (o : VOper) (r : Regs) (h : Heap) : Conv (stepO env E o r h) (fun m => stepO env (Es m) o r h) := by
  unfold stepO guardK
  cases wantedV r o.guard with
  | true =>
    simp only [cond_true]
    refine operK_conv hE fun v h => ?_
    exact Conv.const _
  | false => exact Conv.const _
theorem AllEnd.conv (hE : ∀ t args h, Conv (E t args h) (fun m => Es m t args h)) {l : List VOper} {deps : List (List Nat)} {p : Regs × Heap} : ∀ {n : Nat} {S : Nat → Bool} {r : Regs} {h : Heap}, AllEnd env E l deps p n S r h →
    ∃ N, ∀ m, N ≤ m → AllEnd env (Es m) l deps p n S r h := by
  intro n
  induction n with
  | zero => intro S r h A; exact ⟨0, fun _ _ => A⟩
  | succ n ih =>
    intro S r h A
    obtain ⟨h1, h2⟩ := A
    have key : ∀ is : List Nat, (∀ i ∈ is, ∃ o r' h', l[i]? = some o ∧ stepO env E o r h = some (r', h') ∧ AllEnd env E l deps p n (fun j => S j || Nat.beq j i) r' h') →
        ∃ N, ∀ m, N ≤ m → ∀ i ∈ is, ∃ o r' h', l[i]? = some o ∧ stepO env (Es m) o r h = some (r', h') ∧ AllEnd env (Es m) l deps p n (fun j => S j || Nat.beq j i) r' h' := by
      intro is
      induction is with
      | nil => intro _; exact ⟨0, fun _ _ i hi => by cases hi⟩
      | cons a is ihs =>
        intro hall
        obtain ⟨N1, hN1⟩ := ihs fun i hi => hall i (List.mem_cons_of_mem _ hi)
        obtain ⟨o, r', h', g1, g2, g3⟩ := hall a (List.mem_cons_self ..)
        obtain ⟨N2, hN2⟩ := stepO_conv hE o r h _ g2
        obtain ⟨N3, hN3⟩ := ih g3
        refine ⟨max N1 (max N2 N3), fun m hm i hi => ?_⟩
        rcases List.mem_cons.1 hi with e | e
        · subst e; exact ⟨o, r', h', g1, hN2 m (by omega), hN3 m (by omega)⟩
        · exact hN1 m (by omega) i e
    obtain ⟨N, hN⟩ := key _ h2
    exact ⟨N, fun m hm => ⟨h1, hN m hm⟩⟩
theorem endsN_conv (hE : ∀ t args h, Conv (E t args h) (fun m => Es m t args h)) (l : List VOper) (deps : List (List Nat)) (r : Regs) (h : Heap) : Conv (endsN env E l deps r h) (fun m => endsN env (Es m) l deps r h) := by
  intro p hp
  obtain ⟨N, hN⟩ := (endsN_some hp).conv hE
  exact ⟨N, fun m hm => endsN_intro (hN m hm)⟩

theorem evK_conv (hE : ∀ t args h, Conv (E t args h) (fun m => Es m t args h)) : ∀ (c : VCode) {R : Type} (r : Regs) (h : Heap) (k : Ex → Regs → Heap → Option R) (ks : Nat → Ex → Regs → Heap → Option R), (∀ e r h, Conv (k e r h) (fun m => ks m e r h)) →
    Conv (evK env E c R r h k) (fun m => evK env (Es m) c R r h (ks m)) := by
  intro c
  induction c with
  | skip => intro R r h k ks hk; exact hk _ _ _
  | ops l => intro R r h k ks hk; exact evOps_conv hE l r h _ _ fun r h => hk .normal r h
  | draw al l pairs =>
    intro R r h k ks hk
    simp only [evK_skip, evK_ops, evK_draw, evK_seq, evK_cond, evK_block, evK_loop, evK_rangeFunc, evK_exit, evK_ret, hoist_eq]
    refine conts_conv hE al r h _ _ fun al zs => ?_
    exact evDraw_conv hE pairs l 0 _ _ _ _ _ _ fun r h ls es => checkPairs_conv ls es (checkBox_conv ls (hk .normal r h) zs) pairs
  | seq a b iha ihb =>
    intro R r h k ks hk
    simp only [evK_skip, evK_ops, evK_draw, evK_seq, evK_cond, evK_block, evK_loop, evK_rangeFunc, evK_exit, evK_ret]
    refine iha r h _ _ fun e r h => ?_
    cases e with
    | normal => exact ihb r h k ks hk
    | exit id => exact hk _ _ _
    | ret => exact hk _ _ _
  | cond c a b iha ihb =>
    intro R r h k ks hk
    simp only [evK_skip, evK_ops, evK_draw, evK_seq, evK_cond, evK_block, evK_loop, evK_rangeFunc, evK_exit, evK_ret]
    split
    · rename_i b' _
      cases b' with
      | true => exact iha r h k ks hk
      | false => exact ihb r h k ks hk
    · exact Conv.const _
  | block id c ih =>
    intro R r h k ks hk
    simp only [evK_skip, evK_ops, evK_draw, evK_seq, evK_cond, evK_block, evK_loop, evK_rangeFunc, evK_exit, evK_ret]
    refine ih r h _ _ fun e r h => ?_
    cases e with
    | exit j =>
      simp only
      cases Nat.beq j id with
      | true => exact hk _ _ _
      | false => exact hk _ _ _
    | normal => exact hk _ _ _
    | ret => exact hk _ _ _
  | loop c ih =>
    intro R r h k ks hk
    simp only [evK_skip, evK_ops, evK_draw, evK_seq, evK_cond, evK_block, evK_loop, evK_rangeFunc, evK_exit, evK_ret, loopK_def]
    intro y hy
    obtain ⟨x, h1, h2⟩ := some_bind hy
    obtain ⟨n, hn⟩ := iterE_conv (bs := fun m r h => evK env (Es m) c Res r h fun e r h => some (e, r, h)) (fun r h => ih r h _ _ fun e r h => Conv.const _) r h x h1
    obtain ⟨n', hn'⟩ := hk _ _ _ y h2
    try dsimp only at hn'
    exact ⟨max n n', fun m hm => by have h5 := hn m (by omega); dsimp only at h5 ⊢; rw [h5]; exact hn' m (by omega)⟩
  | rangeFunc f ps asg bo _ _ =>
    intro R r h k ks hk
    have go : ∀ (g : FuncId) (a b : List AV), Conv
        (callSK E (.fn g) (a ++ .yield h.length :: b) (h ++ [.loop ⟨.ready, r, ps, asg, bo⟩]) fun _ h2 => hgetK h2 h.length fun o => match o with
          | .loop lo => match lo.state with
            | .ready => k .normal r (hset h2 h.length .dead)
            | .done e => k e r (hset h2 h.length .dead)
            | .busy => none
          | _ => none)
        (fun m => callSK (Es m) (.fn g) (a ++ .yield h.length :: b) (h ++ [.loop ⟨.ready, r, ps, asg, bo⟩]) fun _ h2 => hgetK h2 h.length fun o => match o with
          | .loop lo => match lo.state with
            | .ready => ks m .normal r (hset h2 h.length .dead)
            | .done e => ks m e r (hset h2 h.length .dead)
            | .busy => none
          | _ => none) := by
      intro g a b y hy
      obtain ⟨v, h2, h1, h3⟩ := callSK_inv hy
      obtain ⟨n, hn⟩ := hE _ _ _ _ h1
      try dsimp only at hn
      have hc : Conv (hgetK h2 h.length fun o => match o with
          | .loop lo => match lo.state with
            | .ready => k .normal r (hset h2 h.length .dead)
            | .done e => k e r (hset h2 h.length .dead)
            | .busy => none
          | _ => none)
          (fun m => hgetK h2 h.length fun o => match o with
          | .loop lo => match lo.state with
            | .ready => ks m .normal r (hset h2 h.length .dead)
            | .done e => ks m e r (hset h2 h.length .dead)
            | .busy => none
          | _ => none) := by
        simp only [hgetK_def]
        split
        · split
          · exact hk _ _ _
          · exact hk _ _ _
          · exact Conv.const _
        · exact Conv.const _
      obtain ⟨n', hn'⟩ := hc y h3
      try dsimp only at hn'
      exact ⟨max n n', fun m hm => by dsimp only; rw [callSK_def, hn m (by omega)]; exact hn' m (by omega)⟩
    simp only [evK_skip, evK_ops, evK_draw, evK_seq, evK_cond, evK_block, evK_loop, evK_rangeFunc, evK_exit, evK_ret]
    split
    · exact go _ _ _
    · exact go _ _ _
    · exact Conv.const _
  | exit id => intro R r h k ks hk; exact hk _ _ _
  | ret => intro R r h k ks hk; exact hk _ _ _
  | drawN l deps =>
    intro R r h k ks hk
    rw [evK_drawN]
    intro y hy
    cases hp : endsN env E l deps r h with
    | none => rw [hp] at hy; cases hy
    | some p =>
      rw [hp] at hy; simp only [Option.bind_some] at hy
      obtain ⟨N1, h1⟩ := endsN_conv hE l deps r h p hp
      obtain ⟨N2, h2⟩ := hk _ _ _ y hy
      refine ⟨max N1 N2, fun m hm => ?_⟩
      show evK env (Es m) (.drawN l deps) R r h (ks m) = some y
      have e1 := h1 m (by omega)
      have e2 := h2 m (by omega)
      dsimp only at e1 e2
      rw [evK_drawN, e1]
      exact e2

theorem evTgtK_conv (hE : ∀ t args h, Conv (E t args h) (fun m => Es m t args h)) (t : Tgt) (args : List AV) (h : Heap) (F : AV → Heap → Option R) : Conv (evTgtK env E t args h F) (fun m => evTgtK env (Es m) t args h F) := by
  cases t with
  | fn f =>
    simp only [evTgtK]
    split
    · exact evK_conv hE _ _ _ _ _ fun e r h => by cases e <;> exact Conv.const _
    · split
      · split
        · exact Conv.const _
        · exact Conv.const _
      · exact Conv.const _
  | yield id =>
    simp only [evTgtK, hgetK_def]
    split
    · split
      · rename_i lo _ _ _
        cases Nat.beq args.length lo.params.length with
        | false => exact Conv.const _
        | true =>
          simp only [cond_true]
          refine evK_conv hE _ _ _ _ _ fun e r h1 => ?_
          cases e with
          | normal =>
            simp only
            split
            · split
              · exact evK_conv hE _ _ _ _ _ fun e _ h2 => Conv.const _
              · exact Conv.const _
            · exact Conv.const _
          | exit _ => exact Conv.const _
          | ret => exact Conv.const _
      · exact Conv.const _
    · exact Conv.const _

theorem evN_mono (env : Env) : ∀ (n : Nat) (t : Tgt) (args : List AV) (h : Heap) (x : AV × Heap), evN env n t args h = some x → evN env (n + 1) t args h = some x := by
  intro n
  induction n with
  | zero => intro t args h x hx; cases hx
  | succ n ih =>
    intro t args h x hx
    have hc := evTgtK_conv (env := env) (E := evN env n) (Es := fun _ => evN env (n + 1)) (fun t args h y hy => ⟨0, fun _ _ => ih t args h y hy⟩) t args h (fun v h => some (v, h)) x hx
    obtain ⟨N, hN⟩ := hc
    try dsimp only at hN
    exact hN N (Nat.le_refl _)

theorem evN_up (env : Env) {n m : Nat} (h : n ≤ m) {t : Tgt} {args : List AV} {H : Heap} {x : AV × Heap} (hx : evN env n t args H = some x) : evN env m t args H = some x := by
  induction h with
  | refl => exact hx
  | step _ ih => exact evN_mono env _ _ _ _ _ ih

theorem EE_conv (env : Env) (t : Tgt) (args : List AV) (h : Heap) : Conv (EE env t args h) (fun m => evN env m t args h) := by
  intro x hx
  obtain ⟨n, hn⟩ := lim_some hx
  exact ⟨n, fun m hm => evN_up env hm hn⟩

/-- A call is what its code answers, its own calls being such calls. -/
theorem EE_intro {env : Env} {t : Tgt} {args : List AV} {h : Heap} {x : AV × Heap} (hx : evTgtK env (EE env) t args h (fun v h => some (v, h)) = some x) : EE env t args h = some x := by
  obtain ⟨n, hn⟩ := evTgtK_conv (Es := fun m => evN env m) (EE_conv env) t args h (fun v h => some (v, h)) x hx
  try dsimp only at hn
  exact lim_eq (f := fun n => evN env n t args h) (fun n x hx => evN_mono env n t args h x hx) (n := n + 1) (hn n (Nat.le_refl _))
end
end Go.VM

namespace Go.VM
open Go

/-- Types of plain data. -/
inductive Ty where
  | bool
  | int (k : IntKind)
  | str
  | sl (es : Nat) (e : Ty)
  | st (fs : List (Nat × Ty))
  | arr (n es : Nat) (e : Ty)

/-- So many elements, one behind the other. -/
def Els (p : List PV → Prop) (es : Nat) : Nat → List PV → Prop
  | 0, cs => cs = []
  | n + 1, cs => ∃ a b, cs = a ++ b ∧ a.length = es ∧ p a ∧ Els p es n b

mutual
def HasTy : Ty → List PV → Prop
  | .bool, cs => ∃ b, cs = [.bool b]
  | .int k, cs => ∃ n, cs = [.int k n] ∧ (Lit.int k n).wf = true
  | .str, cs => ∃ s : ByteArray, cs = [.str s] ∧ s.size ≤ maxLen
  | .sl es e, cs => ∃ x len cells, cs = [.sl x len cells] ∧ ((x = .nil ∧ len = 0 ∧ cells = []) ∨ x = .nn) ∧ len ≤ maxLen ∧ Els (HasTy e) es len cells
  | .st fs, cs => HasFs fs cs
  | .arr n es e, cs => Els (HasTy e) es n cs
def HasFs : List (Nat × Ty) → List PV → Prop
  | [], cs => cs = []
  | (n, t) :: fs, cs => ∃ a b, cs = a ++ b ∧ a.length = n ∧ HasTy t a ∧ HasFs fs b
end

section
variable (P : Program)
def tyFs (g : TypeId → Option Ty) : List Field → Nat → Nat → Option (List (Nat × Ty))
  | [], off, all => bif Nat.beq off all then some [] else none
  | f :: fs, off, all => match g f.type, tyFs g fs (off + P.cellsOf f.type) all with
    | some t, some r => bif Nat.beq f.offset off then some ((P.cellsOf f.type, t) :: r) else none
    | _, _ => none
def tyOf : Nat → TypeId → Option Ty
  | 0, _ => none
  | d + 1, t => match P.underlying t with
    | some .bool => some .bool
    | some (.int k) => some (.int k)
    | some .string => some .str
    | some (.slice e) => (tyOf d e).map (.sl (P.cellsOf e))
    | some (.struct fs) => (tyFs P (tyOf d) fs.toList 0 (P.cellsOf t)).map .st
    | some (.array n e) => match tyOf d e with
      | some T => bif Nat.beq (P.cellsOf t) (n * P.cellsOf e) then some (.arr n (P.cellsOf e) T) else none
      | none => none
    | _ => none
def tysOf (d : Nat) : List TypeId → Option (List Ty)
  | [] => some []
  | t :: ts => match tyOf P d t, tysOf d ts with | some T, some r => some (T :: r) | _, _ => none
end

theorem mapM_opt {α β : Type} {f : α → Option β} : ∀ {l : List α} {r : List β}, l.mapM f = some r → ∀ x ∈ l, ∃ y, f x = some y := by
  intro l
  induction l with
  | nil => intro r _ x hx; cases hx
  | cons a l ih =>
    intro r h x hx
    rw [List.mapM_cons] at h
    obtain ⟨y, h1, h2⟩ := some_bind h
    obtain ⟨ys, h3, h4⟩ := some_bind h2
    rcases List.mem_cons.1 hx with e | e
    · subst e; exact ⟨y, h1⟩
    · exact ih h3 x e
theorem mapM_get {β : Type} {f : Nat → Option β} : ∀ {l : List Nat} {r : List β}, l.mapM f = some r → r.length = l.length ∧ ∀ (j : Nat) (x : Nat), l[j]? = some x → f x = r[j]? := by
  intro l
  induction l with
  | nil => intro r h; simp at h; subst h; exact ⟨rfl, fun j x hx => by simp at hx⟩
  | cons a l ih =>
    intro r h
    rw [List.mapM_cons] at h
    obtain ⟨y, h1, h2⟩ := some_bind h
    obtain ⟨ys, h3, h4⟩ := some_bind h2
    injection h4 with h4; subst h4
    obtain ⟨g1, g2⟩ := ih h3
    refine ⟨by simp [g1], fun j x hx => ?_⟩
    cases j with
    | zero => simp at hx; subst hx; simpa using h1
    | succ j => simp at hx; simpa using g2 j x hx

theorem cells?_get {w : World} {base : Nat} {a : Addr} {n : Nat} {cs : List Value} (h : w.cells? base a n = some cs) : cs.length = n ∧ ∀ (j : Nat) (v : Value), cs[j]? = some v → w.cell? (a.add j) = some v := by
  unfold World.cells? at h
  split at h
  · obtain ⟨h1, h2⟩ := mapM_get h
    simp only [List.length_range] at h1
    refine ⟨h1, fun j v hj => ?_⟩
    have hlt : j < n := by rw [← h1]; exact (List.getElem?_eq_some_iff.1 hj).1
    rw [h2 j j (by simp [hlt])]
    exact hj
  · cases h

section
variable {H : Type} {enc : TypeId × Value → H} {P : Program} {w : World} {sp : Nat → Bool} {hd : Bool}

def Imm.of (w : World) : Imm := fun a => w.cell? a

/-- What reading found, one after the other. -/
theorem els_read {fuel : Nat} {e : TypeId} {T : Ty} {a : Addr} {es : Nat} (ih : ∀ (cs : List Value) (x : DataW H × List MemPlace), DataW.trod enc P w 0 sp hd fuel e cs = some x → ∃ ps, PRels (Imm.of w) ps cs ∧ Ones cs ∧ HasTy T ps) :
    ∀ (n i : Nat), (∀ j, i ≤ j → j < i + n → ∃ x, ((w.cells? 0 (a.add (j * es)) es).bind (DataW.trod enc P w 0 sp hd fuel e)) = some x) →
    ∃ ps vs, PRels (Imm.of w) ps vs ∧ Ones vs ∧ Els (HasTy T) es n ps ∧ ∀ (j : Nat) (v : Value), vs[j]? = some v → w.cell? (a.add (i * es + j)) = some v := by
  intro n
  induction n with
  | zero => intro i _; exact ⟨[], [], .nil, .nil, rfl, fun j v h => by simp at h⟩
  | succ n ihn =>
    intro i h
    obtain ⟨x, hx⟩ := h i (Nat.le_refl _) (by omega)
    obtain ⟨c, h1, h2⟩ := some_bind hx
    obtain ⟨ps, g1, g2, g3⟩ := ih c x h2
    obtain ⟨c1, c2⟩ := cells?_get h1
    obtain ⟨qs, vs, k1, k2, k3, k4⟩ := ihn (i + 1) fun j hj hlt => h j (by omega) (by omega)
    refine ⟨ps ++ qs, c ++ vs, g1.append k1, g2.append k2, ⟨ps, qs, rfl, by rw [g1.length, c1], g3, k3⟩, fun j v hj => ?_⟩
    by_cases hlt : j < c.length
    · rw [List.getElem?_append_left hlt] at hj
      rw [← addr_add_add]
      exact c2 j v hj
    · rw [List.getElem?_append_right (by omega)] at hj
      have := k4 _ v hj
      rw [c1] at this hlt
      rw [show i * es + j = (i + 1) * es + (j - es) by rw [Nat.add_mul]; omega]
      exact this

theorem segs_read {fuel : Nat} {e : TypeId} {T : Ty} {es : Nat} (ih : ∀ (cs : List Value) (x : DataW H × List MemPlace), DataW.trod enc P w 0 sp hd fuel e cs = some x → ∃ ps, PRels (Imm.of w) ps cs ∧ Ones cs ∧ HasTy T ps) (cs : List Value) :
    ∀ (n i : Nat), cs.length = (i + n) * es → (∀ j, i ≤ j → j < i + n → ∃ x, DataW.trod enc P w 0 sp hd fuel e ((cs.drop (j * es)).take es) = some x) →
    ∃ ps, PRels (Imm.of w) ps (cs.drop (i * es)) ∧ Ones (cs.drop (i * es)) ∧ Els (HasTy T) es n ps := by
  intro n
  induction n with
  | zero => intro i hl _; rw [Nat.add_zero] at hl; exact ⟨[], by rw [List.drop_of_length_le (by omega)]; exact .nil, by rw [List.drop_of_length_le (by omega)]; exact .nil, rfl⟩
  | succ n ihn =>
    intro i hl h
    obtain ⟨x, hx⟩ := h i (Nat.le_refl _) (by omega)
    obtain ⟨ps, g1, g2, g3⟩ := ih _ x hx
    obtain ⟨qs, k1, k2, k3⟩ := ihn (i + 1) (by rw [hl]; congr 1; omega) fun j hj hlt => h j (by omega) (by omega)
    have e1 : cs.drop (i * es) = (cs.drop (i * es)).take es ++ cs.drop ((i + 1) * es) := by
      conv => lhs; rw [← List.take_append_drop es (cs.drop (i * es))]
      rw [List.drop_drop, Nat.add_mul, Nat.one_mul]
    have hle : (i + 1) * es ≤ cs.length := by rw [hl]; exact Nat.mul_le_mul_right _ (by omega)
    have hlen : ((cs.drop (i * es)).take es).length = es := by
      rw [List.length_take, List.length_drop]
      rw [Nat.add_mul] at hle
      omega
    rw [e1]
    exact ⟨ps ++ qs, g1.append k1, g2.append k2, ps, qs, rfl, by rw [g1.length, hlen], g3, k3⟩

theorem fs_read {fuel : Nat} {g : TypeId → Option Ty} (ih : ∀ (t : TypeId) (T : Ty) (cs : List Value) (x : DataW H × List MemPlace), g t = some T → DataW.trod enc P w 0 sp hd fuel t cs = some x → ∃ ps, PRels (Imm.of w) ps cs ∧ Ones cs ∧ HasTy T ps) (cs : List Value) :
    ∀ (fs : List Field) (off : Nat) (L : List (Nat × Ty)), tyFs P g fs off cs.length = some L → off ≤ cs.length → (∀ f ∈ fs, ∃ x, DataW.trod enc P w 0 sp hd fuel f.type ((cs.drop f.offset).take (P.cellsOf f.type)) = some x) →
    ∃ ps, PRels (Imm.of w) ps (cs.drop off) ∧ Ones (cs.drop off) ∧ HasFs L ps := by
  intro fs
  induction fs with
  | nil =>
    intro off L h hle _
    simp only [tyFs] at h
    cases hb : Nat.beq off cs.length with
    | false => rw [hb] at h; cases h
    | true =>
      rw [hb] at h; injection h with h; subst h
      have := Nat.eq_of_beq_eq_true hb
      rw [List.drop_of_length_le (by omega)]
      exact ⟨[], .nil, .nil, by simp [HasFs]⟩
  | cons f fs ihf =>
    intro off L h hle hx
    simp only [tyFs] at h
    split at h
    · rename_i t r h1 h2
      cases hb : Nat.beq f.offset off with
      | false => rw [hb] at h; cases h
      | true =>
        rw [hb] at h; injection h with h; subst h
        have ho := Nat.eq_of_beq_eq_true hb
        obtain ⟨x, hx1⟩ := hx f (by simp)
        rw [ho] at hx1
        obtain ⟨ps, g1, g2, g3⟩ := ih _ t _ x h1 hx1
        have hle2 : off + P.cellsOf f.type ≤ cs.length := by
          have : ∀ (fs : List Field) (o : Nat) (L : List (Nat × Ty)), tyFs P g fs o cs.length = some L → o ≤ cs.length := by
            intro fs
            induction fs with
            | nil =>
              intro o L h
              simp only [tyFs] at h
              cases hb : Nat.beq o cs.length with
              | false => rw [hb] at h; cases h
              | true => exact Nat.le_of_eq (Nat.eq_of_beq_eq_true hb)
            | cons f fs ih2 =>
              intro o L h
              simp only [tyFs] at h
              split at h
              · rename_i t' r' _ h3
                have := ih2 _ _ h3
                omega
              · cases h
          exact this fs _ _ h2
        obtain ⟨qs, k1, k2, k3⟩ := ihf _ r h2 hle2 fun f' hf' => hx f' (by simp [hf'])
        have e1 : cs.drop off = (cs.drop off).take (P.cellsOf f.type) ++ cs.drop (off + P.cellsOf f.type) := by
          conv => lhs; rw [← List.take_append_drop (P.cellsOf f.type) (cs.drop off)]
          rw [List.drop_drop]
        have hlen : ((cs.drop off).take (P.cellsOf f.type)).length = P.cellsOf f.type := by
          rw [List.length_take, List.length_drop]; omega
        rw [e1]
        refine ⟨ps ++ qs, g1.append k1, g2.append k2, ?_⟩
        simp only [HasFs]
        exact ⟨ps, qs, rfl, by rw [g1.length, hlen], g3, k3⟩
    · cases h

theorem read : ∀ (fuel d : Nat) (t : TypeId) (T : Ty) (cs : List Value) (x : DataW H × List MemPlace), tyOf P d t = some T → DataW.trod enc P w 0 sp hd fuel t cs = some x → ∃ ps, PRels (Imm.of w) ps cs ∧ Ones cs ∧ HasTy T ps := by
  intro fuel
  induction fuel with
  | zero => intro d t T cs x _ h; simp [DataW.trod] at h
  | succ fuel ih =>
    intro d t T cs x hT hx
    cases d with
    | zero => cases hT
    | succ d =>
      simp only [tyOf] at hT
      have ihc : ∀ (t : TypeId) (T : Ty) (cs : List Value) (x : DataW H × List MemPlace), tyOf P d t = some T → DataW.trod enc P w 0 sp hd fuel t cs = some x → ∃ ps, PRels (Imm.of w) ps cs ∧ Ones cs ∧ HasTy T ps := fun t T cs x h1 h2 => ih d t T cs x h1 h2
      simp only [DataW.trod] at hx
      split at hx
      case h_1 hu =>
        rw [hu] at hT; injection hT with hT; subst hT
        exact ⟨[.bool _], .cons _ _ _ _ (.bool _) .nil, .cons rfl .nil, by simp [HasTy]⟩
      case h_2 k k' m hu =>
        rw [hu] at hT; injection hT with hT; subst hT
        split at hx
        · rename_i hc
          obtain ⟨rfl, hw⟩ := hc
          exact ⟨[.int _ _], .cons _ _ _ _ (.int _ _) .nil, .cons rfl .nil, by simp [HasTy, hw]⟩
        · cases hx
      case h_4 s hu =>
        rw [hu] at hT; injection hT with hT; subst hT
        split at hx
        · rename_i hc
          exact ⟨[.str _], .cons _ _ _ _ (.str _) .nil, .cons rfl .nil, by simp [HasTy, hc]⟩
        · cases hx
      case h_7 e hu =>
        rw [hu] at hT
        obtain ⟨E, _, rfl⟩ := map_some hT
        refine ⟨[.sl .nil 0 []], .cons _ _ _ _ (.slNil _ (by simp) (by simp)) .nil, .cons rfl .nil, ?_⟩
        simp only [HasTy]
        exact ⟨.nil, 0, [], rfl, .inl ⟨rfl, rfl, rfl⟩, Nat.zero_le _, rfl⟩
      case h_8 e a len cap hu =>
        rw [hu] at hT
        obtain ⟨E, hE, rfl⟩ := map_some hT
        split at hx
        · rename_i hc
          obtain ⟨elems, h1, _⟩ := some_bind hx
          have hall := mapM_opt h1
          obtain ⟨ps, vs, g1, g2, g3, g4⟩ := els_read (a := a) (es := P.cellsOf e) (fun cs x h => ihc e E cs x hE h) len 0 fun j _ hj => by
            obtain ⟨y, hy⟩ := hall j (by simp; omega)
            exact ⟨y, hy⟩
          refine ⟨[.sl .nn len ps], .cons _ _ _ _ (.sl .nn len ps a cap vs (by simp) (by simp) hc.2.1 g1 (fun j v hj => by simpa [Imm.of] using g4 j v hj) g2) .nil, .cons rfl .nil, ?_⟩
          simp only [HasTy]
          exact ⟨.nn, len, ps, rfl, .inr rfl, Nat.le_trans hc.2.1 hc.2.2, g3⟩
        · cases hx
      case h_9 cs _ _ fs hu =>
        rw [hu] at hT
        obtain ⟨L, hL, rfl⟩ := map_some hT
        split at hx
        · rename_i hc
          obtain ⟨xs, h1, _⟩ := map_some hx
          rw [← hc] at hL
          obtain ⟨ps, g1, g2, g3⟩ := fs_read (g := tyOf P d) (fun t T cs x h1 h2 => ihc t T cs x h1 h2) cs fs.toList 0 L hL (Nat.zero_le _) fun f hf => mapM_opt h1 f hf
          refine ⟨ps, by simpa using g1, by simpa using g2, ?_⟩
          simp only [HasTy]
          exact g3
        · cases hx
      case h_10 cs _ _ n e hu =>
        rw [hu] at hT
        simp only at hT
        split at hT
        · rename_i E hE
          cases hb : Nat.beq (P.cellsOf t) (n * P.cellsOf e) with
          | false => rw [hb] at hT; cases hT
          | true =>
            rw [hb] at hT; injection hT with hT; subst hT
            split at hx
            · rename_i hc
              obtain ⟨xs, h1, _⟩ := map_some hx
              have hl : cs.length = (0 + n) * P.cellsOf e := by rw [hc, Nat.eq_of_beq_eq_true hb, Nat.zero_add]
              obtain ⟨ps, g1, g2, g3⟩ := segs_read (es := P.cellsOf e) (fun cs x h => ihc e E cs x hE h) cs n 0 hl fun j _ hj => mapM_opt h1 j (by simp; omega)
              refine ⟨ps, by simpa using g1, by simpa using g2, ?_⟩
              simp only [HasTy]
              exact g3
            · cases hx
        · cases hT
      all_goals first
        | (rename_i hu; rw [hu] at hT; cases hT; done)
        | (cases hx; done)
        | skip
end
end Go.VM

namespace Go.VM
open Go Go.RowKit

/-- An argument of plain data. -/
def HasArg (T : Ty) (p : PV) : Prop := match T with
  | .st fs => ∃ ps, p = .agg ps ∧ HasFs fs ps
  | .arr n es e => ∃ ps, p = .agg ps ∧ Els (HasTy e) es n ps
  | T => HasTy T [p]
def HasArgs : List Ty → List PV → Prop
  | [], ps => ps = []
  | T :: Ts, ps => ∃ p qs, ps = p :: qs ∧ HasArg T p ∧ HasArgs Ts qs

section
variable {H : Type} {enc : TypeId × Value → H} {P : Program} {W : World}

theorem tyOf_agg {d : Nat} {t : TypeId} {T : Ty} (h : tyOf P d t = some T) : (∃ fs, P.underlying t = some (.struct fs) ∧ ∃ L, T = .st L) ∨ (∃ n e, P.underlying t = some (.array n e) ∧ ∃ a b c, T = .arr a b c) ∨
    ((∀ fs, P.underlying t ≠ some (.struct fs)) ∧ (∀ n e, P.underlying t ≠ some (.array n e)) ∧ (∀ L, T ≠ .st L) ∧ (∀ a b c, T ≠ .arr a b c)) := by
  cases d with
  | zero => cases h
  | succ d =>
    simp only [tyOf] at h
    split at h
    · rename_i hu; injection h with h; subst h; exact .inr (.inr ⟨by simp [hu], by simp [hu], by simp, by simp⟩)
    · rename_i hu; injection h with h; subst h; exact .inr (.inr ⟨by simp [hu], by simp [hu], by simp, by simp⟩)
    · rename_i hu; injection h with h; subst h; exact .inr (.inr ⟨by simp [hu], by simp [hu], by simp, by simp⟩)
    · rename_i hu; obtain ⟨_, _, rfl⟩ := map_some h; exact .inr (.inr ⟨by simp [hu], by simp [hu], by simp, by simp⟩)
    · rename_i fs hu; obtain ⟨L, _, rfl⟩ := map_some h; exact .inl ⟨fs, hu, L, rfl⟩
    · rename_i n e hu
      split at h
      · rw [Bool.cond_eq_ite] at h
        split at h
        · injection h with h; subst h; exact .inr (.inl ⟨n, e, hu, _, _, _, rfl⟩)
        · cases h
      · cases h
    · cases h

theorem okWide_plain {base : Nat} {t : TypeId} {v : Value} (h : Value.okWide P W .any base t v) (h1 : ∀ fs, P.underlying t ≠ some (.struct fs)) (h2 : ∀ n e, P.underlying t ≠ some (.array n e)) : ∀ cs, v ≠ .agg cs := by
  intro cs e
  subst e
  unfold Value.okWide at h
  split at h
  · rename_i hu; exact h1 _ hu
  · rename_i hu; exact h2 _ _ hu
  · unfold Cell.okWide at h
    split at h
    all_goals first
      | (rename_i hv; cases hv; done)
      | (rename_i _ hv; cases hv; done)
      | (rename_i _ _ hv; cases hv; done)
      | skip
    unfold Cell.ok at h
    split at h
    all_goals first
      | (rename_i hv; cases hv; done)
      | (rename_i _ hv; cases hv; done)
      | (rename_i _ _ hv; cases hv; done)
      | exact h

theorem read_arg {d : Nat} {t : TypeId} {T : Ty} {base : Nat} {v : Value} {dd : DataW H} {pl : List MemPlace} {sp : Nat → Bool} {hd : Bool} (hT : tyOf P d t = some T) (hok : Value.okWide P W .any base t v) (h : DataW.Trod enc P W 0 sp hd t v dd pl) :
    ∃ p, PRel (Imm.of W) p v ∧ HasArg T p := by
  obtain ⟨fuel, h⟩ := h
  obtain ⟨ps, h1, h2, h3⟩ := read fuel d t T _ _ hT h
  have single : ∀ (q : PV), ps = [q] → (∀ cs, v ≠ .agg cs) → PRel (Imm.of W) q v := by
    intro q hq hv
    subst hq
    have hc : v.cells = #[v] := by cases v <;> first | rfl | exact absurd rfl (hv _)
    rw [hc] at h1
    cases h1 with | cons _ _ _ _ g1 _ => exact g1
  rcases tyOf_agg hT with ⟨fs, hu, L, rfl⟩ | ⟨n, e, hu, a, b, c, rfl⟩ | ⟨k1, k2, k3, k4⟩
  · unfold Value.okWide at hok
    rw [hu] at hok
    obtain ⟨cs, rfl, _⟩ := hok
    simp only [HasTy] at h3
    refine ⟨.agg ps, ?_, ps, rfl, h3⟩
    have := PRel.agg ps cs.toList (by simpa [Value.cells] using h1) (by simpa [Value.cells] using h2)
    simpa using this
  · unfold Value.okWide at hok
    rw [hu] at hok
    obtain ⟨cs, rfl, _⟩ := hok
    simp only [HasTy] at h3
    refine ⟨.agg ps, ?_, ps, rfl, h3⟩
    have := PRel.agg ps cs.toList (by simpa [Value.cells] using h1) (by simpa [Value.cells] using h2)
    simpa using this
  · have hv := okWide_plain hok k1 k2
    cases T with
    | st L => exact absurd rfl (k3 L)
    | arr a b c => exact absurd rfl (k4 a b c)
    | bool =>
      have h3' := h3
      simp only [HasTy] at h3
      obtain ⟨b, rfl⟩ := h3
      exact ⟨_, single _ rfl hv, h3'⟩
    | int k =>
      have h3' := h3
      simp only [HasTy] at h3
      obtain ⟨b, rfl, _⟩ := h3
      exact ⟨_, single _ rfl hv, h3'⟩
    | str =>
      have h3' := h3
      simp only [HasTy] at h3
      obtain ⟨b, rfl, _⟩ := h3
      exact ⟨_, single _ rfl hv, h3'⟩
    | sl es e =>
      have h3' := h3
      simp only [HasTy] at h3
      obtain ⟨x, len, cells, rfl, _⟩ := h3
      exact ⟨_, single _ rfl hv, h3'⟩

theorem read_args {d : Nat} {base : Nat} {sp : Nat → Bool} {hd : Bool} : ∀ {ts : List TypeId} {Ts : List Ty} {vs : List Value} {ds : List (DataW H)} {pl : List MemPlace}, tysOf P d ts = some Ts → (∀ (j : Nat) (t : TypeId) (v : Value), ts[j]? = some t → vs[j]? = some v → Value.okWide P W .any base t v) → DataW.TrodAll enc P W 0 sp hd ts vs ds pl →
    ∃ ps, PRels (Imm.of W) ps vs ∧ HasArgs Ts ps := by
  intro ts
  induction ts with
  | nil =>
    intro Ts vs ds pl hT hok h
    simp [tysOf] at hT; subst hT
    cases vs with
    | nil => exact ⟨[], .nil, rfl⟩
    | cons _ _ => cases ds <;> exact h.elim
  | cons t ts ih =>
    intro Ts vs ds pl hT hok h
    simp only [tysOf] at hT
    split at hT
    · rename_i T r h1 h2
      injection hT with hT; subst hT
      cases vs with
      | nil => cases ds <;> exact h.elim
      | cons v vs =>
        cases ds with
        | nil => exact h.elim
        | cons dd ds =>
          obtain ⟨p, q, g1, g2, _⟩ := h
          obtain ⟨x, k1, k2⟩ := read_arg h1 (hok 0 t v rfl rfl) g1
          obtain ⟨xs, k3, k4⟩ := ih h2 (fun j t' v' hj hv => hok (j + 1) t' v' (by simpa using hj) (by simpa using hv)) g2
          exact ⟨x :: xs, .cons _ _ _ _ k1 k3, x, xs, rfl, k2, k4⟩
    · cases hT
end

/-- The whole world, as it lies: nothing of it is the abstract machine's own. -/
theorem SRel.world (Γ : Ctx) (W : World) (hG : Γ.gi.le (Imm.of W)) (hN : ∀ a, Γ.gn a = true → a.block < W.heap.size ∧ W.cell? a = none) : SRel Γ W.heap.size { loc := fun _ => none, imm := Imm.of W, tl := fun _ _ => none } [] W := by
  have hp : ∀ id, place { loc := fun _ => none, imm := Imm.of W, tl := fun _ _ => none } id (hget [] id) = none := fun id => by rw [hget_ge (by simp)]; rfl
  exact ⟨fun _ _ h => h, fun id k hk => (by rw [hp] at hk; cases hk), fun id _ k hk => (by rw [hp] at hk; cases hk), fun _ _ => ⟨rfl, fun _ => rfl⟩, Nat.le_refl _, hG, hN⟩

/-- What the abstract machine answers on the arguments, the model answers, and leaves all that was as it was. -/
theorem calls_of_EE {Γ : Ctx} {env : Env} (hV : EnvOK Γ env) {f : FuncId} {ps : List PV} {p : PV} {H' : Heap} (h : EE env (.fn f) (ps.map .pv) [] = some (.pv p, H')) {W : World} (hG : Γ.gi.le (Imm.of W)) (hN : ∀ a, Γ.gn a = true → a.block < W.heap.size ∧ W.cell? a = none) {args : Array Value} (ha : PRels (Imm.of W) ps args.toList) :
    Calls Γ.P f args W fun e W' => ∃ v, e = .returned v ∧ (∃ I, PRel I p v) ∧ Below W.heap.size W W' := by
  have := (EE_ok hV).fn _ _ _ _ _ h W.heap.size _ W args.toList (SRel.world Γ W hG hN) (VRels.of_pv ha)
  rw [Array.toArray_toList] at this
  refine (callsIn_wide.1 this).mono fun e W' ho => ?_
  cases e with
  | returned v =>
    obtain ⟨κ', h1, h2, h3⟩ := ho
    refine ⟨v, rfl, ?_, h3.os, h3.tape, h3.output, h3.size, fun k hk => h3.frame k hk fun id hp => ?_⟩
    · cases h1 with | pv _ _ h1 => exact ⟨_, h1⟩
    · rw [hget_ge (by simp)] at hp; cases hp
  | panicked _ => exact ho.elim
  | outgrown => exact ho.elim
end Go.VM

namespace Go.VM
open Go Go.RowKit Go.ChangeShapes Go.WideShapes

section
variable {H : Type} {enc : TypeId × Value → H} {P : Program}

theorem TrodAll_stays (hl : laidOutB P = true) {W W' : World} {sp' : Nat → Bool} : ∀ {ts : List TypeId} {vs : List Value} {ds : List (DataW H)} {ps : List MemPlace}, (∀ t ∈ ts, P.readableRec t = true ∧ t < P.types.size) →
    DataW.TrodAll enc P W 0 (fun _ => true) true ts vs ds ps → (∀ p ∈ ps, W.sameAt W' p) → (∀ p ∈ ps, sp' p.block = true) → DataW.TrodAll enc P W' 0 sp' true ts vs ds ps := by
  intro ts
  induction ts with
  | nil =>
    intro vs ds ps _ h _ _
    cases vs <;> cases ds <;> first | exact h | exact h.elim
  | cons t ts ih =>
    intro vs ds ps hr h hs hp
    cases vs with
    | nil => cases ds <;> exact h.elim
    | cons v vs =>
      cases ds with
      | nil => exact h.elim
      | cons d ds =>
        obtain ⟨p, q, g1, g2, rfl⟩ := h
        have ht := hr t (by simp)
        exact ⟨p, q, WideElems.Trod_stays hl ht.1 ht.2 g1 (fun x hx => hs x (by simp [hx])) (fun x hx => hp x (by simp [hx])),
          ih (fun t' h' => hr t' (by simp [h'])) g2 (fun x hx => hs x (by simp [hx])) (fun x hx => hp x (by simp [hx])), rfl⟩

/-- What a law must leave. -/
theorem law_post {fn : Func} {s : ChangeSpec} {apart fresh handsOn : Bool} {W W' : World} {args : Array Value} {ds gs : List (DataW H)} {before : List MemPlace} {tb : TypeId}
    (hl : laidOutB P = true) (hr : fn.params.toList.all (fun t => P.readableRec t && decide (t < P.types.size)) = true) (hvars : s.vars = []) (hrt : fn.resultTypes = #[tb]) (htb : P.underlying tb = some .bool)
    (hfn : ∀ ds : List (DataW H), ds.length = fn.params.size → s.fn H ds = { results := [.lit (.bool true)], args := ds })
    (hlen : ds.length = fn.params.size) (hW : DataW.Whole enc P fn.params.toList s.vars apart W args.toList ds gs before) (hb : Below W.heap.size W W') : s.post enc P fn apart fresh handsOn false W args (.bool true) W' := by
  have hW' := hW
  obtain ⟨p, q, h1, h2, rfl, _, _⟩ := hW
  rw [hvars] at h2
  obtain ⟨rfl, rfl⟩ := trodVars_none h2
  have hlt := hW'.lt
  have hr' : ∀ t ∈ fn.params.toList, P.readableRec t = true ∧ t < P.types.size := fun t ht => by
    have := List.all_eq_true.1 hr t ht
    rw [Bool.and_eq_true, decide_eq_true_eq] at this
    exact this
  have hf := hfn ds hlen
  have hb' := hb.frame (fun x => x ∈ p ++ [] ∧ (x ∈ ([] : List MemPlace) ∨ x ∈ p ∨ x ∈ ([] : List MemPlace)))
  refine ⟨ds, [], p ++ [], [], p, [], hW', ?_, ?_, ?_, hb', fun h => by cases h⟩
  · rw [List.append_nil, hf, hrt]
    exact trodAll_mk1 ⟨1, by simp [DataW.trod, Value.cells, htb]⟩
  · rw [List.append_nil, hf]
    exact TrodAll_stays hl hr' h1 (fun x hx => hb.same (hlt x (by simp [hx]))) (fun x hx => by simpa using hlt x (by simp [hx]))
  · rw [List.append_nil, hf, hvars]
    rfl

theorem trodAll_length {w : World} {base : Nat} {sp : Nat → Bool} {hd : Bool} : ∀ {ts : List TypeId} {vs : List Value} {ds : List (DataW H)} {ps : List MemPlace}, DataW.TrodAll enc P w base sp hd ts vs ds ps → ds.length = ts.length := by
  intro ts
  induction ts with
  | nil => intro vs ds ps h; cases vs <;> cases ds <;> first | rfl | exact h.elim
  | cons t ts ih =>
    intro vs ds ps h
    cases vs with
    | nil => cases ds <;> exact h.elim
    | cons v vs => cases ds with
      | nil => exact h.elim
      | cons d ds => obtain ⟨p, q, _, g2, _⟩ := h; simp [ih g2]
end

/-- A law that answers true in the abstract machine, whatever its arguments. -/
theorem law_lifted {C : Checked} {md : FuncId → Mode} {env : Env} (hV : EnvOK ⟨C.prog, md, fun _ => none, fun _ => false⟩ env) {f : FuncId} {fn : Func} {s : ChangeSpec} {conds : List PathCond} {apart fresh handsOn : Bool} {tb : TypeId} {Ts : List Ty}
    (own : ownKnob C.prog.godebug = none) {os : Os} (started : os.Started) (noInit : C.prog.inits.idxOf? f = none) (hf : C.prog.funcs[f]? = some fn) {H : Type} {enc : TypeId × Value → H}
    (witness : ∃ (w : World) (tape : Tape) (i : Input), w.os = os ∧ (w.forCall tape i).Shaped C.prog ∧ i.vars = [] ∧ Input.okWide C.prog (w.forCall tape i) .any w.heap.size f i ∧
      s.pre6 enc C.prog fn conds apart (w.forCall tape i).memory i.args ∧ ({} : Assume).holds C.prog (lone (Frame.enter C.prog f i.args .normal) [] (w.forCall tape i)))
    (hl : laidOutB C.prog = true) (hr : fn.params.toList.all (fun t => C.prog.readableRec t && decide (t < C.prog.types.size)) = true) (hvars : s.vars = []) (hrt : fn.resultTypes = #[tb]) (htb : C.prog.underlying tb = some .bool)
    (hfn : ∀ ds : List (DataW H), ds.length = fn.params.size → s.fn H ds = { results := [.lit (.bool true)], args := ds })
    (hT : tysOf C.prog 40 fn.params.toList = some Ts) (law : ∀ ps, HasArgs Ts ps → ∃ H', EE env (.fn f) (ps.map .pv) [] = some (.pv (.bool true), H')) :
    ReturnsInHanded {} C os f .any (s.pre6 enc C.prog fn conds apart) (s.post enc C.prog fn apart fresh handsOn false) := by
  refine returnsInHanded_of_change own started noInit hf witness ?_
  intro W base args ds gs before hval hW _ _
  have hW0 := hW
  obtain ⟨p, q, h1, _⟩ := hW
  obtain ⟨ps, g1, g2⟩ := read_args hT (fun j t v ht hv => hval j t v (by rw [← Array.getElem?_toList]; exact ht) (by rw [← Array.getElem?_toList]; exact hv)) h1
  obtain ⟨H', hE⟩ := law ps g2
  refine (calls_of_EE hV hE (fun a v hv => by cases hv) (fun a ha => by cases ha) g1).mono fun e W' ⟨v, he, ⟨I, hv⟩, hb⟩ => ⟨v, he, ?_⟩
  cases hv
  exact law_post hl hr hvars hrt htb hfn (by rw [trodAll_length h1]; simp) hW0 hb
/-- The same, where package-level variables are known. -/
theorem law_laid {C : Checked} {md : FuncId → Mode} {env : Env} {gi : Imm} {gn : Addr → Bool} (hV : EnvOK ⟨C.prog, md, gi, gn⟩ env) {X : World → Prop} (hX : ∀ w w' : World, w.heap = w'.heap → X w → X w') (hG : ∀ w, X w → gi.le (Imm.of w)) (hN : ∀ w, X w → ∀ a, gn a = true → a.block < w.heap.size ∧ w.cell? a = none) {f : FuncId} {fn : Func} {s : ChangeSpec} {conds : List PathCond} {apart fresh handsOn : Bool} {tb : TypeId} {Ts : List Ty}
    (own : ownKnob C.prog.godebug = none) {os : Os} (started : os.Started) (noInit : C.prog.inits.idxOf? f = none) (hf : C.prog.funcs[f]? = some fn) {H : Type} {enc : TypeId × Value → H}
    (witness : ∃ (w : World) (tape : Tape) (i : Input), w.os = os ∧ (w.forCall tape i).Shaped C.prog ∧ i.vars = [] ∧ Input.okWide C.prog (w.forCall tape i) .any w.heap.size f i ∧
      ((s.pre enc C.prog fn conds apart (w.forCall tape i).memory i.args ∧ X (w.forCall tape i).memory) ∧ sizedMet enc C.prog fn (OpenSpec.ofChange s) apart (w.forCall tape i).memory i.args) ∧ ({} : Assume).holds C.prog (lone (Frame.enter C.prog f i.args .normal) [] (w.forCall tape i)))
    (hl : laidOutB C.prog = true) (hr : fn.params.toList.all (fun t => C.prog.readableRec t && decide (t < C.prog.types.size)) = true) (hvars : s.vars = []) (hrt : fn.resultTypes = #[tb]) (htb : C.prog.underlying tb = some .bool)
    (hfn : ∀ ds : List (DataW H), ds.length = fn.params.size → s.fn H ds = { results := [.lit (.bool true)], args := ds })
    (hT : tysOf C.prog 40 fn.params.toList = some Ts) (law : ∀ ps, HasArgs Ts ps → ∃ H', EE env (.fn f) (ps.map .pv) [] = some (.pv (.bool true), H')) :
    ReturnsInHanded {} C os f .any (fun w args => (s.pre enc C.prog fn conds apart w args ∧ X w) ∧ sizedMet enc C.prog fn (OpenSpec.ofChange s) apart w args) (s.post enc C.prog fn apart fresh handsOn false) := by
  refine returnsInHanded_of_change_and (X := fun w _ => X w) (fun w w' _ hh h => hX w w' hh h) own started noInit hf witness ?_
  intro W base args ds gs before hval hW _ _ hL _
  have hW0 := hW
  obtain ⟨p, q, h1, _⟩ := hW
  obtain ⟨ps, g1, g2⟩ := read_args hT (fun j t v ht hv => hval j t v (by rw [← Array.getElem?_toList]; exact ht) (by rw [← Array.getElem?_toList]; exact hv)) h1
  obtain ⟨H', hE⟩ := law ps g2
  refine (calls_of_EE hV hE (hG W hL) (hN W hL) g1).mono fun e W' ⟨v, he, ⟨I, hv⟩, hb⟩ => ⟨v, he, ?_⟩
  cases hv
  exact law_post hl hr hvars hrt htb hfn (by rw [trodAll_length h1]; simp) hW0 hb
end Go.VM

namespace Go.VM
open Go

/-- There is an answer, and it is so. -/
def Has {α : Type} (o : Option α) (Q : α → Prop) : Prop := ∃ x, o = some x ∧ Q x

section
variable {R α : Type} {Q : R → Prop}
theorem Has.intro {x : R} (h : Q x) : Has (some x) Q := ⟨x, rfl, h⟩
theorem Has.mono {o : Option R} {Q' : R → Prop} (h : Has o Q) (hq : ∀ x, Q x → Q' x) : Has o Q' := by
  obtain ⟨x, h1, h2⟩ := h; exact ⟨x, h1, hq x h2⟩
theorem Has.eq {o : Option R} {x : R} (h : Has o (fun y => y = x)) : o = some x := by obtain ⟨y, h1, h2⟩ := h; rw [h1, h2]
theorem Has.of_eq {o : Option R} {x : R} (h : o = some x) (hq : Q x) : Has o Q := ⟨x, h, hq⟩

theorem needK_has {p : Bool} {x : Option R} (h : p = true) (hx : Has x Q) : Has (needK p x) Q := by rw [needK_def, h]; exact hx
theorem boolK_has {b : Bool} {F : Bool → Option R} (ht : b = true → Has (F true) Q) (hf : b = false → Has (F false) Q) : Has (boolK b F) Q := by
  rw [boolK_def]; cases b; exact hf rfl; exact ht rfl
theorem boolK_has_true {b : Bool} {F : Bool → Option R} (h : b = true) (ht : Has (F true) Q) : Has (boolK b F) Q := by rw [boolK_def, h]; exact ht
theorem boolK_has_false {b : Bool} {F : Bool → Option R} (h : b = false) (ht : Has (F false) Q) : Has (boolK b F) Q := by rw [boolK_def, h]; exact ht
theorem boolK_has_keep {b : Bool} {F : Bool → Option R} (ht : Has (F b) Q) : Has (boolK b F) Q := by rw [boolK_def]; exact ht
theorem boolK_has_eq {b c : Bool} {F : Bool → Option R} (e : b = c) (ht : Has (F c) Q) : Has (boolK b F) Q := by rw [boolK_def, e]; exact ht
theorem eqK_has {x : α} {F : α → Option R} (h : Has (F x) Q) : Has (eqK x F) Q := by rw [eqK_def]; exact h
theorem eqK_has_eq {x : α} {F : α → Option R} (x' : α) (e : x = x') (h : Has (F x') Q) : Has (eqK x F) Q := by rw [eqK_def, e]; exact h
/-- The value gets a name. -/
theorem eqK_has_name {x : α} {F : α → Option R} (h : ∀ x', x' = x → Has (F x') Q) : Has (eqK x F) Q := by rw [eqK_def]; exact h _ rfl
theorem getK_has {l : List α} {i : Nat} {F : α → Option R} {v : α} (e : l[i]? = some v) (h : Has (F v) Q) : Has (getK l i F) Q := by rw [getK_def, e]; exact h
theorem secK_has {l : List α} {i n : Nat} {F : List α → Option R} {v : List α} (e : (l.drop i).take n = v) (hn : i + n ≤ l.length) (h : Has (F v) Q) : Has (secK l i n F) Q := by
  rw [secK_def, e, show Nat.ble (i + n) l.length = true from Nat.ble_eq_true_of_le hn]; exact h
theorem bindK_has {x : Option α} {F : α → Option R} {v : α} (e : x = some v) (h : Has (F v) Q) : Has (bindK x F) Q := by rw [bindK_def, e]; exact h
theorem hgetK_has {H : Heap} {id : Nat} {F : HObj → Option R} (o : HObj) (e : hget H id = o) (h : Has (F o) Q) : Has (hgetK H id F) Q := by rw [hgetK_def, e]; exact h
theorem hgetK_has_keep {H : Heap} {id : Nat} {F : HObj → Option R} (h : Has (F (hget H id)) Q) : Has (hgetK H id F) Q := by rw [hgetK_def]; exact h
theorem callPK_has {E : Orc} {f : FuncId} {ps : List PV} {F : PV → Option R} {p : PV} (e : EP E f ps = some p) (h : Has (F p) Q) : Has (callPK E f ps F) Q := by rw [callPK_def, e]; exact h
theorem callPK_has' {E : Orc} {f : FuncId} {ps : List PV} {F : PV → Option R} (e : Has (EP E f ps) fun p => Has (F p) Q) : Has (callPK E f ps F) Q := by
  rw [callPK_def]; obtain ⟨p, h1, h2⟩ := e; rw [h1]; exact h2
theorem callSK_has {E : Orc} {t : Tgt} {args : List AV} {h : Heap} {F : AV → Heap → Option R} {v : AV} {h' : Heap} (e : E t args h = some (v, h')) (hy : Has (F v h') Q) : Has (callSK E t args h F) Q := by
  rw [callSK_def, e]; exact hy
theorem callSK_has' {E : Orc} {t : Tgt} {args : List AV} {h : Heap} {F : AV → Heap → Option R} (e : Has (E t args h) fun p => Has (F p.1 p.2) Q) : Has (callSK E t args h F) Q := by
  rw [callSK_def]; obtain ⟨p, h1, h2⟩ := e; rw [h1]; exact h2
theorem sameK_has {a b : Option AV} {x : Option R} (h : a = b) (hs : a.isSome = true) (hx : Has x Q) : Has (sameK a b x) Q := by rw [sameK_def, if_pos ⟨h, hs⟩]; exact hx
theorem loopK_has {b : Regs → Heap → Option Res} {r : Regs} {h : Heap} {F : Ex → Regs → Heap → Option R} (e : Has (iterE b r h) fun x => Has (F x.1 x.2.1 x.2.2) Q) : Has (loopK b r h F) Q := by
  rw [loopK_def]; obtain ⟨p, h1, h2⟩ := e; rw [h1]; exact h2
theorem cond_has {c : Bool} {x y : Option R} (ht : c = true → Has x Q) (hf : c = false → Has y Q) : Has (bif c then x else y) Q := by
  cases c; exact hf rfl; exact ht rfl
theorem EE_has {env : Env} {t : Tgt} {args : List AV} {h : Heap} {Q : AV × Heap → Prop} (hx : Has (evTgtK env (EE env) t args h (fun v h => some (v, h))) Q) : Has (EE env t args h) Q := by
  obtain ⟨x, h1, h2⟩ := hx; exact ⟨x, EE_intro h1, h2⟩
theorem EP_has {env : Env} {f : FuncId} {ps : List PV} {Q : PV → Prop} (hx : Has (evTgtK env (EE env) (.fn f) (ps.map .pv) [] (fun v h => some (v, h))) fun x => Has (out x.2 x.1) Q) : Has (EP (EE env) f ps) Q := by
  obtain ⟨x, h1, p, h2, h3⟩ := hx
  refine ⟨p, ?_, h3⟩
  rw [EP, EE_intro h1]; exact h2
end

/-! ### registers of which something is known -/
def Agr (r : Regs) : List (Nat × AV) → Prop
  | [] => True
  | (t, v) :: l => r t = v ∧ Agr r l
def setL (r : Regs) : List (Nat × AV) → Regs
  | [] => r
  | (t, v) :: l => upd (setL r l) t v
theorem Agr.eq {r : Regs} {l : List (Nat × AV)} (h : Agr r l) : setL r l = r := by
  induction l with
  | nil => rfl
  | cons x l ih =>
    obtain ⟨t, v⟩ := x
    obtain ⟨h1, h2⟩ := h
    show upd (setL r l) t v = r
    rw [ih h2]
    funext i
    unfold upd
    cases hb : Nat.beq i t with
    | false => rfl
    | true => rw [Nat.eq_of_beq_eq_true hb, h1]; rfl

theorem iterE_step {b : Regs → Heap → Option Res} {r : Regs} {h : Heap} {Q : Res → Prop} (hx : Has (b r h) fun x => match x.1 with | .normal => Has (iterE b x.2.1 x.2.2) Q | _ => Q x) : Has (iterE b r h) Q := by
  obtain ⟨⟨e, r', h'⟩, h1, h2⟩ := hx
  cases e with
  | normal =>
    obtain ⟨y, h3, h4⟩ := h2
    obtain ⟨n, hn⟩ := lim_some h3
    refine ⟨y, iterE_intro (n := n + 1) ?_, h4⟩
    simp only [iterN, h1, Option.bind_some]
    exact hn
  | exit id => exact ⟨_, iterE_intro (n := 1) (by simp only [iterN, h1, Option.bind_some]), h2⟩
  | ret => exact ⟨_, iterE_intro (n := 1) (by simp only [iterN, h1, Option.bind_some]), h2⟩

/-- A loop, round by round: what is known at a round's head is told by a state, of which a number falls. -/
theorem iterE_loop {σ : Type} {b : Regs → Heap → Option Res} {Q : Res → Prop} (m : σ → Nat) (L : σ → List (Nat × AV)) (Hp : σ → Heap) (Ok : σ → Prop)
    (step : ∀ s, Ok s → ∀ r, Has (b (setL r (L s)) (Hp s)) fun x => match x.1 with | .normal => ∃ s', Ok s' ∧ m s' < m s ∧ Agr x.2.1 (L s') ∧ x.2.2 = Hp s' | _ => Q x)
    (s : σ) (hs : Ok s) {r : Regs} {h : Heap} (ha : Agr r (L s)) (hh : h = Hp s) : Has (iterE b r h) Q := by
  have key : ∀ (n : Nat) (s : σ), m s < n → Ok s → ∀ r, Agr r (L s) → Has (iterE b r (Hp s)) Q := by
    intro n
    induction n with
    | zero => intro s h; omega
    | succ n ih =>
      intro s hm ho r ha
      have h1 := step s ho r
      rw [ha.eq] at h1
      refine iterE_step (h1.mono fun x hx => ?_)
      obtain ⟨e, r', h'⟩ := x
      cases e with
      | normal =>
        obtain ⟨s', g1, g2, g3, g4⟩ := hx
        dsimp only at g3 g4 ⊢
        rw [g4]
        exact ih s' (by omega) g1 r' g3
      | exit id => exact hx
      | ret => exact hx
  subst hh
  exact key (m s + 1) s (Nat.lt_succ_self _) hs r ha

/-- A loop that counts up to n. -/
theorem iterE_up {b : Regs → Heap → Option Res} {Q : Res → Prop} (n : Nat) (L : Nat → List (Nat × AV)) (Hp : Nat → Heap)
    (step : ∀ i, i < n → ∀ r, Has (b (setL r (L i)) (Hp i)) fun x => match x.1 with | .normal => Agr x.2.1 (L (i + 1)) ∧ x.2.2 = Hp (i + 1) | _ => Q x)
    (last : ∀ r, Has (b (setL r (L n)) (Hp n)) fun x => match x.1 with | .normal => False | _ => Q x)
    {r : Regs} {h : Heap} (ha : Agr r (L 0)) (hh : h = Hp 0) : Has (iterE b r h) Q := by
  refine iterE_loop (fun i => n - i) L Hp (fun i => i ≤ n) (fun i hi r => ?_) 0 (Nat.zero_le _) ha hh
  rcases Nat.lt_or_ge i n with h1 | h1
  · refine (step i h1 r).mono fun x hx => ?_
    obtain ⟨e, r', h'⟩ := x
    cases e with
    | normal => exact ⟨i + 1, h1, by omega, hx.1, hx.2⟩
    | exit id => exact hx
    | ret => exact hx
  · have : i = n := by omega
    subst this
    refine (last r).mono fun x hx => ?_
    obtain ⟨e, r', h'⟩ := x
    cases e with
    | normal => exact hx.elim
    | exit id => exact hx
    | ret => exact hx

theorem ft_cons {f g : FuncId} {vf vg : VFunc} {rest : Option VFunc} (h : (bif Nat.beq f g then some vg else rest) = some vf) : (f = g ∧ vf = vg) ∨ rest = some vf := by
  cases hb : Nat.beq f g with
  | true => rw [hb] at h; injection h with h; exact .inl ⟨Nat.eq_of_beq_eq_true hb, h.symm⟩
  | false => rw [hb] at h; exact .inr h
end Go.VM

namespace Go.VM
open Go
theorem hset_self {H : Heap} {id : Nat} {o : HObj} (h : hget H id = o) : hset H id o = H := by
  induction H generalizing id with
  | nil => rfl
  | cons a H ih => cases id with
    | zero => show o :: H = a :: H; rw [← h]; rfl
    | succ id => show a :: hset H id o = a :: H; rw [ih h]
theorem hset_hset (H : Heap) (id : Nat) (o o' : HObj) : hset (hset H id o) id o' = hset H id o' := by
  induction H generalizing id with
  | nil => rfl
  | cons a H ih => cases id with
    | zero => rfl
    | succ id => show a :: _ = a :: _; rw [ih]
theorem hgetK_hset {R : Type} {Q : R → Prop} {H : Heap} {id : Nat} {o : HObj} {F : HObj → Option R} (hid : id < H.length) (h : Has (F o) Q) : Has (hgetK (hset H id o) id F) Q := hgetK_has o (hget_hset_same o hid) h

/-- A byte row's cells. -/
def bc (bs : List UInt8) : List PV := bs.map fun b => .int .u8 b.toNat
theorem bc_get {bs : List UInt8} {i : Nat} {b : UInt8} (h : bs[i]? = some b) : (bc bs)[i]? = some (.int .u8 b.toNat) := by simp [bc, h]
theorem bc_length (bs : List UInt8) : (bc bs).length = bs.length := by simp [bc]

theorem wrap_u32 {n : Nat} (h : n < 4294967296) : IntKind.u32.wrap (n : Int) = n := by
  unfold IntKind.wrap; simp only [IntKind.bits, IntKind.signed, Bool.false_and]
  have : (n : Int) % 4294967296 = n := Int.emod_eq_of_lt (by omega) (by omega)
  simpa using this
theorem wrap_u8 (b : UInt8) : IntKind.u32.wrap (b.toNat : Int) = ((BitVec.ofNat 32 b.toNat).toNat : Int) := by
  have := b.toNat_lt
  rw [wrap_u32 (by omega), BitVec.toNat_ofNat, Nat.mod_eq_of_lt (by omega)]
theorem ofInt_toNat {w : Nat} (a : BitVec w) : BitVec.ofInt w (a.toNat : Int) = a := by simp
theorem u32_xor (a b : BitVec 32) : IntKind.u32.wrap ((BitVec.ofInt IntKind.u32.bits (a.toNat : Int) ^^^ BitVec.ofInt IntKind.u32.bits (b.toNat : Int)).toNat : Int) = ((a ^^^ b).toNat : Int) := by
  show IntKind.u32.wrap ((BitVec.ofInt 32 (a.toNat : Int) ^^^ BitVec.ofInt 32 (b.toNat : Int)).toNat : Int) = _
  rw [ofInt_toNat, ofInt_toNat, wrap_u32 (a ^^^ b).isLt]
theorem u32_and (a b : BitVec 32) : IntKind.u32.wrap ((BitVec.ofInt IntKind.u32.bits (a.toNat : Int) &&& BitVec.ofInt IntKind.u32.bits (b.toNat : Int)).toNat : Int) = ((a &&& b).toNat : Int) := by
  show IntKind.u32.wrap ((BitVec.ofInt 32 (a.toNat : Int) &&& BitVec.ofInt 32 (b.toNat : Int)).toNat : Int) = _
  rw [ofInt_toNat, ofInt_toNat, wrap_u32 (a &&& b).isLt]
theorem u32_shr1 (a : BitVec 32) : (a.toNat : Int).fdiv (2 ^ (min (1 : Int).toNat IntKind.u32.bits)) = ((a >>> 1).toNat : Int) := by
  rw [BitVec.toNat_ushiftRight, Nat.shiftRight_eq_div_pow]
  rw [Int.fdiv_eq_ediv_of_nonneg _ (by decide)]
  rfl
theorem u32_neg (a : BitVec 32) : IntKind.u32.wrap (0 - (a.toNat : Int)) = ((-a).toNat : Int) := by
  rw [BitVec.toNat_neg]
  unfold IntKind.wrap; simp only [IntKind.bits, IntKind.signed, Bool.false_and]
  have := a.isLt
  simp
  omega
theorem wrap_i64 {n : Int} (h0 : -9223372036854775808 ≤ n) (h1 : n ≤ 9223372036854775807) : IntKind.i64.wrap n = n := by
  unfold IntKind.wrap
  simp only [IntKind.bits, IntKind.signed, Bool.true_and, Nat.reduceSub, Int.reducePow]
  by_cases h : 0 ≤ n
  · have e : n % 18446744073709551616 = n := Int.emod_eq_of_lt h (by omega)
    simp only [e]
    split
    · rename_i h; simp at h; omega
    · rfl
  · have e : n % 18446744073709551616 = n + 18446744073709551616 := by omega
    simp only [e]
    split
    · omega
    · rename_i h; simp at h; omega
theorem i64_succ {i : Nat} (h : i < 9223372036854775807) : IntKind.i64.wrap ((i : Int) + 1) = ((i + 1 : Nat) : Int) := by
  rw [wrap_i64 (by omega) (by omega)]; rfl
theorem take_foldl {α β : Type} {f : β → α → β} {r : β} {l : List α} {i : Nat} {a : α} (h : l[i]? = some a) : (l.take (i + 1)).foldl f r = f ((l.take i).foldl f r) a := by
  rw [List.take_add_one, h]; simp
theorem u8_xor (a b : UInt8) : IntKind.u8.wrap ((BitVec.ofInt IntKind.u8.bits (a.toNat : Int) ^^^ BitVec.ofInt IntKind.u8.bits (b.toNat : Int)).toNat : Int) = ((a ^^^ b).toNat : Int) := by
  show IntKind.u8.wrap ((BitVec.ofInt 8 (a.toBitVec.toNat : Int) ^^^ BitVec.ofInt 8 (b.toBitVec.toNat : Int)).toNat : Int) = _
  rw [ofInt_toNat, ofInt_toNat]
  have h := (a.toBitVec ^^^ b.toBitVec).isLt
  unfold IntKind.wrap; simp only [IntKind.bits, IntKind.signed, Bool.false_and]
  have : (((a.toBitVec ^^^ b.toBitVec).toNat : Nat) : Int) % 256 = (a.toBitVec ^^^ b.toBitVec).toNat := Int.emod_eq_of_lt (by omega) (by omega)
  simpa using this
theorem bc_set (bs : List UInt8) (i : Nat) (b : UInt8) : (bc bs).set i (.int .u8 b.toNat) = bc (bs.set i b) := by simp [bc, List.map_set]
theorem bc_take (bs : List UInt8) (n : Nat) : (bc bs).take n = bc (bs.take n) := by simp [bc, List.map_take]
theorem bc_drop (bs : List UInt8) (n : Nat) : (bc bs).drop n = bc (bs.drop n) := by simp [bc, List.map_drop]
theorem bc_append (a b : List UInt8) : bc a ++ bc b = bc (a ++ b) := by simp [bc]
theorem bc_zeros (n : Nat) : zerosOf [.int .u8 0] n = bc (List.replicate n 0) := by
  induction n with
  | zero => rfl
  | succ n ih => show .int .u8 0 :: zerosOf _ n = _; rw [ih]; rfl
theorem u8_mod (n : Int) (h0 : 0 ≤ n) (h1 : n < 256) : ∃ b : UInt8, n = (b.toNat : Int) := by
  refine ⟨UInt8.ofNat n.toNat, ?_⟩
  rw [UInt8.toNat_ofNat']
  omega

/-! ### arguments that are bytes -/
theorem els_u8 : ∀ (n : Nat) (cs : List PV), Els (HasTy (.int .u8)) 1 n cs → ∃ bs : List UInt8, bs.length = n ∧ cs = bc bs := by
  intro n
  induction n with
  | zero => intro cs h; exact ⟨[], rfl, h⟩
  | succ n ih =>
    intro cs ⟨a, b, h1, h2, ⟨m, h3, h4⟩, h5⟩
    obtain ⟨bs, h6, h7⟩ := ih b h5
    have hm : 0 ≤ m ∧ m < 256 := by
      simp only [Lit.wf, IntKind.min, IntKind.max, IntKind.bits, IntKind.signed, Bool.and_eq_true, decide_eq_true_eq] at h4
      simp at h4
      omega
    obtain ⟨x, hx⟩ := u8_mod m hm.1 hm.2
    refine ⟨x :: bs, by simp [h6], ?_⟩
    rw [h1, h3, h7, hx]; rfl
/-- A byte slice that is an argument. -/
theorem arg_bytes {p : PV} (h : HasTy (.sl 1 (.int .u8)) [p]) : ∃ (x : Ext) (bs : List UInt8), p = .sl x bs.length (bc bs) ∧ bs.length ≤ maxLen ∧ ((x = .nil ∧ bs = []) ∨ x = .nn) := by
  obtain ⟨x, len, cells, h1, h2, h3, h4⟩ := h
  obtain ⟨bs, h5, h6⟩ := els_u8 _ _ h4
  injection h1 with h1
  refine ⟨x, bs, by rw [h1, h5, h6], by omega, ?_⟩
  rcases h2 with ⟨g1, g2, _⟩ | g
  · left; exact ⟨g1, List.eq_nil_of_length_eq_zero (by omega)⟩
  · exact .inr g
theorem maxLen_eq : maxLen = 9223372036854775807 := rfl
end Go.VM
