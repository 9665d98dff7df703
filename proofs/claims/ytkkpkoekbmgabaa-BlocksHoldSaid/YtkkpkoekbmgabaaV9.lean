/-
  Part 9 of an abstract machine that answers as the model does.
  A region that draws its order: every order walked.
  A region that draws its order: from what was compiled.
-/
import Derived.Test.YtkkpkoekbmgabaaV8
set_option linter.all false
set_option linter.unusedVariables false
set_option linter.unusedSimpArgs false
set_option linter.unusedSectionVars false
namespace Go.VM
open Go

section
variable {Γ : Ctx} {env : Env} {E : Orc} {n hlen : Nat} {mu : Nat → Mu} {ops : Array Oper} {vs : List VOper} {preds : List (List Nat)} {pairs : List (Nat × Nat)} {r00 r0 : Regs} {H0 : Heap} {T : List Ev} {r2 : Regs} {h2 : Heap} {idf : Nat → Nat}

theorem nth_deps (ops : Array Oper) {i : Nat} {o : Oper} (h : ops[i]? = some o) : nth (ops.toList.map depsOf) i = depsOf o := by
  unfold nth
  rw [lget_eq, List.getElem?_map, Array.getElem?_toList, h]
  rfl
theorem depsOf_iff {o : Oper} {d : Nat} : d ∈ depsOf o ↔ ∃ e ∈ o.after, Region.binds .any e = true ∧ e.on = d := by
  unfold depsOf
  simp only [List.mem_map, List.mem_filter, Array.mem_toList_iff]
  constructor
  · rintro ⟨e, ⟨h1, h3⟩, h4⟩; exact ⟨e, h1, h3, h4⟩
  · rintro ⟨e, h1, h3, h4⟩; exact ⟨e, ⟨h1, h3⟩, h4⟩

def setOf (listed : Array Bool) : St := fun j => listed.getD j false
theorem setOf_add {listed : Array Bool} {i : Nat} (hi : i < listed.size) : setOf (listed.setIfInBounds i true) = (setOf listed).add i := by
  funext j
  by_cases h : j = i
  · subst h
    rw [St.add_same]
    simp [setOf, Array.getD, hi]
  · rw [St.add_other h]
    unfold setOf
    exact getD_set_ne false (Ne.symm h)

/-- How far an order of the region has been walked. -/
def DInv (Γ : Ctx) (env : Env) (base sz n : Nat) (ops : Array Oper) (vs : List VOper) (r00 r0 : Regs) (H0 : Heap) (T : List Ev) (idf : Nat → Nat) (κ0 : K) (Hs : Heap) (w0 : World) (listed : Array Bool) (a : Act) (w : World) : Prop :=
  listed.size = ops.size ∧ Closed ops (setOf listed) ∧ ∃ κ, Conf Γ base sz n κ (heapS env.md (setOf listed) (vs.map idled) T 0 H0) w (regR vs T r00 r0 (setOf listed)) a ∧
    Grow κ0 Hs w0 κ (heapS env.md (setOf listed) (vs.map idled) T 0 H0) w ∧
    ∀ (j : Nat) (v : VOper) (t : Nat) (z : AlK), vs[j]? = some v → isAl v = some (t, z) → setOf listed j = false → Idle κ (idf j) ∧ idf j < (heapS env.md (setOf listed) (vs.map idled) T 0 H0).length ∧ hget (heapS env.md (setOf listed) (vs.map idled) T 0 H0) (idf j) = hget H0 (idf j)

theorem loadOf_rd {md : FuncId → Mode} {v : VOper} (h : isRd md v = true) : (∃ p, v.op = .load1 p) ∨ (∃ m p, v.op = .loadN m p) := by
  unfold isRd at h
  have hc : clsOf md v.op = .rd := by
    cases hcl : clsOf md v.op <;> rw [hcl] at h <;> first | rfl | cases h
  cases hop : v.op <;> rw [hop] at hc <;> simp only [clsOf] at hc <;> try (cases hc; done)
  case load1 p => exact .inl ⟨p, rfl⟩
  case loadN m p => exact .inr ⟨m, p, rfl⟩
  case mkSlice mu _ _ _ _ => cases mu <;> cases hc
  case buildSlice mu _ _ _ _ => cases mu <;> cases hc
  case call f _ => split at hc <;> cases hc

/-- A ready operation, in the heap that it finds, does what it does in the run. -/
theorem Drawn.same (D : Drawn Γ env E n hlen mu ops vs preds pairs r00 r0 H0 T r2 h2 idf) {S : St} (hc : Closed ops S) {i : Nat} {vi : VOper} {e : Ev} (hi : vs[i]? = some vi) (hT : T[i]? = some e) (hna : isAl vi = none) (hd : ∀ d ∈ nth (ops.toList.map depsOf) i, S d = true) (hn : S i = false)
    (hdid : e.did = true) (he : operK env E vi.op e.rb e.hb (fun v h => some (v, h)) = some (e.v, e.ha)) :
    operK env E vi.op (regR vs T r00 r0 S) (heapS env.md S (vs.map idled) T 0 H0) (fun v h => some (v, h)) = some (e.v, heapS env.md (S.add i) (vs.map idled) T 0 H0) := by
  have hreg : ∀ t ∈ vi.op.tmps, regR vs T r00 r0 S t = e.rb t := fun t ht => D.reg hc hi hT (fun z e => by rw [hna] at e; cases e) hd hn (by simp [VOper.names, ht])
  rw [operK_congr hreg]
  cases hef : isEf env.md vi with
  | true =>
    obtain ⟨h1, h3⟩ := D.heapEf hc hi hT hd hn hef
    rw [h1, h3]; exact he
  | false =>
    rw [D.heapNo hi hef]
    have hne := isEf_ne hna hef
    have hk := operK_keep hne he
    cases hcl : clsOf env.md vi.op with
    | ef => exact absurd hcl hne
    | none =>
      rw [operK_none hcl _ e.hb e.hb] at he
      rw [operK_none hcl _ _ e.hb]
      obtain ⟨v1, g1, g2, g3⟩ := operK_inv he
      injection g3 with g3; injection g3 with g3 _; subst g3
      have : operK env E vi.op e.rb e.hb (fun v _ => some (v, heapS env.md S (vs.map idled) T 0 H0)) = (operK env E vi.op e.rb e.hb (fun v h => some (v, h))).bind fun p => some (p.1, heapS env.md S (vs.map idled) T 0 H0) := by rw [operK_bind]; rfl
      rw [this, g2]
      rfl
    | rd =>
      have hrd : isRd env.md vi = true := by unfold isRd; rw [hcl]
      rcases loadOf_rd hrd with ⟨p, hop⟩ | ⟨m, p, hop⟩
      · rw [hop] at he ⊢
        simp only [operK, opK] at he ⊢
        cases hp : p.ev e.rb with
        | ptr id off =>
          rw [hp] at he
          rw [load1_view] at he ⊢
          rw [D.look hc hi hT hd hn hrd hna hdid (id := id) (off := off) (m := none) (by rw [hop]; simp [loadOf, hp])]
          obtain ⟨q, g1, g2⟩ := bind_pair he
          injection g2 with g2 _; subst g2
          rw [g1]; rfl
        | gptr id n' off =>
          rw [hp] at he
          rw [load1_viewG] at he ⊢
          rw [D.lookG hc hi hT hd hn hrd hna hdid (id := id) (n' := n') (off := off) (m := none) (by rw [hop]; simp [loadOf, hp])]
          obtain ⟨q, g1, g2⟩ := bind_pair he
          injection g2 with g2 _; subst g2
          rw [g1]; rfl
        | rptr cs off =>
          rw [hp] at he
          simp only [load1K, getK_def] at he ⊢
          obtain ⟨q, g1, g2⟩ := bind_pair he
          injection g2 with g2 _
          rw [g1, ← g2]; rfl
        | _ => rw [hp] at he; cases he
      · rw [hop] at he ⊢
        simp only [operK, opK] at he ⊢
        cases hp : p.ev e.rb with
        | ptr id off =>
          rw [hp] at he
          rw [loadN_view] at he ⊢
          rw [D.look hc hi hT hd hn hrd hna hdid (id := id) (off := off) (m := some m) (by rw [hop]; simp [loadOf, hp])]
          obtain ⟨q, g1, g2⟩ := bind_pair he
          injection g2 with g2 _; subst g2
          rw [g1]; rfl
        | gptr id n' off =>
          rw [hp] at he
          rw [loadN_viewG] at he ⊢
          rw [D.lookG hc hi hT hd hn hrd hna hdid (id := id) (n' := n') (off := off) (m := some m) (by rw [hop]; simp [loadOf, hp])]
          obtain ⟨q, g1, g2⟩ := bind_pair he
          injection g2 with g2 _; subst g2
          rw [g1]; rfl
        | rptr cs off =>
          rw [hp] at he
          simp only [loadNK, secK_def] at he ⊢
          cases hb : Nat.ble (off + m) cs.length with
          | false => rw [hb] at he; cases he
          | true =>
            rw [hb] at he
            simp only [cond_true] at he ⊢
            injection he with he; injection he with he _
            rw [he]
        | _ => rw [hp] at he; cases he

theorem alloc_step {κ : K} {base sz : Nat} {H : Heap} {w : World} {r : Regs} {a : Act} {o : Oper} {ty : TypeId} {z : List PV} (hcf : Conf Γ base sz n κ H w r a) (hop : o.op = .alloc ty) (hz : zeroT Γ.P ty = some z) {id : Nat} (hi : Idle κ id) (hl : id < H.length) (hh : hget H id = .pcells z)
    (ro : Option Nat) {t : Nat} (hdst : o.dst = some t) (hok : okDst n o.dst = true) (K : Act → World → Prop) (Q : Exit → Act → World → Prop)
    (hK : ∀ a' ob, Conf Γ base sz n (κ.at id w.heap.size) H (w.alloc ob) (put r (some t) (.ptr id 0)) a' → K a' (w.alloc ob)) : o.wpIn (wideR ro) 0 Γ.P a w K Q := by
  obtain ⟨i, zv, hi', hzz, hzr, hz1, _⟩ := zeroT_rel (Γ := Γ) (κ := κ) hz
  have hs := hcf.srel.wake hi hl hh ty hzr hz1
  simp only [Array.toArray_toList] at hs
  have hrun : (execOp a.eval o).run Γ.P w = .ok (.value (.pointer (some ⟨w.heap.size, 0, none⟩))) (w.alloc (.cells zv.cells ty)) := by
    simp [execOp, hop, Instr.alloc, run_zeroValue' hi' hzz, newVar, run_newRow']
  refine ⟨fun _ _ => trivial, ?_⟩
  rw [Oper.semAt_eq _ _ _ (fun c e => by rw [hop] at e; cases e), hrun, Oper.uponIn_value]
  refine hK _ (.cells zv.cells ty) ⟨hs, ?_, by rw [put_size]; exact hcf.size, by rw [put_defers]; exact hcf.marks.wake hi _⟩
  rw [hdst]
  exact (hcf.regs.mono (κ.le_at hi.1)).put hcf.size (d := some t) (by rw [← hdst]; exact hok) (.ptr _ _ _ (Go.VM.K.at_same _ _ _))

theorem compOp_boxH {P : Program} {mu : Mu} {op : Op} {x : Opd} (hop : compOp P mu op = some (.boxH x)) : False := by
  cases hoo : op with
  | alloc ty =>
    skip
    rw [hoo] at hop
    obtain ⟨y, hy, hyy⟩ := map_some hop
    cases hyy
  | box ty y =>
    skip
    rw [hoo] at hop
    obtain ⟨y, hy, hyy⟩ := map_some hop
    cases hyy
  | call c =>
    skip
    rw [hoo] at hop
    simp only [compOp] at hop
    split at hop
    · split at hop
      · split at hop
        · rw [Bool.cond_eq_ite] at hop; split at hop
          · cases hop
          · cases hop
        · cases hop
      · obtain ⟨_, _, h⟩ := map_some hop; cases h
      · unfold compBuiltin at hop
        repeat' split at hop
        all_goals first
          | (cases hop; done)
          | (obtain ⟨_, _, h⟩ := map_some hop; cases h; done)
          | (rw [Bool.cond_eq_ite] at hop; split at hop <;> first | (cases hop; done) | (rw [Bool.cond_eq_ite] at hop; split at hop <;> cases hop))
      · cases hop
    · cases hop
  | makeFunc fn p q =>
    skip
    rw [hoo] at hop
    cases fn with
    | func f =>
      simp only [compOp] at hop
      split at hop <;> cases hop
    | _ => simp [compOp] at hop
  | _ =>
    skip
    rw [hoo] at hop
    simp only [compOp, compUpd] at hop
    repeat' split at hop
    all_goals (try (rw [Bool.cond_eq_ite] at hop; split at hop))
    all_goals (try (rw [Bool.cond_eq_ite] at hop; split at hop))
    all_goals first
      | (cases hop; done)
      | (injection hop with hop; cases hop; done)
      | (obtain ⟨_, _, h⟩ := map_some hop; cases h; done)
      | (obtain ⟨_, _, h⟩ := map_some hop; rw [Bool.cond_eq_ite] at h; split at h <;> cases h)
theorem compOp_mkSliceH {P : Program} {mu : Mu} {op : Op} {es : Nat} {z : List PV} {x : Opd} (hop : compOp P mu op = some (.mkSliceH es z x)) : False := by
  cases hoo : op with
  | alloc ty =>
    skip
    rw [hoo] at hop
    obtain ⟨y, hy, hyy⟩ := map_some hop
    cases hyy
  | box ty y =>
    skip
    rw [hoo] at hop
    obtain ⟨y, hy, hyy⟩ := map_some hop
    cases hyy
  | call c =>
    skip
    rw [hoo] at hop
    simp only [compOp] at hop
    split at hop
    · split at hop
      · split at hop
        · rw [Bool.cond_eq_ite] at hop; split at hop
          · cases hop
          · cases hop
        · cases hop
      · obtain ⟨_, _, h⟩ := map_some hop; cases h
      · unfold compBuiltin at hop
        repeat' split at hop
        all_goals first
          | (cases hop; done)
          | (obtain ⟨_, _, h⟩ := map_some hop; cases h; done)
          | (rw [Bool.cond_eq_ite] at hop; split at hop <;> first | (cases hop; done) | (rw [Bool.cond_eq_ite] at hop; split at hop <;> cases hop))
      · cases hop
    · cases hop
  | makeFunc fn p q =>
    skip
    rw [hoo] at hop
    cases fn with
    | func f =>
      simp only [compOp] at hop
      split at hop <;> cases hop
    | _ => simp [compOp] at hop
  | _ =>
    skip
    rw [hoo] at hop
    simp only [compOp, compUpd] at hop
    repeat' split at hop
    all_goals (try (rw [Bool.cond_eq_ite] at hop; split at hop))
    all_goals (try (rw [Bool.cond_eq_ite] at hop; split at hop))
    all_goals first
      | (cases hop; done)
      | (injection hop with hop; cases hop; done)
      | (obtain ⟨_, _, h⟩ := map_some hop; cases h; done)
      | (obtain ⟨_, _, h⟩ := map_some hop; rw [Bool.cond_eq_ite] at h; split at h <;> cases h)
theorem compOp_box {P : Program} {mu : Mu} {op : Op} {x : Opd} (hop : compOp P mu op = some (.box x)) : ∃ ty y, op = .box ty y ∧ compOpd y = some x := by
  cases hoo : op with
  | alloc ty =>
    exfalso
    rw [hoo] at hop
    obtain ⟨y, hy, hyy⟩ := map_some hop
    cases hyy
  | box ty y =>
    rw [hoo] at hop
    obtain ⟨y', hy, hyy⟩ := map_some hop
    injection hyy with hyy; subst hyy
    exact ⟨ty, y, rfl, hy⟩
  | call c =>
    exfalso
    rw [hoo] at hop
    simp only [compOp] at hop
    split at hop
    · split at hop
      · split at hop
        · rw [Bool.cond_eq_ite] at hop; split at hop
          · cases hop
          · cases hop
        · cases hop
      · obtain ⟨_, _, h⟩ := map_some hop; cases h
      · unfold compBuiltin at hop
        repeat' split at hop
        all_goals first
          | (cases hop; done)
          | (obtain ⟨_, _, h⟩ := map_some hop; cases h; done)
          | (rw [Bool.cond_eq_ite] at hop; split at hop <;> first | (cases hop; done) | (rw [Bool.cond_eq_ite] at hop; split at hop <;> cases hop))
      · cases hop
    · cases hop
  | makeFunc fn p q =>
    exfalso
    rw [hoo] at hop
    cases fn with
    | func f =>
      simp only [compOp] at hop
      split at hop <;> cases hop
    | _ => simp [compOp] at hop
  | _ =>
    exfalso
    rw [hoo] at hop
    simp only [compOp, compUpd] at hop
    repeat' split at hop
    all_goals (try (rw [Bool.cond_eq_ite] at hop; split at hop))
    all_goals (try (rw [Bool.cond_eq_ite] at hop; split at hop))
    all_goals first
      | (cases hop; done)
      | (injection hop with hop; cases hop; done)
      | (obtain ⟨_, _, h⟩ := map_some hop; cases h; done)
      | (obtain ⟨_, _, h⟩ := map_some hop; rw [Bool.cond_eq_ite] at h; split at h <;> cases h)
theorem compOp_nextM {P : Program} {mu : Mu} {op : Op} {x : Opd} (hop : compOp P mu op = some (.nextM x)) : ∃ y, op = .next y false ∧ compOpd y = some x := by
  cases hoo : op with
  | alloc ty =>
    exfalso
    rw [hoo] at hop
    obtain ⟨y, hy, hyy⟩ := map_some hop
    cases hyy
  | box ty y =>
    exfalso
    rw [hoo] at hop
    obtain ⟨y', hy, hyy⟩ := map_some hop
    cases hyy
  | next y s =>
    rw [hoo] at hop
    simp only [compOp] at hop
    cases s with
    | true => cases hop
    | false =>
      simp only [cond_false] at hop
      obtain ⟨y', hy, hyy⟩ := map_some hop
      injection hyy with hyy; subst hyy
      exact ⟨y, rfl, hy⟩
  | call c =>
    exfalso
    rw [hoo] at hop
    simp only [compOp] at hop
    split at hop
    · split at hop
      · split at hop
        · rw [Bool.cond_eq_ite] at hop; split at hop
          · cases hop
          · cases hop
        · cases hop
      · obtain ⟨_, _, h⟩ := map_some hop; cases h
      · unfold compBuiltin at hop
        repeat' split at hop
        all_goals first
          | (cases hop; done)
          | (obtain ⟨_, _, h⟩ := map_some hop; cases h; done)
          | (rw [Bool.cond_eq_ite] at hop; split at hop <;> first | (cases hop; done) | (rw [Bool.cond_eq_ite] at hop; split at hop <;> cases hop))
      · cases hop
    · cases hop
  | makeFunc fn p q =>
    exfalso
    rw [hoo] at hop
    cases fn with
    | func f =>
      simp only [compOp] at hop
      split at hop <;> cases hop
    | _ => simp [compOp] at hop
  | _ =>
    exfalso
    rw [hoo] at hop
    simp only [compOp, compUpd] at hop
    repeat' split at hop
    all_goals (try (rw [Bool.cond_eq_ite] at hop; split at hop))
    all_goals (try (rw [Bool.cond_eq_ite] at hop; split at hop))
    all_goals first
      | (cases hop; done)
      | (injection hop with hop; cases hop; done)
      | (obtain ⟨_, _, h⟩ := map_some hop; cases h; done)
      | (obtain ⟨_, _, h⟩ := map_some hop; rw [Bool.cond_eq_ite] at h; split at h <;> cases h)
theorem compOp_mkSlice {P : Program} {mu : Mu} {op : Op} {m : Bool} {es : Nat} {zp : List PV} {l c : Opd} (hop : compOp P mu op = some (.mkSlice m es zp l c)) :
    ∃ t e y q i, op = .makeSlice t y q ∧ P.underlying t = some (.slice e) ∧ compOpd y = some l ∧ compOpd q = some c ∧ zeroT P e = some zp ∧ P.info? e = some i ∧ es = i.size ∧ i.bytes ≤ 256 := by
  cases hoo : op with
  | alloc ty =>
    exfalso
    rw [hoo] at hop
    obtain ⟨y, hy, hyy⟩ := map_some hop
    cases hyy
  | makeSlice t y q =>
    rw [hoo] at hop
    simp only [compOp] at hop
    split at hop
    · rename_i e y' q' hu hy hq
      split at hop
      · rename_i zp i hz hi
        cases hb : (Nat.blt 0 i.size && Nat.ble i.bytes 256) with
        | false => rw [hb] at hop; cases hop
        | true =>
          rw [hb] at hop; simp only [cond_true] at hop
          rw [Bool.and_eq_true] at hb
          injection hop with hop; injection hop with e1 e2 e3 e4 e5
          subst e2; subst e3; subst e4; subst e5
          exact ⟨t, e, y, q, i, rfl, hu, hy, hq, hz, hi, rfl, Nat.le_of_ble_eq_true hb.2⟩
      · cases hop
    · cases hop
  | box ty y =>
    exfalso
    rw [hoo] at hop
    obtain ⟨y', hy, hyy⟩ := map_some hop
    cases hyy
  | call c =>
    exfalso
    rw [hoo] at hop
    simp only [compOp] at hop
    split at hop
    · split at hop
      · split at hop
        · rw [Bool.cond_eq_ite] at hop; split at hop
          · cases hop
          · cases hop
        · cases hop
      · obtain ⟨_, _, h⟩ := map_some hop; cases h
      · unfold compBuiltin at hop
        repeat' split at hop
        all_goals first
          | (cases hop; done)
          | (obtain ⟨_, _, h⟩ := map_some hop; cases h; done)
          | (rw [Bool.cond_eq_ite] at hop; split at hop <;> first | (cases hop; done) | (rw [Bool.cond_eq_ite] at hop; split at hop <;> cases hop))
      · cases hop
    · cases hop
  | makeFunc fn p q =>
    exfalso
    rw [hoo] at hop
    cases fn with
    | func f =>
      simp only [compOp] at hop
      split at hop <;> cases hop
    | _ => simp [compOp] at hop
  | _ =>
    exfalso
    rw [hoo] at hop
    simp only [compOp, compUpd] at hop
    repeat' split at hop
    all_goals (try (rw [Bool.cond_eq_ite] at hop; split at hop))
    all_goals (try (rw [Bool.cond_eq_ite] at hop; split at hop))
    all_goals first
      | (cases hop; done)
      | (injection hop with hop; cases hop; done)
      | (obtain ⟨_, _, h⟩ := map_some hop; cases h; done)
      | (obtain ⟨_, _, h⟩ := map_some hop; rw [Bool.cond_eq_ite] at h; split at h <;> cases h)
theorem cellsP_of {p : PV} {c : List PV} (h : cellsP p = some c) : (AV.pv p).cellsOf = c.map .pv ∧ (AV.pv p).isTup = false := by
  cases p <;> simp only [cellsP] at h <;> first | (cases h; done) | (injection h with h; subst h; exact ⟨rfl, rfl⟩)
theorem box_step {κ : K} {base sz : Nat} {H : Heap} {w : World} {r : Regs} {a : Act} {o : Oper} {ty : TypeId} {y : Operand} {x : Opd} {p : PV} {c : List PV} (hcf : Conf Γ base sz n κ H w r a) (hop : o.op = .box ty y) (hy : compOpd y = some x)
    (hx : x.ev r = .pv p) (hc : cellsP p = some c) {id : Nat} (hi : Idle κ id) (hl : id < H.length) (hh : hget H id = .pcells c)
    (ro : Option Nat) {t : Nat} (hdst : o.dst = some t) (hok : okDst n o.dst = true) (K : Act → World → Prop) (Q : Exit → Act → World → Prop)
    (hK : ∀ a' ob, Conf Γ base sz n (κ.at id w.heap.size) H (w.alloc ob) (put r (some t) (.ptr id 0)) a' → K a' (w.alloc ob)) : o.wpIn (wideR ro) 0 Γ.P a w K Q := by
  have hv := opd_rel hcf.regs hy
  rw [hx] at hv
  obtain ⟨g0, gt⟩ := cellsP_of hc
  obtain ⟨g1, g2⟩ := cellsOf_rel hv gt
  rw [g0] at g1
  have hs := hcf.srel.wake hi hl hh ty (VRels.to_pv g1) g2
  simp only [Array.toArray_toList] at hs
  have hrun : (execOp a.eval o).run Γ.P w = .ok (.value (.pointer (some ⟨w.heap.size, 0, none⟩))) (w.alloc (.cells (a.eval y).cells ty)) := by
    simp [execOp, hop, Instr.box, newVar, run_newRow']
  refine ⟨fun _ _ => trivial, ?_⟩
  rw [Oper.semAt_eq _ _ _ (fun c e => by rw [hop] at e; cases e), hrun, Oper.uponIn_value]
  refine hK _ (.cells (a.eval y).cells ty) ⟨hs, ?_, by rw [put_size]; exact hcf.size, by rw [put_defers]; exact hcf.marks.wake hi _⟩
  rw [hdst]
  exact (hcf.regs.mono (κ.le_at hi.1)).put hcf.size (d := some t) (by rw [← hdst]; exact hok) (.ptr _ _ _ (Go.VM.K.at_same _ _ _))
theorem make_step {κ : K} {base sz : Nat} {H : Heap} {w : World} {r : Regs} {a : Act} {o : Oper} {ty e : TypeId} {y q : Operand} {x : Opd} {zp : List PV} {ti : TypeInfo} {k : IntKind} {m : Int} (hcf : Conf Γ base sz n κ H w r a) (hop : o.op = .makeSlice ty y q) (hu : Γ.P.underlying ty = some (.slice e))
    (hy : compOpd y = some x) (hq : compOpd q = some x) (hz : zeroT Γ.P e = some zp) (hti : Γ.P.info? e = some ti) (hby : ti.bytes ≤ 256) (hx : x.ev r = .pv (.int k m)) (h0 : 0 ≤ m) (h1 : m ≤ 1099511627776)
    {id : Nat} (hi : Idle κ id) (hl : id < H.length) (hh : hget H id = .pcells (zerosOf zp m.toNat))
    (ro : Option Nat) {t : Nat} (hdst : o.dst = some t) (hok : okDst n o.dst = true) (K : Act → World → Prop) (Q : Exit → Act → World → Prop)
    (hK : ∀ a' ob, Conf Γ base sz n (κ.at id w.heap.size) H (w.alloc ob) (put r (some t) (.hs ti.size id 0 m.toNat m.toNat)) a' → K a' (w.alloc ob)) : o.wpIn (wideR ro) 0 Γ.P a w K Q := by
  have v1 := opd_rel hcf.regs hy
  rw [hx] at v1
  have e1 := int_rel v1
  have v2 := opd_rel hcf.regs hq
  rw [hx] at v2
  have e2 := int_rel v2
  obtain ⟨cs, g1, g2, g3⟩ := mkSlice_rel (Γ := Γ) (κ := κ) (w := w) hu hti hz hby (k := k) (k' := k) h0 (Int.le_refl m) h1
  have hs := hcf.srel.wake hi hl hh e g1 g2
  have hrun : (execOp a.eval o).run Γ.P w = .ok (.value (.slice (some ⟨w.heap.size, 0, none⟩) m.toNat m.toNat)) (w.alloc (.cells cs.toArray e)) := by
    simp [execOp, hop, e1, e2, g3]
  refine ⟨fun _ _ => trivial, ?_⟩
  rw [Oper.semAt_eq _ _ _ (fun c e => by rw [hop] at e; cases e), hrun, Oper.uponIn_value]
  refine hK _ (.cells cs.toArray e) ⟨hs, ?_, by rw [put_size]; exact hcf.size, by rw [put_defers]; exact hcf.marks.wake hi _⟩
  rw [hdst]
  exact (hcf.regs.mono (κ.le_at hi.1)).put hcf.size (d := some t) (by rw [← hdst]; exact hok) (.hs _ _ _ _ _ _ _ (Go.VM.K.at_same _ _ _) (Nat.le_refl _) (Nat.le_refl _))
theorem hboxed_or (v : VOper) : hboxed v = v ∨ ∃ t x, v = ⟨some t, none, .box x⟩ ∧ memN x.tmps t = false ∧ hboxed v = ⟨some t, none, .boxH x⟩ := by
  obtain ⟨d, g, op⟩ := v
  unfold hboxed
  split
  · rename_i t x h1 h2 h3
    simp only at h1 h2 h3
    subst h1; subst h2; subst h3
    cases hm : memN x.tmps t with
    | true => exact .inl rfl
    | false => exact .inr ⟨t, x, rfl, hm, rfl⟩
  · exact .inl rfl
theorem hmade_or (v : VOper) : hmade v = v ∨ ∃ t es z a, v = ⟨some t, none, .mkSlice true es z (.t a) (.t a)⟩ ∧ memN (Opd.t a).tmps t = false ∧ hmade v = ⟨some t, none, .mkSliceH es z (.t a)⟩ := by
  obtain ⟨d, g, op⟩ := v
  unfold hmade
  split
  · rename_i t mu es z a b h1 h2 h3
    simp only at h1 h2 h3
    subst h1; subst h2; subst h3
    cases hm : (mu && Nat.beq a b && !Nat.beq a t) with
    | false => exact .inl rfl
    | true =>
      simp only [Bool.and_eq_true, Bool.not_eq_true'] at hm
      obtain ⟨⟨hm1, hm2⟩, hm3⟩ := hm
      have hab := Nat.eq_of_beq_eq_true hm2
      subst hab; subst hm1
      refine .inr ⟨t, es, z, a, rfl, ?_, rfl⟩
      simp [memN, Opd.tmps, hm3]
  · exact .inl rfl
theorem hb_or (bx ms : Bool) (v : VOper) : hb bx ms v = v ∨ (∃ t x, v = ⟨some t, none, .box x⟩ ∧ memN x.tmps t = false ∧ hb bx ms v = ⟨some t, none, .boxH x⟩) ∨
    ∃ t es z a, v = ⟨some t, none, .mkSlice true es z (.t a) (.t a)⟩ ∧ memN (Opd.t a).tmps t = false ∧ hb bx ms v = ⟨some t, none, .mkSliceH es z (.t a)⟩ := by
  have hB : (bif bx then hboxed v else v) = v ∨ ∃ t x, v = ⟨some t, none, .box x⟩ ∧ memN x.tmps t = false ∧ (bif bx then hboxed v else v) = ⟨some t, none, .boxH x⟩ := by
    cases bx with
    | false => exact .inl rfl
    | true => exact hboxed_or v
  unfold hb
  rcases hB with h | ⟨t, x, h1, h2, h3⟩
  · rw [h]
    cases ms with
    | false => exact .inl rfl
    | true =>
      rcases hmade_or v with g | g
      · exact .inl g
      · exact .inr (.inr g)
  · rw [h3]
    refine .inr (.inl ⟨t, x, h1, h2, ?_⟩)
    cases ms <;> rfl
theorem draw_any (D : Drawn Γ env E n hlen mu ops vs preds pairs r00 r0 H0 T r2 h2 idf) (hE : OrcOK Γ E) (ro : Option Nat) {base sz : Nat} {κ0 : K} {Hs : Heap} {w0 : World} (hlen0 : Hs.length ≤ hlen) {Q : Exit → Act → World → Prop}
    (hfin : ∀ κ a w, Conf Γ base sz n κ h2 w r2 a → Grow κ0 Hs w0 κ h2 w → Q .normal a w) :
    ∀ (fuel : Nat) (listed : Array Bool) (a : Act) (w : World), DInv Γ env base sz n ops vs r00 r0 H0 T idf κ0 Hs w0 listed a w → listed.toList.count false ≤ fuel → wpAnyIn (wideR ro) 0 Γ.P .any ops Q fuel listed a w := by
  have done : ∀ (listed : Array Bool) (a : Act) (w : World), DInv Γ env base sz n ops vs r00 r0 H0 T idf κ0 Hs w0 listed a w → Region.ready .any ops listed = [] → Q .normal a w := by
    intro listed a w hinv hr
    obtain ⟨hsz, hcl, κ, hcf, hg, _⟩ := hinv
    have hall : ∀ j, j < ops.size → setOf listed j = true := by
      intro j
      induction j using Nat.strongRecOn with
      | _ j ih =>
        intro hj
        cases hS : setOf listed j with
        | true => rfl
        | false =>
          exfalso
          have ho : ops[j]? = some ops[j] := Array.getElem?_eq_getElem hj
          obtain ⟨vj, hvj⟩ := D.get hj
          have : j ∈ Region.ready .any ops listed := by
            rw [mem_ready]
            refine ⟨?_, ops[j], ho, fun e he hb => ?_⟩
            · have hlt : j < listed.size := by rw [hsz]; exact hj
              simpa [setOf, Array.getD, hlt] using hS
            · have hd : e.on ∈ nth (ops.toList.map depsOf) j := by rw [nth_deps ops ho]; exact depsOf_iff.2 ⟨e, he, hb, rfl⟩
              have hlt := D.preLt hvj hd
              exact ih e.on hlt (by omega)
          rw [hr] at this; cases this
    rw [D.regAll hall, D.heapAll hall] at hcf
    rw [D.heapAll hall] at hg
    exact hfin κ a w hcf hg
  intro fuel
  induction fuel with
  | zero =>
    intro listed a w hinv hcnt
    have hnil : Region.ready .any ops listed = [] := by
      cases hr : Region.ready .any ops listed with
      | nil => rfl
      | cons x l =>
        exfalso
        have hx : x ∈ Region.ready .any ops listed := by rw [hr]; simp
        obtain ⟨h0, o, ho, _⟩ := mem_ready.1 hx
        have hlt : x < listed.size := by rw [hinv.1]; exact (Array.getElem?_eq_some_iff.1 ho).1
        have hf : listed[x] = false := by simpa [Array.getD, hlt] using h0
        have : false ∈ listed.toList := by rw [← hf]; simp
        have := List.count_pos_iff.2 this
        omega
    exact ⟨hnil, done listed a w hinv hnil⟩
  | succ fuel ih =>
    intro listed a w hinv hcnt
    refine ⟨done listed a w hinv, fun i hi => ?_⟩
    obtain ⟨hsz, hcl, κ, hcf, hg, hal⟩ := hinv
    obtain ⟨h0, o, ho, hafter⟩ := mem_ready.1 hi
    have hi' : i < ops.size := (Array.getElem?_eq_some_iff.1 ho).1
    have hlt : i < listed.size := by rw [hsz]; exact hi'
    have hn : setOf listed i = false := by
      have hf : listed[i] = false := by simpa [Array.getD, hlt] using h0
      simp [setOf, Array.getD, hlt, hf]
    have hd : ∀ d ∈ nth (ops.toList.map depsOf) i, setOf listed d = true := by
      intro d hd
      rw [nth_deps ops ho] at hd
      obtain ⟨e, he, hb, rfl⟩ := depsOf_iff.1 hd
      exact hafter e he hb
    have hcnt' : (listed.setIfInBounds i true).toList.count false ≤ fuel := by
      rw [Array.toList_setIfInBounds, List.count_set (by simpa using hlt)]
      have hf : listed.toList[i]'(by simpa using hlt) = false := by
        have hf : listed[i] = false := by simpa [Array.getD, hlt] using h0
        simpa using hf
      rw [hf]
      have h1 : (if (false == false) = true then 1 else 0) = 1 := rfl
      have h3 : (if (true == false) = true then 1 else 0) = 0 := rfl
      rw [h1, h3]
      omega
    have hsz' : (listed.setIfInBounds i true).size = ops.size := by simp [hsz]
    have hset := setOf_add hlt
    have hcl' : Closed ops (setOf (listed.setIfInBounds i true)) := by rw [hset]; exact hcl.mono hi' hd
    obtain ⟨vi, hv0, hcase⟩ := compOpers_get (P := Γ.P) (mu := mu) (n := n) (all := ops.toList) (l := ops.toList) (i := i) (o := o) (by rw [Array.getElem?_toList]; exact ho)
    obtain ⟨bx, ms, hvs⟩ := D.vs_eq
    have hvi : vs[i]? = some (hb bx ms vi) := by rw [hvs, List.getElem?_map, hv0]; rfl
    obtain ⟨e, hT⟩ : ∃ e, T[i]? = some e := ⟨T[i]'(by rw [D.tlen]; exact hi'), by simp⟩
    rcases hb_or bx ms vi with hbe | ⟨t, x, rfl, hmem, hbe⟩ | ⟨t, es, z, av, rfl, hmem, hbe⟩
    rotate_left
    · rw [hbe] at hvi
      have hna : isAl (⟨some t, none, .boxH x⟩ : VOper) = some (t, .x x) := by
        show (bif memN x.tmps t then none else some (t, AlK.x x)) = _
        rw [hmem]; rfl
      rcases hcase with ⟨g, v, hvo, hgd, hdst, hop⟩ | hbad
      · injection hvo with hdt hgn hvz
        subst hgn; subst hvz
        obtain ⟨ty, y, hoty, hy⟩ := compOp_box hop
        obtain ⟨q0, p, c, q1, q2, q3⟩ := D.alx i _ t x e hvi hna hT
        have hev : x.ev (regR vs T r00 r0 (setOf listed)) = .pv p := by
          rw [← q1]
          exact opd_congr fun t' ht' => D.reg hcl hvi hT (fun z ez => by
            rw [hna] at ez
            injection ez with ez; injection ez with ez _
            subst ez
            rw [memN_iff.2 ht'] at hmem; cases hmem) hd hn (by simp [VOper.names, VOp.tmps, ht'])
        unfold wpOpIn
        simp only [ho]
        rw [wanted_rel hcf.regs hgd (.inl rfl)]
        have hw : wantedV (regR vs T r00 r0 (setOf listed)) none = true := rfl
        rw [hw]; simp only [if_true]
        obtain ⟨hidle, hlt2, hhz⟩ := hal i _ t _ hvi hna hn
        rw [q3] at hhz
        have hnef : isEf env.md (⟨some t, none, .boxH x⟩ : VOper) = false := by unfold isEf; rw [hna]
        refine box_step hcf hoty hy hev q2 hidle hlt2 hhz ro hdt.symm hdst _ Q fun a' ob hcf' => ih _ a' _ ⟨hsz', hcl', κ.at (idf i) w.heap.size, ?_, ?_, ?_⟩ hcnt'
        · rw [hset, D.heapNo hvi hnef, D.regAl hvi hT hna hn, q0]; exact hcf'
        · rw [hset, D.heapNo hvi hnef]; exact hg.wake hidle (Nat.le_trans hlen0 (D.al i _ t _ hvi hna).1) ob
        · intro j v' t' z' hj hjal hjn
          rw [hset] at hjn ⊢
          rw [D.heapNo hvi hnef]
          have hne : j ≠ i := fun e => by subst e; rw [St.add_same] at hjn; cases hjn
          rw [St.add_other hne] at hjn
          obtain ⟨k1, k2, k3⟩ := hal j v' t' z' hj hjal hjn
          have hidne : idf j ≠ idf i := fun e => hne (D.inj j i _ _ _ _ hj hvi hjal hna e)
          exact ⟨⟨by simp only [K.at]; rw [if_neg hidne]; exact k1.1, k1.2⟩, k2, k3⟩
      · cases hbad
    · rw [hbe] at hvi
      have hna : isAl (⟨some t, none, .mkSliceH es z (.t av)⟩ : VOper) = some (t, .m es z (.t av)) := by
        show (bif memN (Opd.t av).tmps t then none else some (t, AlK.m es z (.t av))) = _
        rw [hmem]; rfl
      rcases hcase with ⟨g, v, hvo, hgd, hdst, hop⟩ | hbad
      · injection hvo with hdt hgn hvz
        subst hgn; subst hvz
        obtain ⟨ty, et, y, q, ti, hoty, hu, hy, hq, hz, hti, hes, hby⟩ := compOp_mkSlice hop
        subst hes
        obtain ⟨kd, nn, q1, q2, q4, q0, q3⟩ := D.alm i _ t _ z (.t av) e hvi hna hT
        have hev : (Opd.t av).ev (regR vs T r00 r0 (setOf listed)) = .pv (.int kd nn) := by
          rw [← q1]
          exact opd_congr fun t' ht' => D.reg hcl hvi hT (fun z ez => by
            rw [hna] at ez
            injection ez with ez; injection ez with ez _
            subst ez
            rw [memN_iff.2 ht'] at hmem; cases hmem) hd hn (by simp [VOper.names, VOp.tmps, ht'])
        unfold wpOpIn
        simp only [ho]
        rw [wanted_rel hcf.regs hgd (.inl rfl)]
        have hw : wantedV (regR vs T r00 r0 (setOf listed)) none = true := rfl
        rw [hw]; simp only [if_true]
        obtain ⟨hidle, hlt2, hhz⟩ := hal i _ t _ hvi hna hn
        rw [q3] at hhz
        have hnef : isEf env.md (⟨some t, none, .mkSliceH ti.size z (.t av)⟩ : VOper) = false := by unfold isEf; rw [hna]
        refine make_step hcf hoty hu hy hq hz hti hby hev q2 q4 hidle hlt2 hhz ro hdt.symm hdst _ Q fun a' ob hcf' => ih _ a' _ ⟨hsz', hcl', κ.at (idf i) w.heap.size, ?_, ?_, ?_⟩ hcnt'
        · rw [hset, D.heapNo hvi hnef, D.regAl hvi hT hna hn, q0]; exact hcf'
        · rw [hset, D.heapNo hvi hnef]; exact hg.wake hidle (Nat.le_trans hlen0 (D.al i _ t _ hvi hna).1) ob
        · intro j v' t' z' hj hjal hjn
          rw [hset] at hjn ⊢
          rw [D.heapNo hvi hnef]
          have hne : j ≠ i := fun e => by subst e; rw [St.add_same] at hjn; cases hjn
          rw [St.add_other hne] at hjn
          obtain ⟨k1, k2, k3⟩ := hal j v' t' z' hj hjal hjn
          have hidne : idf j ≠ idf i := fun e => hne (D.inj j i _ _ _ _ hj hvi hjal hna e)
          exact ⟨⟨by simp only [K.at]; rw [if_neg hidne]; exact k1.1, k1.2⟩, k2, k3⟩
      · cases hbad
    rw [hbe] at hvi
    have hli : (vs.map idled)[i]? = some (idled vi) := by rw [List.getElem?_map, hvi]; rfl
    unfold wpOpIn
    simp only [ho]
    rcases hcase with ⟨g, v, rfl, hgd, hdst, hop⟩ | rfl
    · cases hna : isAl (⟨o.dst, g, v⟩ : VOper) with
      | some x =>
        obtain ⟨t, z⟩ := x
        obtain ⟨hdt, hgn, hvz⟩ := isAl_dst' hna
        simp only at hdt hgn hvz
        subst hgn
        rcases hvz with ⟨z, rfl, rfl⟩ | ⟨x, rfl, rfl, _⟩ | ⟨_, _, x, rfl, rfl, _⟩
        rotate_left
        · exact (compOp_boxH hop).elim
        · exact (compOp_mkSliceH hop).elim
        have hw : wantedV (regR vs T r00 r0 (setOf listed)) none = true := rfl
        rw [wanted_rel hcf.regs hgd (.inl rfl), hw]; simp only [if_true]
        obtain ⟨ty, hoty, hz⟩ : ∃ ty, o.op = .alloc ty ∧ zeroT Γ.P ty = some z := by
          cases hoo : o.op with
          | alloc ty =>
            rw [hoo] at hop
            obtain ⟨y, hy, hyy⟩ := map_some hop
            injection hyy with hyy; subst hyy
            exact ⟨ty, rfl, hy⟩
          | call c =>
            exfalso
            rw [hoo] at hop
            simp only [compOp] at hop
            split at hop
            · split at hop
              · split at hop
                · rw [Bool.cond_eq_ite] at hop; split at hop
                  · cases hop
                  · cases hop
                · cases hop
              · obtain ⟨_, _, h⟩ := map_some hop; cases h
              · unfold compBuiltin at hop
                repeat' split at hop
                all_goals first
                  | (cases hop; done)
                  | (obtain ⟨_, _, h⟩ := map_some hop; cases h; done)
                  | (rw [Bool.cond_eq_ite] at hop; split at hop <;> first | (cases hop; done) | (rw [Bool.cond_eq_ite] at hop; split at hop <;> cases hop))
              · cases hop
            · cases hop
          | makeFunc fn p q =>
            exfalso
            rw [hoo] at hop
            cases fn with
            | func f =>
              simp only [compOp] at hop
              split at hop <;> cases hop
            | _ => simp [compOp] at hop
          | _ =>
            exfalso
            rw [hoo] at hop
            simp only [compOp, compUpd] at hop
            repeat' split at hop
            all_goals (try (rw [Bool.cond_eq_ite] at hop; split at hop))
            all_goals (try (rw [Bool.cond_eq_ite] at hop; split at hop))
            all_goals first
              | (cases hop; done)
              | (injection hop with hop; cases hop; done)
              | (obtain ⟨_, _, h⟩ := map_some hop; cases h; done)
              | (obtain ⟨_, _, h⟩ := map_some hop; rw [Bool.cond_eq_ite] at h; split at h <;> cases h)
        obtain ⟨hidle, hlt2, hhz⟩ := hal i _ t _ hvi hna hn
        obtain ⟨q0, q3⟩ := D.alz i _ t z hvi hna
        rw [q3] at hhz
        have hnef : isEf env.md (⟨o.dst, none, .alloc z⟩ : VOper) = false := by unfold isEf; rw [hna]
        refine alloc_step hcf hoty hz hidle hlt2 hhz ro hdt hdst _ Q fun a' ob hcf' => ih _ a' _ ⟨hsz', hcl', κ.at (idf i) w.heap.size, ?_, ?_, ?_⟩ hcnt'
        · rw [hset, D.heapNo hvi hnef, D.regAl hvi hT hna hn, q0]; exact hcf'
        · rw [hset, D.heapNo hvi hnef]; exact hg.wake hidle (Nat.le_trans hlen0 (D.al i _ t _ hvi hna).1) ob
        · intro j v' t' z' hj hjal hjn
          rw [hset] at hjn ⊢
          rw [D.heapNo hvi hnef]
          have hne : j ≠ i := fun e => by subst e; rw [St.add_same] at hjn; cases hjn
          rw [St.add_other hne] at hjn
          obtain ⟨k1, k2, k3⟩ := hal j v' t' z' hj hjal hjn
          have hidne : idf j ≠ idf i := fun e => hne (D.inj j i _ _ _ _ hj hvi hjal hna e)
          exact ⟨⟨by simp only [K.at]; rw [if_neg hidne]; exact k1.1, k1.2⟩, k2, k3⟩
      | none =>
        have hreg : ∀ t ∈ (⟨o.dst, g, v⟩ : VOper).names, regR vs T r00 r0 (setOf listed) t = e.rb t := fun t ht => D.reg hcl hvi hT (fun z e => by rw [hna] at e; cases e) hd hn ht
        have hwg : wantedV (regR vs T r00 r0 (setOf listed)) g = wantedV e.rb g := by
          cases g with
          | none => rfl
          | some q =>
            obtain ⟨t, wt⟩ := q
            simp only [wantedV]
            rw [hreg t (by simp [VOper.names])]
        have hbg : badG (regR vs T r00 r0 (setOf listed)) g = badG e.rb g := by
          cases g with
          | none => rfl
          | some q =>
            obtain ⟨t, wt⟩ := q
            simp only [badG]
            rw [hreg t (by simp [VOper.names])]
        rw [idled_no hna] at hli
        have fin : ∀ (κ' : K) (w' : World) (v' : Value), VRel κ' e.v v' → SRel Γ base κ' (heapS env.md ((setOf listed).add i) (vs.map idled) T 0 H0) w' → Grow κ (heapS env.md (setOf listed) (vs.map idled) T 0 H0) w κ' (heapS env.md ((setOf listed).add i) (vs.map idled) T 0 H0) w' →
            wpAnyIn (wideR ro) 0 Γ.P .any ops Q fuel (listed.setIfInBounds i true) (a.put o.dst v') w' := by
          intro κ' w' v' hv hs hgr
          refine ih _ _ _ ⟨hsz', hcl', κ', ?_, ?_, ?_⟩ hcnt'
          · rw [hset, D.regAdd hcl hvi hT hna hd hn]; exact hcf.step hs hgr hdst hv
          · rw [hset]; exact hg.trans hgr
          · intro j v'' t' z' hj hjal hjn
            rw [hset] at hjn ⊢
            have hne : j ≠ i := fun e => by subst e; rw [St.add_same] at hjn; cases hjn
            rw [St.add_other hne] at hjn
            obtain ⟨k1, k2, k3⟩ := hal j v'' t' z' hj hjal hjn
            obtain ⟨q1, q2⟩ := hgr.idle (idf j) k2 k1
            exact ⟨q2, Nat.lt_of_lt_of_le k2 hgr.len, by rw [q1]; exact k3⟩
        rcases D.run.at hli hT with ⟨hdid, hw, hek⟩ | ⟨hdid, hw, hev, hha⟩
        · simp only at hw hek
          rw [wanted_rel hcf.regs hgd (.inl (hbg.trans hw.2)), hwg, hw.1]; simp only [if_true]
          exact oper_sound hE ro hcf.srel hcf.regs hop (D.same hcl hvi hT hna hd hn hdid hek) _ _ fun v' κ' w' hv hs hgr => fin κ' w' v' hv hs hgr
        · simp only at hw
          rw [wanted_rel hcf.regs hgd (.inr (hwg.trans hw)), hwg, hw]; simp only [Bool.false_eq_true, if_false]
          have hh : heapS env.md ((setOf listed).add i) (vs.map idled) T 0 H0 = heapS env.md (setOf listed) (vs.map idled) T 0 H0 := by
            cases hef : isEf env.md (⟨o.dst, g, v⟩ : VOper) with
            | false => exact D.heapNo hvi hef
            | true =>
              obtain ⟨k1, k2⟩ := D.heapEf hcl hvi hT hd hn hef
              rw [k1, k2, hha]
          refine ⟨fun _ _ => trivial, fin κ w undef (by rw [hev]; exact undefV_rel κ) ?_ ?_⟩
          · rw [hh]; exact hcf.srel
          · rw [hh]; exact Grow.refl _ _ _
    · exfalso
      have hna : isAl (⟨none, none, .bad⟩ : VOper) = none := rfl
      rw [idled_no hna] at hli
      rcases D.run.at hli hT with ⟨_, _, hek⟩ | ⟨_, hw, _, _⟩
      · cases hek
      · cases hw
end
end Go.VM

namespace Go.VM
open Go

def hoistR : List (Nat × HSh) → Regs → Nat → Regs
  | [], r, _ => r
  | (t, s) :: l, r, m => hoistR l (upd r t (hval s m)) (m + 1)

theorem hoist_eq {R : Type} : ∀ {al : List (Nat × HSh × List PV)} {r : Regs} {h : Heap} {k : Regs → Heap → Option R}, hoist al r h k = k (hoistR (al.map fun p => (p.1, p.2.1)) r h.length) (h ++ al.map fun p => .pcells p.2.2) := by
  intro al
  induction al with
  | nil => intro r h k; simp [hoist, hoistR]
  | cons p al ih =>
    intro r h k
    obtain ⟨t, s, z⟩ := p
    simp only [hoist, ih, hoistR, List.map_cons]
    congr 1
    · simp
    · simp

theorem hoistR_skip {t : Nat} : ∀ {l : List (Nat × HSh)} {r : Regs} {m : Nat}, (∀ x ∈ l, x.1 ≠ t) → hoistR l r m t = r t := by
  intro l
  induction l with
  | nil => intro r m _; rfl
  | cons x l ih =>
    intro r m h
    obtain ⟨u, s⟩ := x
    simp only [hoistR]
    rw [ih fun x hx => h x (List.mem_cons_of_mem _ hx)]
    exact put_other (d := some u) (fun e => h (u, s) (List.mem_cons_self ..) (by injection e))
theorem hoistR_at {t : Nat} {s : HSh} : ∀ {l : List (Nat × HSh)} {r : Regs} {m k : Nat}, l[k]? = some (t, s) → (∀ k' x, l[k']? = some x → x.1 = t → k' = k) → hoistR l r m t = hval s (m + k) := by
  intro l
  induction l with
  | nil => intro r m k h; simp at h
  | cons x l ih =>
    intro r m k h hu
    obtain ⟨u, s0⟩ := x
    simp only [hoistR]
    cases k with
    | zero =>
      simp at h; obtain ⟨e1, e2⟩ := h; subst e1; subst e2
      rw [hoistR_skip fun x hx e => by
        obtain ⟨k', hk'⟩ := List.getElem?_of_mem hx
        have := hu (k' + 1) x (by simpa using hk') e
        omega]
      simp [upd]
    | succ k =>
      simp at h
      rw [ih h fun k' x hk' e => by have := hu (k' + 1) x (by simpa using hk') e; omega]
      congr 1
      omega

def idAt (hl : Nat) (vs : List VOper) (j : Nat) : Nat := hl + ((vs.take j).filterMap isAl).length

theorem filterMap_at {l : List VOper} {j : Nat} {v : VOper} {x : Nat × AlK} (hj : l[j]? = some v) (hv : isAl v = some x) : (l.filterMap isAl)[((l.take j).filterMap isAl).length]? = some x := by
  have hl : l = l.take j ++ v :: l.drop (j + 1) := by
    have h1 := (List.getElem?_eq_some_iff.1 hj).1
    have h2 := (List.getElem?_eq_some_iff.1 hj).2
    rw [← h2, ← List.drop_eq_getElem_cons h1, List.take_append_drop]
  conv => lhs; lhs; rw [hl]
  rw [List.filterMap_append, List.filterMap_cons_some hv, List.getElem?_append_right (Nat.le_refl _)]
  simp

theorem idAt_inj {hl : Nat} {l : List VOper} {j j' : Nat} {v v' : VOper} {x x' : Nat × AlK} (hj : l[j]? = some v) (hj' : l[j']? = some v') (hv : isAl v = some x) (hv' : isAl v' = some x') (h : idAt hl l j = idAt hl l j') : j = j' := by
  have key : ∀ {j j' : Nat} {v : VOper} {x : Nat × AlK}, l[j]? = some v → isAl v = some x → j < j' → ((l.take j).filterMap isAl).length < ((l.take j').filterMap isAl).length := by
    intro j j' v x hj hv hlt
    have e : l.take j' = l.take j ++ (l.drop j).take (j' - j) := by
      conv => lhs; rw [show j' = j + (j' - j) by omega, List.take_add]
    have h1 := (List.getElem?_eq_some_iff.1 hj).1
    have h2 := (List.getElem?_eq_some_iff.1 hj).2
    rw [e, List.filterMap_append, List.length_append]
    obtain ⟨d, hd⟩ : ∃ d, j' - j = d + 1 := ⟨j' - j - 1, by omega⟩
    rw [hd, List.drop_eq_getElem_cons h1, h2, List.take_succ_cons, List.filterMap_cons_some hv]
    simp
  unfold idAt at h
  rcases Nat.lt_trichotomy j j' with hlt | hlt | hlt
  · have := key hj hv hlt; omega
  · exact hlt
  · have := key hj' hv' hlt; omega

theorem filterMap_from : ∀ {l : List VOper} {k : Nat} {x : Nat × AlK}, (l.filterMap isAl)[k]? = some x → ∃ (j : Nat) (v : VOper), l[j]? = some v ∧ isAl v = some x ∧ ((l.take j).filterMap isAl).length = k := by
  intro l
  induction l with
  | nil => intro k x h; simp at h
  | cons v0 l ih =>
    intro k x h
    cases hv0 : isAl v0 with
    | none =>
      rw [List.filterMap_cons_none hv0] at h
      obtain ⟨j, v, h1, h2, h3⟩ := ih h
      exact ⟨j + 1, v, by simpa using h1, h2, by rw [List.take_succ_cons, List.filterMap_cons_none hv0]; exact h3⟩
    | some y =>
      rw [List.filterMap_cons_some hv0] at h
      cases k with
      | zero => simp at h; subst h; exact ⟨0, v0, rfl, hv0, rfl⟩
      | succ k =>
        simp at h
        obtain ⟨j, v, h1, h2, h3⟩ := ih h
        exact ⟨j + 1, v, by simpa using h1, h2, by rw [List.take_succ_cons, List.filterMap_cons_some hv0, List.length_cons, h3]⟩
def alS (all : List VOper) (i : Nat) : AlK → AlS
  | .z z => .z z
  | .x x => .x i (preOf (all.take i).reverse x.tmps []) x
  | .m es z x => .m i (preOf (all.take i).reverse x.tmps []) es z x
theorem mkAl_cons {all l : List VOper} {v : VOper} {i : Nat} {t : Nat} {z : AlK} (h : isAl v = some (t, z)) : mkAl all (v :: l) i = (t, alS all i z) :: mkAl all l (i + 1) := by
  cases z with
  | z z => simp only [mkAl, h, alS]
  | x x => simp only [mkAl, h, alS]
  | m es z x => simp only [mkAl, h, alS]
theorem mkAl_skip {all l : List VOper} {v : VOper} {i : Nat} (h : isAl v = none) : mkAl all (v :: l) i = mkAl all l (i + 1) := by simp only [mkAl, h]
theorem mkAl_fst {all : List VOper} : ∀ {l : List VOper} {i : Nat}, (mkAl all l i).map (·.1) = (l.filterMap isAl).map (·.1) := by
  intro l
  induction l with
  | nil => intro i; rfl
  | cons v l ih =>
    intro i
    cases hv : isAl v with
    | none => rw [mkAl_skip hv, List.filterMap_cons_none hv]; exact ih
    | some x =>
      obtain ⟨t, z⟩ := x
      rw [mkAl_cons hv, List.filterMap_cons_some hv, List.map_cons, List.map_cons, ih]
theorem mkAl_at {all : List VOper} : ∀ {l : List VOper} {i j : Nat} {v : VOper} {t : Nat} {z : AlK}, l[j]? = some v → isAl v = some (t, z) → (mkAl all l i)[((l.take j).filterMap isAl).length]? = some (t, alS all (i + j) z) := by
  intro l
  induction l with
  | nil => intro i j v t z h; simp at h
  | cons v0 l ih =>
    intro i j v t z hj hv
    cases j with
    | zero =>
      simp at hj; subst hj
      rw [mkAl_cons hv]
      simp
    | succ j =>
      simp at hj
      have := ih (i := i + 1) hj hv
      rw [Nat.add_assoc, Nat.add_comm 1 j] at this
      cases hv0 : isAl v0 with
      | none => rw [mkAl_skip hv0, List.take_succ_cons, List.filterMap_cons_none hv0]; exact this
      | some x =>
        obtain ⟨u, z0⟩ := x
        rw [mkAl_cons hv0, List.take_succ_cons, List.filterMap_cons_some hv0, List.length_cons, List.getElem?_cons_succ]; exact this
theorem hget_eq (H : Heap) (i : Nat) : hget H i = (H[i]?).getD .dead := by
  induction H generalizing i with
  | nil => cases i <;> rfl
  | cons o H ih => cases i with
    | zero => rfl
    | succ i => simpa [hget] using ih i

theorem SRel.more {Γ : Ctx} {base : Nat} {κ : K} {H : Heap} {w : World} (h : SRel Γ base κ H w) (L : Heap) : SRel Γ base κ (H ++ L) w := by
  have hp : ∀ id k, place κ id (hget (H ++ L) id) = some k → hget (H ++ L) id = hget H id := by
    intro id k hk
    rcases Nat.lt_or_ge id H.length with hlt | hge
    · exact hget_append_lt hlt
    · exfalso
      obtain ⟨h1, h2⟩ := h.fresh id hge
      cases ho : hget (H ++ L) id <;> rw [ho] at hk <;> simp [place, h1, h2] at hk
  refine ⟨h.imm, fun id k hk => ?_, fun id id' k hk hk' => ?_, fun id hid => h.fresh id (by simp at hid; omega), h.base, h.gv, h.gn⟩
  · have e := hp id k hk
    rw [e] at hk ⊢
    exact h.obj id k hk
  · rw [hp id k hk] at hk; rw [hp id' k hk'] at hk'
    exact h.inj id id' k hk hk'
theorem Grow.more {κ0 κ : K} {H0 H : Heap} {w0 w : World} (g : Grow κ0 H0 w0 κ H w) (L : Heap) (hf : ∀ id, H.length ≤ id → Idle κ id) : Grow κ0 H0 w0 κ (H ++ L) w := by
  refine ⟨g.le, g.size, by have := g.len; simp; omega, g.os, g.tape, g.output, g.drawn, g.frame, fun id k hk => ?_, g.imm, fun id hid hi => ?_⟩
  · rcases Nat.lt_or_ge id H.length with hlt | hge
    · rw [hget_append_lt hlt] at hk; exact g.places id k hk
    · exfalso
      obtain ⟨h1, h2⟩ := hf id hge
      cases ho : hget (H ++ L) id <;> rw [ho] at hk <;> simp [place, h1, h2] at hk
  · rw [hget_append_lt (Nat.lt_of_lt_of_le hid g.len)]; exact g.idle id hid hi
theorem Marks.more {sz : Nat} {κ : K} {H : Heap} {w : World} {ds : List Deferred} (h : Marks sz κ H w ds) (L : Heap) (hf : ∀ id, H.length ≤ id → Idle κ id) : Marks sz κ (H ++ L) w ds := by
  induction h with
  | nil => exact .nil
  | cons D ds h1 h2 h3 h4 _ ih =>
    refine .cons D ds h1 h2 (fun id hk => ?_) h4 ih
    rcases Nat.lt_or_ge id H.length with hlt | hge
    · rw [hget_append_lt hlt] at hk; exact h3 id hk
    · obtain ⟨h1, h2⟩ := hf id hge
      cases ho : hget (H ++ L) id <;> rw [ho] at hk <;> simp [place, h1, h2] at hk

section
variable {Γ : Ctx} {env : Env} {E : Orc} {n : Nat} {mu : Nat → Mu} {ops : Array Oper} {R : Type}

theorem dis_of {md : FuncId → Mode} {vs : List VOper} {deps preds : List (List Nat)} {pairs : List (Nat × Nat)} (h : drawOK md vs deps preds pairs = true) :
    ∀ (i j : Nat) (vi vj : VOper) (t : Nat) (z : AlK), i ≠ j → vs[i]? = some vi → vs[j]? = some vj → isAl vj = some (t, z) → vi.dst ≠ some t := by
  intro i j vi vj t z hne hi hj ha hd
  have h1 := allFrom_get h hi
  rw [Nat.zero_add, Bool.and_eq_true] at h1
  have h2 := allFrom_get h1.2 hj
  rw [Nat.zero_add, Bool.or_eq_true] at h2
  rcases h2 with h2 | h2
  · exact hne (Nat.eq_of_beq_eq_true h2)
  · simp only [both, Bool.and_eq_true, ha] at h2
    obtain ⟨⟨⟨_, _, h3⟩, _⟩, _⟩ := h2
    rw [hd] at h3
    simp at h3

theorem draw_sound (hE : OrcOK Γ E) (hm : Γ.P.follows .mixedOrders = true) (ro : Option Nat) {base sz : Nat} {κ0 κ : K} {Hs H : Heap} {w0 w : World} {r r2 : Regs} {h2 : Heap} {a : Act} {id : Nat} {preds : List (List Nat)} {pairs : List (Nat × Nat)} {T : List Ev} {Q : Exit → Act → World → Prop} {bx ms : Bool} {al : List (Nat × HSh × List PV)}
    (hok : drawOK env.md ((compOpers Γ.P mu n ops.toList ops.toList).map (hb bx ms)) (ops.toList.map depsOf) preds pairs = true)
    (hfst : al.map (·.1) = (((compOpers Γ.P mu n ops.toList ops.toList).map (hb bx ms)).filterMap isAl).map (·.1))
    (hcz : ∀ (j : Nat) (v : VOper) (t : Nat) (z : List PV), ((compOpers Γ.P mu n ops.toList ops.toList).map (hb bx ms))[j]? = some v → isAl v = some (t, .z z) → al[((((compOpers Γ.P mu n ops.toList ops.toList).map (hb bx ms)).take j).filterMap isAl).length]? = some (t, none, z))
    (hcx : ∀ (j : Nat) (v : VOper) (t : Nat) (x : Opd) (e : Ev), ((compOpers Γ.P mu n ops.toList ops.toList).map (hb bx ms))[j]? = some v → isAl v = some (t, .x x) → T[j]? = some e → ∃ p c, x.ev e.rb = .pv p ∧ cellsP p = some c ∧ al[((((compOpers Γ.P mu n ops.toList ops.toList).map (hb bx ms)).take j).filterMap isAl).length]? = some (t, none, c))
    (hcm : ∀ (j : Nat) (v : VOper) (t es : Nat) (z : List PV) (x : Opd) (e : Ev), ((compOpers Γ.P mu n ops.toList ops.toList).map (hb bx ms))[j]? = some v → isAl v = some (t, .m es z x) → T[j]? = some e → ∃ k n', x.ev e.rb = .pv (.int k n') ∧ 0 ≤ n' ∧ n' ≤ 1099511627776 ∧ al[((((compOpers Γ.P mu n ops.toList ops.toList).map (hb bx ms)).take j).filterMap isAl).length]? = some (t, some (es, n'.toNat), zerosOf z n'.toNat))
    (hrun : Run env E (((compOpers Γ.P mu n ops.toList ops.toList).map (hb bx ms)).map idled) (hoistR (al.map fun p => (p.1, p.2.1)) r H.length) (H ++ al.map fun p => .pcells p.2.2) T r2 h2)
    (hpair : ∀ (i j : Nat) (oi : VOper) (ei ej : Ev), (i, j) ∈ pairs → (((compOpers Γ.P mu n ops.toList ops.toList).map (hb bx ms)).map idled)[i]? = some oi → T[i]? = some ei → ei.did = true → T[j]? = some ej → ej.did = true → ∀ p m, loadOf oi.op ei.rb = some (p, m) →
      (∃ id off, p = .ptr id off ∧ readObj (hget ej.hb id) off m = readObj (hget ej.ha id) off m) ∨ (∃ cs off, p = .rptr cs off) ∨ ∃ id n off, p = .gptr id n off ∧ readG (hget ej.hb id) n off m = readG (hget ej.ha id) n off m)
    (hcf : Conf Γ base sz n κ H w r a) (hg : Grow κ0 Hs w0 κ H w)
    (hfin : ∀ κ a w, Conf Γ base sz n κ h2 w r2 a → Grow κ0 Hs w0 κ h2 w → Q .normal a w) : (Code.region id ops true).wpIn (wideR ro) 0 Γ.P Q a w := by
  obtain ⟨vs, hvs⟩ : ∃ vs, vs = (compOpers Γ.P mu n ops.toList ops.toList).map (hb bx ms) := ⟨_, rfl⟩
  rw [← hvs] at hok hrun hpair hfst hcz hcx hcm
  have hdis := dis_of hok
  have hlen : al.length = (vs.filterMap isAl).length := by
    have := congrArg List.length hfst
    simpa using this
  have hlt : ∀ (j : Nat) (v : VOper) (x : Nat × AlK), vs[j]? = some v → isAl v = some x → ((vs.take j).filterMap isAl).length < al.length := by
    intro j v x hj hv
    rw [hlen]
    exact (List.getElem?_eq_some_iff.1 (filterMap_at hj hv)).1
  have hreg0 : ∀ (j : Nat) (v : VOper) (t : Nat) (z : AlK) (sh : HSh) (c : List PV), vs[j]? = some v → isAl v = some (t, z) → al[((vs.take j).filterMap isAl).length]? = some (t, sh, c) → hoistR (al.map fun p => (p.1, p.2.1)) r H.length t = hval sh (idAt H.length vs j) := by
    intro j v t z sh c hj hv hc
    refine hoistR_at (by rw [List.getElem?_map, hc]; rfl) fun k' x hx ht => ?_
    rw [List.getElem?_map] at hx
    obtain ⟨y, hy, hyx⟩ := map_some hx
    have e1 : (al.map (·.1))[k']? = some t := by rw [List.getElem?_map, hy]; subst hyx; rw [← ht]; rfl
    rw [hfst, List.getElem?_map] at e1
    obtain ⟨y', hy', hyt⟩ := map_some e1
    obtain ⟨j', v', q1, q2, q3⟩ := filterMap_from hy'
    obtain ⟨t', z'⟩ := y'
    simp only at hyt
    subst hyt
    by_cases hjj : j = j'
    · subst hjj; exact q3.symm
    · exact (hdis j j' v v' _ z' hjj hj q1 q2 (isAl_dst hv).1).elim
  have hrest0 : ∀ t, alOf vs 0 t = none → hoistR (al.map fun p => (p.1, p.2.1)) r H.length t = r t := by
    intro t ht
    refine hoistR_skip fun x hx hxt => ?_
    obtain ⟨y, hy, hyx⟩ := List.mem_map.1 hx
    have e1 : t ∈ al.map (·.1) := List.mem_map.2 ⟨y, hy, by subst hyx; exact hxt⟩
    rw [hfst] at e1
    obtain ⟨y', hy', hyt⟩ := List.mem_map.1 e1
    obtain ⟨v, hv, hvy⟩ := List.mem_filterMap.1 hy'
    obtain ⟨j, hj⟩ := List.getElem?_of_mem hv
    obtain ⟨t', z'⟩ := y'
    simp only at hyt
    subst hyt
    exact alOf_none ht j v z' hj hvy
  have hgetc : ∀ (j : Nat) (t : Nat) (sh : HSh) (c : List PV), al[((vs.take j).filterMap isAl).length]? = some (t, sh, c) → hget (H ++ al.map fun p => .pcells p.2.2) (idAt H.length vs j) = .pcells c := by
    intro j t sh c hc
    rw [hget_eq, List.getElem?_append_right (by unfold idAt; omega)]
    have e : idAt H.length vs j - H.length = ((vs.take j).filterMap isAl).length := by unfold idAt; omega
    rw [e, List.getElem?_map, hc]
    rfl
  have D : Drawn Γ env E n H.length mu ops vs preds pairs r (hoistR (al.map fun p => (p.1, p.2.1)) r H.length) (H ++ al.map fun p => .pcells p.2.2) T r2 h2 (idAt H.length vs) :=
    { vs_eq := ⟨bx, ms, hvs⟩, ok := hok, run := hrun, pair := hpair
      al := fun j v t z hj hv => ⟨by unfold idAt; omega, by
        have := hlt j v _ hj hv
        rw [List.length_append, List.length_map]; unfold idAt; omega⟩
      inj := fun j j' v v' x x' hj hj' hv hv' h => idAt_inj hj hj' hv hv' h
      rest := hrest0
      alz := fun j v t z hj hv => ⟨hreg0 j v t _ _ _ hj hv (hcz j v t z hj hv), hgetc j t _ z (hcz j v t z hj hv)⟩
      alx := fun j v t x e hj hv hT => by
        obtain ⟨p, c, q1, q2, q3⟩ := hcx j v t x e hj hv hT
        exact ⟨hreg0 j v t _ _ _ hj hv q3, p, c, q1, q2, hgetc j t _ c q3⟩
      alm := fun j v t es z x e hj hv hT => by
        obtain ⟨k, m, q1, q2, q3, q4⟩ := hcm j v t es z x e hj hv hT
        exact ⟨k, m, q1, q2, q3, hreg0 j v t _ _ _ hj hv q4, hgetc j t _ _ q4⟩ }
  have hidle : ∀ id, H.length ≤ id → Idle κ id := fun id hid => hcf.srel.fresh id hid
  refine wpIn_region_any hm (draw_any D hE ro hg.len hfin ops.size _ a _ ?_ (by simp))
  have hset : setOf (Array.replicate ops.size false) = fun _ => false := by
    funext j
    simp only [setOf, Array.getD_eq_getD_getElem?, Array.getElem?_replicate]
    split <;> rfl
  have hheap : heapS env.md (fun _ => false) (vs.map idled) T 0 (H ++ al.map fun p => .pcells p.2.2) = H ++ al.map fun p => .pcells p.2.2 := heapS_skip fun _ _ _ _ => rfl
  have hreg : regR vs T r (hoistR (al.map fun p => (p.1, p.2.1)) r H.length) (fun _ => false) = r := by
    funext t
    unfold regR
    cases ht : alOf vs 0 t with
    | some j => rfl
    | none =>
      simp only
      rw [regS_skip fun _ _ _ h => by cases h]
      exact D.rest t ht
  refine ⟨by simp, ⟨fun j hj => (by rw [hset] at hj; cases hj), fun j hj => (by rw [hset] at hj; cases hj)⟩, κ, ?_, ?_, ?_⟩
  · rw [hset, hheap, hreg]
    exact ⟨(hcf.srel.drew).1.more _, hcf.regs, hcf.size, ((hcf.marks.grow (hcf.srel.drew).2).more _ hidle)⟩
  · rw [hset, hheap]
    exact (hg.trans (hcf.srel.drew).2).more _ hidle
  · intro j v t z hj hv _
    rw [hset, hheap]
    exact ⟨hidle _ (by unfold idAt; omega), (D.al j v t z hj hv).2, rfl⟩

theorem filterMap_nil {vs : List VOper} (h : vs.filterMap isAl = []) : vs.map idled = vs := by
  induction vs with
  | nil => rfl
  | cons v vs ih =>
    cases hv : isAl v with
    | some x => rw [List.filterMap_cons_some hv] at h; cases h
    | none =>
      rw [List.filterMap_cons_none hv] at h
      rw [List.map_cons, ih h, idled_no hv]

theorem compDraw1_sound (hE : OrcOK Γ E) (hm : Γ.P.follows .mixedOrders = true) (ro : Option Nat) {base sz : Nat} {κ0 κ : K} {Hs H : Heap} {w0 w : World} {r : Regs} {a : Act} {id : Nat} {k : Ex → Regs → Heap → Option R} {y : R} {Q : Exit → Act → World → Prop} (bx ms : Bool)
    (hok : drawOK env.md ((compOpers Γ.P mu n ops.toList ops.toList).map (hb bx ms)) (ops.toList.map depsOf) (predsOf (ops.toList.map depsOf) []) (mkPairs env.md ((compOpers Γ.P mu n ops.toList ops.toList).map (hb bx ms)) (predsOf (ops.toList.map depsOf) [])) = true)
    (he : evK env E (compDraw1 env.md ((compOpers Γ.P mu n ops.toList ops.toList).map (hb bx ms)) (predsOf (ops.toList.map depsOf) [])) R r H k = some y) (hcf : Conf Γ base sz n κ H w r a) (hg : Grow κ0 Hs w0 κ H w)
    (hQ : ∀ r' H' κ' a' w', k .normal r' H' = some y → Conf Γ base sz n κ' H' w' r' a' → Grow κ0 Hs w0 κ' H' w' → Q .normal a' w') : (Code.region id ops true).wpIn (wideR ro) 0 Γ.P Q a w := by
  unfold compDraw1 at he
  split at he
  · rename_i hal hps
    simp only [evK_skip, evK_ops, evK_draw, evK_seq, evK_cond, evK_block, evK_loop, evK_rangeFunc, evK_exit, evK_ret] at he
    obtain ⟨T, r', h', g1, g2⟩ := evOps_run he
    have hnil : ((compOpers Γ.P mu n ops.toList ops.toList).map (hb bx ms)).filterMap isAl = [] := by
      have := mkAl_fst (all := (compOpers Γ.P mu n ops.toList ops.toList).map (hb bx ms)) (l := (compOpers Γ.P mu n ops.toList ops.toList).map (hb bx ms)) (i := 0)
      rw [hal] at this
      exact List.map_eq_nil_iff.1 this.symm
    have none : ∀ (j : Nat) (v : VOper) (x : Nat × AlK), ((compOpers Γ.P mu n ops.toList ops.toList).map (hb bx ms))[j]? = some v → isAl v = some x → False := fun j v x hj hv => by
      have := filterMap_at hj hv
      rw [hnil] at this
      simp at this
    refine draw_sound hE hm ro (T := T) (r2 := r') (h2 := h') (al := []) hok (by rw [hnil]; rfl) (fun j v t z hj hv => (none j v _ hj hv).elim) (fun j v t x e hj hv => (none j v _ hj hv).elim) (fun j v t es z x e hj hv => (none j v _ hj hv).elim) ?_ ?_ hcf hg fun κ' a' w' c1 c2 => hQ r' h' κ' a' w' g2 c1 c2
    · rw [filterMap_nil hnil]
      simpa [hoistR] using g1
    · intro i j oi ei ej hp
      rw [hps] at hp; cases hp
  · simp only [evK_skip, evK_ops, evK_draw, evK_seq, evK_cond, evK_block, evK_loop, evK_rangeFunc, evK_exit, evK_ret] at he
    obtain ⟨al, zs, he, hf, hheld⟩ := conts_inv he
    rw [hoist_eq] at he
    obtain ⟨T, r', h', g1, g2⟩ := evDraw_run he
    obtain ⟨g2, g3⟩ := checkPairs_inv g2
    obtain ⟨g2, g4⟩ := checkBox_inv g2
    refine draw_sound hE hm ro (T := T) (r2 := r') (h2 := h') hok (hf.trans mkAl_fst) ?_ ?_ ?_ g1 ?_ hcf hg fun κ' a' w' c1 c2 => hQ r' h' κ' a' w' g2 c1 c2
    · intro j v t z hj hv
      obtain ⟨sh, c, q1, q2⟩ := hheld _ t _ (mkAl_at hj hv)
      obtain ⟨e1, e2⟩ : sh = none ∧ c = z := q2
      rw [e1, e2] at q1
      exact q1
    · intro j v t x e hj hv hT
      obtain ⟨sh, c, q1, q2⟩ := hheld _ t _ (mkAl_at hj hv)
      obtain ⟨q0, p, q3, q4⟩ := q2
      subst q0
      rw [Nat.zero_add] at q3
      obtain ⟨m, q5⟩ := g4 j p q3
      have hidl : idled v = ⟨none, none, .idleX x⟩ := by simp [idled, hv]
      have hoi : (((compOpers Γ.P mu n ops.toList ops.toList).map (hb bx ms)).map idled)[j]? = some ⟨none, none, .idleX x⟩ := by rw [List.getElem?_map, hj, ← hidl]; rfl
      have hdid : e.did = true := by
        rcases g1.at hoi hT with ⟨h, _, _⟩ | ⟨_, h, _, _⟩
        · exact h
        · cases h
      have f1 := loadsOf_find (i := 0) (acc := []) hoi hT hdid (x := (x.ev e.rb, none)) rfl
      rw [Nat.zero_add, q5] at f1
      injection f1 with f1; injection f1 with f1 _
      exact ⟨p, c, f1.symm, q4, q1⟩
    · intro j v t es z x e hj hv hT
      obtain ⟨sh, c, q1, q2⟩ := hheld _ t _ (mkAl_at hj hv)
      obtain ⟨kd, nn, q3, q4, q6, q7, q8⟩ := q2
      subst q7; subst q8
      rw [Nat.zero_add] at q3
      obtain ⟨m, q5⟩ := g4 j _ q3
      have hidl : idled v = ⟨none, none, .idleX x⟩ := by simp [idled, hv]
      have hoi : (((compOpers Γ.P mu n ops.toList ops.toList).map (hb bx ms)).map idled)[j]? = some ⟨none, none, .idleX x⟩ := by rw [List.getElem?_map, hj, ← hidl]; rfl
      have hdid : e.did = true := by
        rcases g1.at hoi hT with ⟨h, _, _⟩ | ⟨_, h, _, _⟩
        · exact h
        · cases h
      have f1 := loadsOf_find (i := 0) (acc := []) hoi hT hdid (x := (x.ev e.rb, none)) rfl
      rw [Nat.zero_add, q5] at f1
      injection f1 with f1; injection f1 with f1 _
      exact ⟨kd, nn, f1.symm, q4, q6, q1⟩
    · intro i j oi ei ej hp hoi hei hdi hej hdj p m hl
      have f1 := loadsOf_find (i := 0) (acc := []) hoi hei hdi hl
      have f2 := effsOf_find (pairs := mkPairs env.md ((compOpers Γ.P mu n ops.toList ops.toList).map (hb bx ms)) (predsOf (ops.toList.map depsOf) [])) (i := 0) (acc := []) hej hdj (by rw [Nat.zero_add]; exact hasSnd_mem hp)
      rw [Nat.zero_add] at f1 f2
      exact g3 i j p m ej.hb ej.ha hp f1 f2
/-! ### a region all of whose orders end alike -/
theorem mem_readyN {deps : List (List Nat)} {m i : Nat} {S : Nat → Bool} : i ∈ readyN deps m S ↔ i < m ∧ S i = false ∧ ∀ d ∈ nth deps i, S d = true := by
  unfold readyN nth
  rw [List.mem_filter, List.mem_range]
  simp only [Bool.and_eq_true, Bool.not_eq_true', List.all_eq_true]
theorem ready_iff {ops : Array Oper} {listed : Array Bool} (hsz : listed.size = ops.size) {i : Nat} : i ∈ Region.ready .any ops listed ↔ i ∈ readyN (ops.toList.map depsOf) ops.size (setOf listed) := by
  rw [mem_ready, mem_readyN]
  constructor
  · rintro ⟨h0, o, ho, h1⟩
    have hlt : i < ops.size := (Array.getElem?_eq_some_iff.1 ho).1
    have hl : i < listed.size := by omega
    refine ⟨hlt, by simpa [setOf, Array.getD, hl] using h0, fun d hd => ?_⟩
    rw [nth_deps ops ho] at hd
    obtain ⟨e, he, hb, rfl⟩ := depsOf_iff.1 hd
    exact h1 e he hb
  · rintro ⟨hlt, h0, h1⟩
    have ho : ops[i]? = some ops[i] := Array.getElem?_eq_getElem hlt
    have hl : i < listed.size := by omega
    refine ⟨by simpa [setOf, Array.getD, hl] using h0, ops[i], ho, fun e he hb => h1 e.on ?_⟩
    rw [nth_deps ops ho]; exact depsOf_iff.2 ⟨e, he, hb, rfl⟩

theorem allEnd_any (hE : OrcOK Γ E) (ro : Option Nat) {base sz : Nat} {κ0 : K} {Hs : Heap} {w0 : World} {p : Regs × Heap} {Q : Exit → Act → World → Prop}
    (hfin : ∀ κ a w, Conf Γ base sz n κ p.2 w p.1 a → Grow κ0 Hs w0 κ p.2 w → Q .normal a w) :
    ∀ (fuel : Nat) (listed : Array Bool) (r : Regs) (H : Heap) (a : Act) (w : World) (κ : K), listed.size = ops.size → AllEnd env E (compOpers Γ.P mu n ops.toList ops.toList) (ops.toList.map depsOf) p fuel (setOf listed) r H →
      Conf Γ base sz n κ H w r a → Grow κ0 Hs w0 κ H w → wpAnyIn (wideR ro) 0 Γ.P .any ops Q fuel listed a w := by
  have hl : (compOpers Γ.P mu n ops.toList ops.toList).length = ops.size := by rw [compOpers_length]; simp
  have nilIff : ∀ listed : Array Bool, listed.size = ops.size → (Region.ready .any ops listed = [] ↔ readyN (ops.toList.map depsOf) ops.size (setOf listed) = []) := by
    intro listed hsz
    constructor
    · intro h
      cases hr : readyN (ops.toList.map depsOf) ops.size (setOf listed) with
      | nil => rfl
      | cons x l => have := (ready_iff hsz (i := x)).2 (by rw [hr]; simp); rw [h] at this; cases this
    · intro h
      cases hr : Region.ready .any ops listed with
      | nil => rfl
      | cons x l => have := (ready_iff hsz (i := x)).1 (by rw [hr]; simp); rw [h] at this; cases this
  intro fuel
  induction fuel with
  | zero =>
    intro listed r H a w κ hsz A hcf hg
    obtain ⟨h1, h2⟩ := A
    rw [hl] at h1
    subst h2
    exact ⟨(nilIff listed hsz).2 h1, hfin κ a w hcf hg⟩
  | succ fuel ih =>
    intro listed r H a w κ hsz A hcf hg
    obtain ⟨h1, h2⟩ := A
    rw [hl] at h1 h2
    refine ⟨fun hr => ?_, fun i hi => ?_⟩
    · have := h1 ((nilIff listed hsz).1 hr)
      subst this
      exact hfin κ a w hcf hg
    · have hi' := (ready_iff hsz).1 hi
      have hlt : i < ops.size := (mem_readyN.1 hi').1
      have hli : i < listed.size := by omega
      have ho : ops[i]? = some ops[i] := Array.getElem?_eq_getElem hlt
      obtain ⟨vo, r', H', g1, g2, g3⟩ := h2 i hi'
      obtain ⟨vi, hv0, hcase⟩ := compOpers_get (P := Γ.P) (mu := mu) (n := n) (all := ops.toList) (l := ops.toList) (i := i) (o := ops[i]) (by rw [Array.getElem?_toList]; exact ho)
      rw [g1] at hv0; injection hv0 with hv0; subst hv0
      have g3' : AllEnd env E (compOpers Γ.P mu n ops.toList ops.toList) (ops.toList.map depsOf) p fuel (setOf (listed.setIfInBounds i true)) r' H' := by rw [setOf_add hli]; exact g3
      have hsz' : (listed.setIfInBounds i true).size = ops.size := by simpa using hsz
      unfold stepO guardK at g2
      unfold wpOpIn
      rw [ho]
      dsimp only
      rcases hcase with ⟨g, v, rfl, hgd, hdst, hop⟩ | rfl
      · cases hw : wantedV r g with
        | true =>
          simp only [hw, cond_true] at g2
          obtain ⟨hbg, v1, H1, he1, he2⟩ := operG_inv g2
          rw [wanted_rel hcf.regs hgd (.inl hbg), hw]
          simp only [if_true]
          rw [forceK_def, putK_def] at he2
          injection he2 with he2; injection he2 with e1 e2; subst e1; subst e2
          refine oper_sound hE ro hcf.srel hcf.regs hop he1 _ _ fun v' κ' w' hv hs hgr => ?_
          exact ih _ _ _ _ _ κ' hsz' g3' (hcf.step hs hgr hdst hv) (hg.trans hgr)
        | false =>
          simp only [hw, cond_false, putK_def] at g2
          injection g2 with g2; injection g2 with e1 e2; subst e1; subst e2
          rw [wanted_rel hcf.regs hgd (.inr hw), hw]
          simp only [Bool.false_eq_true, if_false]
          exact ⟨fun _ _ => trivial, ih _ _ _ _ _ κ hsz' g3' (hcf.step hcf.srel (Grow.refl _ _ _) hdst (undefV_rel κ)) hg⟩
      · simp only [wantedV, cond_true, operG, badG, cond_false, operK, opK] at g2
        cases g2

/-- A region that draws its order, as it was compiled. -/
theorem compDraw_sound (hE : OrcOK Γ E) (hm : Γ.P.follows .mixedOrders = true) (ro : Option Nat) {base sz : Nat} {κ0 κ : K} {Hs H : Heap} {w0 w : World} {r : Regs} {a : Act} {id : Nat} {k : Ex → Regs → Heap → Option R} {y : R} {Q : Exit → Act → World → Prop}
    (he : evK env E (compDraw env.md (compOpers Γ.P mu n ops.toList ops.toList) (ops.toList.map depsOf)) R r H k = some y) (hcf : Conf Γ base sz n κ H w r a) (hg : Grow κ0 Hs w0 κ H w)
    (hQ : ∀ r' H' κ' a' w', k .normal r' H' = some y → Conf Γ base sz n κ' H' w' r' a' → Grow κ0 Hs w0 κ' H' w' → Q .normal a' w') : (Code.region id ops true).wpIn (wideR ro) 0 Γ.P Q a w := by
  have key : ∀ (bx ms : Bool) (e : VCode), evK env E (tryDraw env.md (compOpers Γ.P mu n ops.toList ops.toList) (ops.toList.map depsOf) (predsOf (ops.toList.map depsOf) []) bx ms e) R r H k = some y →
      (evK env E e R r H k = some y → (Code.region id ops true).wpIn (wideR ro) 0 Γ.P Q a w) → (Code.region id ops true).wpIn (wideR ro) 0 Γ.P Q a w := by
    intro bx ms e he hno
    unfold tryDraw at he
    cases hok : drawOK env.md ((compOpers Γ.P mu n ops.toList ops.toList).map (hb bx ms)) (ops.toList.map depsOf) (predsOf (ops.toList.map depsOf) []) (mkPairs env.md ((compOpers Γ.P mu n ops.toList ops.toList).map (hb bx ms)) (predsOf (ops.toList.map depsOf) [])) with
    | true =>
      rw [hok] at he
      simp only [cond_true] at he
      exact compDraw1_sound hE hm ro bx ms hok he hcf hg hQ
    | false =>
      rw [hok] at he
      exact hno he
  unfold compDraw at he
  refine key _ _ _ he fun he => key _ _ _ he fun he => key _ _ _ he fun he => key _ _ _ he fun he => ?_
  rw [evK_drawN] at he
  cases hp : endsN env E (compOpers Γ.P mu n ops.toList ops.toList) (ops.toList.map depsOf) r H with
  | none => rw [hp] at he; cases he
  | some p =>
    rw [hp] at he; simp only [Option.bind_some] at he
    have A := endsN_some hp
    refine wpIn_region_any hm ?_
    obtain ⟨d1, d2⟩ := hcf.srel.drew
    refine allEnd_any (env := env) (mu := mu) hE ro (fun κ a w h1 h2 => hQ _ _ κ a w he h1 h2) _ _ r H a _ κ (by simp) ?_ ⟨d1, hcf.regs, hcf.size, hcf.marks.grow d2⟩ (hg.trans d2)
    have e : (setOf (Array.replicate ops.size false)) = fun _ => false := by
      funext j
      simp [setOf, Array.getD]
    rw [e]
    rw [compOpers_length] at A
    simpa using A
end
end Go.VM
