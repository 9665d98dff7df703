/-
  Part 7 of an abstract machine that answers as the model does.
  A region that draws its order: every order walked.
  A region that draws its order: from what was compiled.
  Code: what the abstract machine says of it holds of every walk of it.
  Functions and rounds: the abstract machine's calls are the model's.
  Rounds; the oracle that the abstract machine's own calls make.
  The least oracle: what the code answers under it, it answers.
-/
import Derived.Test.YtchcbpnoagldnaaV6
import Derived.Scope
set_option linter.all false
set_option linter.unusedVariables false
set_option linter.unusedSimpArgs false
set_option linter.unusedSectionVars false
namespace Go.VM
open Go

section
variable {Γ : Ctx} {env : Env} {E : Orc} {n hlen : Nat} {mu : Nat → Mu} {ops : Array Oper} {vs : List VOper} {preds : List (List Nat)} {pairs : List (Nat × Nat)} {r00 r0 : Regs} {H0 : Heap} {T : List Ev} {r2 : Regs} {h2 : Heap} {idf : Nat → Nat}

theorem nth_deps (ops : Array Oper) {i : Nat} {o : Oper} (h : ops[i]? = some o) : nth (ops.toList.map depsOf) i = depsOf o := by
  unfold nth
  rw [lget_eq, List.getElem?_map, Array.getElem?_toList, h]
  rfl
theorem depsOf_iff {o : Oper} {d : Nat} : d ∈ depsOf o ↔ ∃ e ∈ o.after, Region.binds .any e = true ∧ e.on = d := by
  unfold depsOf
  simp only [List.mem_map, List.mem_filter, Array.mem_toList_iff]
  constructor
  · rintro ⟨e, ⟨h1, h3⟩, h4⟩; exact ⟨e, h1, h3, h4⟩
  · rintro ⟨e, h1, h3, h4⟩; exact ⟨e, ⟨h1, h3⟩, h4⟩

def setOf (listed : Array Bool) : St := fun j => listed.getD j false
theorem setOf_add {listed : Array Bool} {i : Nat} (hi : i < listed.size) : setOf (listed.setIfInBounds i true) = (setOf listed).add i := by
  funext j
  by_cases h : j = i
  · subst h
    rw [St.add_same]
    simp [setOf, Array.getD, hi]
  · rw [St.add_other h]
    unfold setOf
    exact getD_set_ne false (Ne.symm h)

/-- How far an order of the region has been walked. -/
def DInv (Γ : Ctx) (env : Env) (base sz n : Nat) (ops : Array Oper) (vs : List VOper) (r00 r0 : Regs) (H0 : Heap) (T : List Ev) (idf : Nat → Nat) (κ0 : K) (Hs : Heap) (w0 : World) (listed : Array Bool) (a : Act) (w : World) : Prop :=
  listed.size = ops.size ∧ Closed ops (setOf listed) ∧ ∃ κ, Conf Γ base sz n κ (heapS env.md (setOf listed) (vs.map idled) T 0 H0) w (regR vs T r00 r0 (setOf listed)) a ∧
    Grow κ0 Hs w0 κ (heapS env.md (setOf listed) (vs.map idled) T 0 H0) w ∧
    ∀ (j : Nat) (v : VOper) (t : Nat) (z : List PV), vs[j]? = some v → isAl v = some (t, z) → setOf listed j = false → Idle κ (idf j) ∧ idf j < (heapS env.md (setOf listed) (vs.map idled) T 0 H0).length ∧ hget (heapS env.md (setOf listed) (vs.map idled) T 0 H0) (idf j) = .pcells z

theorem loadOf_rd {md : FuncId → Mode} {v : VOper} (h : isRd md v = true) : (∃ p, v.op = .load1 p) ∨ (∃ m p, v.op = .loadN m p) := by
  unfold isRd at h
  have hc : clsOf md v.op = .rd := by
    cases hcl : clsOf md v.op <;> rw [hcl] at h <;> first | rfl | cases h
  cases hop : v.op <;> rw [hop] at hc <;> simp only [clsOf] at hc <;> try (cases hc; done)
  case load1 p => exact .inl ⟨p, rfl⟩
  case loadN m p => exact .inr ⟨m, p, rfl⟩
  case mkSlice mu _ _ _ _ => cases mu <;> cases hc
  case buildSlice mu _ _ _ _ => cases mu <;> cases hc
  case call f _ => split at hc <;> cases hc

/-- A ready operation, in the heap that it finds, does what it does in the run. -/
theorem Drawn.same (D : Drawn Γ env E n hlen mu ops vs preds pairs r00 r0 H0 T r2 h2 idf) {S : St} (hc : Closed ops S) {i : Nat} {vi : VOper} {e : Ev} (hi : vs[i]? = some vi) (hT : T[i]? = some e) (hna : isAl vi = none) (hd : ∀ d ∈ nth (ops.toList.map depsOf) i, S d = true) (hn : S i = false)
    (hdid : e.did = true) (he : operK env E vi.op e.rb e.hb (fun v h => some (v, h)) = some (e.v, e.ha)) :
    operK env E vi.op (regR vs T r00 r0 S) (heapS env.md S (vs.map idled) T 0 H0) (fun v h => some (v, h)) = some (e.v, heapS env.md (S.add i) (vs.map idled) T 0 H0) := by
  have hreg : ∀ t ∈ vi.op.tmps, regR vs T r00 r0 S t = e.rb t := fun t ht => D.reg hc hi hT hna hd hn (by simp [VOper.names, ht])
  rw [operK_congr hreg]
  cases hef : isEf env.md vi with
  | true =>
    obtain ⟨h1, h3⟩ := D.heapEf hc hi hT hd hn hef
    rw [h1, h3]; exact he
  | false =>
    rw [D.heapNo hi hef]
    have hne := isEf_ne hna hef
    have hk := operK_keep hne he
    cases hcl : clsOf env.md vi.op with
    | ef => exact absurd hcl hne
    | none =>
      rw [operK_none hcl _ e.hb e.hb] at he
      rw [operK_none hcl _ _ e.hb]
      obtain ⟨v1, g1, g2, g3⟩ := operK_inv he
      injection g3 with g3; injection g3 with g3 _; subst g3
      have : operK env E vi.op e.rb e.hb (fun v _ => some (v, heapS env.md S (vs.map idled) T 0 H0)) = (operK env E vi.op e.rb e.hb (fun v h => some (v, h))).bind fun p => some (p.1, heapS env.md S (vs.map idled) T 0 H0) := by rw [operK_bind]; rfl
      rw [this, g2]
      rfl
    | rd =>
      have hrd : isRd env.md vi = true := by unfold isRd; rw [hcl]
      rcases loadOf_rd hrd with ⟨p, hop⟩ | ⟨m, p, hop⟩
      · rw [hop] at he ⊢
        simp only [operK, opK] at he ⊢
        cases hp : p.ev e.rb with
        | ptr id off =>
          rw [hp] at he
          rw [load1_view] at he ⊢
          rw [D.look hc hi hT hd hn hrd hna hdid (id := id) (off := off) (m := none) (by rw [hop]; simp [loadOf, hp])]
          obtain ⟨q, g1, g2⟩ := bind_pair he
          injection g2 with g2 _; subst g2
          rw [g1]; rfl
        | rptr cs off =>
          rw [hp] at he
          simp only [load1K, getK_def] at he ⊢
          obtain ⟨q, g1, g2⟩ := bind_pair he
          injection g2 with g2 _
          rw [g1, ← g2]; rfl
        | _ => rw [hp] at he; cases he
      · rw [hop] at he ⊢
        simp only [operK, opK] at he ⊢
        cases hp : p.ev e.rb with
        | ptr id off =>
          rw [hp] at he
          rw [loadN_view] at he ⊢
          rw [D.look hc hi hT hd hn hrd hna hdid (id := id) (off := off) (m := some m) (by rw [hop]; simp [loadOf, hp])]
          obtain ⟨q, g1, g2⟩ := bind_pair he
          injection g2 with g2 _; subst g2
          rw [g1]; rfl
        | rptr cs off =>
          rw [hp] at he
          simp only [loadNK, secK_def] at he ⊢
          cases hb : Nat.ble (off + m) cs.length with
          | false => rw [hb] at he; cases he
          | true =>
            rw [hb] at he
            simp only [cond_true] at he ⊢
            injection he with he; injection he with he _
            rw [he]
        | _ => rw [hp] at he; cases he

theorem alloc_step {κ : K} {base sz : Nat} {H : Heap} {w : World} {r : Regs} {a : Act} {o : Oper} {ty : TypeId} {z : List PV} (hcf : Conf Γ base sz n κ H w r a) (hop : o.op = .alloc ty) (hz : zeroT Γ.P ty = some z) {id : Nat} (hi : Idle κ id) (hl : id < H.length) (hh : hget H id = .pcells z)
    (ro : Option Nat) {t : Nat} (hdst : o.dst = some t) (hok : okDst n o.dst = true) (K : Act → World → Prop) (Q : Exit → Act → World → Prop)
    (hK : ∀ a' ob, Conf Γ base sz n (κ.at id w.heap.size) H (w.alloc ob) (put r (some t) (.ptr id 0)) a' → K a' (w.alloc ob)) : o.wpIn (wideR ro) 0 Γ.P a w K Q := by
  obtain ⟨i, zv, hi', hzz, hzr, hz1, _⟩ := zeroT_rel (Γ := Γ) (κ := κ) hz
  have hs := hcf.srel.wake hi hl hh ty hzr hz1
  simp only [Array.toArray_toList] at hs
  have hrun : (execOp a.eval o).run Γ.P w = .ok (.value (.pointer (some ⟨w.heap.size, 0, none⟩))) (w.alloc (.cells zv.cells ty)) := by
    simp [execOp, hop, Instr.alloc, run_zeroValue' hi' hzz, newVar, run_newRow']
  refine ⟨fun _ _ => trivial, ?_⟩
  rw [Oper.semAt_eq _ _ _ (fun c e => by rw [hop] at e; cases e), hrun, Oper.uponIn_value]
  refine hK _ (.cells zv.cells ty) ⟨hs, ?_, by rw [put_size]; exact hcf.size, by rw [put_defers]; exact hcf.marks.wake hi _⟩
  rw [hdst]
  exact (hcf.regs.mono (κ.le_at hi.1)).put hcf.size (d := some t) (by rw [← hdst]; exact hok) (.ptr _ _ _ (Go.VM.K.at_same _ _ _))

theorem draw_any (D : Drawn Γ env E n hlen mu ops vs preds pairs r00 r0 H0 T r2 h2 idf) (hE : OrcOK Γ E) (ro : Option Nat) {base sz : Nat} {κ0 : K} {Hs : Heap} {w0 : World} (hlen0 : Hs.length ≤ hlen) {Q : Exit → Act → World → Prop}
    (hfin : ∀ κ a w, Conf Γ base sz n κ h2 w r2 a → Grow κ0 Hs w0 κ h2 w → Q .normal a w) :
    ∀ (fuel : Nat) (listed : Array Bool) (a : Act) (w : World), DInv Γ env base sz n ops vs r00 r0 H0 T idf κ0 Hs w0 listed a w → listed.toList.count false ≤ fuel → wpAnyIn (wideR ro) 0 Γ.P .any ops Q fuel listed a w := by
  have done : ∀ (listed : Array Bool) (a : Act) (w : World), DInv Γ env base sz n ops vs r00 r0 H0 T idf κ0 Hs w0 listed a w → Region.ready .any ops listed = [] → Q .normal a w := by
    intro listed a w hinv hr
    obtain ⟨hsz, hcl, κ, hcf, hg, _⟩ := hinv
    have hall : ∀ j, j < ops.size → setOf listed j = true := by
      intro j
      induction j using Nat.strongRecOn with
      | _ j ih =>
        intro hj
        cases hS : setOf listed j with
        | true => rfl
        | false =>
          exfalso
          have ho : ops[j]? = some ops[j] := Array.getElem?_eq_getElem hj
          obtain ⟨vj, hvj⟩ := D.get hj
          have : j ∈ Region.ready .any ops listed := by
            rw [mem_ready]
            refine ⟨?_, ops[j], ho, fun e he hb => ?_⟩
            · have hlt : j < listed.size := by rw [hsz]; exact hj
              simpa [setOf, Array.getD, hlt] using hS
            · have hd : e.on ∈ nth (ops.toList.map depsOf) j := by rw [nth_deps ops ho]; exact depsOf_iff.2 ⟨e, he, hb, rfl⟩
              have hlt := D.preLt hvj hd
              exact ih e.on hlt (by omega)
          rw [hr] at this; cases this
    rw [D.regAll hall, D.heapAll hall] at hcf
    rw [D.heapAll hall] at hg
    exact hfin κ a w hcf hg
  intro fuel
  induction fuel with
  | zero =>
    intro listed a w hinv hcnt
    have hnil : Region.ready .any ops listed = [] := by
      cases hr : Region.ready .any ops listed with
      | nil => rfl
      | cons x l =>
        exfalso
        have hx : x ∈ Region.ready .any ops listed := by rw [hr]; simp
        obtain ⟨h0, o, ho, _⟩ := mem_ready.1 hx
        have hlt : x < listed.size := by rw [hinv.1]; exact (Array.getElem?_eq_some_iff.1 ho).1
        have hf : listed[x] = false := by simpa [Array.getD, hlt] using h0
        have : false ∈ listed.toList := by rw [← hf]; simp
        have := List.count_pos_iff.2 this
        omega
    exact ⟨hnil, done listed a w hinv hnil⟩
  | succ fuel ih =>
    intro listed a w hinv hcnt
    refine ⟨done listed a w hinv, fun i hi => ?_⟩
    obtain ⟨hsz, hcl, κ, hcf, hg, hal⟩ := hinv
    obtain ⟨h0, o, ho, hafter⟩ := mem_ready.1 hi
    have hi' : i < ops.size := (Array.getElem?_eq_some_iff.1 ho).1
    have hlt : i < listed.size := by rw [hsz]; exact hi'
    have hn : setOf listed i = false := by
      have hf : listed[i] = false := by simpa [Array.getD, hlt] using h0
      simp [setOf, Array.getD, hlt, hf]
    have hd : ∀ d ∈ nth (ops.toList.map depsOf) i, setOf listed d = true := by
      intro d hd
      rw [nth_deps ops ho] at hd
      obtain ⟨e, he, hb, rfl⟩ := depsOf_iff.1 hd
      exact hafter e he hb
    have hcnt' : (listed.setIfInBounds i true).toList.count false ≤ fuel := by
      rw [Array.toList_setIfInBounds, List.count_set (by simpa using hlt)]
      have hf : listed.toList[i]'(by simpa using hlt) = false := by
        have hf : listed[i] = false := by simpa [Array.getD, hlt] using h0
        simpa using hf
      rw [hf]
      have h1 : (if (false == false) = true then 1 else 0) = 1 := rfl
      have h3 : (if (true == false) = true then 1 else 0) = 0 := rfl
      rw [h1, h3]
      omega
    have hsz' : (listed.setIfInBounds i true).size = ops.size := by simp [hsz]
    have hset := setOf_add hlt
    have hcl' : Closed ops (setOf (listed.setIfInBounds i true)) := by rw [hset]; exact hcl.mono hi' hd
    obtain ⟨vi, hvi, hcase⟩ := compOpers_get (P := Γ.P) (mu := mu) (n := n) (all := ops.toList) (l := ops.toList) (i := i) (o := o) (by rw [Array.getElem?_toList]; exact ho)
    rw [← D.vs_eq] at hvi
    obtain ⟨e, hT⟩ : ∃ e, T[i]? = some e := ⟨T[i]'(by rw [D.tlen]; exact hi'), by simp⟩
    have hli : (vs.map idled)[i]? = some (idled vi) := by rw [List.getElem?_map, hvi]; rfl
    unfold wpOpIn
    simp only [ho]
    rcases hcase with ⟨g, v, rfl, hgd, hdst, hop⟩ | rfl
    · rw [wanted_rel hcf.regs hgd]
      cases hna : isAl (⟨o.dst, g, v⟩ : VOper) with
      | some x =>
        obtain ⟨t, z⟩ := x
        obtain ⟨hdt, hgn, hvz⟩ := isAl_dst hna
        simp only at hdt hgn hvz
        subst hgn; subst hvz
        have hw : wantedV (regR vs T r00 r0 (setOf listed)) none = true := rfl
        rw [hw]; simp only [if_true]
        obtain ⟨ty, hoty, hz⟩ : ∃ ty, o.op = .alloc ty ∧ zeroT Γ.P ty = some z := by
          cases hoo : o.op with
          | alloc ty =>
            rw [hoo] at hop
            obtain ⟨y, hy, hyy⟩ := map_some hop
            injection hyy with hyy; subst hyy
            exact ⟨ty, rfl, hy⟩
          | call c =>
            exfalso
            rw [hoo] at hop
            simp only [compOp] at hop
            split at hop
            · split at hop
              · split at hop
                · rw [Bool.cond_eq_ite] at hop; split at hop
                  · cases hop
                  · cases hop
                · cases hop
              · obtain ⟨_, _, h⟩ := map_some hop; cases h
              · unfold compBuiltin at hop
                repeat' split at hop
                all_goals first
                  | (cases hop; done)
                  | (rw [Bool.cond_eq_ite] at hop; split at hop <;> cases hop)
              · cases hop
            · cases hop
          | makeFunc fn p q =>
            exfalso
            rw [hoo] at hop
            cases fn with
            | func f =>
              simp only [compOp] at hop
              split at hop <;> cases hop
            | _ => simp [compOp] at hop
          | _ =>
            exfalso
            rw [hoo] at hop
            simp only [compOp, compUpd] at hop
            repeat' split at hop
            all_goals (try (rw [Bool.cond_eq_ite] at hop; split at hop))
            all_goals (try (rw [Bool.cond_eq_ite] at hop; split at hop))
            all_goals first
              | (cases hop; done)
              | (injection hop with hop; cases hop; done)
              | (obtain ⟨_, _, h⟩ := map_some hop; cases h; done)
        obtain ⟨hidle, hlt2, hhz⟩ := hal i _ t z hvi hna hn
        have hnef : isEf env.md (⟨o.dst, none, .alloc z⟩ : VOper) = false := by unfold isEf; rw [hna]
        refine alloc_step hcf hoty hz hidle hlt2 hhz ro hdt hdst _ Q fun a' ob hcf' => ih _ a' _ ⟨hsz', hcl', κ.at (idf i) w.heap.size, ?_, ?_, ?_⟩ hcnt'
        · rw [hset, D.heapNo hvi hnef, D.regAl hvi hT hna hn]; exact hcf'
        · rw [hset, D.heapNo hvi hnef]; exact hg.wake hidle (Nat.le_trans hlen0 (D.al i _ t z hvi hna).2.1) ob
        · intro j v' t' z' hj hjal hjn
          rw [hset] at hjn ⊢
          rw [D.heapNo hvi hnef]
          have hne : j ≠ i := fun e => by subst e; rw [St.add_same] at hjn; cases hjn
          rw [St.add_other hne] at hjn
          obtain ⟨k1, k2, k3⟩ := hal j v' t' z' hj hjal hjn
          have hidne : idf j ≠ idf i := fun e => hne (D.inj j i _ _ _ _ hj hvi hjal hna e)
          exact ⟨⟨by simp only [K.at]; rw [if_neg hidne]; exact k1.1, k1.2⟩, k2, k3⟩
      | none =>
        have hreg : ∀ t ∈ (⟨o.dst, g, v⟩ : VOper).names, regR vs T r00 r0 (setOf listed) t = e.rb t := fun t ht => D.reg hcl hvi hT hna hd hn ht
        have hwg : wantedV (regR vs T r00 r0 (setOf listed)) g = wantedV e.rb g := by
          cases g with
          | none => rfl
          | some q =>
            obtain ⟨t, wt⟩ := q
            simp only [wantedV]
            rw [hreg t (by simp [VOper.names])]
        rw [hwg]
        rw [idled_no hna] at hli
        have fin : ∀ (κ' : K) (w' : World) (v' : Value), VRel κ' e.v v' → SRel Γ base κ' (heapS env.md ((setOf listed).add i) (vs.map idled) T 0 H0) w' → Grow κ (heapS env.md (setOf listed) (vs.map idled) T 0 H0) w κ' (heapS env.md ((setOf listed).add i) (vs.map idled) T 0 H0) w' →
            wpAnyIn (wideR ro) 0 Γ.P .any ops Q fuel (listed.setIfInBounds i true) (a.put o.dst v') w' := by
          intro κ' w' v' hv hs hgr
          refine ih _ _ _ ⟨hsz', hcl', κ', ?_, ?_, ?_⟩ hcnt'
          · rw [hset, D.regAdd hcl hvi hT hna hd hn]; exact hcf.step hs hgr hdst hv
          · rw [hset]; exact hg.trans hgr
          · intro j v'' t' z' hj hjal hjn
            rw [hset] at hjn ⊢
            have hne : j ≠ i := fun e => by subst e; rw [St.add_same] at hjn; cases hjn
            rw [St.add_other hne] at hjn
            obtain ⟨k1, k2, k3⟩ := hal j v'' t' z' hj hjal hjn
            obtain ⟨q1, q2⟩ := hgr.idle (idf j) k2 k1
            exact ⟨q2, Nat.lt_of_lt_of_le k2 hgr.len, by rw [q1]; exact k3⟩
        rcases D.run.at hli hT with ⟨hdid, hw, hek⟩ | ⟨hdid, hw, hev, hha⟩
        · simp only at hw hek
          rw [hw]; simp only [if_true]
          exact oper_sound hE ro hcf.srel hcf.regs hop (D.same hcl hvi hT hna hd hn hdid hek) _ _ fun v' κ' w' hv hs hgr => fin κ' w' v' hv hs hgr
        · simp only at hw
          rw [hw]; simp only [Bool.false_eq_true, if_false]
          have hh : heapS env.md ((setOf listed).add i) (vs.map idled) T 0 H0 = heapS env.md (setOf listed) (vs.map idled) T 0 H0 := by
            cases hef : isEf env.md (⟨o.dst, g, v⟩ : VOper) with
            | false => exact D.heapNo hvi hef
            | true =>
              obtain ⟨k1, k2⟩ := D.heapEf hcl hvi hT hd hn hef
              rw [k1, k2, hha]
          refine ⟨fun _ _ => trivial, fin κ w undef (by rw [hev]; exact undefV_rel κ) ?_ ?_⟩
          · rw [hh]; exact hcf.srel
          · rw [hh]; exact Grow.refl _ _ _
    · exfalso
      have hna : isAl (⟨none, none, .bad⟩ : VOper) = none := rfl
      rw [idled_no hna] at hli
      rcases D.run.at hli hT with ⟨_, _, hek⟩ | ⟨_, hw, _, _⟩
      · cases hek
      · cases hw
end
end Go.VM

namespace Go.VM
open Go

def hoistR : List (Nat × List PV) → Regs → Nat → Regs
  | [], r, _ => r
  | (t, _) :: l, r, m => hoistR l (upd r t (.ptr m 0)) (m + 1)

theorem hoist_eq {R : Type} : ∀ {al : List (Nat × List PV)} {r : Regs} {h : Heap} {k : Regs → Heap → Option R}, hoist al r h k = k (hoistR al r h.length) (h ++ al.map fun p => .pcells p.2) := by
  intro al
  induction al with
  | nil => intro r h k; simp [hoist, hoistR]
  | cons p al ih =>
    intro r h k
    obtain ⟨t, z⟩ := p
    simp only [hoist, ih, hoistR, List.map_cons]
    congr 1
    · simp
    · simp

theorem hoistR_skip {t : Nat} : ∀ {l : List VOper} {r : Regs} {m : Nat}, (∀ (j : Nat) (v : VOper) (z : List PV), l[j]? = some v → isAl v ≠ some (t, z)) → hoistR (l.filterMap isAl) r m t = r t := by
  intro l
  induction l with
  | nil => intro r m _; rfl
  | cons v l ih =>
    intro r m h
    have hl : ∀ (j : Nat) (v : VOper) (z : List PV), l[j]? = some v → isAl v ≠ some (t, z) := fun j v' z hj => h (j + 1) v' z (by simpa using hj)
    cases hv : isAl v with
    | none => rw [List.filterMap_cons_none hv]; exact ih hl
    | some x =>
      obtain ⟨u, z⟩ := x
      rw [List.filterMap_cons_some hv]
      simp only [hoistR]
      rw [ih hl]
      have hne : u ≠ t := fun e => by subst e; exact h 0 v z rfl hv
      exact put_other (d := some u) (fun e => hne (by injection e))

def idAt (hl : Nat) (vs : List VOper) (j : Nat) : Nat := hl + ((vs.take j).filterMap isAl).length

theorem hoistR_get : ∀ {l : List VOper} {r : Regs} {m j : Nat} {v : VOper} {t : Nat} {z : List PV}, (∀ (i j : Nat) (vi vj : VOper) (t : Nat) (z : List PV), i ≠ j → l[i]? = some vi → l[j]? = some vj → isAl vj = some (t, z) → vi.dst ≠ some t) →
    l[j]? = some v → isAl v = some (t, z) → hoistR (l.filterMap isAl) r m t = .ptr (idAt m l j) 0 := by
  intro l
  induction l with
  | nil => intro r m j v t z _ h; simp at h
  | cons v0 l ih =>
    intro r m j v t z hdis hj hv
    have hdis' : ∀ (i j : Nat) (vi vj : VOper) (t : Nat) (z : List PV), i ≠ j → l[i]? = some vi → l[j]? = some vj → isAl vj = some (t, z) → vi.dst ≠ some t :=
      fun i j vi vj t z hne h1 h2 h3 => hdis (i + 1) (j + 1) vi vj t z (by omega) (by simpa using h1) (by simpa using h2) h3
    cases j with
    | zero =>
      simp at hj; subst hj
      rw [List.filterMap_cons_some hv]
      simp only [hoistR]
      rw [hoistR_skip fun j' v' z' hj' hv' => hdis 0 (j' + 1) v0 v' t z' (by omega) rfl (by simpa using hj') hv' (isAl_dst hv).1]
      simp [upd, idAt]
    | succ j =>
      simp at hj
      cases hv0 : isAl v0 with
      | none =>
        rw [List.filterMap_cons_none hv0, ih hdis' hj hv]
        simp [idAt, List.filterMap_cons_none hv0]
      | some x =>
        obtain ⟨u, z0⟩ := x
        rw [List.filterMap_cons_some hv0]
        simp only [hoistR]
        rw [ih hdis' hj hv]
        simp only [idAt, List.take_succ_cons, List.filterMap_cons_some hv0, List.length_cons]
        congr 1
        omega

theorem filterMap_at {l : List VOper} {j : Nat} {v : VOper} {x : Nat × List PV} (hj : l[j]? = some v) (hv : isAl v = some x) : (l.filterMap isAl)[((l.take j).filterMap isAl).length]? = some x := by
  have hl : l = l.take j ++ v :: l.drop (j + 1) := by
    have h1 := (List.getElem?_eq_some_iff.1 hj).1
    have h2 := (List.getElem?_eq_some_iff.1 hj).2
    rw [← h2, ← List.drop_eq_getElem_cons h1, List.take_append_drop]
  conv => lhs; lhs; rw [hl]
  rw [List.filterMap_append, List.filterMap_cons_some hv, List.getElem?_append_right (Nat.le_refl _)]
  simp

theorem idAt_inj {hl : Nat} {l : List VOper} {j j' : Nat} {v v' : VOper} {x x' : Nat × List PV} (hj : l[j]? = some v) (hj' : l[j']? = some v') (hv : isAl v = some x) (hv' : isAl v' = some x') (h : idAt hl l j = idAt hl l j') : j = j' := by
  have key : ∀ {j j' : Nat} {v : VOper} {x : Nat × List PV}, l[j]? = some v → isAl v = some x → j < j' → ((l.take j).filterMap isAl).length < ((l.take j').filterMap isAl).length := by
    intro j j' v x hj hv hlt
    have e : l.take j' = l.take j ++ (l.drop j).take (j' - j) := by
      conv => lhs; rw [show j' = j + (j' - j) by omega, List.take_add]
    have h1 := (List.getElem?_eq_some_iff.1 hj).1
    have h2 := (List.getElem?_eq_some_iff.1 hj).2
    rw [e, List.filterMap_append, List.length_append]
    obtain ⟨d, hd⟩ : ∃ d, j' - j = d + 1 := ⟨j' - j - 1, by omega⟩
    rw [hd, List.drop_eq_getElem_cons h1, h2, List.take_succ_cons, List.filterMap_cons_some hv]
    simp
  unfold idAt at h
  rcases Nat.lt_trichotomy j j' with hlt | hlt | hlt
  · have := key hj hv hlt; omega
  · exact hlt
  · have := key hj' hv' hlt; omega

theorem hget_eq (H : Heap) (i : Nat) : hget H i = (H[i]?).getD .dead := by
  induction H generalizing i with
  | nil => cases i <;> rfl
  | cons o H ih => cases i with
    | zero => rfl
    | succ i => simpa [hget] using ih i

theorem SRel.more {Γ : Ctx} {base : Nat} {κ : K} {H : Heap} {w : World} (h : SRel Γ base κ H w) (L : Heap) : SRel Γ base κ (H ++ L) w := by
  have hp : ∀ id k, place κ id (hget (H ++ L) id) = some k → hget (H ++ L) id = hget H id := by
    intro id k hk
    rcases Nat.lt_or_ge id H.length with hlt | hge
    · exact hget_append_lt hlt
    · exfalso
      obtain ⟨h1, h2⟩ := h.fresh id hge
      cases ho : hget (H ++ L) id <;> rw [ho] at hk <;> simp [place, h1, h2] at hk
  refine ⟨h.imm, fun id k hk => ?_, fun id id' k hk hk' => ?_, fun id hid => h.fresh id (by simp at hid; omega), h.base⟩
  · have e := hp id k hk
    rw [e] at hk ⊢
    exact h.obj id k hk
  · rw [hp id k hk] at hk; rw [hp id' k hk'] at hk'
    exact h.inj id id' k hk hk'
theorem Grow.more {κ0 κ : K} {H0 H : Heap} {w0 w : World} (g : Grow κ0 H0 w0 κ H w) (L : Heap) (hf : ∀ id, H.length ≤ id → Idle κ id) : Grow κ0 H0 w0 κ (H ++ L) w := by
  refine ⟨g.le, g.size, by have := g.len; simp; omega, g.os, g.tape, g.output, g.frame, fun id k hk => ?_, g.imm, fun id hid hi => ?_⟩
  · rcases Nat.lt_or_ge id H.length with hlt | hge
    · rw [hget_append_lt hlt] at hk; exact g.places id k hk
    · exfalso
      obtain ⟨h1, h2⟩ := hf id hge
      cases ho : hget (H ++ L) id <;> rw [ho] at hk <;> simp [place, h1, h2] at hk
  · rw [hget_append_lt (Nat.lt_of_lt_of_le hid g.len)]; exact g.idle id hid hi
theorem Marks.more {sz : Nat} {κ : K} {H : Heap} {w : World} {ds : List Deferred} (h : Marks sz κ H w ds) (L : Heap) (hf : ∀ id, H.length ≤ id → Idle κ id) : Marks sz κ (H ++ L) w ds := by
  induction h with
  | nil => exact .nil
  | cons D ds h1 h2 h3 h4 _ ih =>
    refine .cons D ds h1 h2 (fun id hk => ?_) h4 ih
    rcases Nat.lt_or_ge id H.length with hlt | hge
    · rw [hget_append_lt hlt] at hk; exact h3 id hk
    · obtain ⟨h1, h2⟩ := hf id hge
      cases ho : hget (H ++ L) id <;> rw [ho] at hk <;> simp [place, h1, h2] at hk

section
variable {Γ : Ctx} {env : Env} {E : Orc} {n : Nat} {mu : Nat → Mu} {ops : Array Oper} {R : Type}

theorem dis_of {md : FuncId → Mode} {vs : List VOper} {deps preds : List (List Nat)} {pairs : List (Nat × Nat)} (h : drawOK md vs deps preds pairs = true) :
    ∀ (i j : Nat) (vi vj : VOper) (t : Nat) (z : List PV), i ≠ j → vs[i]? = some vi → vs[j]? = some vj → isAl vj = some (t, z) → vi.dst ≠ some t := by
  intro i j vi vj t z hne hi hj ha hd
  have h1 := allFrom_get h hi
  rw [Nat.zero_add, Bool.and_eq_true] at h1
  have h2 := allFrom_get h1.2 hj
  rw [Nat.zero_add, Bool.or_eq_true] at h2
  rcases h2 with h2 | h2
  · exact hne (Nat.eq_of_beq_eq_true h2)
  · simp only [both, Bool.and_eq_true, ha] at h2
    obtain ⟨⟨⟨_, _, h3⟩, _⟩, _⟩ := h2
    rw [hd] at h3
    simp at h3

theorem draw_sound (hE : OrcOK Γ E) (hm : Γ.P.follows .mixedOrders = true) (ro : Option Nat) {base sz : Nat} {κ0 κ : K} {Hs H : Heap} {w0 w : World} {r r2 : Regs} {h2 : Heap} {a : Act} {id : Nat} {preds : List (List Nat)} {pairs : List (Nat × Nat)} {T : List Ev} {Q : Exit → Act → World → Prop}
    (hok : drawOK env.md (compOpers Γ.P mu n ops.toList ops.toList) (ops.toList.map depsOf) preds pairs = true)
    (hrun : Run env E ((compOpers Γ.P mu n ops.toList ops.toList).map idled) (hoistR ((compOpers Γ.P mu n ops.toList ops.toList).filterMap isAl) r H.length) (H ++ ((compOpers Γ.P mu n ops.toList ops.toList).filterMap isAl).map fun p => .pcells p.2) T r2 h2)
    (hpair : ∀ (i j : Nat) (oi : VOper) (ei ej : Ev), (i, j) ∈ pairs → ((compOpers Γ.P mu n ops.toList ops.toList).map idled)[i]? = some oi → T[i]? = some ei → ei.did = true → T[j]? = some ej → ej.did = true → ∀ p m, loadOf oi.op ei.rb = some (p, m) →
      (∃ id off, p = .ptr id off ∧ readObj (hget ej.hb id) off m = readObj (hget ej.ha id) off m) ∨ (∃ cs off, p = .rptr cs off))
    (hcf : Conf Γ base sz n κ H w r a) (hg : Grow κ0 Hs w0 κ H w)
    (hfin : ∀ κ a w, Conf Γ base sz n κ h2 w r2 a → Grow κ0 Hs w0 κ h2 w → Q .normal a w) : (Code.region id ops true).wpIn (wideR ro) 0 Γ.P Q a w := by
  obtain ⟨vs, hvs⟩ : ∃ vs, vs = compOpers Γ.P mu n ops.toList ops.toList := ⟨_, rfl⟩
  rw [← hvs] at hok hrun hpair
  have hdis := dis_of hok
  have hal : ∀ (j : Nat) (v : VOper) (t : Nat) (z : List PV), vs[j]? = some v → isAl v = some (t, z) → ((vs.filterMap isAl).map fun p => HObj.pcells p.2)[((vs.take j).filterMap isAl).length]? = some (.pcells z) := by
    intro j v t z hj hv
    rw [List.getElem?_map, filterMap_at hj hv]
    rfl
  have D : Drawn Γ env E n H.length mu ops vs preds pairs r (hoistR (vs.filterMap isAl) r H.length) (H ++ (vs.filterMap isAl).map fun p => .pcells p.2) T r2 h2 (idAt H.length vs) :=
    { vs_eq := hvs, ok := hok, run := hrun, pair := hpair
      al := fun j v t z hj hv => ⟨hoistR_get hdis hj hv, by unfold idAt; omega, by
        have := (List.getElem?_eq_some_iff.1 (hal j v t z hj hv)).1
        rw [List.length_append]; unfold idAt; omega⟩
      inj := fun j j' v v' x x' hj hj' hv hv' h => idAt_inj hj hj' hv hv' h
      rest := fun t ht => hoistR_skip fun j v z hj hv => alOf_none ht j v z hj hv }
  have hidle : ∀ id, H.length ≤ id → Idle κ id := fun id hid => hcf.srel.fresh id hid
  refine wpIn_region_any hm (draw_any D hE ro hg.len hfin ops.size _ a _ ?_ (by simp))
  have hset : setOf (Array.replicate ops.size false) = fun _ => false := by
    funext j
    simp only [setOf, Array.getD_eq_getD_getElem?, Array.getElem?_replicate]
    split <;> rfl
  have hheap : heapS env.md (fun _ => false) (vs.map idled) T 0 (H ++ (vs.filterMap isAl).map fun p => .pcells p.2) = H ++ (vs.filterMap isAl).map fun p => .pcells p.2 := heapS_skip fun _ _ _ _ => rfl
  have hreg : regR vs T r (hoistR (vs.filterMap isAl) r H.length) (fun _ => false) = r := by
    funext t
    unfold regR
    cases ht : alOf vs 0 t with
    | some j => rfl
    | none =>
      simp only
      rw [regS_skip fun _ _ _ h => by cases h]
      exact D.rest t ht
  refine ⟨by simp, ⟨fun j hj => (by rw [hset] at hj; cases hj), fun j hj => (by rw [hset] at hj; cases hj)⟩, κ, ?_, ?_, ?_⟩
  · rw [hset, hheap, hreg]
    exact ⟨(hcf.srel.drew).1.more _, hcf.regs, hcf.size, ((hcf.marks.grow (hcf.srel.drew).2).more _ hidle)⟩
  · rw [hset, hheap]
    exact (hg.trans (hcf.srel.drew).2).more _ hidle
  · intro j v t z hj hv _
    rw [hset, hheap]
    have hj2 := hal j v t z hj hv
    refine ⟨hidle _ (by unfold idAt; omega), (D.al j v t z hj hv).2.2, ?_⟩
    rw [hget_eq, List.getElem?_append_right (by unfold idAt; omega)]
    have e : idAt H.length vs j - H.length = ((vs.take j).filterMap isAl).length := by unfold idAt; omega
    rw [e, hj2]
    rfl

theorem filterMap_nil {vs : List VOper} (h : vs.filterMap isAl = []) : vs.map idled = vs := by
  induction vs with
  | nil => rfl
  | cons v vs ih =>
    cases hv : isAl v with
    | some x => rw [List.filterMap_cons_some hv] at h; cases h
    | none =>
      rw [List.filterMap_cons_none hv] at h
      rw [List.map_cons, ih h, idled_no hv]

/-- A region that draws its order, as it was compiled. -/
theorem compDraw_sound (hE : OrcOK Γ E) (hm : Γ.P.follows .mixedOrders = true) (ro : Option Nat) {base sz : Nat} {κ0 κ : K} {Hs H : Heap} {w0 w : World} {r : Regs} {a : Act} {id : Nat} {k : Ex → Regs → Heap → Option R} {y : R} {Q : Exit → Act → World → Prop}
    (he : evK env E (compDraw env.md (compOpers Γ.P mu n ops.toList ops.toList) (ops.toList.map depsOf)) R r H k = some y) (hcf : Conf Γ base sz n κ H w r a) (hg : Grow κ0 Hs w0 κ H w)
    (hQ : ∀ r' H' κ' a' w', k .normal r' H' = some y → Conf Γ base sz n κ' H' w' r' a' → Grow κ0 Hs w0 κ' H' w' → Q .normal a' w') : (Code.region id ops true).wpIn (wideR ro) 0 Γ.P Q a w := by
  unfold compDraw at he
  simp only at he
  cases hok : drawOK env.md (compOpers Γ.P mu n ops.toList ops.toList) (ops.toList.map depsOf) (predsOf (ops.toList.map depsOf) []) (mkPairs env.md (compOpers Γ.P mu n ops.toList ops.toList) (predsOf (ops.toList.map depsOf) [])) with
  | false =>
    rw [hok] at he
    simp only [cond_false, evK_skip, evK_ops, evK_draw, evK_seq, evK_cond, evK_block, evK_loop, evK_rangeFunc, evK_exit, evK_ret, evOps_nil, evOps_cons, wantedV, cond_true, operK, opK] at he
    cases he
  | true =>
    rw [hok] at he
    simp only [cond_true] at he
    split at he
    · rename_i hal hps
      simp only [evK_skip, evK_ops, evK_draw, evK_seq, evK_cond, evK_block, evK_loop, evK_rangeFunc, evK_exit, evK_ret] at he
      obtain ⟨T, r', h', g1, g2⟩ := evOps_run he
      refine draw_sound hE hm ro (T := T) (r2 := r') (h2 := h') hok ?_ ?_ hcf hg fun κ' a' w' c1 c2 => hQ r' h' κ' a' w' g2 c1 c2
      · rw [hal, filterMap_nil hal]
        simpa [hoistR] using g1
      · intro i j oi ei ej hp
        rw [hps] at hp; cases hp
    · simp only [evK_skip, evK_ops, evK_draw, evK_seq, evK_cond, evK_block, evK_loop, evK_rangeFunc, evK_exit, evK_ret] at he
      rw [hoist_eq] at he
      obtain ⟨T, r', h', g1, g2⟩ := evDraw_run he
      obtain ⟨g2, g3⟩ := checkPairs_inv g2
      refine draw_sound hE hm ro (T := T) (r2 := r') (h2 := h') hok g1 ?_ hcf hg fun κ' a' w' c1 c2 => hQ r' h' κ' a' w' g2 c1 c2
      intro i j oi ei ej hp hoi hei hdi hej hdj p m hl
      have f1 := loadsOf_find (i := 0) (acc := []) hoi hei hdi hl
      have f2 := effsOf_find (pairs := mkPairs env.md (compOpers Γ.P mu n ops.toList ops.toList) (predsOf (ops.toList.map depsOf) [])) (i := 0) (acc := []) hej hdj (by rw [Nat.zero_add]; exact hasSnd_mem hp)
      rw [Nat.zero_add] at f1 f2
      exact g3 i j p m ej.hb ej.ha hp f1 f2
end
end Go.VM

namespace Go.VM
open Go

def exOf : Ex → Exit
  | .normal => .normal
  | .exit id => .exit id
  | .ret => .ret

theorem least {p : Nat → Prop} (h : ∃ n, p n) : ∃ n, p n ∧ ∀ m, p m → n ≤ m := by
  obtain ⟨n, hn⟩ := h
  induction n using Nat.strongRecOn with
  | _ n ih =>
    by_cases hl : ∃ m, m < n ∧ p m
    · obtain ⟨m, h1, h2⟩ := hl; exact ih m h1 h2
    · exact ⟨n, hn, fun m hm => by
        rcases Nat.lt_or_ge m n with h | h
        · exact absurd ⟨m, h, hm⟩ hl
        · exact h⟩

theorem wpIn_loopN {F : Fence} {n : Nat} {P : Program} {Q : Exit → Act → World → Prop} {a : Act} {w : World} {c : Code} (J : Nat → Act → World → Prop) (h0 : ∃ m, J m a w) (hz : ∀ a w, ¬ J 0 a w)
    (round : ∀ m a w, J (m + 1) a w → c.wpIn F n P (Exit.then (J m) Q) a w) : (Code.loop c).wpIn F n P Q a w := by
  classical
  refine wpIn_loop (fun a w => ∃ m, J m a w) (fun a w => if h : ∃ m, J m a w then (least h).choose else 0) h0 fun a w hI => ?_
  have hs := (least hI).choose_spec
  simp only [dif_pos hI]
  generalize (least hI).choose = m at hs ⊢
  cases m with
  | zero => exact absurd hs.1 (hz a w)
  | succ m =>
    refine wpIn_mono (round m a w hs.1) fun e a' w' hq => ?_
    cases e with
    | normal =>
      have hI' : ∃ m, J m a' w' := ⟨m, hq⟩
      refine ⟨hI', ?_⟩
      simp only [dif_pos hI']
      exact Nat.lt_succ_of_le ((least hI').choose_spec.2 m hq)
    | _ => exact hq

section
variable {Γ : Ctx} {base : Nat} {κ : K} {H : Heap} {w : World}

/-- A loop's record turns. -/
theorem SRel.loopTurn (h : SRel Γ base κ H w) {id l : Nat} {lo : VLoop} {L L' : Loop} {o : HObj} (hl : κ.loc id = some l) (hg : hget H id = .loop lo) (hL : w.heap[l]? = some (.loop L)) (ho : o = .dead ∨ ∃ lo', o = .loop lo' ∧ LoopRel Γ κ lo' L') :
    SRel Γ base κ (hset H id o) (w.putObj l (.loop L')) ∧ Grow κ H w κ (hset H id o) (w.putObj l (.loop L')) := by
  have hlt : l < w.heap.size := (Array.getElem?_eq_some_iff.1 hL).1
  refine h.turnOne id o l l ⟨rfl, rfl, rfl, by simp⟩ κ.le_refl (by rw [hg]; exact hl) rfl (fun _ _ => rfl) (fun k _ hne => World.putObj_heap_other hne) (fun a v hv => ?_) (fun k hk => ?_) (.inl rfl) ?_
  · have hne : a.block ≠ l := fun e => by
      have hc := h.imm a v hv
      unfold World.cell? at hc
      rw [e, hL] at hc
      simp at hc
    exact ⟨(World.cell?_of_block (World.putObj_heap_other hne)).trans (h.imm a v hv), .inl hv⟩
  · rcases ho with rfl | ⟨lo', rfl, _⟩
    · cases hk
    · simp only [place] at hk; rw [hl] at hk; exact (Option.some.inj hk).symm
  · rcases ho with rfl | ⟨lo', rfl, hr⟩
    · trivial
    · exact ⟨L', World.putObj_heap_same hlt, hr⟩
end

theorem some_bind {α β : Type} {x : Option α} {F : α → Option β} {y : β} (h : x.bind F = some y) : ∃ p, x = some p ∧ F p = some y := by
  cases x with
  | none => cases h
  | some p => exact ⟨p, rfl, h⟩
theorem all_blt {l : List Nat} {n : Nat} (h : l.all (fun t => Nat.blt t n) = true) : ∀ t ∈ l, t < n := fun t ht => blt_lt (List.all_eq_true.1 h t ht)

section
variable {P : Program} {b : Frame} {a : Act} {k : List Item} {cs : List Frame} {w : World} {F : Fence} {n : Nat} {Q : Exit → Act → World → Prop}
theorem stepR_scope {c : Code} : step P (lone (b.atR a (.code (.scope c) :: k)) cs w) = .next (lone (b.atR a (.code c :: .inScope c :: k)) cs w) :=
  step_lone_go (by simp [stepG, stepG.exec, Frame.atR])
theorem stepR_inScope {c : Code} : step P (lone (b.atR a (.inScope c :: k)) cs w) = .next (lone (b.atR a k) cs w) :=
  step_lone_go (by simp [stepG, stepG.exec, Frame.atR])
theorem wpIn_scope {c : Code} (h : c.wpIn F n P (Exit.noGoto Q) a w) : (Code.scope c).wpIn F n P Q a w := by
  intro b k cs hro hb hr
  have h0 : (lone (b.atR a (.code (.scope c) :: k)) cs w).fenced P F := fenced_calm hb hr rfl
  obtain ⟨e, a₁, w₁, hq, harr⟩ := h b (.inScope c :: k) cs hro hb hr
  cases e with
  | normal => exact ⟨.normal, a₁, w₁, hq, .head h0 stepR_scope (StepsIn.trans harr (.one (fenced_calm hb hr rfl) stepR_inScope))⟩
  | exit id =>
    have hx : exitTo id (.inScope c :: k) = exitTo id k := by simp [exitTo]
    exact ⟨.exit id, a₁, w₁, hq, fun k' hk => .head h0 stepR_scope (harr.1 k' (by rw [hx]; exact hk)),
      fun hr' hk => let ⟨k₁, h1, h2⟩ := harr.2 hr' (by rw [hx]; exact hk); ⟨k₁, h1, .head h0 stepR_scope h2⟩⟩
  | goto l => exact hq.elim
  | ret => exact ⟨_, a₁, w₁, hq, .of_steps (.one h0 stepR_scope) harr⟩
  | panic ch => exact ⟨_, a₁, w₁, hq, .of_steps (.one h0 stepR_scope) harr⟩
  | outgrown => exact ⟨_, a₁, w₁, hq, .of_steps (.one h0 stepR_scope) harr⟩
end

section
variable {Γ : Ctx} {env : Env} {E : Orc} {mu : Nat → Mu} {n : Nat}

theorem evOps_bad {R : Type} {r : Regs} {H : Heap} {k : Ex → Regs → Heap → Option R} {y : R} (he : evK env E (.ops [⟨none, none, .bad⟩]) R r H k = some y) : False := by
  simp only [evK_skip, evK_ops, evK_draw, evK_seq, evK_cond, evK_block, evK_loop, evK_rangeFunc, evK_exit, evK_ret, evOps_nil, evOps_cons, wantedV, cond_true, operK, opK] at he
  cases he

theorem code_sound (hE : OrcOK Γ E) (hm : Γ.P.follows .mixedOrders = true) (hmd : env.md = Γ.md) {base sz : Nat} : ∀ (c : Code) (top : Bool) (ro : Option Nat), (top = true → ro = none) → ∀ {R : Type} {κ0 κ : K} {Hs H : Heap} {w0 w : World} {r : Regs} {a : Act} {k : Ex → Regs → Heap → Option R} {y : R} {Q : Exit → Act → World → Prop},
    evK env E (compCode Γ.P Γ.md mu top n c) R r H k = some y → Conf Γ base sz n κ H w r a → Grow κ0 Hs w0 κ H w → sz ≤ w0.heap.size →
    (∀ e r' H' κ' a' w', k e r' H' = some y → Conf Γ base sz n κ' H' w' r' a' → Grow κ0 Hs w0 κ' H' w' → Q (exOf e) a' w') → c.wpIn (wideR ro) 0 Γ.P Q a w := by
  intro c
  induction c with
  | skip =>
    intro top ro htop R κ0 κ Hs H w0 w r a k y Q he hcf hg hsz hQ
    exact wpIn_skip (hQ .normal r H κ a w he hcf hg)
  | region id ops draw =>
    intro top ro htop R κ0 κ Hs H w0 w r a k y Q he hcf hg hsz hQ
    cases draw with
    | false =>
      simp only [compCode, cond_false, evK_skip, evK_ops, evK_draw, evK_seq, evK_cond, evK_block, evK_loop, evK_rangeFunc, evK_exit, evK_ret] at he
      refine wpIn_region ?_
      rw [List.range_eq_range']
      have := ops_sound hE ro (Q := Q) (ops := ops) (mu := mu) (l := ops.toList) 0 rfl r H a w κ hcf hg he fun r' H' κ' a' w' h1 h2 h3 => hQ .normal r' H' κ' a' w' h1 h2 h3
      simpa using this
    | true =>
      simp only [compCode, cond_true] at he
      rw [← hmd] at he
      exact compDraw_sound hE hm ro he hcf hg fun r' H' κ' a' w' h1 h2 h3 => hQ .normal r' H' κ' a' w' h1 h2 h3
  | seq x y ihx ihy =>
    intro top ro htop R κ0 κ Hs H w0 w r a k y' Q he hcf hg hsz hQ
    simp only [compCode, evK_skip, evK_ops, evK_draw, evK_seq, evK_cond, evK_block, evK_loop, evK_rangeFunc, evK_exit, evK_ret] at he
    refine wpIn_seq (ihx top ro htop he hcf hg hsz fun e r' H' κ' a' w' h1 h2 h3 => ?_)
    cases e with
    | normal => exact ihy top ro htop h1 h2 h3 hsz hQ
    | exit id => exact hQ (.exit id) r' H' κ' a' w' h1 h2 h3
    | ret => exact hQ .ret r' H' κ' a' w' h1 h2 h3
  | cond c x y ihx ihy =>
    intro top ro htop R κ0 κ Hs H w0 w r a k y' Q he hcf hg hsz hQ
    simp only [compCode] at he
    split at he
    · rename_i c' hc
      simp only [evK_skip, evK_ops, evK_draw, evK_seq, evK_cond, evK_block, evK_loop, evK_rangeFunc, evK_exit, evK_ret] at he
      have hv := opd_rel hcf.regs hc
      split at he
      · rename_i b hb
        rw [hb] at hv
        refine wpIn_cond (bool_rel hv) ?_
        cases b with
        | true => exact ihx top ro htop he hcf hg hsz hQ
        | false => exact ihy top ro htop he hcf hg hsz hQ
      · cases he
    · exact (evOps_bad he).elim
  | block id c ih =>
    intro top ro htop R κ0 κ Hs H w0 w r a k y Q he hcf hg hsz hQ
    simp only [compCode, evK_skip, evK_ops, evK_draw, evK_seq, evK_cond, evK_block, evK_loop, evK_rangeFunc, evK_exit, evK_ret] at he
    refine wpIn_block (ih top ro htop he hcf hg hsz fun e r' H' κ' a' w' h1 h2 h3 => ?_)
    cases e with
    | normal => exact hQ .normal r' H' κ' a' w' h1 h2 h3
    | ret => exact hQ .ret r' H' κ' a' w' h1 h2 h3
    | exit j =>
      simp only [exOf, Exit.inBlock]
      simp only at h1
      cases hb : Nat.beq j id with
      | true =>
        rw [hb] at h1
        rw [if_pos (Nat.eq_of_beq_eq_true hb)]
        exact hQ .normal r' H' κ' a' w' h1 h2 h3
      | false =>
        rw [hb] at h1
        rw [if_neg (fun e => by subst e; simp at hb)]
        exact hQ (.exit j) r' H' κ' a' w' h1 h2 h3
  | loop c ih =>
    intro top ro htop R κ0 κ Hs H w0 w r a k y Q he hcf hg hsz hQ
    simp only [compCode, evK_skip, evK_ops, evK_draw, evK_seq, evK_cond, evK_block, evK_loop, evK_rangeFunc, evK_exit, evK_ret, loopK_def] at he
    cases hi : iterE (fun r h => evK env E (compCode Γ.P Γ.md mu top n c) Res r h fun e r h => some (e, r, h)) r H with
    | none => rw [hi] at he; cases he
    | some x =>
      rw [hi] at he; simp only [Option.bind_some] at he
      obtain ⟨e, r', H'⟩ := x
      obtain ⟨m, hm⟩ := lim_some hi
      refine wpIn_loopN (fun m a w => ∃ κ r H, iterN m (fun r h => evK env E (compCode Γ.P Γ.md mu top n c) Res r h fun e r h => some (e, r, h)) r H = some (e, r', H') ∧ Conf Γ base sz n κ H w r a ∧ Grow κ0 Hs w0 κ H w)
        ⟨m, κ, r, H, hm, hcf, hg⟩ (fun a w ⟨_, _, _, h, _⟩ => by cases h) fun m a1 w1 ⟨κ1, r1, H1, h1, h2, h3⟩ => ?_
      simp only [iterN] at h1
      obtain ⟨x, h4, h5⟩ := some_bind h1
      refine ih top ro htop h4 h2 h3 hsz fun e2 r2 H2 κ2 a2 w2 h6 h7 h8 => ?_
      injection h6 with h6
      subst h6
      cases e2 with
      | normal => exact ⟨κ2, r2, H2, h5, h7, h8⟩
      | exit id =>
        injection h5 with h5; injection h5 with e1 h5; injection h5 with e2 e3
        subst e1; subst e2; subst e3
        exact hQ (.exit id) _ _ κ2 a2 w2 he h7 h8
      | ret =>
        injection h5 with h5; injection h5 with e1 h5; injection h5 with e2 e3
        subst e1; subst e2; subst e3
        exact hQ .ret _ _ κ2 a2 w2 he h7 h8
  | rangeFunc f ps asg bo =>
    intro top ro htop R κ0 κ Hs H w0 w r a k y Q he hcf hg hsz hQ
    simp only [compCode] at he
    split at he
    · rename_i f' hf
      cases hb : (top && ps.toList.all fun t => Nat.blt t n) with
      | false => rw [hb] at he; exact (evOps_bad he).elim
      | true =>
        rw [hb] at he
        simp only [cond_true, evK_skip, evK_ops, evK_draw, evK_seq, evK_cond, evK_block, evK_loop, evK_rangeFunc, evK_exit, evK_ret] at he
        rw [Bool.and_eq_true] at hb
        have hro := htop hb.1
        subst hro
        have hfv := opd_rel hcf.regs hf
        have fin : ∀ (g : FuncId) (as bs : List AV) (va vb : List Value), a.eval f = .func (.func g) va.toArray vb.toArray → VRels κ as va → VRels κ bs vb →
            callSK E (.fn g) (as ++ .yield H.length :: bs) (H ++ [.loop ⟨.ready, r, ps.toList, compCode Γ.P Γ.md mu false n asg, compCode Γ.P Γ.md mu false n bo⟩]) (fun _ h2 =>
              hgetK h2 H.length fun o => match o with
              | .loop lo => match lo.state with
                | .ready => k .normal r (hset h2 H.length .dead)
                | .done e => k e r (hset h2 H.length .dead)
                | .busy => none
              | _ => none) = some y → (Code.rangeFunc f ps asg bo).wpIn (wideR none) 0 Γ.P Q a w := by
          intro g as bs va vb hfe ha hb2 hcall
          obtain ⟨v, H2, hE1, hE2⟩ := callSK_inv hcall
          refine wpIn_rangeFunc fun fn _ => ?_
          obtain ⟨L, hL⟩ : ∃ L : Loop, L = { state := .ready, pending := none, fn := fn, tmps := a.tmps, params := ps, assign := asg, body := bo, defers := w.heap.size } := ⟨_, rfl⟩
          obtain ⟨s1, g1⟩ := hcf.srel.allocOther (.deferred (some []))
          have hfr := hcf.srel.fresh H.length (Nat.le_refl _)
          have hle := κ.le_at (k := w.heap.size + 1) hfr.1
          have hsz1 : (w.alloc (.deferred (some []))).heap.size = w.heap.size + 1 := by simp
          have hlr : LoopRel Γ (κ.at H.length (w.heap.size + 1)) ⟨.ready, r, ps.toList, compCode Γ.P Γ.md mu false n asg, compCode Γ.P Γ.md mu false n bo⟩ L := by
            subst hL
            exact ⟨⟨rfl, rfl⟩, hcf.regs.mono hle, rfl, fun t ht => Nat.lt_of_lt_of_le (all_blt hb.2 t ht) hcf.size, mu, n, hcf.size, rfl, rfl⟩
          obtain ⟨s2, g2⟩ := s1.turnNew (κ' := κ.at H.length (w.heap.size + 1)) (.loop ⟨.ready, r, ps.toList, compCode Γ.P Γ.md mu false n asg, compCode Γ.P Γ.md mu false n bo⟩) (w.heap.size + 1) (Same.alloc _ (.loop L)) hle (fun i hi => by simp [K.at, hi]) (fun _ _ => rfl)
            (fun k hk => heap_alloc_old _ _ k hk) (fun _ _ h => .inl h) (by simp [place, K.at]) (by rw [hsz1]; exact Nat.le_refl _) ⟨L, by
              have := heap_alloc_new (w.alloc (.deferred (some []))) (.loop L)
              rwa [hsz1] at this, hlr⟩
          have g12 := g1.trans g2
          have hargs : VRels (κ.at H.length (w.heap.size + 1)) (as ++ .yield H.length :: bs) (va ++ Value.func (.yield (w.heap.size + 1)) #[] #[] :: vb) :=
            (ha.mono hle).append (.cons _ _ _ _ (.yield _ _ (K.at_same _ _ _)) (hb2.mono hle))
          have hfn := hE.ok _ _ _ _ _ hE1
          have hD : ((w.alloc (.deferred (some []))).alloc (.loop L)).heap[w.heap.size]? = some (.deferred (some [])) := by
            rw [heap_alloc_old _ _ _ (by rw [hsz1]; omega)]; exact heap_alloc_new w _
          have hmk : Marks sz (κ.at H.length (w.heap.size + 1)) (H ++ [.loop ⟨.ready, r, ps.toList, compCode Γ.P Γ.md mu false n asg, compCode Γ.P Γ.md mu false n bo⟩]) ((w.alloc (.deferred (some []))).alloc (.loop L)) ({ target := .collected w.heap.size, args := #[] } :: a.defers) := by
            refine .cons w.heap.size a.defers (Nat.le_trans hsz hg.size) hD (fun id hp => ?_) (fun d hd e => ?_) (hcf.marks.grow g12)
            · have hlt := place_lt hcf.srel (id := id) (k := w.heap.size)
              by_cases hid : id = H.length
              · rw [hid, hget_append_same] at hp
                simp [place, K.at] at hp
              · have e : place (κ.at H.length (w.heap.size + 1)) id (hget (H ++ [.loop ⟨.ready, r, ps.toList, compCode Γ.P Γ.md mu false n asg, compCode Γ.P Γ.md mu false n bo⟩]) id) = place κ id (hget (H ++ [.loop ⟨.ready, r, ps.toList, compCode Γ.P Γ.md mu false n asg, compCode Γ.P Γ.md mu false n bo⟩]) id) := by
                  cases hget (H ++ [.loop ⟨.ready, r, ps.toList, compCode Γ.P Γ.md mu false n asg, compCode Γ.P Γ.md mu false n bo⟩]) id <;> simp [place, K.at, hid]
                rw [e] at hp
                rcases Nat.lt_or_ge id H.length with h | h
                · rw [hget_append_lt h] at hp
                  have := hlt hp; omega
                · rw [hget_ge (by simp; omega)] at hp; cases hp
            · have : ∀ {ds : List Deferred}, Marks sz κ H w ds → ∀ d ∈ ds, d.target ≠ .collected w.heap.size := by
                intro ds hds
                induction hds with
                | nil => intro d hd; cases hd
                | cons D ds _ h2 _ _ _ ih =>
                  intro d hd e
                  rcases List.mem_cons.1 hd with h | h
                  · subst h
                    injection e with e
                    have := (Array.getElem?_eq_some_iff.1 h2).1
                    omega
                  · exact ih d h e
              exact this hcf.marks d hd e
          refine ⟨w.heap.size + 1, [{ target := .collected w.heap.size, args := #[] }], (w.alloc (.deferred (some []))).alloc (.loop L), { target := .fn (.func g) vb.toArray, args := va.toArray ++ #[Value.func (.yield (w.heap.size + 1)) #[] #[]] },
            (w.alloc (.deferred (some []))).alloc (.loop L), g, (va ++ Value.func (.yield (w.heap.size + 1)) #[] #[] :: vb).toArray, (w.alloc (.deferred (some []))).alloc (.loop L), ?_, ?_, fun _ _ => trivial, ?_, fun hd => (by cases hd), ?_⟩
          · rw [hL]; exact run_enterLoop_outer fn a.tmps ps asg bo
          · rw [resolve_func (x := f) hfe]; simp [Act.eval]
          · rw [invoke_func _ _ hfn]
            congr 2
            apply Array.ext'; simp
          · refine (hE.fn _ _ _ _ _ hE1 base _ _ _ s2 hargs).mono fun e w3 hout => ?_
            cases e with
            | panicked _ => exact hout.elim
            | outgrown => exact hout.elim
            | returned u =>
              obtain ⟨κ3, _, s3, g3⟩ := hout
              have hl3 : κ3.loc H.length = some (w.heap.size + 1) := g3.le.loc _ _ (K.at_same _ _ _)
              rw [hgetK_def] at hE2
              cases ho : hget H2 H.length with
              | loop lo =>
                rw [ho] at hE2; simp only at hE2
                obtain ⟨_, hob⟩ := s3.obj H.length (w.heap.size + 1) (by rw [ho]; exact hl3)
                rw [ho] at hob
                obtain ⟨L3, hL3, hr3⟩ := hob
                obtain ⟨s4, g4⟩ := s3.loopTurn (L' := { L3 with state := .exhausted }) (o := .dead) hl3 ho hL3 (.inl rfl)
                have hendL := fun hb => run_endLoop (P := Γ.P) hL3 hb
                generalize w3.putObj (w.heap.size + 1) (.loop { L3 with state := .exhausted }) = w4 at s4 g4 hendL
                have gall := (g12.trans g3).trans g4
                have hcf' : Conf Γ base sz n κ3 (hset H2 H.length .dead) w4 r { a with defers := [{ target := .collected w.heap.size, args := #[] }] ++ a.defers } :=
                  ⟨s4, hcf.regs.mono gall.le, hcf.size, hmk.grow (g3.trans g4)⟩
                have hst := hr3.state
                cases hls : lo.state with
                | ready =>
                  rw [hls] at hE2 hst; simp only at hE2
                  obtain ⟨t1, t2⟩ := hst
                  refine ⟨none, _, ?_, hQ .normal r _ κ3 _ _ hE2 hcf' (hg.trans gall)⟩
                  rw [hendL (by rw [t1]; simp), t2]
                | busy => rw [hls] at hE2; cases hE2
                | done e =>
                  rw [hls] at hE2 hst; simp only at hE2
                  obtain ⟨t1, t2, t3⟩ := hst
                  have hend := hendL (by rw [t1]; simp)
                  rw [t2] at hend
                  cases e with
                  | normal => exact absurd rfl t3
                  | exit id => exact ⟨_, _, hend, wpIn_exit (hQ (.exit id) r _ κ3 _ _ hE2 hcf' (hg.trans gall))⟩
                  | ret => exact ⟨_, _, hend, wpIn_ret (hQ .ret r _ κ3 _ _ hE2 hcf' (hg.trans gall))⟩
              | _ => rw [ho] at hE2; cases hE2
        split at he
        · rename_i g as bs hfm
          rw [hfm] at hfv
          generalize hx : a.eval f = vf at hfv
          cases hfv with
          | pv _ _ hfv => cases hfv with
            | fn _ _ _ va vb h1 h2 => exact fin g _ _ va vb hx (VRels.of_pv h1) (VRels.of_pv h2) he
        · rename_i g as bs hfm
          rw [hfm] at hfv
          generalize hx : a.eval f = vf at hfv
          cases hfv with
          | fn _ _ _ va vb h1 h2 => exact fin g _ _ va vb hx h1 h2 he
        · cases he
    · exact (evOps_bad he).elim
  | scope c ih =>
    intro top ro htop R κ0 κ Hs H w0 w r a k y Q he hcf hg hsz hQ
    simp only [compCode] at he
    refine wpIn_scope (ih top ro htop he hcf hg hsz fun e r' H' κ' a' w' h1 h2 h3 => ?_)
    cases e with
    | normal => exact hQ .normal r' H' κ' a' w' h1 h2 h3
    | ret => exact hQ .ret r' H' κ' a' w' h1 h2 h3
    | exit j => exact hQ (.exit j) r' H' κ' a' w' h1 h2 h3
  | label l =>
    intro top ro htop R κ0 κ Hs H w0 w r a k y Q he hcf hg hsz hQ
    exact wpIn_label (hQ .normal r H κ a w he hcf hg)
  | exit id =>
    intro top ro htop R κ0 κ Hs H w0 w r a k y Q he hcf hg hsz hQ
    exact wpIn_exit (hQ (.exit id) r H κ a w he hcf hg)
  | ret =>
    intro top ro htop R κ0 κ Hs H w0 w r a k y Q he hcf hg hsz hQ
    exact wpIn_ret (hQ .ret r H κ a w he hcf hg)
  | _ =>
    intro top ro htop R κ0 κ Hs H w0 w r a k y Q he hcf hg hsz hQ
    exact (evOps_bad he).elim
end
end Go.VM

namespace Go.VM
open Go

section
variable {Γ : Ctx}

/-- What was compiled of a function. -/
def FnComp (Γ : Ctx) (f : FuncId) (vf : VFunc) : Prop :=
  ∃ fn c mu, Γ.P.funcs[f]? = some fn ∧ fn.body = some c ∧ (fn.name == "runtime.NumGoroutine") = false ∧ vf.code = compCode Γ.P Γ.md mu true fn.ntmps c ∧ compRess Γ.P fn.results.toList = some vf.results

structure EnvOK (Γ : Ctx) (env : Env) : Prop where
  md : env.md = Γ.md
  mixed : Γ.P.follows .mixedOrders = true
  ft : ∀ f vf, env.ft f = some vf → FnComp Γ f vf

theorem SRel.shut {base : Nat} {κ : K} {H : Heap} {w : World} (h : SRel Γ base κ H w) {D : Nat} {ds : Option (List Deferred)} (hD : w.heap[D]? = some (.deferred ds)) (hn : ∀ id, place κ id (hget H id) ≠ some D) (ds' : Option (List Deferred)) : SRel Γ base κ H (w.putObj D (.deferred ds')) := by
  refine ⟨fun a v hv => ?_, fun id k hk => ?_, h.inj, h.fresh, by simpa using h.base⟩
  · have hne : a.block ≠ D := fun e => by
      have hc := h.imm a v hv
      unfold World.cell? at hc
      rw [e, hD] at hc
      simp at hc
    exact (World.cell?_of_block (World.putObj_heap_other hne)).trans (h.imm a v hv)
  · have hne : k ≠ D := fun e => hn id (by rw [← e]; exact hk)
    obtain ⟨g1, g2⟩ := h.obj id k hk
    exact ⟨g1, g2.mono κ.le_refl (World.putObj_heap_other hne) (fun _ _ => rfl) (fun _ => rfl)⟩

theorem Grow.shut {κ0 κ : K} {H0 H : Heap} {w0 w : World} (g : Grow κ0 H0 w0 κ H w) {D : Nat} (hD : w0.heap.size ≤ D) (o : Obj) : Grow κ0 H0 w0 κ H (w.putObj D o) :=
  ⟨g.le, by simpa using g.size, g.len, g.os, g.tape, g.output, fun k hk hn => by rw [World.putObj_heap_other (by omega)]; exact g.frame k hk hn, g.places, g.imm, g.idle⟩

theorem Marks.shut {sz : Nat} {κ : K} {H : Heap} {w : World} {ds : List Deferred} (h : Marks sz κ H w ds) {D : Nat} (hne : ∀ d ∈ ds, d.target ≠ .collected D) (o : Obj) : Marks sz κ H (w.putObj D o) ds := by
  induction h with
  | nil => exact .nil
  | cons D' ds h1 h2 h3 h4 _ ih =>
    have : D' ≠ D := fun e => hne _ (List.mem_cons_self ..) (by rw [e])
    exact .cons D' ds h1 (by rw [World.putObj_heap_other this]; exact h2) h3 h4 (ih fun d hd => hne d (List.mem_cons_of_mem _ hd))

theorem marks_leave {base sz : Nat} {κ0 κ : K} {H0 H : Heap} {w0 : World} {fn : Func} {tmps : Array Value} {R : Ending → World → Prop} (hsz : w0.heap.size ≤ sz)
    (hend : ∀ w', SRel Γ base κ H w' → Grow κ0 H0 w0 κ H w' → ∃ v, (results fn tmps).run Γ.P w' = .ok v w' ∧ R (.returned v) w') :
    ∀ {ds : List Deferred} {w : World}, Marks sz κ H w ds → SRel Γ base κ H w → Grow κ0 H0 w0 κ H w → LeavesInM Fence.wide 0 Γ.P fn tmps R ds .returning w := by
  intro ds
  induction ds with
  | nil =>
    intro w _ hs hg
    obtain ⟨v, h1, h2⟩ := hend w hs hg
    exact ⟨v, h1, h2⟩
  | cons d ds ih =>
    intro w hm hs hg
    cases hm with
    | cons D _ h1 h2 h3 h4 h5 =>
      refine ⟨by simp, .inl ⟨D, _, rfl, run_takeDeferred h2, ?_⟩⟩
      exact ih (h5.shut h4 _) (hs.shut h2 h3 _) (hg.shut (Nat.le_trans hsz h1) _)

/-- The values that a function hands back. -/
def fin {R : Type} (l : List AV) (F : AV → Option R) : Option R := match l with
  | [v] => F v
  | l => F (mkTup l)

theorem asAddr_of {p : AV} {v : Value} {κ : K} (h : VRel κ p v) (hp : (∃ id off, p = .ptr id off) ∨ ∃ cs off, p = .rptr cs off) : ∃ a, v = .pointer (some a) := by
  rcases hp with ⟨id, off, rfl⟩ | ⟨cs, off, rfl⟩
  · exact ptr_val h
  · exact rptr_val h

/-- One of the values that a function hands back. -/
def resVal (tmps : Array Value) : ResultVar → Sem Value
  | .tmp t => pure (tmps.getD t undef)
  | .cell a t => do loadVar t (← asAddr (tmps.getD a undef))
theorem results_eq (fn : Func) (tmps : Array Value) : results fn tmps = (do let vs ← fn.results.mapM (resVal tmps); pure (if h : vs.size = 1 then vs[0] else .tuple vs)) := by
  unfold results
  congr 1

theorem results_list {base : Nat} {κ : K} {H : Heap} {w : World} {r : Regs} {tmps : Array Value} (hs : SRel Γ base κ H w) (hr : ∀ t, VRel κ (r t) (tmps.getD t undef)) {R : Type} {F : AV → Option R} {y : R} :
    ∀ (rs : List ResultVar) (vrs : List VResult) (acc : List AV), compRess Γ.P rs = some vrs → finishK vrs r H acc F = some y →
    ∃ vals vs, (rs.mapM (resVal tmps)).run Γ.P w = .ok vs w ∧ VRels κ vals vs ∧ fin (acc.reverse ++ vals) F = some y := by
  intro rs
  induction rs with
  | nil =>
    intro vrs acc hc he
    simp [compRess] at hc; subst hc
    refine ⟨[], [], rfl, .nil, ?_⟩
    simp only [finishK] at he
    rw [List.append_nil]
    split at he
    · exact he
    · rename_i hno
      unfold fin
      split
      · rename_i v hv
        have : acc = [v] := by rw [← List.reverse_reverse acc, hv]; rfl
        exact absurd this (hno v)
      · exact he
  | cons x rs ih =>
    intro vrs acc hc he
    simp only [compRess] at hc
    split at hc
    · rename_i a b h1 h2
      injection hc with hc; subst hc
      have step : ∀ (v : AV) (u : Value), finishK b r H (v :: acc) F = some y → VRel κ v u →
          (resVal tmps x).run Γ.P w = .ok u w →
          ∃ vals vs, ((x :: rs).mapM (resVal tmps)).run Γ.P w = .ok vs w ∧ VRels κ vals vs ∧ fin (acc.reverse ++ vals) F = some y := by
        intro v u hf hv hrun
        obtain ⟨vals, vs, g1, g2, g3⟩ := ih b (v :: acc) h2 hf
        refine ⟨v :: vals, u :: vs, ?_, .cons _ _ _ _ hv g2, by simpa using g3⟩
        rw [List.mapM_cons]
        simp only [Sem.run_bind]
        rw [hrun]
        simp only [Result.andThen_ok, g1, Sem.run_pure]
      cases x with
      | tmp t =>
        simp [compRes] at h1; subst h1
        simp only [finishK] at he
        exact step _ _ he (hr t) rfl
      | cell t ty =>
        simp only [compRes] at h1
        split at h1
        · rename_i n g hn hg
          injection h1 with h1; subst h1
          have hld : ∀ (u : Value), (∃ a, tmps.getD t undef = .pointer (some a)) → (Instr.loadAt ty (tmps.getD t undef)).run Γ.P w = .ok u w → ((do loadVar ty (← asAddr (tmps.getD t undef))) : Sem Value).run Γ.P w = .ok u w := by
            rintro u ⟨a, ha⟩ hl
            rw [ha] at hl ⊢
            simpa [Instr.loadAt, Instr.sureAddr, asAddr] using hl
          cases g with
          | true =>
            simp only [cond_true, finishK] at he
            have e : (loadNK n (r t) H some).bind (fun v => finishK b r H (v :: acc) F) = some y := by rw [loadNK_bind]; exact he
            obtain ⟨v, h3, h4⟩ := some_bind e
            obtain ⟨u, h5, h6⟩ := loadN_rel hs (hr t) h3 hg hn
            refine step v u h4 h6 (hld u (asAddr_of (hr t) ?_) h5)
            cases hp : r t <;> rw [hp] at h3 <;> first | exact .inl ⟨_, _, rfl⟩ | exact .inr ⟨_, _, rfl⟩ | (cases h3; done)
          | false =>
            simp only [cond_false, finishK] at he
            have e : (load1K (r t) H some).bind (fun v => finishK b r H (v :: acc) F) = some y := by rw [load1K_bind]; exact he
            obtain ⟨v, h3, h4⟩ := some_bind e
            obtain ⟨u, h5, h6⟩ := load1_rel hs (hr t) h3 hg
            refine step v u h4 h6 (hld u (asAddr_of (hr t) ?_) h5)
            cases hp : r t <;> rw [hp] at h3 <;> first | exact .inl ⟨_, _, rfl⟩ | exact .inr ⟨_, _, rfl⟩ | (cases h3; done)
        · cases h1
    · cases hc

theorem results_rel {base : Nat} {κ : K} {H : Heap} {w : World} {r : Regs} {tmps : Array Value} (hs : SRel Γ base κ H w) (hr : ∀ t, VRel κ (r t) (tmps.getD t undef)) {R : Type} {F : AV → Option R} {y : R} {fn : Func} {vrs : List VResult}
    (hc : compRess Γ.P fn.results.toList = some vrs) (he : finishK vrs r H [] F = some y) : ∃ v u, (results fn tmps).run Γ.P w = .ok u w ∧ VRel κ v u ∧ F v = some y := by
  obtain ⟨vals, vs, h1, h2, h3⟩ := results_list hs hr fn.results.toList vrs [] hc he
  have hrun : (results fn tmps).run Γ.P w = .ok (if h : vs.toArray.size = 1 then vs.toArray[0] else .tuple vs.toArray) w := by
    rw [results_eq, Array.mapM_eq_mapM_toList]
    simp only [Sem.run_bind, Sem.run_map]
    rw [h1]
    simp only [Result.andThen_ok, Sem.run_pure]
  rw [List.reverse_nil, List.nil_append] at h3
  unfold fin at h3
  split at h3
  · rename_i v
    cases h2 with
    | cons _ u _ _ g1 g2 =>
      cases g2
      exact ⟨v, u, by rw [hrun]; simp, g1, h3⟩
  · rename_i hno
    refine ⟨mkTup vals, .tuple vs.toArray, ?_, mkTup_rel h2, h3⟩
    rw [hrun, dif_neg]
    intro hsz
    have hl := h2.length
    simp only [List.size_toArray] at hsz
    match vals, hl with
    | [v], _ => exact hno v rfl
    | [], hl => simp at hl; omega
    | _ :: _ :: _, hl => simp at hl; omega

theorem initRegs_rel {κ : K} {args : List AV} {vs : List Value} (h : VRels κ args vs) (m : Nat) : ∀ t, VRel κ (initRegs args t) ((vs.toArray ++ Array.replicate m undef).getD t undef) := by
  intro t
  simp only [initRegs, lget_eq]
  have hl := h.length
  rw [Array.getD_eq_getD_getElem?]
  cases ha : args[t]? with
  | some p =>
    obtain ⟨v, hv, hr⟩ := h.get (i := t) (p := p) (by rw [lget_eq]; exact ha)
    have : (vs.toArray ++ Array.replicate m undef)[t]? = some v := by
      rw [Array.getElem?_append_left (by simpa using (List.getElem?_eq_some_iff.1 hv).1)]
      simpa using hv
    rw [this]
    exact hr
  | none =>
    have : ((vs.toArray ++ Array.replicate m undef)[t]?).getD undef = undef := by
      have hge : vs.length ≤ t := by rw [← hl]; exact List.getElem?_eq_none_iff.1 ha
      rw [Array.getElem?_append_right (by simpa using hge)]
      simp only [Array.getElem?_replicate]
      split <;> rfl
    rw [this]
    exact undefV_rel κ

/-- A function's call. -/
theorem fn_sound {env : Env} {E : Orc} (hE : OrcOK Γ E) (hV : EnvOK Γ env) {f : FuncId} {args : List AV} {H : Heap} {v : AV} {H' : Heap} (he : evTgtK env E (.fn f) args H (fun v h => some (v, h)) = some (v, H')) :
    FnOK Γ.P f ∧ ∀ base κ w vs, SRel Γ base κ H w → VRels κ args vs → CallsIn Fence.wide 0 Γ.P f vs.toArray w (Out Γ base κ H w v H') := by
  simp only [evTgtK] at he
  cases hf : env.ft f with
  | none => rw [hf] at he; cases he
  | some vf =>
    rw [hf] at he; simp only at he
    obtain ⟨fn, c, mu, h1, h2, h3, h4, h5⟩ := hV.ft f vf hf
    refine ⟨⟨fn, h1, by simp [h2], h3⟩, fun base κ w vs hs ha => ?_⟩
    rw [h4] at he
    refine callsIn_of_wp_marks h1 h2 trivial ?_
    have hcf : Conf Γ base w.heap.size fn.ntmps κ H w (initRegs args) { tmps := vs.toArray ++ Array.replicate (fn.ntmps - vs.toArray.size) undef, defers := [] } :=
      ⟨hs, fun t => initRegs_rel ha _ t, by simp; omega, .nil⟩
    refine code_sound hE hV.mixed hV.md c true none (fun _ => rfl) he hcf (Grow.refl _ _ _) (Nat.le_refl _) fun e r' H1 κ1 a1 w1 hk hcf1 hg1 => ?_
    have leave : finishK vf.results r' H1 [] (fun v => some (v, H1)) = some (v, H') → LeavesInM Fence.wide 0 Γ.P fn a1.tmps (Out Γ base κ H w v H') a1.defers .returning w1 := by
      intro hfin
      refine marks_leave (Nat.le_refl _) (fun w' hs' hg' => ?_) hcf1.marks hcf1.srel hg1
      obtain ⟨v1, u, g1, g2, g3⟩ := results_rel hs' hcf1.regs h5 hfin
      injection g3 with g3; injection g3 with e1 e2; subst e1; subst e2
      exact ⟨u, g1, κ1, g2, hs', hg'⟩
    cases e with
    | exit id => cases hk
    | normal => exact leave hk
    | ret => exact leave hk
end
end Go.VM

namespace Go.VM
open Go

section
variable {Γ : Ctx}

theorem updL_rel {κ : K} : ∀ {ps : List Nat} {args : List AV} {vs : List Value} {r : Regs} {tmps : Array Value}, VRels κ args vs → (∀ t, VRel κ (r t) (tmps.getD t undef)) → (∀ p ∈ ps, p < tmps.size) →
    (∀ t, VRel κ (updL r ps args t) (((ps.zip vs).foldl (fun t (p, v) => t.setIfInBounds p v) tmps).getD t undef)) ∧ ((ps.zip vs).foldl (fun t (p, v) => t.setIfInBounds p v) tmps).size = tmps.size := by
  intro ps
  induction ps with
  | nil => intro args vs r tmps _ hr _; exact ⟨fun t => by cases args <;> exact hr t, rfl⟩
  | cons p ps ih =>
    intro args vs r tmps ha hr hb
    cases ha with
    | nil => exact ⟨fun t => hr t, rfl⟩
    | cons x v as vs hx ha =>
      have hp := hb p (by simp)
      have hstep : ∀ t, VRel κ (upd r p x t) ((tmps.setIfInBounds p v).getD t undef) := by
        have := RRel.put (a := { tmps := tmps, defers := [] }) (n := tmps.size) (κ := κ) (r := r) hr (Nat.le_refl _) (d := some p) (Nat.ble_eq_true_of_le hp) hx
        exact this
      have := ih (r := upd r p x) (tmps := tmps.setIfInBounds p v) ha hstep (fun q hq => by simpa using hb q (by simp [hq]))
      simp only [updL, List.zip_cons_cons, List.foldl_cons]
      exact ⟨this.1, by rw [this.2]; simp⟩

theorem zip_foldl (ps : Array Tmp) (vs : List Value) (tmps : Array Value) : (ps.zip vs.toArray).foldl (fun tmps (t, a) => tmps.setIfInBounds t a) tmps = (ps.toList.zip vs).foldl (fun t (p, v) => t.setIfInBounds p v) tmps := by
  rw [← Array.foldl_toList]
  congr 1
  simp [Array.toList_zip]

/-- A round. -/
theorem yield_sound {env : Env} {E : Orc} (hE : OrcOK Γ E) (hV : EnvOK Γ env) {id : Nat} {args : List AV} {H : Heap} {v : AV} {H' : Heap} (he : evTgtK env E (.yield id) args H (fun v h => some (v, h)) = some (v, H')) :
    ∀ base κ w vs l, SRel Γ base κ H w → VRels κ args vs → κ.loc id = some l →
    ∃ f tmps asg body, (Instr.yield l vs.toArray).run Γ.P w = .ok (.round l f tmps asg body) w ∧ RoundIn Fence.wide 0 Γ.P l f tmps asg body w (Out Γ base κ H w v H') := by
  intro base κ w vs l hs ha hl
  simp only [evTgtK, hgetK_def] at he
  cases ho : hget H id with
  | loop lo =>
    rw [ho] at he; simp only at he
    cases hst : lo.state with
    | ready =>
      rw [hst] at he; simp only at he
      cases hb : Nat.beq args.length lo.params.length with
      | false => rw [hb] at he; cases he
      | true =>
        rw [hb] at he; simp only [cond_true] at he
        obtain ⟨_, hob⟩ := hs.obj id l (by rw [ho]; exact hl)
        rw [ho] at hob
        obtain ⟨L, hL, hr⟩ := hob
        obtain ⟨mu, n, hn, hca, hcb⟩ := hr.code
        have hlen := Nat.eq_of_beq_eq_true hb
        have hargs : vs.toArray.size = L.params.size := by
          have h1 := ha.length
          have h2 : lo.params.length = L.params.size := by rw [hr.params]; simp
          simp; omega
        refine ⟨L.fn, _, L.assign, L.body, run_yield hL hargs, ?_⟩
        rw [zip_foldl]
        obtain ⟨u1, u2⟩ := updL_rel (ps := L.params.toList) ha hr.regs (by rw [← hr.params]; exact hr.bound)
        rw [hca, hcb] at he
        have hcf : Conf Γ base 0 n κ H w (updL lo.regs lo.params args) { tmps := (L.params.toList.zip vs).foldl (fun t (p, v) => t.setIfInBounds p v) L.tmps, defers := [] } :=
          ⟨hs, fun t => by rw [hr.params]; exact u1 t, by simp only [u2]; exact hn, .nil⟩
        refine roundIn_of_wpIn trivial ?_
        refine code_sound hE hV.mixed hV.md L.assign false (some l) (fun h => by cases h) he hcf (Grow.refl _ _ _) (Nat.zero_le _) fun e r1 H1 κ1 a1 w1 hk hcf1 hg1 => ?_
        cases e with
        | exit _ => cases hk
        | ret => cases hk
        | normal =>
          simp only at hk
          have hl1 := hg1.le.loc _ _ hl
          cases ho1 : hget H1 id with
          | loop lo1 =>
            rw [ho1] at hk; simp only at hk
            cases hst1 : lo1.state with
            | ready =>
              rw [hst1] at hk; simp only at hk
              obtain ⟨_, hob1⟩ := hcf1.srel.obj id l (by rw [ho1]; exact hl1)
              rw [ho1] at hob1
              obtain ⟨L1, hL1, hr1⟩ := hob1
              have hs1 := hr1.state
              rw [hst1] at hs1
              obtain ⟨s2, g2⟩ := hcf1.srel.loopTurn (L' := { L1 with state := .busy }) (o := .loop { lo1 with state := .busy }) hl1 ho1 hL1 (.inr ⟨_, rfl, ⟨rfl, hr1.regs, hr1.params, hr1.bound, hr1.code⟩⟩)
              refine ⟨_, run_beginRound hL1 hs1.1, ?_⟩
              have hcf2 : Conf Γ base 0 n κ1 (hset H1 id (.loop { lo1 with state := .busy })) (w1.putObj l (.loop { L1 with state := .busy })) r1 a1 := ⟨s2, hcf1.regs, hcf1.size, hcf1.marks.grow g2⟩
              refine code_sound hE hV.mixed hV.md L.body false (some l) (fun h => by cases h) hk hcf2 (hg1.trans g2) (Nat.zero_le _) fun e r3 H3 κ3 a3 w3 hk3 hcf3 hg3 => ?_
              have hl3 := hg3.le.loc _ _ hl
              cases ho3 : hget H3 id with
              | loop lo3 =>
                rw [ho3] at hk3; simp only at hk3
                cases hst3 : lo3.state with
                | busy =>
                  rw [hst3] at hk3; simp only at hk3
                  injection hk3 with hk3; injection hk3 with e1 e2; subst e1; subst e2
                  obtain ⟨_, hob3⟩ := hcf3.srel.obj id l (by rw [ho3]; exact hl3)
                  rw [ho3] at hob3
                  obtain ⟨L3, hL3, hr3⟩ := hob3
                  have turn : ∀ (jump : Option Code) (st : LState), StateRel st (if jump.isNone then .ready else .done) jump →
                      SRel Γ base κ3 (hset H3 id (.loop { lo3 with state := st })) (w3.putObj l (.loop { L3 with state := if jump.isNone then .ready else .done, pending := jump })) ∧
                      Grow κ3 H3 w3 κ3 (hset H3 id (.loop { lo3 with state := st })) (w3.putObj l (.loop { L3 with state := if jump.isNone then .ready else .done, pending := jump })) := by
                    intro jump st hst
                    exact hcf3.srel.loopTurn (o := .loop { lo3 with state := st }) hl3 ho3 hL3 (.inr ⟨_, rfl, ⟨hst, hr3.regs, hr3.params, hr3.bound, hr3.code⟩⟩)
                  cases e with
                  | normal =>
                    obtain ⟨s4, g4⟩ := turn none .ready ⟨rfl, rfl⟩
                    exact ⟨_, _, run_endRound none hL3, κ3, .pv _ _ (.bool _), s4, hg3.trans g4⟩
                  | exit j =>
                    obtain ⟨s4, g4⟩ := turn (some (.exit j)) (.done (.exit j)) ⟨rfl, rfl, by simp⟩
                    exact ⟨_, _, run_endRound (some (.exit j)) hL3, κ3, .pv _ _ (.bool _), s4, hg3.trans g4⟩
                  | ret =>
                    obtain ⟨s4, g4⟩ := turn (some .ret) (.done .ret) ⟨rfl, rfl, by simp⟩
                    exact ⟨_, _, run_endRound (some .ret) hL3, κ3, .pv _ _ (.bool _), s4, hg3.trans g4⟩
                | ready => rw [hst3] at hk3; cases hk3
                | done _ => rw [hst3] at hk3; cases hk3
              | _ => rw [ho3] at hk3; cases hk3
            | busy => rw [hst1] at hk; cases hk
            | done _ => rw [hst1] at hk; cases hk
          | _ => rw [ho1] at hk; cases hk
    | busy => rw [hst] at he; cases he
    | done _ => rw [hst] at he; cases he
  | _ => rw [ho] at he; cases he

theorem evN_ok {env : Env} (hV : EnvOK Γ env) : ∀ n, OrcOK Γ (evN env n) := by
  intro n
  induction n with
  | zero => exact ⟨fun _ _ _ _ _ h => (by cases h), fun _ _ _ _ _ h => (by cases h), fun _ _ _ _ _ h => (by cases h)⟩
  | succ n ih =>
    exact ⟨fun f args H v H' h => (fn_sound ih hV h).1, fun f args H v H' h => (fn_sound ih hV h).2, fun id args H v H' h => yield_sound ih hV h⟩

theorem EE_ok {env : Env} (hV : EnvOK Γ env) : OrcOK Γ (EE env) := by
  have get : ∀ {t args H x}, EE env t args H = some x → ∃ n, evN env n t args H = some x := fun h => lim_some h
  refine ⟨fun f args H v H' h => ?_, fun f args H v H' h => ?_, fun id args H v H' h => ?_⟩
  · obtain ⟨n, hn⟩ := get h; exact (evN_ok hV n).ok _ _ _ _ _ hn
  · obtain ⟨n, hn⟩ := get h; exact (evN_ok hV n).fn _ _ _ _ _ hn
  · obtain ⟨n, hn⟩ := get h; exact (evN_ok hV n).yield _ _ _ _ _ hn
end
end Go.VM

namespace Go.VM
open Go

/-- What is answered is answered in the end. -/
def Conv {α : Type} (x : Option α) (xs : Nat → Option α) : Prop := ∀ y, x = some y → ∃ n, ∀ m, n ≤ m → xs m = some y

section
variable {R : Type} {env : Env} {E : Orc} {Es : Nat → Orc}

theorem Conv.const {α : Type} (x : Option α) : Conv x (fun _ => x) := fun _ h => ⟨0, fun _ _ => h⟩
theorem Conv.eventually {α : Type} {x : Option α} {xs xs' : Nat → Option α} (h : Conv x xs) (he : ∃ n, ∀ m, n ≤ m → xs m = xs' m) : Conv x xs' := by
  intro y hy
  obtain ⟨n, hn⟩ := h y hy
  try dsimp only at hn
  obtain ⟨n', hn'⟩ := he
  try dsimp only at hn'
  exact ⟨max n n', fun m hm => by rw [← hn' m (by omega)]; exact hn m (by omega)⟩

theorem operK_pair_conv (hE : ∀ t args h, Conv (E t args h) (fun m => Es m t args h)) (o : VOp) (r : Regs) (h : Heap) : Conv (operK env E o r h fun v h => some (v, h)) (fun m => operK env (Es m) o r h fun v h => some (v, h)) := by
  have sk : ∀ {S : Type} (t : Tgt) (args : List AV) (h : Heap) (F : AV → Heap → Option S), Conv (callSK E t args h F) (fun m => callSK (Es m) t args h F) := by
    intro S t args h F y hy
    simp only [callSK_def] at hy ⊢
    obtain ⟨p, h1, h2⟩ := some_bind hy
    obtain ⟨n, hn⟩ := hE t args h p h1
    try dsimp only at hn
    exact ⟨n, fun m hm => by rw [hn m hm]; exact h2⟩
  have pk : ∀ {S : Type} (f : FuncId) (ps : List PV) (F : PV → Option S), Conv (callPK E f ps F) (fun m => callPK (Es m) f ps F) := by
    intro S f ps F y hy
    simp only [callPK_def, EP] at hy ⊢
    obtain ⟨p, h1, h2⟩ := some_bind hy
    obtain ⟨q, h3, h4⟩ := some_bind h1
    obtain ⟨n, hn⟩ := hE _ _ _ q h3
    try dsimp only at hn
    exact ⟨n, fun m hm => by rw [hn m hm]; simp only [Option.bind_some]; rw [h4]; exact h2⟩
  have ck : ∀ (env : Env) (t : Tgt) (args : List AV), Conv (callK env E t args h fun v h => some (v, h)) (fun m => callK env (Es m) t args h fun v h => some (v, h)) := by
    intro env t args
    cases t with
    | yield id => exact sk _ _ _ _
    | fn f =>
      simp only [callK]
      split
      · exact sk _ _ _ _
      · split
        · exact pk _ _ _
        · exact Conv.const _
      · split
        · exact sk _ _ _ _
        · exact Conv.const _
      · split
        · exact sk _ _ _ _
        · exact Conv.const _
  cases o
  case call m f xs =>
    simp only [operK]
    exact ck _ _ _
  case callV f xs =>
    simp only [operK]
    split
    · exact ck _ _ _
    · exact ck _ _ _
    · exact sk _ _ _ _
    · exact Conv.const _
  all_goals exact Conv.const _

theorem operK_split (env : Env) (E : Orc) (o : VOp) (r : Regs) (h : Heap) (F : AV → Heap → Option R) : operK env E o r h F = (operK env E o r h fun v h => some (v, h)).bind fun p => F p.1 p.2 := by rw [operK_bind]; rfl

theorem operK_conv (hE : ∀ t args h, Conv (E t args h) (fun m => Es m t args h)) {o : VOp} {r : Regs} {h : Heap} {F : AV → Heap → Option R} {Fs : Nat → AV → Heap → Option R} (hF : ∀ v h, Conv (F v h) (fun m => Fs m v h)) :
    Conv (operK env E o r h F) (fun m => operK env (Es m) o r h (Fs m)) := by
  intro y hy
  obtain ⟨v, h', h1, h2⟩ := operK_inv hy
  obtain ⟨n, hn⟩ := operK_pair_conv hE o r h _ h1
  try dsimp only at hn
  obtain ⟨n', hn'⟩ := hF v h' y h2
  try dsimp only at hn'
  refine ⟨max n n', fun m hm => ?_⟩
  show operK env (Es m) o r h (Fs m) = some y
  rw [operK_split, hn m (by omega)]
  exact hn' m (by omega)

theorem evOps_conv (hE : ∀ t args h, Conv (E t args h) (fun m => Es m t args h)) : ∀ (l : List VOper) (r : Regs) (h : Heap) (k : Regs → Heap → Option R) (ks : Nat → Regs → Heap → Option R), (∀ r h, Conv (k r h) (fun m => ks m r h)) →
    Conv (evOps env E l r h k) (fun m => evOps env (Es m) l r h (ks m)) := by
  intro l
  induction l with
  | nil => intro r h k ks hk; exact hk r h
  | cons o l ih =>
    intro r h k ks hk
    simp only [evOps_nil, evOps_cons]
    cases wantedV r o.guard with
    | true =>
      simp only [cond_true]
      refine operK_conv hE fun v h => ?_
      simp only [forceK_def, putK_def]
      exact ih _ _ _ _ hk
    | false =>
      simp only [cond_false, putK_def]
      exact ih _ _ _ _ hk

theorem evDraw_conv (hE : ∀ t args h, Conv (E t args h) (fun m => Es m t args h)) (pairs : List (Nat × Nat)) : ∀ (l : List VOper) (i : Nat) (r : Regs) (h : Heap) (ls : List (Nat × AV × Option Nat)) (es : List (Nat × Heap × Heap)) (k : Regs → Heap → List (Nat × AV × Option Nat) → List (Nat × Heap × Heap) → Option R) (ks : Nat → Regs → Heap → List (Nat × AV × Option Nat) → List (Nat × Heap × Heap) → Option R),
    (∀ r h ls es, Conv (k r h ls es) (fun m => ks m r h ls es)) → Conv (evDraw env E pairs l i r h ls es k) (fun m => evDraw env (Es m) pairs l i r h ls es (ks m)) := by
  intro l
  induction l with
  | nil => intro i r h ls es k ks hk; exact hk r h ls es
  | cons o l ih =>
    intro i r h ls es k ks hk
    simp only [evDraw_nil, evDraw_cons]
    cases wantedV r o.guard with
    | true =>
      simp only [cond_true]
      refine operK_conv hE fun v h' => ?_
      simp only [forceK_def, putK_def]
      exact ih _ _ _ _ _ _ _ hk
    | false =>
      simp only [cond_false, putK_def]
      exact ih _ _ _ _ _ _ _ hk

theorem checkPairs_conv (ls : List (Nat × AV × Option Nat)) (es : List (Nat × Heap × Heap)) {x : Option R} {xs : Nat → Option R} (hx : Conv x xs) : ∀ l, Conv (checkPairs ls es l x) (fun m => checkPairs ls es l (xs m)) := by
  intro l
  induction l with
  | nil => exact hx
  | cons a l ih =>
    obtain ⟨a, b⟩ := a
    simp only [checkPairs]
    split
    · split
      · simp only [sameK_def]
        split
        · exact ih
        · exact Conv.const _
      · exact ih
      · exact Conv.const _
    · exact ih

theorem iterN_mono (b : Regs → Heap → Option Res) : ∀ (n : Nat) (r : Regs) (h : Heap) (x : Res), iterN n b r h = some x → iterN (n + 1) b r h = some x := by
  intro n
  induction n with
  | zero => intro r h x hx; cases hx
  | succ n ih =>
    intro r h x hx
    simp only [iterN] at hx ⊢
    obtain ⟨p, h1, h2⟩ := some_bind hx
    rw [h1]
    obtain ⟨e, r', h'⟩ := p
    cases e with
    | normal => simpa [iterN] using ih r' h' x h2
    | exit id => exact h2
    | ret => exact h2
theorem iterE_intro {b : Regs → Heap → Option Res} {n : Nat} {r : Regs} {h : Heap} {x : Res} (hx : iterN n b r h = some x) : iterE b r h = some x :=
  lim_eq (f := fun n => iterN n b r h) (fun n x hx => iterN_mono b n r h x hx) hx

theorem iterE_conv {b : Regs → Heap → Option Res} {bs : Nat → Regs → Heap → Option Res} (hb : ∀ r h, Conv (b r h) (fun m => bs m r h)) (r : Regs) (h : Heap) : Conv (iterE b r h) (fun m => iterE (bs m) r h) := by
  intro x hx
  obtain ⟨n, hn⟩ := lim_some hx
  have key : ∀ (n : Nat) (r : Regs) (h : Heap), iterN n b r h = some x → ∃ N, ∀ m, N ≤ m → iterN n (bs m) r h = some x := by
    intro n
    induction n with
    | zero => intro r h hx; cases hx
    | succ n ih =>
      intro r h hx
      simp only [iterN] at hx ⊢
      obtain ⟨p, h1, h2⟩ := some_bind hx
      obtain ⟨N, hN⟩ := hb r h p h1
      try dsimp only at hN
      obtain ⟨e, r', h'⟩ := p
      cases e with
      | normal =>
        obtain ⟨N', hN'⟩ := ih r' h' h2
        exact ⟨max N N', fun m hm => by rw [hN m (by omega)]; exact hN' m (by omega)⟩
      | exit id => exact ⟨N, fun m hm => by rw [hN m hm]; exact h2⟩
      | ret => exact ⟨N, fun m hm => by rw [hN m hm]; exact h2⟩
  obtain ⟨N, hN⟩ := key n r h hn
  exact ⟨N, fun m hm => iterE_intro (hN m hm)⟩

theorem evK_conv (hE : ∀ t args h, Conv (E t args h) (fun m => Es m t args h)) : ∀ (c : VCode) {R : Type} (r : Regs) (h : Heap) (k : Ex → Regs → Heap → Option R) (ks : Nat → Ex → Regs → Heap → Option R), (∀ e r h, Conv (k e r h) (fun m => ks m e r h)) →
    Conv (evK env E c R r h k) (fun m => evK env (Es m) c R r h (ks m)) := by
  intro c
  induction c with
  | skip => intro R r h k ks hk; exact hk _ _ _
  | ops l => intro R r h k ks hk; exact evOps_conv hE l r h _ _ fun r h => hk .normal r h
  | draw al l pairs =>
    intro R r h k ks hk
    simp only [evK_skip, evK_ops, evK_draw, evK_seq, evK_cond, evK_block, evK_loop, evK_rangeFunc, evK_exit, evK_ret, hoist_eq]
    exact evDraw_conv hE pairs l 0 _ _ _ _ _ _ fun r h ls es => checkPairs_conv ls es (hk .normal r h) pairs
  | seq a b iha ihb =>
    intro R r h k ks hk
    simp only [evK_skip, evK_ops, evK_draw, evK_seq, evK_cond, evK_block, evK_loop, evK_rangeFunc, evK_exit, evK_ret]
    refine iha r h _ _ fun e r h => ?_
    cases e with
    | normal => exact ihb r h k ks hk
    | exit id => exact hk _ _ _
    | ret => exact hk _ _ _
  | cond c a b iha ihb =>
    intro R r h k ks hk
    simp only [evK_skip, evK_ops, evK_draw, evK_seq, evK_cond, evK_block, evK_loop, evK_rangeFunc, evK_exit, evK_ret]
    split
    · rename_i b' _
      cases b' with
      | true => exact iha r h k ks hk
      | false => exact ihb r h k ks hk
    · exact Conv.const _
  | block id c ih =>
    intro R r h k ks hk
    simp only [evK_skip, evK_ops, evK_draw, evK_seq, evK_cond, evK_block, evK_loop, evK_rangeFunc, evK_exit, evK_ret]
    refine ih r h _ _ fun e r h => ?_
    cases e with
    | exit j =>
      simp only
      cases Nat.beq j id with
      | true => exact hk _ _ _
      | false => exact hk _ _ _
    | normal => exact hk _ _ _
    | ret => exact hk _ _ _
  | loop c ih =>
    intro R r h k ks hk
    simp only [evK_skip, evK_ops, evK_draw, evK_seq, evK_cond, evK_block, evK_loop, evK_rangeFunc, evK_exit, evK_ret, loopK_def]
    intro y hy
    obtain ⟨x, h1, h2⟩ := some_bind hy
    obtain ⟨n, hn⟩ := iterE_conv (bs := fun m r h => evK env (Es m) c Res r h fun e r h => some (e, r, h)) (fun r h => ih r h _ _ fun e r h => Conv.const _) r h x h1
    obtain ⟨n', hn'⟩ := hk _ _ _ y h2
    try dsimp only at hn'
    exact ⟨max n n', fun m hm => by have h5 := hn m (by omega); dsimp only at h5 ⊢; rw [h5]; exact hn' m (by omega)⟩
  | rangeFunc f ps asg bo _ _ =>
    intro R r h k ks hk
    have go : ∀ (g : FuncId) (a b : List AV), Conv
        (callSK E (.fn g) (a ++ .yield h.length :: b) (h ++ [.loop ⟨.ready, r, ps, asg, bo⟩]) fun _ h2 => hgetK h2 h.length fun o => match o with
          | .loop lo => match lo.state with
            | .ready => k .normal r (hset h2 h.length .dead)
            | .done e => k e r (hset h2 h.length .dead)
            | .busy => none
          | _ => none)
        (fun m => callSK (Es m) (.fn g) (a ++ .yield h.length :: b) (h ++ [.loop ⟨.ready, r, ps, asg, bo⟩]) fun _ h2 => hgetK h2 h.length fun o => match o with
          | .loop lo => match lo.state with
            | .ready => ks m .normal r (hset h2 h.length .dead)
            | .done e => ks m e r (hset h2 h.length .dead)
            | .busy => none
          | _ => none) := by
      intro g a b y hy
      obtain ⟨v, h2, h1, h3⟩ := callSK_inv hy
      obtain ⟨n, hn⟩ := hE _ _ _ _ h1
      try dsimp only at hn
      have hc : Conv (hgetK h2 h.length fun o => match o with
          | .loop lo => match lo.state with
            | .ready => k .normal r (hset h2 h.length .dead)
            | .done e => k e r (hset h2 h.length .dead)
            | .busy => none
          | _ => none)
          (fun m => hgetK h2 h.length fun o => match o with
          | .loop lo => match lo.state with
            | .ready => ks m .normal r (hset h2 h.length .dead)
            | .done e => ks m e r (hset h2 h.length .dead)
            | .busy => none
          | _ => none) := by
        simp only [hgetK_def]
        split
        · split
          · exact hk _ _ _
          · exact hk _ _ _
          · exact Conv.const _
        · exact Conv.const _
      obtain ⟨n', hn'⟩ := hc y h3
      try dsimp only at hn'
      exact ⟨max n n', fun m hm => by dsimp only; rw [callSK_def, hn m (by omega)]; exact hn' m (by omega)⟩
    simp only [evK_skip, evK_ops, evK_draw, evK_seq, evK_cond, evK_block, evK_loop, evK_rangeFunc, evK_exit, evK_ret]
    split
    · exact go _ _ _
    · exact go _ _ _
    · exact Conv.const _
  | exit id => intro R r h k ks hk; exact hk _ _ _
  | ret => intro R r h k ks hk; exact hk _ _ _

theorem evTgtK_conv (hE : ∀ t args h, Conv (E t args h) (fun m => Es m t args h)) (t : Tgt) (args : List AV) (h : Heap) (F : AV → Heap → Option R) : Conv (evTgtK env E t args h F) (fun m => evTgtK env (Es m) t args h F) := by
  cases t with
  | fn f =>
    simp only [evTgtK]
    split
    · exact evK_conv hE _ _ _ _ _ fun e r h => by cases e <;> exact Conv.const _
    · exact Conv.const _
  | yield id =>
    simp only [evTgtK, hgetK_def]
    split
    · split
      · rename_i lo _ _ _
        cases Nat.beq args.length lo.params.length with
        | false => exact Conv.const _
        | true =>
          simp only [cond_true]
          refine evK_conv hE _ _ _ _ _ fun e r h1 => ?_
          cases e with
          | normal =>
            simp only
            split
            · split
              · exact evK_conv hE _ _ _ _ _ fun e _ h2 => Conv.const _
              · exact Conv.const _
            · exact Conv.const _
          | exit _ => exact Conv.const _
          | ret => exact Conv.const _
      · exact Conv.const _
    · exact Conv.const _

theorem evN_mono (env : Env) : ∀ (n : Nat) (t : Tgt) (args : List AV) (h : Heap) (x : AV × Heap), evN env n t args h = some x → evN env (n + 1) t args h = some x := by
  intro n
  induction n with
  | zero => intro t args h x hx; cases hx
  | succ n ih =>
    intro t args h x hx
    have hc := evTgtK_conv (env := env) (E := evN env n) (Es := fun _ => evN env (n + 1)) (fun t args h y hy => ⟨0, fun _ _ => ih t args h y hy⟩) t args h (fun v h => some (v, h)) x hx
    obtain ⟨N, hN⟩ := hc
    try dsimp only at hN
    exact hN N (Nat.le_refl _)

theorem evN_up (env : Env) {n m : Nat} (h : n ≤ m) {t : Tgt} {args : List AV} {H : Heap} {x : AV × Heap} (hx : evN env n t args H = some x) : evN env m t args H = some x := by
  induction h with
  | refl => exact hx
  | step _ ih => exact evN_mono env _ _ _ _ _ ih

theorem EE_conv (env : Env) (t : Tgt) (args : List AV) (h : Heap) : Conv (EE env t args h) (fun m => evN env m t args h) := by
  intro x hx
  obtain ⟨n, hn⟩ := lim_some hx
  exact ⟨n, fun m hm => evN_up env hm hn⟩

/-- A call is what its code answers, its own calls being such calls. -/
theorem EE_intro {env : Env} {t : Tgt} {args : List AV} {h : Heap} {x : AV × Heap} (hx : evTgtK env (EE env) t args h (fun v h => some (v, h)) = some x) : EE env t args h = some x := by
  obtain ⟨n, hn⟩ := evTgtK_conv (Es := fun m => evN env m) (EE_conv env) t args h (fun v h => some (v, h)) x hx
  try dsimp only at hn
  exact lim_eq (f := fun n => evN env n t args h) (fun n x hx => evN_mono env n t args h x hx) (n := n + 1) (hn n (Nat.le_refl _))
end
end Go.VM
