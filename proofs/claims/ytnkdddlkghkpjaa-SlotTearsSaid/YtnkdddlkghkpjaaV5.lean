/-
  Part 5 of an abstract machine that answers as the model does.
  Every operation that calls nothing: indices, slices, functions, built-in calls; and all of them.
  All operations that call nothing, at once.
  Calls: an oracle that tells the truth; a call by itself; a call whose slice is taken over.
  One operation's step; a region in its text's order.
  One operation's step in a frame; a region in its text's order.
-/
import Derived.Test.YtnkdddlkghkpjaaV4
import Derived.RangeFuncLeaves
import Derived.RangeFuncRecord
set_option linter.all false
set_option linter.unusedVariables false
set_option linter.unusedSimpArgs false
set_option linter.unusedSectionVars false
namespace Go.VM
open Go

section
variable {Γ : Ctx} {base : Nat} {κ : K} {H H' : Heap} {w : World} {o : Oper} {a : Act} {v : AV} {r : Regs}

theorem run_indexAt_arr {t e : TypeId} {len n : Nat} (ht : Γ.P.underlying t = some (.array len e)) (hn : sizeT Γ.P e = some n) {p : Addr} {k : IntKind} {j : Int} (h0 : 0 ≤ j) (h1 : j < (len : Int)) :
    (Instr.indexAt t (.pointer (some p)) (.int k j)).run Γ.P w = .ok (.pointer (some (p.add (j.toNat * n)))) w := by
  simp [Instr.indexAt, asIntOf, run_underlying ht, Instr.sureAddr, h0, h1, run_sizeOf' hn]
theorem run_indexAt_sl {t e : TypeId} {len cap n : Nat} (ht : Γ.P.underlying t = some (.slice e)) (hn : sizeT Γ.P e = some n) {p : Addr} {k : IntKind} {j : Int} (h0 : 0 ≤ j) (h1 : j < (len : Int)) :
    (Instr.indexAt t (.slice (some p) len cap) (.int k j)).run Γ.P w = .ok (.pointer (some (p.add (j.toNat * n)))) w := by
  simp [Instr.indexAt, asIntOf, run_underlying ht, h0, h1, run_sizeOf' hn]

theorem op_idxAddrA (hs : SRel Γ base κ H w) (hr : RRel κ r a) {t e : TypeId} {x z : Operand} {y q : Opd} (hy : compOpd x = some y) (hq : compOpd z = some q) {len n : Nat} (ht : Γ.P.underlying t = some (.array len e)) (hn : sizeT Γ.P e = some n) (hop : o.op = .indexAddr t x z)
    (he : opK (.idxAddrA len n y q) r H (fun v h => some (v, h)) = some (v, H')) : OpOK Γ base κ H w o a v H' := by
  simp only [opK] at he
  have h1 := opd_rel hr hy
  have h2 := opd_rel hr hq
  refine RunOK.op (s := Instr.indexAt t (a.eval x) (a.eval z)) (by simp only [execOp, hop]) ?_
  generalize a.eval x = vx at h1
  split at he
  · rename_i id off hm
    rw [hm] at h1
    obtain ⟨k, j, hj, g0, g1, he⟩ := idxK_inv he
    rw [hj] at h2; rw [int_rel h2]
    simp only [addO_eq, mulE_eq] at he
    injection he with he; injection he with e1 e2; subst e1; subst e2
    cases h1 with
    | ptr _ _ b hl => exact RunOK.same hs ⟨_, run_indexAt_arr ht hn g0 g1, by rw [addr_add_lit']; exact .ptr _ _ _ hl⟩
  · rename_i cs off hm
    rw [hm] at h1
    obtain ⟨k, j, hj, g0, g1, he⟩ := idxK_inv he
    rw [hj] at h2; rw [int_rel h2]
    simp only [addO_eq, mulE_eq] at he
    injection he with he; injection he with e1 e2; subst e1; subst e2
    cases h1 with
    | rptr _ _ ad vs k1 k2 k3 => exact RunOK.same hs ⟨_, run_indexAt_arr ht hn g0 g1, by rw [addr_add_add]; exact .rptr _ _ _ vs k1 k2 k3⟩
  · cases he

theorem op_idxAddrS (hs : SRel Γ base κ H w) (hr : RRel κ r a) {t e : TypeId} {x z : Operand} {y q : Opd} (hy : compOpd x = some y) (hq : compOpd z = some q) {n : Nat} (ht : Γ.P.underlying t = some (.slice e)) (hn : sizeT Γ.P e = some n) (hop : o.op = .indexAddr t x z)
    (he : opK (.idxAddrS n y q) r H (fun v h => some (v, h)) = some (v, H')) : OpOK Γ base κ H w o a v H' := by
  simp only [opK] at he
  have h1 := opd_rel hr hy
  have h2 := opd_rel hr hq
  refine RunOK.op (s := Instr.indexAt t (a.eval x) (a.eval z)) (by simp only [execOp, hop]) ?_
  generalize a.eval x = vx at h1
  unfold idxAddrSK at he
  split at he
  · rename_i ex m cs hm
    rw [hm] at h1
    obtain ⟨k, j, hj, g0, g1, he⟩ := idxK_inv he
    rw [hj] at h2; rw [int_rel h2]
    simp only [mulE_eq] at he
    injection he with he; injection he with e1 e2; subst e1; subst e2
    cases h1 with
    | pv _ _ h1 => cases h1 with
      | slNil => omega
      | sl _ _ _ ad cap vs k1 k2 k3 k4 k5 k6 => exact RunOK.same hs ⟨_, run_indexAt_sl ht hn g0 g1, .rptr _ _ _ vs k4 k5 k6⟩
  · rename_i tk m cs hm
    rw [hm] at h1
    obtain ⟨k, j, hj, g0, g1, he⟩ := idxK_inv he
    rw [hj] at h2; rw [int_rel h2]
    simp only [mulE_eq] at he
    injection he with he; injection he with e1 e2; subst e1; subst e2
    cases h1 with
    | tsl _ _ _ b cap vs k1 k2 k3 k4 k5 => exact RunOK.same hs ⟨_, run_indexAt_sl ht hn g0 g1, .rptr _ _ ⟨b, 0, none⟩ vs k3 (fun j v hj => by rw [addr_add_lit]; exact k4 j v hj) k5⟩
  · rename_i es id off m cap hm
    rw [hm] at h1
    obtain ⟨k, j, hj, g0, g1, he⟩ := idxK_inv he
    rw [hj] at h2; rw [int_rel h2]
    simp only [addO_eq, mulE_eq] at he
    injection he with he; injection he with e1 e2; subst e1; subst e2
    cases h1 with
    | hs _ _ _ _ _ b cap' k1 k2 k3 => exact RunOK.same hs ⟨_, run_indexAt_sl ht hn g0 g1, by rw [addr_add_lit']; exact .ptr _ _ _ k1⟩
  · cases he

theorem op_idxA1 (hs : SRel Γ base κ H w) (hr : RRel κ r a) {t e : TypeId} {x z : Operand} {y q : Opd} (hy : compOpd x = some y) (hq : compOpd z = some q) {len : Nat} (ht : Γ.P.underlying t = some (.array len e)) (hn : sizeT Γ.P e = some 1) (hg : aggT Γ.P e = some false) (hop : o.op = .index t x z)
    (he : opK (.idxA1 len y q) r H (fun v h => some (v, h)) = some (v, H')) : OpOK Γ base κ H w o a v H' := by
  simp only [opK] at he
  have h1 := opd_rel hr hy
  have h2 := opd_rel hr hq
  refine RunOK.op (s := Instr.index t (a.eval x) (a.eval z)) (by simp only [execOp, hop]) ?_
  generalize a.eval x = vx at h1
  have hrun : ∀ (cs : List Value) (k : IntKind) (j : Int) u, 0 ≤ j → j < (len : Int) → cs[j.toNat]? = some u → (Instr.index t (.agg cs.toArray) (.int k j)).run Γ.P w = .ok u w := by
    intro cs k j u g0 g1 hu
    simp only [Instr.index, asIntOf, Sem.run_bind, Sem.run_pure, Result.andThen_ok, run_underlying ht, g0, g1, and_self, if_true, run_sizeOf' hn, Nat.mul_one]
    exact run_part1 hg hu
  split at he
  · rename_i cs hm
    rw [hm] at h1
    obtain ⟨k, j, hj, g0, g1, he⟩ := idxK_inv he
    rw [hj] at h2; rw [int_rel h2]
    rw [getK_def] at he
    obtain ⟨p, hp, he⟩ := as_some he
    injection he with he; injection he with e1 e2; subst e1; subst e2
    cases h1 with
    | pv _ _ h1 => cases h1 with
      | agg _ us k1 k2 =>
        obtain ⟨u, hu, hr'⟩ := k1.get hp
        exact RunOK.same hs ⟨u, hrun us k j u g0 g1 hu, .pv _ _ hr'⟩
  · rename_i cs hm
    rw [hm] at h1
    obtain ⟨k, j, hj, g0, g1, he⟩ := idxK_inv he
    rw [hj] at h2; rw [int_rel h2]
    cases hp : lget cs j.toNat with
    | none => rw [hp] at he; cases he
    | some p =>
      rw [hp] at he; simp only at he
      injection he with he; injection he with e1 e2; subst e1; subst e2
      cases h1 with
      | agg _ us k1 k2 =>
        obtain ⟨u, hu, hr'⟩ := k1.get hp
        exact RunOK.same hs ⟨u, hrun us k j u g0 g1 hu, hr'⟩
  · cases he

theorem op_idxAN (hs : SRel Γ base κ H w) (hr : RRel κ r a) {t e : TypeId} {x z : Operand} {y q : Opd} (hy : compOpd x = some y) (hq : compOpd z = some q) {len n : Nat} (ht : Γ.P.underlying t = some (.array len e)) (hn : sizeT Γ.P e = some n) (hg : aggT Γ.P e = some true) (hop : o.op = .index t x z)
    (he : opK (.idxAN len n y q) r H (fun v h => some (v, h)) = some (v, H')) : OpOK Γ base κ H w o a v H' := by
  simp only [opK] at he
  have h1 := opd_rel hr hy
  have h2 := opd_rel hr hq
  refine RunOK.op (s := Instr.index t (a.eval x) (a.eval z)) (by simp only [execOp, hop]) ?_
  generalize a.eval x = vx at h1
  split at he
  · rename_i cs hm
    rw [hm] at h1
    obtain ⟨k, j, hj, g0, g1, he⟩ := idxK_inv he
    rw [hj] at h2; rw [int_rel h2]
    rw [secK_def] at he
    cases hb : Nat.ble (j.toNat * n + n) cs.length with
    | false => rw [hb] at he; cases he
    | true =>
      rw [hb] at he; simp only [cond_true] at he
      injection he with he; injection he with e1 e2; subst e1; subst e2
      cases h1 with
      | pv _ _ h1 => cases h1 with
        | agg _ us k1 k2 =>
          refine RunOK.same hs ⟨.agg ((us.drop (j.toNat * n)).take n).toArray, ?_, .pv _ _ (.agg _ _ ((k1.drop _).take _) ((k2.drop _).take _))⟩
          simp only [Instr.index, asIntOf, Sem.run_bind, Sem.run_pure, Result.andThen_ok, run_underlying ht, g0, g1, and_self, if_true, run_sizeOf' hn]
          exact run_partN hg hn
  · cases he

theorem op_idxStr (hs : SRel Γ base κ H w) (hr : RRel κ r a) {t : TypeId} {x z : Operand} {y q : Opd} (hy : compOpd x = some y) (hq : compOpd z = some q) (ht : Γ.P.underlying t = some .string) (hop : o.op = .index t x z)
    (he : opK (.idxStr y q) r H (fun v h => some (v, h)) = some (v, H')) : OpOK Γ base κ H w o a v H' := by
  simp only [opK] at he
  have h1 := opd_rel hr hy
  have h2 := opd_rel hr hq
  refine RunOK.op (s := Instr.index t (a.eval x) (a.eval z)) (by simp only [execOp, hop]) ?_
  split at he
  · rename_i s hm
    rw [hm] at h1; rw [str_rel h1]
    obtain ⟨k, j, hj, g0, g1, he⟩ := idxK_inv he
    rw [hj] at h2; rw [int_rel h2]
    rw [getK_def] at he
    obtain ⟨b, hb, he⟩ := as_some he
    injection he with he; injection he with e1 e2; subst e1; subst e2
    have hb' : s[j.toNat]? = some b := by
      rw [Array.getElem?_toList] at hb
      obtain ⟨hlt, hb⟩ := Array.getElem?_eq_some_iff.1 hb
      have hlt' : j.toNat < s.size := hlt
      rw [getElem?_pos s j.toNat hlt']
      exact congrArg some hb
    exact RunOK.same hs ⟨.int .u8 b.toNat, by simp [Instr.index, asIntOf, run_underlying ht, g0, hb'], .pv _ _ (.int _ _)⟩
  · cases he

theorem op_slice {t : TypeId} {x : Operand} {lo hi mx : Option Operand} (hop : o.op = .slice t x lo hi mx) (h : RunOK Γ base κ H w (Instr.sliceAt t (a.eval x) (lo.map a.eval) (hi.map a.eval) (mx.map a.eval)) v H') : OpOK Γ base κ H w o a v H' :=
  RunOK.op (s := Instr.sliceAt t (a.eval x) (lo.map a.eval) (hi.map a.eval) (mx.map a.eval)) (by simp only [execOp, hop]) h

theorem op_sliceStr (hs : SRel Γ base κ H w) (hr : RRel κ r a) {t : TypeId} {x : Operand} {lo hi : Option Operand} {y : Opd} {lo' hi' : Option Opd} (hy : compOpd x = some y) (hl : compOpt lo = some lo') (hh : compOpt hi = some hi') (ht : Γ.P.underlying t = some .string)
    (hop : o.op = .slice t x lo hi none) (he : opK (.sliceStr y lo' hi') r H (fun v h => some (v, h)) = some (v, H')) : OpOK Γ base κ H w o a v H' := by
  simp only [opK] at he
  refine op_slice hop (RunOK.keep hs (x := sliceStrK (y.ev r) (lo'.map (Opd.ev r)) (hi'.map (Opd.ev r)) some) ?_ fun h => sliceStr_rel ht (opd_rel hr hy) (opt_ORel hr hl) (opt_ORel hr hh) h)
  rw [sliceStrK_bind]; exact he
theorem op_sliceS (hs : SRel Γ base κ H w) (hr : RRel κ r a) {t e : TypeId} {x : Operand} {lo hi mx : Option Operand} {y : Opd} {lo' hi' mx' : Option Opd} (hy : compOpd x = some y) (hl : compOpt lo = some lo') (hh : compOpt hi = some hi') (hm : compOpt mx = some mx') (ht : Γ.P.underlying t = some (.slice e)) {n : Nat} (hn : sizeT Γ.P e = some n)
    (hop : o.op = .slice t x lo hi mx) (he : opK (.sliceS n y lo' hi' mx') r H (fun v h => some (v, h)) = some (v, H')) : OpOK Γ base κ H w o a v H' := by
  simp only [opK] at he
  refine op_slice hop (RunOK.keep hs (x := sliceSK n (y.ev r) (lo'.map (Opd.ev r)) (hi'.map (Opd.ev r)) (mx'.map (Opd.ev r)) some) ?_ fun h => sliceS_rel ht hn (opd_rel hr hy) (opt_ORel hr hl) (opt_ORel hr hh) (opt_ORel hr hm) h)
  rw [sliceSK_bind]; exact he
theorem op_sliceA (hs : SRel Γ base κ H w) (hr : RRel κ r a) {t e : TypeId} {x : Operand} {lo hi : Option Operand} {y : Opd} {lo' hi' : Option Opd} (hy : compOpd x = some y) (hl : compOpt lo = some lo') (hh : compOpt hi = some hi') {len n : Nat} (ht : Γ.P.underlying t = some (.array len e)) (hn : sizeT Γ.P e = some n)
    (hop : o.op = .slice t x lo hi none) (he : opK (.sliceA len n y lo' hi') r H (fun v h => some (v, h)) = some (v, H')) : OpOK Γ base κ H w o a v H' := by
  simp only [opK] at he
  have h1 := opd_rel hr hy
  split at he
  · rename_i id off hm
    rw [hm] at h1
    refine op_slice hop (RunOK.keep hs (x := boundK (hi'.map (Opd.ev r)) len len fun hb => boundK (lo'.map (Opd.ev r)) 0 hb fun l => needK (Nat.blt l len || Nat.beq l 0) (some (AV.hs n id (addO off (mulE l n)) (hb - l) (len - l)))) ?_ fun h => sliceA_rel ht hn h1 (opt_ORel hr hl) (opt_ORel hr hh) h)
    simp only [boundK_bind, needK_bind, Option.bind_some]; exact he
  · cases he
theorem toArrK_eq {n : Nat} {y : Opd} {F : AV → Heap → Option (AV × Heap)} : opK (.toArr n y) r H F = (toArrV n (y.ev r)).bind fun v => F v H := by
  simp only [opK, toArrV]
  generalize y.ev r = u
  cases u <;> (try rfl) <;> (try simp only [needK_bind, Option.bind_some, Option.bind_none])
  rename_i p
  cases p <;> (try rfl)
  rename_i e _ _
  cases e <;> simp only [needK_bind, Option.bind_some, Option.bind_none]
theorem op_toArr (hs : SRel Γ base κ H w) (hr : RRel κ r a) {t e : TypeId} {x : Operand} {y : Opd} (hy : compOpd x = some y) {n : Nat} (ht : Γ.P.underlying t = some (.array n e)) (hop : o.op = .sliceToArrayPointer t x)
    (he : opK (.toArr n y) r H (fun v h => some (v, h)) = some (v, H')) : OpOK Γ base κ H w o a v H' := by
  have h1 := opd_rel hr hy
  refine RunOK.op (s := Instr.arrayAt t (a.eval x)) (by simp only [execOp, hop]) (RunOK.keep hs (x := toArrV n (y.ev r)) ?_ fun h => toArr_rel ht h1 h)
  rw [toArrK_eq] at he; exact he

theorem op_mkFn (hs : SRel Γ base κ H w) (hr : RRel κ r a) {f : FuncId} {p q : Array Operand} {x y : List Opd} (hx : compOpds p.toList = some x) (hy : compOpds q.toList = some y) (hop : o.op = .makeFunc (.func f) p q)
    (he : opK (.mkFn f x y) r H (fun v h => some (v, h)) = some (v, H')) : OpOK Γ base κ H w o a v H' := by
  simp only [opK] at he
  have h1 := opds_rel hr hx
  have h2 := opds_rel hr hy
  have hrun : (Instr.makeFunc (.func f) (p.map a.eval) (q.map a.eval)).run Γ.P w = .ok (.func (.func f) (p.toList.map a.eval).toArray (q.toList.map a.eval).toArray) w := by
    simp only [Instr.makeFunc, Sem.run_pure]
    congr 2 <;> apply Array.ext' <;> simp
  refine RunOK.op (s := Instr.makeFunc (.func f) (p.map a.eval) (q.map a.eval)) (by simp only [execOp, hop]) ?_
  split at he
  · rename_i as bs ha hb
    injection he with he; injection he with e1 e2; subst e1; subst e2
    rw [allPV_eq ha] at h1
    rw [allPV_eq hb] at h2
    exact RunOK.same hs ⟨_, hrun, .pv _ _ (.fn _ _ _ _ _ h1.to_pv h2.to_pv)⟩
  · injection he with he; injection he with e1 e2; subst e1; subst e2
    exact RunOK.same hs ⟨_, hrun, .fn _ _ _ _ _ h1 h2⟩

theorem op_mkSlice (hs : SRel Γ base κ H w) (hr : RRel κ r a) {t e : TypeId} (ht : Γ.P.underlying t = some (.slice e)) {x z : Operand} {y q : Opd} (hy : compOpd x = some y) (hq : compOpd z = some q) {zp : List PV} (hz : zeroT Γ.P e = some zp) {i : TypeInfo} (hi : Γ.P.info? e = some i) (hby : i.bytes ≤ 256)
    {mu : Bool} (hop : o.op = .makeSlice t x z) (he : opK (.mkSlice mu i.size zp y q) r H (fun v h => some (v, h)) = some (v, H')) : OpOK Γ base κ H w o a v H' := by
  simp only [opK] at he
  have h1 := opd_rel hr hy
  have h2 := opd_rel hr hq
  refine RunOK.op (s := Instr.makeSlice t (a.eval x) (a.eval z)) (by simp only [execOp, hop]) ?_
  split at he
  · rename_i k l k' c hm hm2
    rw [hm] at h1; rw [int_rel h1]
    rw [hm2] at h2; rw [int_rel h2]
    obtain ⟨hc, he⟩ := needK_inv he
    simp only [Bool.and_eq_true, decide_eq_true_eq] at hc
    rw [eqK_def] at he
    obtain ⟨cs, g1, g2, g3⟩ := mkSlice_rel (Γ := Γ) (κ := κ) (w := w) ht hi hz hby (k := k) (k' := k') hc.1.1 hc.1.2 hc.2
    have hlc : l.toNat ≤ c.toNat := by omega
    cases mu with
    | true =>
      simp only [cond_true] at he
      injection he with he; injection he with e1 e2; subst e1; subst e2
      have := hs.newP _ cs [] e g1 g2
      simp only [List.append_nil] at this
      exact ⟨_, _, _, g3, .hs _ _ _ _ _ _ _ (K.at_same _ _ _) hlc (Nat.le_refl _), this.1, this.2⟩
    | false =>
      simp only [cond_false] at he
      obtain ⟨hd, he⟩ := needK_inv he
      have hlc : l = c := by simpa using hd
      subst hlc
      injection he with he; injection he with e1 e2; subst e1; subst e2
      obtain ⟨k1, k2, k3⟩ := hs.newRow cs e (0, 0)
      exact ⟨_, _, _, g3, .pv _ _ (.sl _ _ _ _ _ cs (by simp) (fun _ => rfl) (Nat.le_refl _) (g1.mono (κ.le_keep _ _ _).imm) k3 g2), k1, k2⟩
  · cases he

theorem lget_eq {α : Type} (l : List α) (i : Nat) : lget l i = l[i]? := by
  induction l generalizing i with
  | nil => rfl
  | cons b l ih => cases i with
    | zero => rfl
    | succ i => simpa [lget] using ih i
theorem op_extract (hs : SRel Γ base κ H w) (hr : RRel κ r a) {x : Operand} {y : Opd} (hy : compOpd x = some y) {i : Nat} (hop : o.op = .extract x i)
    (he : opK (.extract i y) r H (fun v h => some (v, h)) = some (v, H')) : OpOK Γ base κ H w o a v H' := by
  simp only [opK] at he
  have h1 := opd_rel hr hy
  refine RunOK.op (s := Instr.extract (a.eval x) i) (by simp only [execOp, hop]) ?_
  generalize a.eval x = vx at h1
  split at he
  · rename_i l hm
    rw [hm] at h1
    cases hp : lget l i with
    | none => rw [hp] at he; cases he
    | some p =>
      rw [hp] at he; simp only at he
      injection he with he; injection he with e1 e2; subst e1; subst e2
      cases h1 with
      | pv _ _ h1 => cases h1 with
        | tup _ us g1 =>
          have hp' : l[i]? = some p := by rw [← lget_eq]; exact hp
          obtain ⟨u, hu, hr'⟩ := g1.get hp'
          exact RunOK.same hs ⟨u, by simp [Instr.extract, hu], .pv _ _ hr'⟩
  · rename_i l hm
    rw [hm] at h1
    cases hp : lget l i with
    | none => rw [hp] at he; cases he
    | some p =>
      rw [hp] at he; simp only at he
      injection he with he; injection he with e1 e2; subst e1; subst e2
      cases h1 with
      | tup _ us g1 =>
        obtain ⟨u, hu, hr'⟩ := g1.get hp
        exact RunOK.same hs ⟨u, by simp [Instr.extract, hu], hr'⟩
  · cases he

theorem op_builtin {b : Builtin} {args : Array Operand} {ts : Array TypeId} {s : Sem Value} {c : Call} (hop : o.op = .call c) (hc : c = ⟨.builtin b, args, ts⟩) (hb : ∀ consts, builtin b ts o.type consts (args.map a.eval) = (do pure (.value (← s)))) (h : RunOK Γ base κ H w s v H') : OpOK Γ base κ H w o a v H' := by
  subst hc
  refine RunOK.op (s := s) ?_ h
  simp only [execOp, hop, resolve, pure_bind, invoke]
  exact hb _

theorem vlist1 {κ : K} {x : AV} {vs : List Value} (h : VRels κ [x] vs) : ∃ v, vs = [v] ∧ VRel κ x v := by
  cases h with | cons _ v _ _ h1 h2 => cases h2; exact ⟨v, rfl, h1⟩
theorem vlist2 {κ : K} {x y : AV} {vs : List Value} (h : VRels κ [x, y] vs) : ∃ v u, vs = [v, u] ∧ VRel κ x v ∧ VRel κ y u := by
  cases h with | cons _ v _ _ h1 h2 => obtain ⟨u, rfl, h3⟩ := vlist1 h2; exact ⟨v, u, rfl, h1, h3⟩
theorem map_toArray {α β : Type} (f : α → β) (xs : Array α) : xs.map f = (xs.toList.map f).toArray := by apply Array.ext'; simp

theorem ofStr_true {x : AV} (h : ofStr true x = true) : ∃ s, x = .pv (.str s) := by
  unfold ofStr at h
  split at h
  · exact ⟨_, rfl⟩
  · simp_all
theorem ofStr_false {x : AV} (h : ofStr false x = true) : ∀ s, x ≠ .pv (.str s) := by
  intro s e
  subst e
  simp [ofStr] at h
theorem not_str {κ : K} {x : AV} {v : Value} (h : VRel κ x v) (hx : ∀ s, x ≠ .pv (.str s)) : ¬ ∃ b, v = .string b := by
  rintro ⟨b, rfl⟩
  cases h with | pv p _ hp => cases hp with | str s => exact hx _ rfl

/-- Built-in calls. -/
theorem op_callB (hs : SRel Γ base κ H w) (hr : RRel κ r a) {args : Array Operand} {ts : Array TypeId} {b : Builtin} (hop : o.op = .call ⟨.builtin b, args, ts⟩) {vo : VOp} {xs : List Opd} (hx : compOpds args.toList = some xs)
    {mu : Bool} (hc : compBuiltin Γ.P mu b xs ts.toList = some vo)
    (he : opK vo r H (fun v h => some (v, h)) = some (v, H')) : OpOK Γ base κ H w o a v H' := by
  have hargs := opds_rel hr hx
  clear hx
  unfold compBuiltin at hc
  have ham : args.map a.eval = (args.toList.map a.eval).toArray := map_toArray _ _
  have tsof : ∀ l, ts.toList = l → ts = l.toArray := fun l h => by rw [← h]
  split at hc
  · rename_i x t hts
    obtain ⟨vx, hvx, hrx⟩ := vlist1 hargs
    have hfin : ∀ n : Nat, (Builtin.len_ #[t] o.type #[vx]).run Γ.P w = .ok (goInt n) w → v = .pv (.int .i64 n) → H' = H → OpOK Γ base κ H w o a v H' := by
      intro n hrun e1 e2
      subst e1; subst e2
      refine op_builtin (s := Builtin.len_ #[t] o.type #[vx]) hop rfl (fun consts => by rw [ham, hvx, tsof _ hts]; rfl) (RunOK.same hs ⟨_, hrun, ?_⟩)
      exact .pv _ _ (.int _ _)
    split at hc
    · rename_i hu
      injection hc with hc; subst hc
      simp only [opK] at he
      split at he
      · rename_i s hm
        have hrx : VRel κ (x.ev r) vx := hrx
        rw [hm] at hrx
        injection he with he; injection he with e1 e2
        rw [str_rel hrx] at hfin
        exact hfin s.size (by simp [Builtin.len_, run_underlying hu]) e1.symm e2.symm
      · cases he
    · rename_i e hu
      injection hc with hc; subst hc
      simp only [opK] at he
      cases hn : lenOfS (x.ev r) with
      | none => rw [hn] at he; cases he
      | some n =>
        rw [hn] at he; simp only at he
        injection he with he; injection he with e1 e2
        have hrx : VRel κ (x.ev r) vx := hrx
        have hvs : ∃ ad cap, vx = .slice ad n cap := by
          generalize x.ev r = u at hrx hn
          cases hrx with
          | pv p _ hp => cases hp <;> simp [lenOfS] at hn
                         · subst hn; exact ⟨_, _, rfl⟩
                         · subst hn; exact ⟨_, _, rfl⟩
          | tsl => simp [lenOfS] at hn; subst hn; exact ⟨_, _, rfl⟩
          | hs => simp [lenOfS] at hn; subst hn; exact ⟨_, _, rfl⟩
          | _ => simp [lenOfS] at hn
        obtain ⟨ad, cap, hvs⟩ := hvs
        exact hfin n (by rw [hvs]; simp [Builtin.len_, run_underlying hu]) e1.symm e2.symm
    · rename_i n e hu
      injection hc with hc; subst hc
      simp only [opK, Opd.ev] at he
      injection he with he; injection he with e1 e2
      exact hfin n (by simp [Builtin.len_, run_underlying hu]) e1.symm e2.symm
    · rename_i p hu
      split at hc
      · rename_i n e hu2
        injection hc with hc; subst hc
        simp only [opK, Opd.ev] at he
        injection he with he; injection he with e1 e2
        exact hfin n (by simp [Builtin.len_, run_underlying hu, run_underlying hu2]) e1.symm e2.symm
      · cases hc
    · cases hc
  · rename_i s x t u hts
    obtain ⟨vs, vx, hvs, hrs, hrx⟩ := vlist2 hargs
    split at hc
    · rename_i e ku ht hu
      split at hc
      · rename_i i z hi hz
        cases hcond : (Nat.blt 0 i.bytes && (Nat.blt 0 i.size && Nat.ble i.bytes 256)) with
        | false => rw [hcond] at hc; cases hc
        | true =>
          rw [hcond] at hc; simp only [cond_true] at hc
          injection hc with hc; subst hc
          rw [Bool.and_eq_true, Bool.and_eq_true] at hcond
          simp only [opK] at he
          split at he
          · rename_i kx l hm
            have hrx : VRel κ (x.ev r) vx := hrx
            rw [hm] at hrx
            have hvx := int_rel hrx
            refine op_builtin (s := Builtin.append_ #[t, u] o.type #[vs, vx]) hop rfl (fun consts => by rw [ham, hvs, tsof _ hts]; rfl) ?_
            rw [hvx]
            cases mu with
            | false =>
              simp only at he
              obtain ⟨hc2, he⟩ := needK_inv he
              rw [Bool.and_eq_true] at hc2
              rw [eqK_def, appS_def] at he
              exact append_zero_rel hs ht hu hi hz (blt_lt hcond.1) (blt_lt hcond.2.1) (Nat.le_of_ble_eq_true hcond.2.2) hrs (of_decide_eq_true hc2.1) (of_decide_eq_true hc2.2) he
            | true =>
              simp only at he
              split at he
              · rename_i ext n cs hms
                have hq := needK_inv he
                clear he
                obtain ⟨hc2, he⟩ := hq
                simp only [Bool.and_eq_true] at hc2
                obtain ⟨⟨⟨⟨⟨q1, q2⟩, q3⟩, q4⟩, q5⟩, q6⟩ := hc2
                have hrs : VRel κ (s.ev r) vs := hrs
                rw [hms] at hrs
                have hn0 := Nat.eq_of_beq_eq_true q4
                subst hn0
                have hcs := List.eq_nil_of_length_eq_zero (Nat.eq_of_beq_eq_true q5)
                subst hcs
                injection he with he; injection he with e1 e2
                subst e1; subst e2
                have q6' : (0 + l.toNat) * i.bytes ≤ mostBytes := Nat.le_of_ble_eq_true q6
                exact append_room_rel hs ht hu hi hz (blt_lt hcond.1) (blt_lt hcond.2.1) (Nat.le_of_ble_eq_true hcond.2.2) hrs (of_decide_eq_true q1) (of_decide_eq_true q2) (by simpa using q3) q6'
              · cases he
          · cases he
      · cases hc
    · rename_i e d _ ht hu
      split at hc
      · rename_i i z b hi hz hd
        cases hcond : (Nat.blt 0 i.bytes && (!b || Nat.beq i.size 1)) with
        | false => rw [hcond] at hc; cases hc
        | true =>
          rw [hcond] at hc; simp only [cond_true] at hc
          injection hc with hc; subst hc
          rw [Bool.and_eq_true] at hcond
          simp only [opK] at he
          cases hstr : ofStr b (x.ev r) with
          | false => rw [hstr] at he; cases he
          | true =>
            rw [hstr] at he; simp only [cond_true] at he
            have hdd : d = .string ∨ ∃ e', d = .slice e' := by
              cases d <;> simp [strT] at hd
              · exact .inl rfl
              · exact .inr ⟨_, rfl⟩
            have hd1 : d = .string → i.size = 1 := by
              intro e; subst e
              simp [strT] at hd; subst hd
              simpa using hcond.2
            refine op_builtin (s := Builtin.append_ #[t, u] o.type #[vs, vx]) hop rfl (fun consts => by rw [ham, hvs, tsof _ hts]; rfl) ?_
            rw [appS_def] at he
            refine append_rel hs ht hu hdd hi hz (blt_lt hcond.1) hd1 hrs hrx ⟨?_, ?_⟩ he
            · rintro ⟨q, rfl⟩
              rcases hdd with h | ⟨e', rfl⟩
              · exact h
              · simp [strT] at hd; subst hd
                exact absurd ⟨q, rfl⟩ (not_str hrx (ofStr_false hstr))
            · intro hno
              rcases hdd with rfl | h
              · simp [strT] at hd; subst hd
                obtain ⟨q, hq⟩ := ofStr_true hstr
                have hrx : VRel κ (x.ev r) vx := hrx
                rw [hq] at hrx
                exact absurd ⟨q, str_rel hrx⟩ hno
              · exact h
      · cases hc
    · cases hc
  · rename_i x t hts
    obtain ⟨vx, hvx, hrx⟩ := vlist1 hargs
    split at hc
    · rename_i e hu
      injection hc with hc; subst hc
      simp only [opK] at he
      split at he
      · rename_i ext n cs hm
        have hrx : VRel κ (x.ev r) vx := hrx
        rw [hm] at hrx
        cases hext : ext.noApp with
        | true => rw [hext] at he; cases he
        | false =>
          rw [hext] at he; simp only [cond_false] at he
          injection he with he; injection he with e1 e2
          subst e1; subst e2
          have hvs : ∃ ad, vx = .slice ad n n := by
            cases hrx with
            | pv p _ hp =>
              cases hp with
              | slNil => exact ⟨none, rfl⟩
              | sl _ _ _ a cap us h1 h2 h3 h4 h5 h6 =>
                have hcap : cap = n := by
                  cases ext with
                  | unk => cases hext
                  | nn => cases hext
                  | exact => exact h2 (.inl rfl)
                  | nnx => exact h2 (.inr rfl)
                  | nil => exact absurd rfl h1
                exact ⟨some a, by rw [hcap]⟩
          obtain ⟨ad, hvs⟩ := hvs
          refine op_builtin (s := Builtin.cap_ #[t] o.type #[vx]) hop rfl (fun consts => by rw [ham, hvx, tsof _ hts]; rfl) (RunOK.same hs ⟨.int .i64 n, by rw [hvs]; simp [Builtin.cap_, run_underlying hu, goInt], .pv _ _ (.int _ _)⟩)
      · cases he
    · cases hc
  · rename_i d s t u hts
    obtain ⟨vd, vs, hvs, hrd, hrs⟩ := vlist2 hargs
    split at hc
    · rename_i e d' ht hu
      split at hc
      · rename_i n b hn hd
        cases hcond : (!b || Nat.beq n 1) with
        | false => rw [hcond] at hc; cases hc
        | true =>
          rw [hcond] at hc; simp only [cond_true] at hc
          injection hc with hc; subst hc
          simp only [opK] at he
          cases hstr : ofStr b (s.ev r) with
          | false => rw [hstr] at he; cases he
          | true =>
            rw [hstr] at he; simp only [cond_true] at he
            refine op_builtin (s := Builtin.copy_ #[t, u] o.type #[vd, vs]) hop rfl (fun consts => by rw [ham, hvs, tsof _ hts]; rfl) ?_
            refine copy_rel hs ht hn hrd hrs ?_ he
            rintro ⟨q, rfl⟩
            cases b with
            | true => simpa using hcond
            | false => exact absurd ⟨q, rfl⟩ (not_str hrs (ofStr_false hstr))
      · cases hc
    · cases hc
  · rename_i l ts' hl
    split at hc
    · rename_i y ys
      injection hc with hc; subst hc
      simp only [opK] at he
      split at he
      · rename_i k n l hm
        rw [hm] at hargs
        cases hvs : args.toList.map a.eval with
        | nil => rw [hvs] at hargs; cases hargs
        | cons v0 vs0 =>
          rw [hvs] at hargs
          cases hargs with
          | cons _ _ _ _ g1 g2 =>
            rw [int_rel g1] at hvs
            refine op_builtin (s := Builtin.min_ ts o.type (Value.int k n :: vs0).toArray) hop rfl (fun consts => by rw [ham, hvs]; rfl) (RunOK.keep hs (x := minmaxK false n k l fun p => some (AV.pv p)) ?_ fun h => ?_)
            · rw [minmaxK_bind]; exact he
            · simpa [Builtin.min_] using minmax_rel (Γ := Γ) (w := w) false l vs0 k n v g2 h
      · cases he
    · cases hc
  · rename_i l ts' hl
    split at hc
    · rename_i y ys
      injection hc with hc; subst hc
      simp only [opK] at he
      split at he
      · rename_i k n l hm
        rw [hm] at hargs
        cases hvs : args.toList.map a.eval with
        | nil => rw [hvs] at hargs; cases hargs
        | cons v0 vs0 =>
          rw [hvs] at hargs
          cases hargs with
          | cons _ _ _ _ g1 g2 =>
            rw [int_rel g1] at hvs
            refine op_builtin (s := Builtin.max_ ts o.type (Value.int k n :: vs0).toArray) hop rfl (fun consts => by rw [ham, hvs]; rfl) (RunOK.keep hs (x := minmaxK true n k l fun p => some (AV.pv p)) ?_ fun h => ?_)
            · rw [minmaxK_bind]; exact he
            · simpa [Builtin.max_] using minmax_rel (Γ := Γ) (w := w) true l vs0 k n v g2 h
      · cases he
    · cases hc
  · cases hc
end
end Go.VM

namespace Go.VM
open Go

section
variable {Γ : Ctx} {base : Nat} {κ : K} {H H' : Heap} {w : World} {o : Oper} {a : Act} {v : AV} {r : Regs}

theorem aggT_false {P : Program} {t : TypeId} {d : TypeDesc} (h : P.underlying t = some d) (h1 : ∀ f, d ≠ .struct f) (h2 : ∀ n e, d ≠ .array n e) : aggT P t = some false := by
  unfold aggT; rw [h]
  cases d <;> first | rfl | exact absurd rfl (h1 _) | exact absurd rfl (h2 _ _)

theorem op_sound {mu : Mu} {vo : VOp} (hs : SRel Γ base κ H w) (hr : RRel κ r a) (hc : compOp Γ.P mu o.op = some vo) (he : opK vo r H (fun v h => some (v, h)) = some (v, H')) : OpOK Γ base κ H w o a v H' := by
  generalize hop : o.op = op at hc
  cases op with
  | move x =>
    obtain ⟨muw, mum⟩ := mu
    simp only [compOp] at hc
    cases muw
    · obtain ⟨y, hy, rfl⟩ := map_some hc
      exact op_move hs hr hy (by simp only [execOp, hop]) he
    · obtain ⟨y, hy, rfl⟩ := map_some hc
      exact op_settle hs hr hy (by simp only [execOp, hop]) he
  | assign x =>
    obtain ⟨muw, mum⟩ := mu
    simp only [compOp] at hc
    cases muw
    · obtain ⟨y, hy, rfl⟩ := map_some hc
      exact op_move hs hr hy (by simp only [execOp, hop]) he
    · obtain ⟨y, hy, rfl⟩ := map_some hc
      exact op_settle hs hr hy (by simp only [execOp, hop]) he
  | pick c x y =>
    simp only [compOp] at hc
    split at hc
    · rename_i c' x' y' h1 h2 h3
      injection hc with hc; subst hc
      exact op_pick hs hr h1 h2 h3 hop he
    · cases hc
  | alloc t =>
    obtain ⟨y, hy, rfl⟩ := map_some hc
    exact op_alloc hs hy hop he
  | box t x =>
    obtain ⟨y, hy, rfl⟩ := map_some hc
    exact op_box hs hr hy hop he
  | build t parts =>
    simp only [compOp] at hc
    split at hc
    · rename_i z fs hz hu
      cases hall : fs.toList.all (fun f => (sizeT Γ.P f.type).isSome) with
      | false => rw [hall] at hc; cases hc
      | true =>
        rw [hall] at hc; simp only [cond_true] at hc
        obtain ⟨ps, hps, rfl⟩ := map_some hc
        exact op_build hs hr hz _ (.inl ⟨fs, hu, fun f hf => List.all_eq_true.1 hall f hf, rfl⟩) hps hop he
    · rename_i z len e hz hu
      split at hc
      · rename_i n hn
        obtain ⟨ps, hps, rfl⟩ := map_some hc
        exact op_build hs hr hz _ (.inr ⟨len, e, n, hu, hn, rfl⟩) hps hop he
      · cases hc
    · cases hc
  | buildSlice t len parts =>
    simp only [compOp] at hc
    split at hc
    · rename_i e hu
      split at hc
      · rename_i z n hz hn
        cases hb : (Nat.ble (len * n) 16777216 && Nat.blt 0 n) with
        | false => rw [hb] at hc; cases hc
        | true =>
          rw [hb] at hc; simp only [cond_true] at hc
          rw [Bool.and_eq_true] at hb
          obtain ⟨ps, hps, rfl⟩ := map_some hc
          exact op_buildSlice hs hr hu hz hn (Nat.le_of_ble_eq_true hb.1) (blt_lt hb.2) hps hop he
      · cases hc
    · cases hc
  | load t x =>
    simp only [compOp] at hc
    split at hc
    · rename_i y n g hy hn hg
      injection hc with hc; subst hc
      cases g with
      | true => exact op_loadN hs hr hy hg hn hop he
      | false => exact op_load1 hs hr hy hg hop he
    · cases hc
  | store t x z =>
    simp only [compOp] at hc
    split at hc
    · rename_i y u n hy hu hn
      split at hc
      · rename_i g hg
        cases g with
        | true =>
          simp only [cond_true] at hc
          injection hc with hc; subst hc
          exact op_storeN hs hr hy hu hn hop he
        | false =>
          simp only [cond_false] at hc
          cases hb : Nat.beq n 1 with
          | false => rw [hb] at hc; cases hc
          | true =>
            rw [hb] at hc; simp only [cond_true] at hc
            injection hc with hc; subst hc
            have := Nat.eq_of_beq_eq_true hb
            subst this
            exact op_store1 hs hr hy hu hn hop he
      · cases hc
    · cases hc
  | nilCheck x =>
    obtain ⟨y, hy, rfl⟩ := map_some hc
    exact op_nilCheck hs hr hy hop he
  | binOp op t x z u =>
    simp only [compOp] at hc
    split at hc
    · rename_i y q hy hq
      split at hc
      · rename_i fs hu
        split at hc
        · rename_i sh hsh
          cases hg : Γ.P.eqGuardType Γ.P.depth t with
          | true => rw [hg] at hc; cases hc
          | false =>
            rw [hg] at hc
            injection hc with hc; subst hc
            exact op_binAgg hs hr hy hq hsh (by simp [aggT, hu]) hg hop he
        · cases hc
      · rename_i len e hu
        split at hc
        · rename_i sh hsh
          cases hg : Γ.P.eqGuardType Γ.P.depth t with
          | true => rw [hg] at hc; cases hc
          | false =>
            rw [hg] at hc
            injection hc with hc; subst hc
            exact op_binAgg hs hr hy hq hsh (by simp [aggT, hu]) hg hop he
        · cases hc
      · injection hc with hc; subst hc
        exact op_binNum hs hr hy hq hop he
      · injection hc with hc; subst hc
        exact op_binNum hs hr hy hq hop he
      · rename_i hu
        injection hc with hc; subst hc
        exact op_binBool hs hr hy hq hu hop he
      · rename_i e hu
        injection hc with hc; subst hc
        exact op_binNil (k := .ptr) hs hr hy hq ⟨fun _ => ⟨e, hu⟩, (nomatch ·), (nomatch ·), (nomatch ·)⟩ (.inl rfl) hop he
      · rename_i e hu
        injection hc with hc; subst hc
        exact op_binNil (k := .sl) hs hr hy hq ⟨(nomatch ·), fun _ => ⟨e, hu⟩, (nomatch ·), (nomatch ·)⟩ (.inr (.inl rfl)) hop he
      · rename_i e f hu
        injection hc with hc; subst hc
        exact op_binNil (k := .map) hs hr hy hq ⟨(nomatch ·), (nomatch ·), fun _ => ⟨e, f, hu⟩, (nomatch ·)⟩ (.inr (.inr (.inl rfl))) hop he
      · rename_i e f g hu
        injection hc with hc; subst hc
        exact op_binNil (k := .fn) hs hr hy hq ⟨(nomatch ·), (nomatch ·), (nomatch ·), fun _ => ⟨e, f, g, hu⟩⟩ (.inr (.inr (.inr rfl))) hop he
      · cases hc
    · cases hc
  | unOp op t x =>
    obtain ⟨y, hy, rfl⟩ := map_some hc
    exact op_un hs hr hy hop he
  | convert s d x =>
    simp only [compOp] at hc
    split at hc
    · rename_i y ks k hy h1 h2
      injection hc with hc; subst hc
      exact op_conv hs hr hy h1 h2 hop he
    · rename_i y hy h1 h2
      injection hc with hc; subst hc
      exact op_ident hs hr hy h1 h2 hop he
    · rename_i y e hy h1 h2
      split at hc
      · rename_i h3
        rw [Bool.cond_eq_ite] at hc
        split at hc
        · injection hc with hc; subst hc
          exact op_strOf hs hr hy h1 h2 h3 hop he
        · injection hc with hc; subst hc
          exact op_strOfP hs hr hy h1 h2 h3 hop he
      · cases hc
    · rename_i y e hy h1 h2
      split at hc
      · rename_i h3
        injection hc with hc; subst hc
        exact op_bytesOf hs hr hy h1 h2 h3 hop he
      · cases hc
    · rename_i y e' e hy h1 h2
      split at hc
      · rename_i h3
        cases hb : Nat.beq s d with
        | false => rw [hb] at hc; cases hc
        | true =>
          rw [hb] at hc; simp only [cond_true] at hc
          injection hc with hc; subst hc
          exact op_freeze hs hr hy h1 h2 h3 (Nat.eq_of_beq_eq_true hb) hop he
      · cases hc
    · cases hc
  | sliceToArrayPointer t x =>
    simp only [compOp] at hc
    split at hc
    · rename_i y n e hy hu
      injection hc with hc; subst hc
      exact op_toArr hs hr hy hu hop he
    · cases hc
  | makeFunc f p q =>
    cases f with
    | func f =>
      simp only [compOp] at hc
      split at hc
      · rename_i x y hx hy
        injection hc with hc; subst hc
        exact op_mkFn hs hr hx hy hop he
      · cases hc
    | _ => simp [compOp] at hc
  | makeSlice t x z =>
    simp only [compOp] at hc
    split at hc
    · rename_i e y q hu hy hq
      split at hc
      · rename_i zp i hz hi
        cases hb : (Nat.blt 0 i.size && Nat.ble i.bytes 256) with
        | false => rw [hb] at hc; cases hc
        | true =>
          rw [hb] at hc; simp only [cond_true] at hc
          rw [Bool.and_eq_true] at hb
          injection hc with hc; subst hc
          exact op_mkSlice hs hr hu hy hq hz hi (Nat.le_of_ble_eq_true hb.2) hop he
      · cases hc
    · cases hc
  | slice t x lo hi mx =>
    simp only [compOp] at hc
    split at hc
    · rename_i y lo' hi' mx' hy hl hh hm
      split at hc
      · rename_i hu
        cases mx' with
        | some _ => cases hc
        | none =>
          injection hc with hc; subst hc
          cases mx with
          | some q =>
            obtain ⟨_, _, h⟩ := map_some hm
            cases h
          | none => exact op_sliceStr hs hr hy hl hh hu hop he
      · rename_i e hu
        split at hc
        · rename_i n hn
          injection hc with hc; subst hc
          exact op_sliceS hs hr hy hl hh hm hu hn hop he
        · cases hc
      · rename_i len e hu
        split at hc
        · rename_i n hn
          injection hc with hc; subst hc
          cases mx with
          | some q =>
            obtain ⟨_, _, h⟩ := map_some hm
            cases h
          | none => exact op_sliceA hs hr hy hl hh hu hn hop he
        · cases hc
      · cases hc
    · cases hc
  | fieldAddr t x i =>
    simp only [compOp] at hc
    split at hc
    · rename_i y fs hy hu
      split at hc
      · rename_i f hf
        split at hc
        · rename_i n hn
          cases hb : Nat.beq n 0 with
          | true => rw [hb] at hc; cases hc
          | false =>
            rw [hb] at hc; simp only [cond_false] at hc
            injection hc with hc; subst hc
            exact op_fieldAddr hs hr hy hu hf hn hb hop he
        · cases hc
      · cases hc
    · cases hc
  | field t x i =>
    simp only [compOp] at hc
    split at hc
    · rename_i y fs hy hu
      split at hc
      · rename_i f hf
        split at hc
        · rename_i n g hn hg
          injection hc with hc; subst hc
          cases g with
          | true => exact op_fieldN hs hr hy hu hf hn hg hop he
          | false => exact op_field1 hs hr hy hu hf hg hop he
        · cases hc
      · cases hc
    · cases hc
  | indexAddr t x i =>
    simp only [compOp] at hc
    split at hc
    · rename_i y q len e hy hq hu
      obtain ⟨n, hn, rfl⟩ := map_some hc
      exact op_idxAddrA hs hr hy hq hu hn hop he
    · rename_i y q e hy hq hu
      obtain ⟨n, hn, rfl⟩ := map_some hc
      exact op_idxAddrS hs hr hy hq hu hn hop he
    · cases hc
  | index t x i =>
    simp only [compOp] at hc
    split at hc
    · rename_i y q len e hy hq hu
      split at hc
      · rename_i n hn
        split at hc
        · rename_i g hg
          cases g with
          | true =>
            simp only [cond_true] at hc
            injection hc with hc; subst hc
            exact op_idxAN hs hr hy hq hu hn hg hop he
          | false =>
            simp only [cond_false] at hc
            cases hb : Nat.beq n 1 with
            | false => rw [hb] at hc; cases hc
            | true =>
              rw [hb] at hc; simp only [cond_true] at hc
              injection hc with hc; subst hc
              have := Nat.eq_of_beq_eq_true hb
              subst this
              exact op_idxA1 hs hr hy hq hu hn hg hop he
        · cases hc
      · cases hc
    · rename_i y q hy hq hu
      injection hc with hc; subst hc
      exact op_idxStr hs hr hy hq hu hop he
    · cases hc
  | extract x i =>
    obtain ⟨y, hy, rfl⟩ := map_some hc
    exact op_extract hs hr hy hop he
  | call c =>
    obtain ⟨callee, args, ts⟩ := c
    simp only [compOp] at hc
    split at hc
    · rename_i xs hx
      split at hc
      · rename_i f
        split at hc
        · rename_i fn hfn
          cases hb : (fn.body.isSome && fn.name != "runtime.NumGoroutine") with
          | false => rw [hb] at hc; cases hc
          | true =>
            rw [hb] at hc; simp only [cond_true] at hc
            injection hc with hc; subst hc
            cases he
        · cases hc
      · obtain ⟨f, _, rfl⟩ := map_some hc
        cases he
      · exact op_callB hs hr hop hx hc he
      · cases hc
    · cases hc
  | _ => simp [compOp] at hc
end
end Go.VM

namespace Go.VM
open Go

/-- The fence that lets everything in, for activations or for rounds. -/
def wideR (ro : Option Nat) : Fence := { Fence.wide with round := ro }

section
variable {Γ : Ctx}

/-- What a call leaves. -/
def Out (Γ : Ctx) (base : Nat) (κ : K) (H : Heap) (w : World) (v : AV) (H' : Heap) : Ending → World → Prop
  | .returned v', w' => ∃ κ', VRel κ' v v' ∧ SRel Γ base κ' H' w' ∧ Grow κ H w κ' H' w'
  | _, _ => False

def FnOK (P : Program) (f : FuncId) : Prop := ∃ fn, P.funcs[f]? = some fn ∧ fn.body.isSome = true ∧ (fn.name == "runtime.NumGoroutine") = false

/-- An oracle that tells what the model's calls do. -/
structure OrcOK (Γ : Ctx) (E : Orc) : Prop where
  ok : ∀ f args H v H', E (.fn f) args H = some (v, H') → FnOK Γ.P f
  fn : ∀ f args H v H', E (.fn f) args H = some (v, H') → ∀ base κ w vs, SRel Γ base κ H w → VRels κ args vs → CallsIn Fence.wide 0 Γ.P f vs.toArray w (Out Γ base κ H w v H')
  yield : ∀ id args H v H', E (.yield id) args H = some (v, H') → ∀ base κ w vs k, SRel Γ base κ H w → VRels κ args vs → κ.loc id = some k →
    ∃ f tmps asg body, (Instr.yield k vs.toArray).run Γ.P w = .ok (.round k f tmps asg body) w ∧ RoundIn Fence.wide 0 Γ.P k f tmps asg body w (Out Γ base κ H w v H')

theorem run_callFunc {P : Program} {f : FuncId} (h : FnOK P f) (args : Array Value) (w : World) : (callFunc f args).run P w = .ok (.enter f args) w := by
  obtain ⟨fn, h1, h2, h3⟩ := h
  have hb : fn.body.isNone = false := by cases hb : fn.body <;> simp_all
  simp only [callFunc, Sem.run_bind, run_program, Result.andThen_ok, h1, h3, hb, Bool.false_eq_true, if_false]
  rfl

theorem downs_rel {κ : K} : ∀ {l : List AV} {ps : List PV} {vs : List Value}, downs l = some ps → VRels κ l vs → PRels κ.imm ps vs := by
  intro l
  induction l with
  | nil => intro ps vs hd h; simp [downs] at hd; subst hd; cases h; exact .nil
  | cons a l ih =>
    intro ps vs hd h
    simp only [downs] at hd
    split at hd
    · rename_i p qs h1 h2
      injection hd with hd; subst hd
      cases h with | cons _ v _ vs g1 g2 => exact .cons _ _ _ _ (down2_rel h1 g1) (ih h2 g2)
    · cases hd

/-- The cells of new blocks, as they lie. -/
def K.freeze (κ : K) (I : Imm) (n : Nat) (w : World) : K :=
  { κ with imm := fun a => match I a with | some v => some v | none => if n ≤ a.block then w.cell? a else none }

variable {base : Nat} {κ : K} {H : Heap} {w : World}

/-- A call by itself begins so. -/
def K.alone (κ : K) : K := { loc := fun _ => none, imm := κ.imm, tl := fun _ _ => none }
theorem SRel.alone (h : SRel Γ base κ H w) : SRel Γ w.heap.size κ.alone [] w := by
  have hp : ∀ id, place κ.alone id (hget [] id) = none := fun id => by rw [hget_ge (by simp)]; rfl
  exact ⟨h.imm, fun id k hk => (by rw [hp] at hk; cases hk), fun id _ k hk => (by rw [hp] at hk; cases hk), fun _ _ => ⟨rfl, fun _ => rfl⟩, Nat.le_refl _⟩
theorem alone_place {κ : K} {id k : Nat} (h : place κ.alone id (hget [] id) = some k) : False := by
  rw [hget_ge (by simp)] at h; cases h

/-- What a call by itself has done to the world is nothing to the caller's heap. -/
theorem SRel.back (h : SRel Γ base κ H w) {κ1 : K} {H1 : Heap} {w1 : World} (hs : SRel Γ w.heap.size κ1 H1 w1) (hg : Grow κ.alone [] w κ1 H1 w1) :
    SRel Γ base (κ.freeze κ1.imm w.heap.size w1) H w1 ∧ Grow κ H w (κ.freeze κ1.imm w.heap.size w1) H w1 := by
  have hold : ∀ k, k < w.heap.size → w1.heap[k]? = w.heap[k]? := fun k hk => hg.frame k hk (fun id hp => alone_place hp)
  refine h.turnNone ⟨hg.os, hg.tape, hg.output, hg.size⟩ ⟨fun _ _ h => h, fun a v hv => ?_, fun _ _ _ h => h⟩ rfl rfl hold (fun a v hv => ?_)
  · simp only [K.freeze, hg.le.imm a v hv]
  · simp only [K.freeze] at hv
    split at hv
    · rename_i u hu
      injection hv with hv; subst hv
      rcases hg.imm a u hu with h1 | h1 | ⟨id, h1⟩
      · exact .inl h1
      · exact .inr ⟨h1, hs.imm a u hu⟩
      · exact (alone_place h1).elim
    · split at hv
      · rename_i h1; exact .inr ⟨h1, hv⟩
      · cases hv

theorem imm_freeze (κ κ1 : K) (n : Nat) (w : World) : κ1.imm.le (κ.freeze κ1.imm n w).imm := fun a v h => by simp [K.freeze, h]

theorem out1_rel {κ1 : K} {H1 : Heap} {w1 : World} {n : Nat} (hs : SRel Γ n κ1 H1 w1) {a : AV} {p : PV} {v : Value} (hd : out1 H1 a = some p) (h : VRel κ1 a v) : PRel (κ.freeze κ1.imm n w1).imm p v := by
  unfold out1 at hd
  split at hd
  · injection hd with hd; subst hd; cases h with | pv _ _ h => exact h.mono (imm_freeze _ _ _ _)
  · injection hd with hd; subst hd; exact (tsl_plain h).mono (imm_freeze _ _ _ _)
  · rename_i es id off len cap
    cases h with
    | hs _ _ _ _ _ k cap' h1 h2 h3 =>
      split at hd
      · rename_i cs hg
        cases hb : Nat.ble (off + len * es) cs.length with
        | false => rw [hb] at hd; cases hd
        | true =>
          rw [hb] at hd; simp only [cond_true] at hd
          injection hd with hd; subst hd
          obtain ⟨c, rest, e, hw, hr, hones, hk⟩ := (ptr_cells hs h1).1 cs hg
          have hle := Nat.le_of_ble_eq_true hb
          have hcl := hr.length
          refine .sl .nn _ _ ⟨k, off, none⟩ cap' ((c.drop off).take (len * es)) (by simp) (by simp) (by omega) (((hr.drop off).take _).mono (imm_freeze _ _ _ _)) (fun j u hj => ?_) ((hones.drop off).take _)
          rw [List.getElem?_take] at hj
          split at hj
          · rw [List.getElem?_drop] at hj
            have hcell : w1.cell? ⟨k, off + j, none⟩ = some u := cell_at hw (app_get hj)
            rw [addr_add_lit']
            simp only [K.freeze]
            cases hi : κ1.imm ⟨k, off + j, none⟩ with
            | some u' => rw [hs.imm _ _ hi] at hcell; simpa using hcell
            | none => simp [hk, hcell]
          · cases hj
      · cases hd
  · cases hd
theorem outL_rel {κ1 : K} {H1 : Heap} {w1 : World} {n : Nat} (hs : SRel Γ n κ1 H1 w1) : ∀ {l : List AV} {ps : List PV} {vs : List Value}, outL H1 l = some ps → VRels κ1 l vs → PRels (κ.freeze κ1.imm n w1).imm ps vs := by
  intro l
  induction l with
  | nil => intro ps vs hd h; simp [outL] at hd; subst hd; cases h; exact .nil
  | cons a l ih =>
    intro ps vs hd h
    simp only [outL] at hd
    split at hd
    · rename_i p qs h1 h2
      injection hd with hd; subst hd
      cases h with | cons _ v _ vs g1 g2 => exact .cons _ _ _ _ (out1_rel hs h1 g1) (ih h2 g2)
    · cases hd
theorem out2_rel {κ1 : K} {H1 : Heap} {w1 : World} {n : Nat} (hs : SRel Γ n κ1 H1 w1) {a : AV} {p : PV} {v : Value} (hd : out2 H1 a = some p) (h : VRel κ1 a v) : PRel (κ.freeze κ1.imm n w1).imm p v := by
  unfold out2 at hd
  split at hd
  · obtain ⟨ps, h1, rfl⟩ := map_some hd
    cases h with | agg _ vs g1 g2 => exact .agg _ _ (outL_rel hs h1 g1) g2
  · split at hd
    · rename_i f a b x y h1 h2
      injection hd with hd; subst hd
      cases h with | fn _ _ _ va vb g1 g2 => exact .fn _ _ _ _ _ (outL_rel hs h1 g1) (outL_rel hs h2 g2)
    · cases hd
  · exact out1_rel hs hd h
theorem outs_rel {κ1 : K} {H1 : Heap} {w1 : World} {n : Nat} (hs : SRel Γ n κ1 H1 w1) : ∀ {l : List AV} {ps : List PV} {vs : List Value}, outs H1 l = some ps → VRels κ1 l vs → PRels (κ.freeze κ1.imm n w1).imm ps vs := by
  intro l
  induction l with
  | nil => intro ps vs hd h; simp [outs] at hd; subst hd; cases h; exact .nil
  | cons a l ih =>
    intro ps vs hd h
    simp only [outs] at hd
    split at hd
    · rename_i p qs h1 h2
      injection hd with hd; subst hd
      cases h with | cons _ v _ vs g1 g2 => exact .cons _ _ _ _ (out2_rel hs h1 g1) (ih h2 g2)
    · cases hd
theorem out_rel {κ1 : K} {H1 : Heap} {w1 : World} {n : Nat} (hs : SRel Γ n κ1 H1 w1) {a : AV} {p : PV} {v : Value} (hd : out H1 a = some p) (h : VRel κ1 a v) : PRel (κ.freeze κ1.imm n w1).imm p v := by
  unfold out at hd
  split at hd
  · obtain ⟨ps, h1, rfl⟩ := map_some hd
    cases h with | tup _ vs g1 => exact .tup _ _ (outs_rel hs h1 g1)
  · exact out2_rel hs hd h

/-! ### a slice that is taken over -/
theorem PRel.flat {I J : Imm} {p : PV} {v : Value} (hf : p.flat = true) (h : PRel I p v) : PRel J p v := by
  cases h <;> first | (simp [PV.flat] at hf; done) | constructor
theorem PRels.flat' {I J : Imm} : ∀ {l : List PV} {vs : List Value}, l.all PV.flat = true → PRels I l vs → PRels J l vs := by
  intro l
  induction l with
  | nil => intro vs _ h; cases h; exact .nil
  | cons p l ih =>
    intro vs hf h
    simp only [List.all_cons, Bool.and_eq_true] at hf
    cases h with | cons _ v _ vs g1 g2 => exact .cons _ _ _ _ (g1.flat hf.1) (ih hf.2 g2)

theorem adopt_rel (h : SRel Γ base κ H w) {κ1 : K} {H1 : Heap} {w1 : World} (hs : SRel Γ w.heap.size κ1 H1 w1) (hg : Grow κ.alone [] w κ1 H1 w1) {thaw : Bool} {a v : AV} {u : Value} {H' : Heap} (hv : VRel κ1 a u)
    (he : adopt thaw H1 H a (fun v h => some (v, h)) = some (v, H')) : ∃ κ', VRel κ' v u ∧ SRel Γ base κ' H' w1 ∧ Grow κ H w κ' H' w1 := by
  have hold : ∀ k, k < w.heap.size → w1.heap[k]? = w.heap[k]? := fun k hk => hg.frame k hk (fun id hp => alone_place hp)
  have hsame : Same w w1 := ⟨hg.os, hg.tape, hg.output, hg.size⟩
  have himm : ∀ a v, κ1.imm a = some v → κ.imm a = some v ∨ (w.heap.size ≤ a.block ∧ w1.cell? a = some v) := by
    intro a v ha
    rcases hg.imm a v ha with h1 | h1 | ⟨id, h1⟩
    · exact .inl h1
    · exact .inr ⟨h1, hs.imm a v ha⟩
    · exact (alone_place h1).elim
  have hfr := h.fresh H.length (Nat.le_refl _)
  unfold adopt at he
  split at he
  · rename_i p
    injection he with he; injection he with e1 e2; subst e1; subst e2
    obtain ⟨g1, g2⟩ := h.back hs hg
    cases hv with | pv _ _ hv => exact ⟨_, .pv _ _ (hv.mono (imm_freeze _ _ _ _)), g1, g2⟩
  · rename_i t n cs
    cases hv with
    | tsl _ _ _ k cap vs h1 h2 h3 h4 h5 =>
      split at he
      · rename_i n' es hgt
        obtain ⟨hn, he⟩ := needK_inv he
        have := Nat.eq_of_beq_eq_true hn
        subst this
        obtain ⟨hk, hob⟩ := hs.obj t k (tok_place hgt h1)
        rw [hgt] at hob
        obtain ⟨cap2, c, e, k1, k2, k3, k4, k5, k6, k7⟩ := hob
        rw [h1] at k1; injection k1 with k1; injection k1 with _ k1; subst k1
        cases thaw with
        | true =>
          simp only [cond_true] at he
          obtain ⟨hf, he⟩ := needK_inv he
          injection he with he; injection he with e1 e2; subst e1; subst e2
          let κ' : K := { loc := fun i => if i = H.length then some k else κ.loc i, imm := fun a => if a.block = k then none else κ1.imm a, tl := κ.tl }
          have hle : κ.le κ' := ⟨fun i j hj => by
              show (if i = H.length then some k else κ.loc i) = some j
              split
              · rename_i e; rw [e, hfr.1] at hj; cases hj
              · exact hj, fun a v ha => by
              show (if a.block = k then none else κ1.imm a) = some v
              have hb := block_lt (h.imm a v ha)
              rw [if_neg (by omega)]
              exact hg.le.imm a v ha, fun _ _ _ h => h⟩
          have hvs : ∀ (j : Nat) (v : Value), vs[j]? = some v → c[j]? = some v := by
            intro j v hj
            have := hs.imm _ _ (h4 j v hj)
            simpa [World.cell?, k2] using this
          have hpre : c = vs ++ c.drop vs.length := by
            conv => lhs; rw [← List.take_append_drop vs.length c]
            congr 1
            apply List.ext_getElem?
            intro j
            rw [List.getElem?_take]
            split
            · rename_i hj
              rw [List.getElem?_eq_getElem hj]
              exact hvs j _ (List.getElem?_eq_getElem hj)
            · rename_i hj; rw [List.getElem?_eq_none (by omega)]
          refine ⟨κ', .hs es H.length 0 n' n' k cap (by simp [κ']) (Nat.le_refl _) h2, ?_⟩
          refine h.turnNew (.pcells cs) k hsame hle (fun i hi => by simp [κ', hi]) (fun _ _ => rfl) hold (fun a v ha => ?_) (by simp [place, κ']) hk ⟨vs, c.drop vs.length, e, by rw [← hpre]; exact k2, PRels.flat' hf h3, fun a ha => by simp [κ', ha], h5⟩
          simp only [κ'] at ha
          split at ha
          · cases ha
          · exact himm a v ha
        | false =>
          simp only [cond_false] at he
          injection he with he; injection he with e1 e2; subst e1; subst e2
          let κ' : K := { loc := κ.loc, imm := κ1.imm, tl := fun i j => if i = H.length ∧ j = n' then some (k, cap) else κ.tl i j }
          have hle : κ.le κ' := ⟨fun _ _ h => h, hg.le.imm, fun i j p hp => by
            show (if i = H.length ∧ j = n' then some (k, cap) else κ.tl i j) = some p
            split
            · rename_i e; rw [e.1, hfr.2] at hp; cases hp
            · exact hp⟩
          refine ⟨κ', .tsl _ _ _ k cap vs (by simp [κ']) h2 h3 h4 h5, ?_⟩
          refine h.turnNew (.tok n' es) k hsame hle (fun _ _ => rfl) (fun i hi => by funext j; simp [κ', hi]) hold himm (by simp [place, κ']) hk ⟨cap, c, e, by simp [κ'], k2, k3, k4, k5, k6, fun m hm => ?_⟩
          show (if H.length = H.length ∧ m = n' then some (k, cap) else κ.tl H.length m) = none
          rw [if_neg (by omega)]
          exact hfr.2 m
      · cases he
  · rename_i es id off n cap
    cases hv with
    | hs _ _ _ _ _ k cap' h1 h2 h3 =>
      split at he
      · rename_i cs hgt
        have hq := needK_inv he
        clear he
        obtain ⟨ho, he⟩ := hq
        have := Nat.eq_of_beq_eq_true ho
        subst this
        injection he with he; injection he with e1 e2; subst e1; subst e2
        obtain ⟨hk, hob⟩ := hs.obj id k (by rw [hgt]; exact h1)
        rw [hgt] at hob
        obtain ⟨c, rest, e, k1, k2, k3, k4⟩ := hob
        let κ' : K := { loc := fun i => if i = H.length then some k else κ.loc i, imm := κ1.imm, tl := κ.tl }
        have hle : κ.le κ' := ⟨fun i j hj => by
            show (if i = H.length then some k else κ.loc i) = some j
            split
            · rename_i e; rw [e, hfr.1] at hj; cases hj
            · exact hj, hg.le.imm, fun _ _ _ h => h⟩
        refine ⟨κ', .hs es H.length 0 n cap k cap' (by simp [κ']) h2 h3, ?_⟩
        exact h.turnNew (.pcells cs) k hsame hle (fun i hi => by simp [κ', hi]) (fun _ _ => rfl) hold himm (by simp [place, κ']) hk ⟨c, rest, e, k1, k2, k3, k4⟩
      · cases he
  · cases he

theorem callSK_inv {R : Type} {E : Orc} {t : Tgt} {args : List AV} {h : Heap} {F : AV → Heap → Option R} {y : R} (he : callSK E t args h F = some y) : ∃ v h', E t args h = some (v, h') ∧ F v h' = some y := by
  rw [callSK_def] at he
  cases hx : E t args h with
  | none => rw [hx] at he; cases he
  | some p => rw [hx] at he; exact ⟨p.1, p.2, rfl, he⟩
theorem callPK_inv {R : Type} {E : Orc} {f : FuncId} {ps : List PV} {F : PV → Option R} {y : R} (he : callPK E f ps F = some y) : ∃ v h' p, E (.fn f) (ps.map .pv) [] = some (v, h') ∧ out h' v = some p ∧ F p = some y := by
  rw [callPK_def] at he
  unfold EP at he
  cases hx : E (.fn f) (ps.map .pv) [] with
  | none => rw [hx] at he; cases he
  | some p =>
    rw [hx] at he; simp only [Option.bind_some] at he
    cases hy : out p.2 p.1 with
    | none => rw [hy] at he; cases he
    | some q => rw [hy] at he; exact ⟨p.1, p.2, q, rfl, hy, he⟩

/-- A call of a function. -/
theorem call_sound {env : Env} {E : Orc} (hE : OrcOK Γ E) {f : FuncId} {args : List AV} {v : AV} {H' : Heap} (he : callK env E (.fn f) args H (fun v h => some (v, h)) = some (v, H')) (hs : SRel Γ base κ H w) {vs : List Value} (ha : VRels κ args vs) :
    FnOK Γ.P f ∧ CallsIn Fence.wide 0 Γ.P f vs.toArray w (Out Γ base κ H w v H') := by
  simp only [callK] at he
  split at he
  · obtain ⟨v', h', h1, h2⟩ := callSK_inv he
    injection h2 with h2; injection h2 with e1 e2; subst e1; subst e2
    exact ⟨hE.ok _ _ _ _ _ h1, hE.fn _ _ _ _ _ h1 base κ w vs hs ha⟩
  · split at he
    · rename_i ps hd
      obtain ⟨v', h', p, h1, h2, h3⟩ := callPK_inv he
      injection h3 with h3; injection h3 with e1 e2; subst e1; subst e2
      refine ⟨hE.ok _ _ _ _ _ h1, (hE.fn _ _ _ _ _ h1 w.heap.size κ.alone w vs hs.alone (VRels.of_pv (κ := κ.alone) (downs_rel (κ := κ) hd ha))).mono ?_⟩
      intro e w' ho
      cases e with
      | returned u =>
        obtain ⟨κ1, g1, g2, g3⟩ := ho
        obtain ⟨k1, k2⟩ := hs.back g2 g3
        exact ⟨_, .pv _ _ (out_rel g2 h2 g1), k1, k2⟩
      | panicked _ => exact ho.elim
      | outgrown => exact ho.elim
    · cases he
  · split at he
    · rename_i ps hd
      obtain ⟨v', h', h1, h2⟩ := callSK_inv he
      refine ⟨hE.ok _ _ _ _ _ h1, (hE.fn _ _ _ _ _ h1 w.heap.size κ.alone w vs hs.alone (VRels.of_pv (κ := κ.alone) (downs_rel (κ := κ) hd ha))).mono ?_⟩
      intro e w' ho
      cases e with
      | returned u =>
        obtain ⟨κ1, g1, g2, g3⟩ := ho
        exact adopt_rel hs g2 g3 g1 h2
      | panicked _ => exact ho.elim
      | outgrown => exact ho.elim
    · cases he
  · split at he
    · rename_i ps hd
      obtain ⟨v', h', h1, h2⟩ := callSK_inv he
      refine ⟨hE.ok _ _ _ _ _ h1, (hE.fn _ _ _ _ _ h1 w.heap.size κ.alone w vs hs.alone (VRels.of_pv (κ := κ.alone) (downs_rel (κ := κ) hd ha))).mono ?_⟩
      intro e w' ho
      cases e with
      | returned u =>
        obtain ⟨κ1, g1, g2, g3⟩ := ho
        exact adopt_rel hs g2 g3 g1 h2
      | panicked _ => exact ho.elim
      | outgrown => exact ho.elim
    · cases he
end
end Go.VM

namespace Go.VM
open Go

section
variable {R S : Type}
theorem callPK_bind (E : Orc) (f : FuncId) (ps : List PV) (G : PV → Option R) (F : R → Option S) : (callPK E f ps G).bind F = callPK E f ps fun p => (G p).bind F := by
  simp only [callPK_def]; cases EP E f ps <;> rfl
theorem callSK_bind (E : Orc) (t : Tgt) (args : List AV) (h : Heap) (G : AV → Heap → Option R) (F : R → Option S) : (callSK E t args h G).bind F = callSK E t args h fun v h => (G v h).bind F := by
  simp only [callSK_def]; cases E t args h <;> rfl
theorem adopt_bind (thaw : Bool) (h' h : Heap) (v : AV) (G : AV → Heap → Option R) (F : R → Option S) : (adopt thaw h' h v G).bind F = adopt thaw h' h v fun v h => (G v h).bind F := by
  cases v <;> (try rfl)
  · simp only [adopt]; split <;> simp only [needK_bind, cond_bind, Option.bind_none]
  · simp only [adopt]; split <;> simp only [needK_bind, Option.bind_none]
theorem callK_bind (env : Env) (E : Orc) (t : Tgt) (args : List AV) (h : Heap) (G : AV → Heap → Option R) (F : R → Option S) : (callK env E t args h G).bind F = callK env E t args h fun v h => (G v h).bind F := by
  cases t with
  | yield id => exact callSK_bind _ _ _ _ _ _
  | fn f =>
    simp only [callK]
    split
    · exact callSK_bind _ _ _ _ _ _
    · split
      · exact callPK_bind _ _ _ _ _
      · rfl
    · split
      · rw [callSK_bind]; simp only [adopt_bind]
      · rfl
    · split
      · rw [callSK_bind]; simp only [adopt_bind]
      · rfl
theorem operK_bind (env : Env) (E : Orc) (o : VOp) (r : Regs) (h : Heap) (G : AV → Heap → Option R) (F : R → Option S) : (operK env E o r h G).bind F = operK env E o r h fun v h => (G v h).bind F := by
  cases o
  case callV f args =>
    simp only [operK]
    split <;> first | exact callK_bind _ _ _ _ _ _ _ | exact callSK_bind _ _ _ _ _ _ | rfl
  all_goals simp only [operK, opK_bind, callK_bind]

theorem operK_inv {env : Env} {E : Orc} {o : VOp} {r : Regs} {h : Heap} {F : AV → Heap → Option R} {y : R} (he : operK env E o r h F = some y) : ∃ v h', operK env E o r h (fun v h => some (v, h)) = some (v, h') ∧ F v h' = some y := by
  have : operK env E o r h F = (operK env E o r h (fun v h => some (v, h))).bind (fun p => F p.1 p.2) := by rw [operK_bind]; rfl
  rw [this] at he
  cases hx : operK env E o r h (fun v h => some (v, h)) with
  | none => rw [hx] at he; cases he
  | some p => rw [hx] at he; exact ⟨p.1, p.2, rfl, he⟩
end

theorem operK_op {R : Type} {env : Env} {E : Orc} {o : VOp} (h1 : ∀ m f xs, o ≠ .call m f xs) (h2 : ∀ f xs, o ≠ .callV f xs) (r : Regs) (h : Heap) (F : AV → Heap → Option R) : operK env E o r h F = opK o r h F := by
  cases o <;> first | rfl | exact absurd rfl (h1 _ _ _) | exact absurd rfl (h2 _ _)

theorem compBuiltin_calls {P : Program} {mu : Bool} {b : Builtin} {xs : List Opd} {ts : List TypeId} {vo : VOp} (h : compBuiltin P mu b xs ts = some vo) : (∀ m f ys, vo ≠ .call m f ys) ∧ (∀ f ys, vo ≠ .callV f ys) := by
  unfold compBuiltin at h
  repeat' split at h
  all_goals first
    | (cases h; done)
    | (injection h with h; subst h; exact ⟨fun _ _ _ e => (by cases e), fun _ _ e => (by cases e)⟩)
    | (rw [Bool.cond_eq_ite] at h; split at h
       · injection h with h; subst h; exact ⟨fun _ _ _ e => (by cases e), fun _ _ e => (by cases e)⟩
       · cases h)

/-- Which operations are calls. -/
theorem compOp_calls {P : Program} {mu : Mu} {op : Op} {vo : VOp} (h : compOp P mu op = some vo) :
    (∀ m f xs, vo = .call m f xs → ∃ args ts, op = .call ⟨.value (.func f), args, ts⟩ ∧ compOpds args.toList = some xs ∧ FnOK P f) ∧
    (∀ g xs, vo = .callV g xs → ∃ x args ts, op = .call ⟨.value x, args, ts⟩ ∧ compOpd x = some g ∧ compOpds args.toList = some xs) ∧ (∀ c, op ≠ .defer c) := by
  have no : (∀ m f xs, vo ≠ .call m f xs) → (∀ f xs, vo ≠ .callV f xs) → (∀ c, op ≠ .defer c) →
      (∀ m f xs, vo = .call m f xs → ∃ args ts, op = .call ⟨.value (.func f), args, ts⟩ ∧ compOpds args.toList = some xs ∧ FnOK P f) ∧
      (∀ g xs, vo = .callV g xs → ∃ x args ts, op = .call ⟨.value x, args, ts⟩ ∧ compOpd x = some g ∧ compOpds args.toList = some xs) ∧ (∀ c, op ≠ .defer c) :=
    fun h1 h2 h3 => ⟨fun m f xs e => absurd e (h1 m f xs), fun f xs e => absurd e (h2 f xs), h3⟩
  cases op with
  | call c =>
    obtain ⟨callee, args, ts⟩ := c
    simp only [compOp] at h
    split at h
    · rename_i xs hx
      split at h
      · rename_i f
        split at h
        · rename_i fn hf
          cases hb : (fn.body.isSome && fn.name != "runtime.NumGoroutine") with
          | false => rw [hb] at h; cases h
          | true =>
            rw [hb] at h; simp only [cond_true] at h
            injection h with h; subst h
            rw [Bool.and_eq_true] at hb
            refine ⟨fun m' f' xs' e => ?_, fun _ _ e => (by cases e), fun _ e => (by cases e)⟩
            injection e with e0 e1 e2; subst e1; subst e2
            exact ⟨args, ts, rfl, hx, fn, hf, hb.1, by simpa using hb.2⟩
        · cases h
      · rename_i x hx2
        obtain ⟨g, hg, rfl⟩ := map_some h
        refine ⟨fun _ _ _ e => (by cases e), fun g' xs' e => ?_, fun _ e => (by cases e)⟩
        injection e with e1 e2; subst e1; subst e2
        exact ⟨_, args, ts, rfl, hg, hx⟩
      · obtain ⟨h1, h2⟩ := compBuiltin_calls h
        exact no h1 h2 (fun _ e => (by cases e))
      · cases h
    · cases h
  | makeFunc fn p q =>
    cases fn with
    | func f =>
      simp only [compOp] at h
      split at h
      · injection h with h; subst h; refine no ?_ ?_ ?_ <;> (intros; intro e; cases e)
      · cases h
    | _ => simp [compOp] at h
  | _ =>
    simp only [compOp] at h
    repeat' split at h
    all_goals (try (rw [Bool.cond_eq_ite] at h; split at h))
    all_goals (try (rw [Bool.cond_eq_ite] at h; split at h))
    all_goals first
      | (cases h; done)
      | (injection h with h; subst h; refine no ?_ ?_ ?_ <;> (intros; intro e; cases e))
      | (obtain ⟨q, _, rfl⟩ := map_some h; refine no ?_ ?_ ?_ <;> (intros; intro e; cases e))
end Go.VM

namespace Go.VM
open Go

section
variable {Γ : Ctx} {base : Nat} {κ : K} {H H' : Heap} {w : World} {o : Oper} {a : Act} {v : AV} {r : Regs}

theorem pv_bool {κ : K} {x : AV} {b : Bool} (h : VRel κ x (.bool b)) : x = .pv (.bool b) := by
  cases h with | pv _ _ h => cases h; rfl

/-- A step is carried out as the abstract machine says. -/
def StepTo (Γ : Ctx) (ro : Option Nat) (base : Nat) (κ : K) (H : Heap) (w : World) (o : Oper) (a : Act) (v : AV) (H' : Heap) : Prop :=
  ∀ (K : Act → World → Prop) (Q : Exit → Act → World → Prop), (∀ v' κ' w', VRel κ' v v' → SRel Γ base κ' H' w' → Grow κ H w κ' H' w' → K (a.put o.dst v') w') → o.wpIn (wideR ro) 0 Γ.P a w K Q

theorem OpOK.step (ro : Option Nat) (hnd : ∀ c, o.op ≠ .defer c) (h : OpOK Γ base κ H w o a v H') : StepTo Γ ro base κ H w o a v H' := by
  intro K Q hK
  obtain ⟨nx, v', κ', w', h1, h2, h3, h4, h5⟩ := h
  refine ⟨fun _ _ => trivial, ?_⟩
  rw [Oper.semAt_eq _ _ _ hnd, h1]
  rcases h2 with rfl | ⟨rfl, rfl⟩
  · exact hK v' κ' w' h3 h4 h5
  · exact hK undef κ' w' h3 h4 h5

theorem step_enter (ro : Option Nat) (hnd : ∀ c, o.op ≠ .defer c) {f : FuncId} {args : Array Value} (hrun : (execOp a.eval o).run Γ.P w = .ok (.enter f args) w) (h : CallsIn Fence.wide 0 Γ.P f args w (Out Γ base κ H w v H')) : StepTo Γ ro base κ H w o a v H' := by
  intro K Q hK
  refine ⟨fun _ _ => trivial, ?_⟩
  rw [Oper.semAt_eq _ _ _ hnd, hrun, Oper.uponIn_enter]
  refine ⟨fun hd => (by cases hd), ?_⟩
  have h' : CallsIn (wideR ro) 0 Γ.P f args w (Out Γ base κ H w v H') := h
  refine h'.mono ?_
  intro e w' ho
  cases e with
  | returned u =>
    obtain ⟨κ', g1, g2, g3⟩ := ho
    exact hK u κ' w' g1 g2 g3
  | panicked _ => exact ho.elim
  | outgrown => exact ho.elim

theorem step_round (ro : Option Nat) (hnd : ∀ c, o.op ≠ .defer c) {l : Nat} {f : FuncId} {tmps : Array Value} {asg body : Code} (hrun : (execOp a.eval o).run Γ.P w = .ok (.round l f tmps asg body) w) (h : RoundIn Fence.wide 0 Γ.P l f tmps asg body w (Out Γ base κ H w v H')) : StepTo Γ ro base κ H w o a v H' := by
  intro K Q hK
  refine ⟨fun _ _ => trivial, ?_⟩
  rw [Oper.semAt_eq _ _ _ hnd, hrun, Oper.uponIn_round]
  refine ⟨fun hd => (by cases hd), ?_⟩
  have h' : RoundIn (wideR ro) 0 Γ.P l f tmps asg body w (Out Γ base κ H w v H') := h
  refine h'.mono ?_
  intro e w' ho
  cases e with
  | returned u =>
    obtain ⟨κ', g1, g2, g3⟩ := ho
    exact hK u κ' w' g1 g2 g3
  | panicked _ => exact ho.elim
  | outgrown => exact ho.elim

theorem invoke_func {P : Program} {f : FuncId} (cap args : Array Value) (hf : FnOK P f) (w : World) : (invoke (.fn (.func f) cap) args).run P w = .ok (.enter f (args ++ cap)) w := run_callFunc hf _ w

theorem resolve_func {ρ : Operand → Value} {x : Operand} {args : Array Operand} {ts : Array TypeId} {ty : TypeId} {fn : Fn} {va vb : Array Value} (h : ρ x = .func fn va vb) (P : Program) (w : World) :
    (resolve ρ ⟨.value x, args, ts⟩ ty).run P w = .ok { target := .fn fn vb, args := va ++ args.map ρ } w := by
  simp [resolve, Deferred.ofValue, h]

/-- One operation: any. -/
theorem oper_sound {env : Env} {E : Orc} (hE : OrcOK Γ E) (ro : Option Nat) {mu : Mu} {vo : VOp} (hs : SRel Γ base κ H w) (hr : RRel κ r a) (hc : compOp Γ.P mu o.op = some vo)
    (he : operK env E vo r H (fun v h => some (v, h)) = some (v, H')) : StepTo Γ ro base κ H w o a v H' := by
  obtain ⟨c1, c2, hnd⟩ := compOp_calls hc
  by_cases h1 : ∃ m f xs, vo = .call m f xs
  · obtain ⟨m, f, xs, rfl⟩ := h1
    obtain ⟨args, ts, hop, hxs, hfn⟩ := c1 m f xs rfl
    simp only [operK] at he
    have hargs := opds_rel hr hxs
    obtain ⟨_, hcall⟩ := call_sound hE he hs hargs
    refine step_enter ro hnd (f := f) (args := (args.toList.map a.eval).toArray) ?_ hcall
    simp only [execOp, hop, Sem.run_bind]
    rw [resolve_func (x := .func f) (by rfl)]
    simp only [Result.andThen_ok, invoke_func _ _ hfn]
    congr 2
    apply Array.ext'; simp
  · by_cases h2 : ∃ g xs, vo = .callV g xs
    · obtain ⟨g, xs, rfl⟩ := h2
      obtain ⟨x, args, ts, hop, hg, hxs⟩ := c2 g xs rfl
      simp only [operK] at he
      have hargs := opds_rel hr hxs
      have hgv := opd_rel hr hg
      have fin : ∀ (f : FuncId) (as bs : List AV) (va vb : List Value), a.eval x = .func (.func f) va.toArray vb.toArray → VRels κ as va → VRels κ bs vb →
          callK env E (.fn f) (as ++ xs.map (Opd.ev r) ++ bs) H (fun v h => some (v, h)) = some (v, H') → StepTo Γ ro base κ H w o a v H' := by
        intro f as bs va vb hx ha hb hcall
        obtain ⟨hfn, hcall⟩ := call_sound hE hcall hs ((ha.append hargs).append hb)
        refine step_enter ro hnd (f := f) (args := (va ++ args.toList.map a.eval ++ vb).toArray) ?_ hcall
        simp only [execOp, hop, Sem.run_bind]
        rw [resolve_func hx]
        simp only [Result.andThen_ok, invoke_func _ _ hfn]
        congr 2
        apply Array.ext'; simp
      split at he
      · rename_i f as bs hm
        rw [hm] at hgv
        generalize hx : a.eval x = vx at hgv
        cases hgv with
        | pv _ _ hgv => cases hgv with
          | fn _ _ _ va vb g1 g2 => exact fin f _ _ va vb hx (VRels.of_pv g1) (VRels.of_pv g2) he
      · rename_i f as bs hm
        rw [hm] at hgv
        generalize hx : a.eval x = vx at hgv
        cases hgv with
        | fn _ _ _ va vb g1 g2 => exact fin f _ _ va vb hx g1 g2 he
      · rename_i id hm
        rw [hm] at hgv
        generalize hx : a.eval x = vx at hgv
        cases hgv with
        | yield _ k hl =>
          obtain ⟨v', h', g1, g2⟩ := callSK_inv he
          injection g2 with g2; injection g2 with e1 e2; subst e1; subst e2
          obtain ⟨f, tmps, asg, body, hy, hround⟩ := hE.yield _ _ _ _ _ g1 base κ w _ k hs hargs hl
          refine step_round ro hnd (l := k) (f := f) (tmps := tmps) (asg := asg) (body := body) ?_ hround
          simp only [execOp, hop, Sem.run_bind]
          rw [resolve_func hx]
          simp only [Result.andThen_ok, invoke]
          rw [← hy]
          congr 2
          apply Array.ext'; simp
      · cases he
    · rw [operK_op (fun m f xs e => h1 ⟨m, f, xs, e⟩) (fun f xs e => h2 ⟨f, xs, e⟩)] at he
      exact (op_sound hs hr hc he).step ro hnd

/-! ### the frame's state -/
/-- Marks among the deferred calls, each of a block made since, in which no call lies. -/
inductive Marks (sz : Nat) (κ : K) (H : Heap) (w : World) : List Deferred → Prop
  | nil : Marks sz κ H w []
  | cons (D : Nat) (ds : List Deferred) : sz ≤ D → w.heap[D]? = some (.deferred (some [])) → (∀ id, place κ id (hget H id) ≠ some D) → (∀ d ∈ ds, d.target ≠ .collected D) → Marks sz κ H w ds →
      Marks sz κ H w ({ target := .collected D, args := #[] } :: ds)

theorem Marks.grow {sz : Nat} {κ κ' : K} {H H' : Heap} {w w' : World} {ds : List Deferred} (h : Marks sz κ H w ds) (g : Grow κ H w κ' H' w') : Marks sz κ' H' w' ds := by
  induction h with
  | nil => exact .nil
  | cons D ds h1 h2 h3 h4 _ ih =>
    have hlt : D < w.heap.size := (Array.getElem?_eq_some_iff.1 h2).1
    refine .cons D ds h1 (by rw [g.frame D hlt h3]; exact h2) (fun id hp => ?_) h4 ih
    rcases g.places id D hp with ⟨id', h'⟩ | h'
    · exact h3 id' h'
    · omega

structure Conf (Γ : Ctx) (base sz n : Nat) (κ : K) (H : Heap) (w : World) (r : Regs) (a : Act) : Prop where
  srel : SRel Γ base κ H w
  regs : RRel κ r a
  size : n ≤ a.tmps.size
  marks : Marks sz κ H w a.defers

theorem put_size (a : Act) (d : Option Tmp) (v : Value) : (a.put d v).tmps.size = a.tmps.size := by cases d <;> simp [Act.put]
theorem put_defers (a : Act) (d : Option Tmp) (v : Value) : (a.put d v).defers = a.defers := by cases d <;> simp [Act.put]

theorem RRel.put {n : Nat} (h : RRel κ r a) (hn : n ≤ a.tmps.size) {d : Option Tmp} (hd : okDst n d = true) {v : AV} {v' : Value} (hv : VRel κ v v') : RRel κ (put r d v) (a.put d v') := by
  intro t
  cases d with
  | none => exact h t
  | some d =>
    have hlt : d < a.tmps.size := Nat.lt_of_lt_of_le (blt_lt hd) hn
    simp only [Act.put, Go.VM.put, upd]
    cases hb : Nat.beq t d with
    | true =>
      have := Nat.eq_of_beq_eq_true hb
      subst this
      simpa [Array.getD, hlt] using hv
    | false =>
      have hne : d ≠ t := fun e => by subst e; simp at hb
      have e : (a.tmps.setIfInBounds d v').getD t undef = a.tmps.getD t undef := by
        simp only [Array.getD_eq_getD_getElem?]
        rw [Array.getElem?_setIfInBounds_ne hne]
      simp only [cond_false]
      rw [e]
      exact h t

theorem Conf.step {sz n : Nat} (h : Conf Γ base sz n κ H w r a) {κ' : K} {w' : World} (hs : SRel Γ base κ' H' w') (hg : Grow κ H w κ' H' w') {d : Option Tmp} (hd : okDst n d = true) {v' : Value} (hv : VRel κ' v v') :
    Conf Γ base sz n κ' H' w' (put r d v) (a.put d v') :=
  ⟨hs, (h.regs.mono hg.le).put h.size hd hv, by rw [put_size]; exact h.size, by rw [put_defers]; exact h.marks.grow hg⟩

theorem wantedV_no {r : Regs} {t : Nat} {wt : Bool} (h : ∀ b, r t ≠ .pv (.bool b)) : wantedV r (some (t, wt)) = false := by
  unfold wantedV
  split
  · rename_i h0; cases h0
  · rename_i h0
    injection h0 with h0; injection h0 with e1 e2; subst e1; subst e2
    split
    · rename_i b hb; exact absurd hb (h b)
    · rfl
/-- Whether an operation is carried out. -/
theorem wanted_rel (hr : RRel κ r a) {ops : Array Oper} {g : Option (Nat × Bool)} (hg : guardOf ops.toList o = some g) : Region.wanted o (yielded ops a.tmps) = wantedV r g := by
  unfold guardOf at hg
  split at hg
  · rename_i h0
    injection hg with hg; subst hg
    simp [Region.wanted, h0, wantedV]
  · rename_i j wt h0
    split at hg
    · rename_i p hp
      split at hg
      · rename_i t ht
        injection hg with hg; subst hg
        have hp' : ops[j]? = some p := by rw [← Array.getElem?_toList]; exact hp
        have hrt := hr t
        simp only [Region.wanted, h0, yielded, hp', Option.bind_some, ht]
        simp only [Array.getD_eq_getD_getElem?] at hrt
        cases hv : a.tmps[t]? with
        | none =>
          rw [hv] at hrt
          simp only [Option.getD_none] at hrt
          rw [wantedV_no fun b e => by rw [e] at hrt; have := bool_rel hrt; cases this]
          rfl
        | some u =>
          rw [hv] at hrt
          simp only [Option.getD_some] at hrt
          cases u with
          | bool b =>
            simp only [wantedV, pv_bool hrt]
            cases b <;> cases wt <;> rfl
          | _ =>
            rw [wantedV_no fun b e => by rw [e] at hrt; have := bool_rel hrt; cases this]
            rfl
      · cases hg
    · cases hg
end

theorem compOpers_cons {P : Program} {mu : Nat → Mu} {n : Nat} {all : List Oper} {o : Oper} {l : List Oper} :
    (∃ g v, compOpers P mu n all (o :: l) = ⟨o.dst, g, v⟩ :: compOpers P mu n all l ∧ guardOf all o = some g ∧ okDst n o.dst = true ∧ compOp P (mu (o.dst.getD 0)) o.op = some v) ∨
    compOpers P mu n all (o :: l) = ⟨none, none, .bad⟩ :: compOpers P mu n all l := by
  simp only [compOpers]
  split
  · rename_i g v h1 h2 h3
    exact .inl ⟨g, v, rfl, h1, h2, h3⟩
  · exact .inr rfl

section
variable {Γ : Ctx} {base sz n : Nat} {R : Type}

theorem ops_sound {env : Env} {E : Orc} (hE : OrcOK Γ E) (ro : Option Nat) {mu : Nat → Mu} {ops : Array Oper} {Q : Exit → Act → World → Prop} {κ0 : K} {H0 : Heap} {w0 : World} {k : Regs → Heap → Option R} {y : R} : ∀ (l : List Oper) (i : Nat),
    ops.toList.drop i = l → ∀ (r : Regs) (H : Heap) (a : Act) (w : World) (κ : K), Conf Γ base sz n κ H w r a → Grow κ0 H0 w0 κ H w → evOps env E (compOpers Γ.P mu n ops.toList l) r H k = some y →
    (∀ r' H' κ' a' w', k r' H' = some y → Conf Γ base sz n κ' H' w' r' a' → Grow κ0 H0 w0 κ' H' w' → Q .normal a' w') → wpOpsIn (wideR ro) 0 Γ.P ops Q (List.range' i l.length) a w := by
  intro l
  induction l with
  | nil =>
    intro i _ r H a w κ hcf hg he hQ
    simp only [compOpers, evOps_nil, evOps_cons] at he
    exact hQ r H κ a w he hcf hg
  | cons o l ih =>
    intro i hi r H a w κ hcf hg he hQ
    have hoi : ops[i]? = some o := by
      rw [← Array.getElem?_toList]
      have : (ops.toList.drop i)[0]? = some o := by rw [hi]; rfl
      simpa [List.getElem?_drop] using this
    have hnext : ops.toList.drop (i + 1) = l := by rw [← List.drop_drop, hi]; rfl
    rw [List.length_cons, List.range'_succ]
    simp only [wpOpsIn, hoi]
    rcases compOpers_cons (P := Γ.P) (mu := mu) (n := n) (all := ops.toList) (o := o) (l := l) with ⟨g, v, e, hgd, hdst, hop⟩ | e
    · rw [e] at he
      simp only [evOps_nil, evOps_cons] at he
      rw [wanted_rel hcf.regs hgd]
      cases hw : wantedV r g with
      | true =>
        rw [hw] at he
        simp only [cond_true] at he
        simp only [if_true]
        obtain ⟨v1, H1, he1, he2⟩ := operK_inv he
        rw [forceK_def, putK_def] at he2
        refine oper_sound hE ro hcf.srel hcf.regs hop he1 _ _ fun v' κ' w' hv hs hgr => ?_
        exact ih (i + 1) hnext _ _ _ _ κ' (hcf.step hs hgr hdst hv) (hg.trans hgr) he2 hQ
      | false =>
        rw [hw] at he
        simp only [cond_false, putK_def] at he
        simp only [Bool.false_eq_true, if_false]
        exact ⟨fun _ _ => trivial, ih (i + 1) hnext _ _ _ _ κ (hcf.step hcf.srel (Grow.refl _ _ _) hdst (undefV_rel κ)) hg he hQ⟩
    · rw [e] at he
      simp only [evOps_nil, evOps_cons, wantedV, cond_true, operK, opK] at he
      cases he
end
end Go.VM
