/-
  Part 7 of an abstract machine that answers as the model does.
  All operations that call nothing, at once.
  Calls: an oracle that tells the truth; a call by itself; a call whose slice is taken over.
  One operation's step; a region in its text's order.
  One operation's step in a frame; a region in its text's order.
  A region that draws its order: what is checked, and what the abstract machine's run of it says.
-/
import Derived.Test.YtkkpkoekbmgabaaV6
import Derived.RangeFuncLeaves
import Derived.RangeFuncRecord
import Derived.OrdersIn
set_option linter.all false
set_option linter.unusedVariables false
set_option linter.unusedSimpArgs false
set_option linter.unusedSectionVars false
namespace Go.VM
open Go

section
variable {Γ : Ctx} {base : Nat} {κ : K} {H H' : Heap} {w : World} {o : Oper} {a : Act} {v : AV} {r : Regs}

theorem op_sound {mu : Mu} {vo : VOp} (hs : SRel Γ base κ H w) (hr : RRel κ r a) (hc : compOp Γ.P mu o.op = some vo) (he : opK vo r H (fun v h => some (v, h)) = some (v, H')) : OpOK Γ base κ H w o a v H' := by
  generalize hop : o.op = op at hc
  cases op with
  | move x =>
    obtain ⟨muw, mum⟩ := mu
    simp only [compOp] at hc
    cases muw
    · obtain ⟨y, hy, rfl⟩ := map_some hc
      exact op_move hs hr hy (by simp only [execOp, hop]) he
    · obtain ⟨y, hy, rfl⟩ := map_some hc
      exact op_settle hs hr hy (by simp only [execOp, hop]) he
  | assign x =>
    obtain ⟨muw, mum⟩ := mu
    simp only [compOp] at hc
    cases muw
    · obtain ⟨y, hy, rfl⟩ := map_some hc
      exact op_move hs hr hy (by simp only [execOp, hop]) he
    · obtain ⟨y, hy, rfl⟩ := map_some hc
      exact op_settle hs hr hy (by simp only [execOp, hop]) he
  | pick c x y =>
    simp only [compOp] at hc
    split at hc
    · rename_i c' x' y' h1 h2 h3
      injection hc with hc; subst hc
      exact op_pick hs hr h1 h2 h3 hop he
    · cases hc
  | alloc t =>
    obtain ⟨y, hy, rfl⟩ := map_some hc
    exact op_alloc hs hy hop he
  | box t x =>
    obtain ⟨y, hy, rfl⟩ := map_some hc
    exact op_box hs hr hy hop he
  | build t parts =>
    simp only [compOp] at hc
    split at hc
    · rename_i z fs hz hu
      cases hall : fs.toList.all (fun f => (sizeT Γ.P f.type).isSome) with
      | false => rw [hall] at hc; cases hc
      | true =>
        rw [hall] at hc; simp only [cond_true] at hc
        obtain ⟨ps, hps, rfl⟩ := map_some hc
        exact op_build hs hr hz _ (.inl ⟨fs, hu, fun f hf => List.all_eq_true.1 hall f hf, rfl⟩) hps hop he
    · rename_i z len e hz hu
      split at hc
      · rename_i n hn
        obtain ⟨ps, hps, rfl⟩ := map_some hc
        exact op_build hs hr hz _ (.inr ⟨len, e, n, hu, hn, rfl⟩) hps hop he
      · cases hc
    · cases hc
  | buildSlice t len parts =>
    simp only [compOp] at hc
    split at hc
    · rename_i e hu
      split at hc
      · rename_i z n hz hn
        cases hb : (Nat.ble (len * n) 16777216 && Nat.blt 0 n) with
        | false => rw [hb] at hc; cases hc
        | true =>
          rw [hb] at hc; simp only [cond_true] at hc
          rw [Bool.and_eq_true] at hb
          obtain ⟨ps, hps, rfl⟩ := map_some hc
          cases hg : mu.g with
          | true => rw [hg] at he; exact op_buildG hs hr hu hz hn (Nat.le_of_ble_eq_true hb.1) (blt_lt hb.2) hps hop he
          | false => rw [hg] at he; exact op_buildSlice hs hr hu hz hn (Nat.le_of_ble_eq_true hb.1) (blt_lt hb.2) hps hop he
      · cases hc
    · cases hc
  | load t x =>
    simp only [compOp] at hc
    split at hc
    · rename_i y n g hy hn hg
      injection hc with hc; subst hc
      cases g with
      | true => exact op_loadN hs hr hy hg hn hop he
      | false => exact op_load1 hs hr hy hg hop he
    · cases hc
  | store t x z =>
    simp only [compOp] at hc
    split at hc
    · rename_i y u n hy hu hn
      split at hc
      · rename_i g hg
        cases g with
        | true =>
          simp only [cond_true] at hc
          injection hc with hc; subst hc
          exact op_storeN hs hr hy hu hn hop he
        | false =>
          simp only [cond_false] at hc
          cases hb : Nat.beq n 1 with
          | false => rw [hb] at hc; cases hc
          | true =>
            rw [hb] at hc; simp only [cond_true] at hc
            injection hc with hc; subst hc
            have := Nat.eq_of_beq_eq_true hb
            subst this
            exact op_store1 hs hr hy hu hn hop he
      · cases hc
    · cases hc
  | nilCheck x =>
    obtain ⟨y, hy, rfl⟩ := map_some hc
    exact op_nilCheck hs hr hy hop he
  | binOp op t x z u =>
    simp only [compOp] at hc
    split at hc
    · rename_i y q hy hq
      split at hc
      · rename_i fs hu
        split at hc
        · rename_i sh hsh
          cases hg : Γ.P.eqGuardType Γ.P.depth t with
          | true => rw [hg] at hc; cases hc
          | false =>
            rw [hg] at hc
            injection hc with hc; subst hc
            exact op_binAgg hs hr hy hq hsh (by simp [aggT, hu]) hg hop he
        · cases hc
      · rename_i len e hu
        split at hc
        · rename_i sh hsh
          cases hg : Γ.P.eqGuardType Γ.P.depth t with
          | true => rw [hg] at hc; cases hc
          | false =>
            rw [hg] at hc
            injection hc with hc; subst hc
            exact op_binAgg hs hr hy hq hsh (by simp [aggT, hu]) hg hop he
        · cases hc
      · injection hc with hc; subst hc
        exact op_binNum hs hr hy hq hop he
      · injection hc with hc; subst hc
        exact op_binNum hs hr hy hq hop he
      · rename_i hu
        injection hc with hc; subst hc
        exact op_binBool hs hr hy hq hu hop he
      · rename_i e hu
        split at hc
        · rename_i j hi
          injection hc with hc; subst hc
          exact op_binNil (k := .ptr) hs hr hy hq ⟨fun _ => ⟨e, j, hu, hi⟩, (nomatch ·), (nomatch ·), (nomatch ·)⟩ (.inl rfl) hop he
        · cases hc
      · rename_i e hu
        injection hc with hc; subst hc
        exact op_binNil (k := .sl) hs hr hy hq ⟨(nomatch ·), fun _ => ⟨e, hu⟩, (nomatch ·), (nomatch ·)⟩ (.inr (.inl rfl)) hop he
      · rename_i e f hu
        injection hc with hc; subst hc
        exact op_binNil (k := .map) hs hr hy hq ⟨(nomatch ·), (nomatch ·), fun _ => ⟨e, f, hu⟩, (nomatch ·)⟩ (.inr (.inr (.inl rfl))) hop he
      · rename_i e f g hu
        injection hc with hc; subst hc
        exact op_binNil (k := .fn) hs hr hy hq ⟨(nomatch ·), (nomatch ·), (nomatch ·), fun _ => ⟨e, f, g, hu⟩⟩ (.inr (.inr (.inr rfl))) hop he
      · cases hc
    · cases hc
  | unOp op t x =>
    obtain ⟨y, hy, rfl⟩ := map_some hc
    exact op_un hs hr hy hop he
  | convert s d x =>
    simp only [compOp] at hc
    split at hc
    · rename_i y ks k hy h1 h2
      injection hc with hc; subst hc
      exact op_conv hs hr hy h1 h2 hop he
    · rename_i y hy h1 h2
      injection hc with hc; subst hc
      exact op_ident hs hr hy h1 h2 hop he
    · rename_i y e hy h1 h2
      split at hc
      · rename_i h3
        rw [Bool.cond_eq_ite] at hc
        split at hc
        · injection hc with hc; subst hc
          exact op_strOf hs hr hy h1 h2 h3 hop he
        · injection hc with hc; subst hc
          exact op_strOfP hs hr hy h1 h2 h3 hop he
      · cases hc
    · rename_i y e hy h1 h2
      split at hc
      · rename_i h3
        injection hc with hc; subst hc
        exact op_bytesOf hs hr hy h1 h2 h3 hop he
      · cases hc
    · rename_i y e' e hy h1 h2
      split at hc
      · rename_i h3
        cases hb : Nat.beq s d with
        | false => rw [hb] at hc; cases hc
        | true =>
          rw [hb] at hc; simp only [cond_true] at hc
          injection hc with hc; subst hc
          exact op_freeze hs hr hy h1 h2 h3 (Nat.eq_of_beq_eq_true hb) hop he
      · cases hc
    · cases hc
  | sliceToArrayPointer t x =>
    simp only [compOp] at hc
    split at hc
    · rename_i y n e hy hu
      injection hc with hc; subst hc
      exact op_toArr hs hr hy hu hop he
    · cases hc
  | makeFunc f p q =>
    cases f with
    | func f =>
      simp only [compOp] at hc
      split at hc
      · rename_i x y hx hy
        injection hc with hc; subst hc
        exact op_mkFn hs hr hx hy hop he
      · cases hc
    | _ => simp [compOp] at hc
  | makeSlice t x z =>
    simp only [compOp] at hc
    split at hc
    · rename_i e y q hu hy hq
      split at hc
      · rename_i zp i hz hi
        cases hb : (Nat.blt 0 i.size && Nat.ble i.bytes 256) with
        | false => rw [hb] at hc; cases hc
        | true =>
          rw [hb] at hc; simp only [cond_true] at hc
          rw [Bool.and_eq_true] at hb
          injection hc with hc; subst hc
          exact op_mkSlice hs hr hu hy hq hz hi (Nat.le_of_ble_eq_true hb.2) hop he
      · cases hc
    · cases hc
  | slice t x lo hi mx =>
    simp only [compOp] at hc
    split at hc
    · rename_i y lo' hi' mx' hy hl hh hm
      split at hc
      · rename_i hu
        cases mx' with
        | some _ => cases hc
        | none =>
          injection hc with hc; subst hc
          cases mx with
          | some q =>
            obtain ⟨_, _, h⟩ := map_some hm
            cases h
          | none => exact op_sliceStr hs hr hy hl hh hu hop he
      · rename_i e hu
        split at hc
        · rename_i n hn
          injection hc with hc; subst hc
          exact op_sliceS hs hr hy hl hh hm hu hn hop he
        · cases hc
      · rename_i len e hu
        split at hc
        · rename_i n hn
          injection hc with hc; subst hc
          cases mx with
          | some q =>
            obtain ⟨_, _, h⟩ := map_some hm
            cases h
          | none => exact op_sliceA hs hr hy hl hh hu hn hop he
        · cases hc
      · cases hc
    · cases hc
  | fieldAddr t x i =>
    simp only [compOp] at hc
    split at hc
    · rename_i y fs hy hu
      split at hc
      · rename_i f hf
        split at hc
        · rename_i n hn
          cases hb : Nat.beq n 0 with
          | true => rw [hb] at hc; cases hc
          | false =>
            rw [hb] at hc; simp only [cond_false] at hc
            injection hc with hc; subst hc
            exact op_fieldAddr hs hr hy hu hf hn hb hop he
        · cases hc
      · cases hc
    · cases hc
  | field t x i =>
    simp only [compOp] at hc
    split at hc
    · rename_i y fs hy hu
      split at hc
      · rename_i f hf
        split at hc
        · rename_i n g hn hg
          injection hc with hc; subst hc
          cases g with
          | true => exact op_fieldN hs hr hy hu hf hn hg hop he
          | false => exact op_field1 hs hr hy hu hf hg hop he
        · cases hc
      · cases hc
    · cases hc
  | indexAddr t x i =>
    simp only [compOp] at hc
    split at hc
    · rename_i y q len e hy hq hu
      obtain ⟨n, hn, rfl⟩ := map_some hc
      exact op_idxAddrA hs hr hy hq hu hn hop he
    · rename_i y q e hy hq hu
      obtain ⟨n, hn, rfl⟩ := map_some hc
      exact op_idxAddrS hs hr hy hq hu hn hop he
    · cases hc
  | index t x i =>
    simp only [compOp] at hc
    split at hc
    · rename_i y q len e hy hq hu
      split at hc
      · rename_i n hn
        split at hc
        · rename_i g hg
          cases g with
          | true =>
            simp only [cond_true] at hc
            injection hc with hc; subst hc
            exact op_idxAN hs hr hy hq hu hn hg hop he
          | false =>
            simp only [cond_false] at hc
            cases hb : Nat.beq n 1 with
            | false => rw [hb] at hc; cases hc
            | true =>
              rw [hb] at hc; simp only [cond_true] at hc
              injection hc with hc; subst hc
              have := Nat.eq_of_beq_eq_true hb
              subst this
              exact op_idxA1 hs hr hy hq hu hn hg hop he
        · cases hc
      · cases hc
    · rename_i y q hy hq hu
      injection hc with hc; subst hc
      exact op_idxStr hs hr hy hq hu hop he
    · cases hc
  | extract x i =>
    obtain ⟨y, hy, rfl⟩ := map_some hc
    exact op_extract hs hr hy hop he
  | call c =>
    obtain ⟨callee, args, ts⟩ := c
    simp only [compOp] at hc
    split at hc
    · rename_i xs hx
      split at hc
      · rename_i f
        split at hc
        · rename_i fn hfn
          cases hb : (fn.body.isSome && fn.name != "runtime.NumGoroutine") with
          | false => rw [hb] at hc; cases hc
          | true =>
            rw [hb] at hc; simp only [cond_true] at hc
            injection hc with hc; subst hc
            cases he
        · cases hc
      · obtain ⟨f, _, rfl⟩ := map_some hc
        cases he
      · exact op_callB hs hr hop hx hc he
      · cases hc
    · cases hc
  | makeMap t x =>
    simp only [compOp] at hc
    split at hc
    · injection hc with hc; subst hc
      exact op_mkMap hs hop he
    · cases hc
  | lookup t x k ok =>
    simp only [compOp] at hc
    split at hc
    · rename_i y q kt et hy hq hu
      split at hc
      · rename_i kk z hk hz
        injection hc with hc; subst hc
        exact op_lookM hs hr hu hk hz hy hq hop he
      · cases hc
    · cases hc
  | mapUpdate t x k u =>
    exact op_updM hs hr hc (.inl hop) he
  | insert t x k u =>
    exact op_updM hs hr hc (.inr hop) he
  | range t x =>
    simp only [compOp] at hc
    split at hc
    · rename_i y mk me hy hu
      injection hc with hc; subst hc
      exact op_rangeM hs hr hu hy hop he
    · cases hc
  | entry x =>
    obtain ⟨y, hy, rfl⟩ := map_some hc
    exact op_entryM hs hr hy hop he
  | next x s =>
    simp only [compOp] at hc
    cases s with
    | true => cases hc
    | false =>
      simp only [cond_false] at hc
      obtain ⟨y, hy, rfl⟩ := map_some hc
      cases he
  | _ => simp [compOp] at hc
end
end Go.VM

namespace Go.VM
open Go

/-- The fence that lets everything in, for activations or for rounds. -/
def wideR (ro : Option Nat) : Fence := { Fence.wide with round := ro }

section
variable {Γ : Ctx}

/-- What a call leaves. -/
def Out (Γ : Ctx) (base : Nat) (κ : K) (H : Heap) (w : World) (v : AV) (H' : Heap) : Ending → World → Prop
  | .returned v', w' => ∃ κ', VRel κ' v v' ∧ SRel Γ base κ' H' w' ∧ Grow κ H w κ' H' w'
  | _, _ => False

def FnOK (P : Program) (f : FuncId) : Prop := ∃ fn, P.funcs[f]? = some fn ∧ fn.body.isSome = true ∧ (fn.name == "runtime.NumGoroutine") = false

/-- An oracle that tells what the model's calls do. -/
structure OrcOK (Γ : Ctx) (E : Orc) : Prop where
  ok : ∀ f args H v H', E (.fn f) args H = some (v, H') → FnOK Γ.P f
  fn : ∀ f args H v H', E (.fn f) args H = some (v, H') → ∀ base κ w vs, SRel Γ base κ H w → VRels κ args vs → CallsIn Fence.wide 0 Γ.P f vs.toArray w (Out Γ base κ H w v H')
  yield : ∀ id args H v H', E (.yield id) args H = some (v, H') → ∀ base κ w vs k, SRel Γ base κ H w → VRels κ args vs → κ.loc id = some k →
    ∃ f tmps asg body, (Instr.yield k vs.toArray).run Γ.P w = .ok (.round k f tmps asg body) w ∧ RoundIn Fence.wide 0 Γ.P k f tmps asg body w (Out Γ base κ H w v H')

theorem run_callFunc {P : Program} {f : FuncId} (h : FnOK P f) (args : Array Value) (w : World) : (callFunc f args).run P w = .ok (.enter f args) w := by
  obtain ⟨fn, h1, h2, h3⟩ := h
  have hb : fn.body.isNone = false := by cases hb : fn.body <;> simp_all
  simp only [callFunc, Sem.run_bind, run_program, Result.andThen_ok, h1, h3, hb, Bool.false_eq_true, if_false]
  rfl

theorem downs_rel {κ : K} : ∀ {l : List AV} {ps : List PV} {vs : List Value}, downs l = some ps → VRels κ l vs → PRels κ.imm ps vs := by
  intro l
  induction l with
  | nil => intro ps vs hd h; simp [downs] at hd; subst hd; cases h; exact .nil
  | cons a l ih =>
    intro ps vs hd h
    simp only [downs] at hd
    split at hd
    · rename_i p qs h1 h2
      injection hd with hd; subst hd
      cases h with | cons _ v _ vs g1 g2 => exact .cons _ _ _ _ (down2_rel h1 g1) (ih h2 g2)
    · cases hd

/-- The cells of new blocks, as they lie. -/
def K.freeze (κ : K) (I : Imm) (n : Nat) (w : World) : K :=
  { κ with imm := fun a => match I a with | some v => some v | none => if n ≤ a.block then w.cell? a else none }

variable {base : Nat} {κ : K} {H : Heap} {w : World}

/-- A call by itself begins so. -/
def K.alone (κ : K) : K := { loc := fun _ => none, imm := κ.imm, tl := fun _ _ => none }
theorem SRel.alone (h : SRel Γ base κ H w) : SRel Γ w.heap.size κ.alone [] w := by
  have hp : ∀ id, place κ.alone id (hget [] id) = none := fun id => by rw [hget_ge (by simp)]; rfl
  exact ⟨h.imm, fun id k hk => (by rw [hp] at hk; cases hk), fun id _ k hk => (by rw [hp] at hk; cases hk), fun _ _ => ⟨rfl, fun _ => rfl⟩, Nat.le_refl _, h.gv, fun a ha => ⟨Nat.lt_of_lt_of_le (h.gn a ha).1 h.base, (h.gn a ha).2⟩⟩
theorem alone_place {κ : K} {id k : Nat} (h : place κ.alone id (hget [] id) = some k) : False := by
  rw [hget_ge (by simp)] at h; cases h

/-- What a call by itself has done to the world is nothing to the caller's heap. -/
theorem SRel.back (h : SRel Γ base κ H w) {κ1 : K} {H1 : Heap} {w1 : World} (hs : SRel Γ w.heap.size κ1 H1 w1) (hg : Grow κ.alone [] w κ1 H1 w1) :
    SRel Γ base (κ.freeze κ1.imm w.heap.size w1) H w1 ∧ Grow κ H w (κ.freeze κ1.imm w.heap.size w1) H w1 := by
  have hold : ∀ k, k < w.heap.size → w1.heap[k]? = w.heap[k]? := fun k hk => hg.frame k hk (fun id hp => alone_place hp)
  refine h.turnNone ⟨hg.os, hg.tape, hg.output, hg.drawn, hg.size⟩ ⟨fun _ _ h => h, fun a v hv => ?_, fun _ _ _ h => h⟩ rfl rfl hold (fun a v hv => ?_)
  · simp only [K.freeze, hg.le.imm a v hv]
  · simp only [K.freeze] at hv
    split at hv
    · rename_i u hu
      injection hv with hv; subst hv
      rcases hg.imm a u hu with h1 | h1 | ⟨id, h1⟩
      · exact .inl h1
      · exact .inr ⟨h1, hs.imm a u hu⟩
      · exact (alone_place h1).elim
    · split at hv
      · rename_i h1; exact .inr ⟨h1, hv⟩
      · cases hv

theorem imm_freeze (κ κ1 : K) (n : Nat) (w : World) : κ1.imm.le (κ.freeze κ1.imm n w).imm := fun a v h => by simp [K.freeze, h]

theorem out1_rel {κ1 : K} {H1 : Heap} {w1 : World} {n : Nat} (hs : SRel Γ n κ1 H1 w1) {a : AV} {p : PV} {v : Value} (hd : out1 H1 a = some p) (h : VRel κ1 a v) : PRel (κ.freeze κ1.imm n w1).imm p v := by
  unfold out1 at hd
  split at hd
  · injection hd with hd; subst hd; cases h with | pv _ _ h => exact h.mono (imm_freeze _ _ _ _)
  · injection hd with hd; subst hd; exact (tsl_plain h).mono (imm_freeze _ _ _ _)
  · rename_i es id off len cap
    cases h with
    | hs _ _ _ _ _ k cap' h1 h2 h3 =>
      split at hd
      · rename_i cs hg
        cases hb : Nat.ble (off + len * es) cs.length with
        | false => rw [hb] at hd; cases hd
        | true =>
          rw [hb] at hd; simp only [cond_true] at hd
          injection hd with hd; subst hd
          obtain ⟨c, rest, e, hw, hr, hones, hk⟩ := (ptr_cells hs h1).1 cs hg
          have hle := Nat.le_of_ble_eq_true hb
          have hcl := hr.length
          refine .sl .nn _ _ ⟨k, off, none⟩ cap' ((c.drop off).take (len * es)) (by simp) (by simp) (by omega) (((hr.drop off).take _).mono (imm_freeze _ _ _ _)) (fun j u hj => ?_) ((hones.drop off).take _)
          rw [List.getElem?_take] at hj
          split at hj
          · rw [List.getElem?_drop] at hj
            have hcell : w1.cell? ⟨k, off + j, none⟩ = some u := cell_at hw (app_get hj)
            rw [addr_add_lit']
            simp only [K.freeze]
            cases hi : κ1.imm ⟨k, off + j, none⟩ with
            | some u' => rw [hs.imm _ _ hi] at hcell; simpa using hcell
            | none => simp [hk, hcell]
          · cases hj
      · cases hd
  · cases hd
theorem outL_rel {κ1 : K} {H1 : Heap} {w1 : World} {n : Nat} (hs : SRel Γ n κ1 H1 w1) : ∀ {l : List AV} {ps : List PV} {vs : List Value}, outL H1 l = some ps → VRels κ1 l vs → PRels (κ.freeze κ1.imm n w1).imm ps vs := by
  intro l
  induction l with
  | nil => intro ps vs hd h; simp [outL] at hd; subst hd; cases h; exact .nil
  | cons a l ih =>
    intro ps vs hd h
    simp only [outL] at hd
    split at hd
    · rename_i p qs h1 h2
      injection hd with hd; subst hd
      cases h with | cons _ v _ vs g1 g2 => exact .cons _ _ _ _ (out1_rel hs h1 g1) (ih h2 g2)
    · cases hd
theorem out2_rel {κ1 : K} {H1 : Heap} {w1 : World} {n : Nat} (hs : SRel Γ n κ1 H1 w1) {a : AV} {p : PV} {v : Value} (hd : out2 H1 a = some p) (h : VRel κ1 a v) : PRel (κ.freeze κ1.imm n w1).imm p v := by
  unfold out2 at hd
  split at hd
  · obtain ⟨ps, h1, rfl⟩ := map_some hd
    cases h with | agg _ vs g1 g2 => exact .agg _ _ (outL_rel hs h1 g1) g2
  · split at hd
    · rename_i f a b x y h1 h2
      injection hd with hd; subst hd
      cases h with | fn _ _ _ va vb g1 g2 => exact .fn _ _ _ _ _ (outL_rel hs h1 g1) (outL_rel hs h2 g2)
    · cases hd
  · exact out1_rel hs hd h
theorem outs_rel {κ1 : K} {H1 : Heap} {w1 : World} {n : Nat} (hs : SRel Γ n κ1 H1 w1) : ∀ {l : List AV} {ps : List PV} {vs : List Value}, outs H1 l = some ps → VRels κ1 l vs → PRels (κ.freeze κ1.imm n w1).imm ps vs := by
  intro l
  induction l with
  | nil => intro ps vs hd h; simp [outs] at hd; subst hd; cases h; exact .nil
  | cons a l ih =>
    intro ps vs hd h
    simp only [outs] at hd
    split at hd
    · rename_i p qs h1 h2
      injection hd with hd; subst hd
      cases h with | cons _ v _ vs g1 g2 => exact .cons _ _ _ _ (out2_rel hs h1 g1) (ih h2 g2)
    · cases hd
theorem out_rel {κ1 : K} {H1 : Heap} {w1 : World} {n : Nat} (hs : SRel Γ n κ1 H1 w1) {a : AV} {p : PV} {v : Value} (hd : out H1 a = some p) (h : VRel κ1 a v) : PRel (κ.freeze κ1.imm n w1).imm p v := by
  unfold out at hd
  split at hd
  · obtain ⟨ps, h1, rfl⟩ := map_some hd
    cases h with | tup _ vs g1 => exact .tup _ _ (outs_rel hs h1 g1)
  · exact out2_rel hs hd h

/-! ### a slice that is taken over -/
theorem PRel.flat {I J : Imm} {p : PV} {v : Value} (hf : p.flat = true) (h : PRel I p v) : PRel J p v := by
  cases h <;> first | (simp [PV.flat] at hf; done) | constructor
theorem PRels.flat' {I J : Imm} : ∀ {l : List PV} {vs : List Value}, l.all PV.flat = true → PRels I l vs → PRels J l vs := by
  intro l
  induction l with
  | nil => intro vs _ h; cases h; exact .nil
  | cons p l ih =>
    intro vs hf h
    simp only [List.all_cons, Bool.and_eq_true] at hf
    cases h with | cons _ v _ vs g1 g2 => exact .cons _ _ _ _ (g1.flat hf.1) (ih hf.2 g2)

theorem adopt_rel (h : SRel Γ base κ H w) {κ1 : K} {H1 : Heap} {w1 : World} (hs : SRel Γ w.heap.size κ1 H1 w1) (hg : Grow κ.alone [] w κ1 H1 w1) {thaw : Bool} {a v : AV} {u : Value} {H' : Heap} (hv : VRel κ1 a u)
    (he : adopt thaw H1 H a (fun v h => some (v, h)) = some (v, H')) : ∃ κ', VRel κ' v u ∧ SRel Γ base κ' H' w1 ∧ Grow κ H w κ' H' w1 := by
  have hold : ∀ k, k < w.heap.size → w1.heap[k]? = w.heap[k]? := fun k hk => hg.frame k hk (fun id hp => alone_place hp)
  have hsame : Same w w1 := ⟨hg.os, hg.tape, hg.output, hg.drawn, hg.size⟩
  have himm : ∀ a v, κ1.imm a = some v → κ.imm a = some v ∨ (w.heap.size ≤ a.block ∧ w1.cell? a = some v) := by
    intro a v ha
    rcases hg.imm a v ha with h1 | h1 | ⟨id, h1⟩
    · exact .inl h1
    · exact .inr ⟨h1, hs.imm a v ha⟩
    · exact (alone_place h1).elim
  have hfr := h.fresh H.length (Nat.le_refl _)
  unfold adopt at he
  split at he
  · rename_i p
    injection he with he; injection he with e1 e2; subst e1; subst e2
    obtain ⟨g1, g2⟩ := h.back hs hg
    cases hv with | pv _ _ hv => exact ⟨_, .pv _ _ (hv.mono (imm_freeze _ _ _ _)), g1, g2⟩
  · rename_i t n cs
    cases hv with
    | tsl _ _ _ k cap vs h1 h2 h3 h4 h5 =>
      split at he
      · rename_i n' es hgt
        obtain ⟨hn, he⟩ := needK_inv he
        have := Nat.eq_of_beq_eq_true hn
        subst this
        obtain ⟨hk, hob⟩ := hs.obj t k (tok_place hgt h1)
        rw [hgt] at hob
        obtain ⟨cap2, c, e, k1, k2, k3, k4, k5, k6, k7⟩ := hob
        rw [h1] at k1; injection k1 with k1; injection k1 with _ k1; subst k1
        cases thaw with
        | true =>
          simp only [cond_true] at he
          obtain ⟨hf, he⟩ := needK_inv he
          injection he with he; injection he with e1 e2; subst e1; subst e2
          let κ' : K := { loc := fun i => if i = H.length then some k else κ.loc i, imm := fun a => if a.block = k then none else κ1.imm a, tl := κ.tl }
          have hle : κ.le κ' := ⟨fun i j hj => by
              show (if i = H.length then some k else κ.loc i) = some j
              split
              · rename_i e; rw [e, hfr.1] at hj; cases hj
              · exact hj, fun a v ha => by
              show (if a.block = k then none else κ1.imm a) = some v
              have hb := block_lt (h.imm a v ha)
              rw [if_neg (by omega)]
              exact hg.le.imm a v ha, fun _ _ _ h => h⟩
          have hvs : ∀ (j : Nat) (v : Value), vs[j]? = some v → c[j]? = some v := by
            intro j v hj
            have := hs.imm _ _ (h4 j v hj)
            simpa [World.cell?, k2] using this
          have hpre : c = vs ++ c.drop vs.length := by
            conv => lhs; rw [← List.take_append_drop vs.length c]
            congr 1
            apply List.ext_getElem?
            intro j
            rw [List.getElem?_take]
            split
            · rename_i hj
              rw [List.getElem?_eq_getElem hj]
              exact hvs j _ (List.getElem?_eq_getElem hj)
            · rename_i hj; rw [List.getElem?_eq_none (by omega)]
          refine ⟨κ', .hs es H.length 0 n' n' k cap (by simp [κ']) (Nat.le_refl _) h2, ?_⟩
          refine h.turnNew (.pcells cs) k hsame hle (fun i hi => by simp [κ', hi]) (fun _ _ => rfl) hold (fun a v ha => ?_) (by simp [place, κ']) hk ⟨vs, c.drop vs.length, e, by rw [← hpre]; exact k2, PRels.flat' hf h3, fun a ha => by simp [κ', ha], h5⟩
          simp only [κ'] at ha
          split at ha
          · cases ha
          · exact himm a v ha
        | false =>
          simp only [cond_false] at he
          injection he with he; injection he with e1 e2; subst e1; subst e2
          let κ' : K := { loc := κ.loc, imm := κ1.imm, tl := fun i j => if i = H.length ∧ j = n' then some (k, cap) else κ.tl i j }
          have hle : κ.le κ' := ⟨fun _ _ h => h, hg.le.imm, fun i j p hp => by
            show (if i = H.length ∧ j = n' then some (k, cap) else κ.tl i j) = some p
            split
            · rename_i e; rw [e.1, hfr.2] at hp; cases hp
            · exact hp⟩
          refine ⟨κ', .tsl _ _ _ k cap vs (by simp [κ']) h2 h3 h4 h5, ?_⟩
          refine h.turnNew (.tok n' es) k hsame hle (fun _ _ => rfl) (fun i hi => by funext j; simp [κ', hi]) hold himm (by simp [place, κ']) hk ⟨cap, c, e, by simp [κ'], k2, k3, k4, k5, k6, fun m hm => ?_⟩
          show (if H.length = H.length ∧ m = n' then some (k, cap) else κ.tl H.length m) = none
          rw [if_neg (by omega)]
          exact hfr.2 m
      · cases he
  · rename_i es id off n cap
    cases hv with
    | hs _ _ _ _ _ k cap' h1 h2 h3 =>
      split at he
      · rename_i cs hgt
        have hq := needK_inv he
        clear he
        obtain ⟨ho, he⟩ := hq
        have := Nat.eq_of_beq_eq_true ho
        subst this
        injection he with he; injection he with e1 e2; subst e1; subst e2
        obtain ⟨hk, hob⟩ := hs.obj id k (by rw [hgt]; exact h1)
        rw [hgt] at hob
        obtain ⟨c, rest, e, k1, k2, k3, k4⟩ := hob
        let κ' : K := { loc := fun i => if i = H.length then some k else κ.loc i, imm := κ1.imm, tl := κ.tl }
        have hle : κ.le κ' := ⟨fun i j hj => by
            show (if i = H.length then some k else κ.loc i) = some j
            split
            · rename_i e; rw [e, hfr.1] at hj; cases hj
            · exact hj, hg.le.imm, fun _ _ _ h => h⟩
        refine ⟨κ', .hs es H.length 0 n cap k cap' (by simp [κ']) h2 h3, ?_⟩
        exact h.turnNew (.pcells cs) k hsame hle (fun i hi => by simp [κ', hi]) (fun _ _ => rfl) hold himm (by simp [place, κ']) hk ⟨c, rest, e, k1, k2, k3, k4⟩
      · cases he
  · cases he

/-! ### slices that may be written, lent -/
inductive Lent (h : Heap) : List AV → List PV → Prop
  | nil : Lent h [] []
  | plain (a p l ps) : down2 a = some p → Lent h l ps → Lent h (a :: l) (p :: ps)
  | hs (es id off len cap cs l ps) : hget h id = .pcells cs → off + len * es ≤ cs.length → Lent h l ps → Lent h (.hs es id off len cap :: l) (.sl .nn len ((cs.drop off).take (len * es)) :: ps)
theorem lendsK_inv {R : Type} {h : Heap} : ∀ {l : List AV} {F : List PV → Option R} {y : R}, lendsK h l F = some y → ∃ ps, F ps = some y ∧ Lent h l ps := by
  intro l
  induction l with
  | nil => intro F y he; exact ⟨[], he, .nil⟩
  | cons a l ih =>
    intro F y he
    simp only [lendsK] at he
    split at he
    · rename_i p hd
      obtain ⟨ps, h1, h2⟩ := ih he
      exact ⟨_, h1, .plain _ _ _ _ hd h2⟩
    · split at he
      · rename_i es id off len cap _
        rw [hgetK_def] at he
        split at he
        · rename_i cs hg
          rw [secK_def] at he
          cases hb : Nat.ble (off + len * es) cs.length with
          | false => rw [hb] at he; cases he
          | true =>
            rw [hb] at he
            obtain ⟨ps, h1, h2⟩ := ih he
            exact ⟨_, h1, .hs _ _ _ _ _ _ _ _ hg (Nat.le_of_ble_eq_true hb) h2⟩
        · cases he
      · cases he
/-- Every cell there is stays as it is. -/
def K.whole (w : World) : K := { loc := fun _ => none, imm := fun a => w.cell? a, tl := fun _ _ => none }
theorem whole_place {w : World} {id k : Nat} (h : place (K.whole w) id (hget [] id) = some k) : False := by
  rw [hget_ge (by simp)] at h; cases h
theorem SRel.whole (h : SRel Γ base κ H w) : SRel Γ w.heap.size (K.whole w) [] w := by
  exact ⟨fun a v hv => hv, fun id k hk => (whole_place hk).elim, fun id _ k hk => (whole_place hk).elim, fun _ _ => ⟨rfl, fun _ => rfl⟩, Nat.le_refl _, fun a v hv => h.imm a v (h.gv a v hv), fun a ha => ⟨Nat.lt_of_lt_of_le (h.gn a ha).1 h.base, (h.gn a ha).2⟩⟩
theorem lent_rel (h : SRel Γ base κ H w) : ∀ {l : List AV} {ps : List PV} {vs : List Value}, Lent H l ps → VRels κ l vs → PRels (K.whole w).imm ps vs := by
  have hle : κ.imm.le (K.whole w).imm := fun a v ha => h.imm a v ha
  intro l
  induction l with
  | nil => intro ps vs hl hv; cases hl; cases hv; exact .nil
  | cons a l ih =>
    intro ps vs hl hv
    cases hv with
    | cons _ v _ vs g1 g2 =>
      cases hl with
      | plain _ p _ ps hd hl => exact .cons _ _ _ _ ((down2_rel hd g1).mono hle) (ih hl g2)
      | hs es id off len cap cs _ ps hg hb hl =>
        refine .cons _ _ _ _ ?_ (ih hl g2)
        cases g1 with
        | hs _ _ _ _ _ k cap' h1 h2 h3 =>
          obtain ⟨c, rest, e, hw, hr, hones, hk⟩ := (ptr_cells h h1).1 cs hg
          have hcl := hr.length
          refine .sl .nn _ _ ⟨k, off, none⟩ cap' ((c.drop off).take (len * es)) (by simp) (by simp) (by omega) (((hr.drop off).take _).mono hle) (fun j u hj => ?_) ((hones.drop off).take _)
          rw [List.getElem?_take] at hj
          split at hj
          · rw [List.getElem?_drop] at hj
            rw [addr_add_lit']
            exact cell_at hw (app_get hj)
          · cases hj
theorem hget_dead (n i : Nat) : hget (List.replicate n HObj.dead) i = .dead := by
  induction n generalizing i with
  | zero => exact hget_ge (by simp)
  | succ n ih => cases i with
    | zero => rfl
    | succ i => exact ih i
theorem adoptL_rel (h : SRel Γ base κ H w) {κ1 : K} {H1 : Heap} {w1 : World} (hs : SRel Γ w.heap.size κ1 H1 w1) (hg : Grow (K.whole w) [] w κ1 H1 w1) {thaw : Bool} {a v : AV} {u : Value} {H' : Heap} (hv : VRel κ1 a u)
    (he : adoptL thaw H1 H a (fun v h => some (v, h)) = some (v, H')) : ∃ κ', VRel κ' v u ∧ SRel Γ base κ' H' w1 ∧ Grow κ H w κ' H' w1 := by
  unfold adoptL at he
  split at he
  · rename_i t n cs
    split at he
    · rename_i n' es hgt
      obtain ⟨hn, he⟩ := needK_inv he
      obtain ⟨hf, he⟩ := needK_inv he
      have htl : t < H1.length := by
        rcases Nat.lt_or_ge t H1.length with h1 | h1
        · exact h1
        · rw [hget_ge h1] at hgt; cases hgt
      let κ2 : K := { loc := κ1.loc, imm := fun a => if a.block < w.heap.size then κ.imm a else κ1.imm a, tl := κ1.tl }
      let H2 : Heap := hset (List.replicate H1.length .dead) t (.tok n' es)
      have hl2 : H2.length = H1.length := by simp [H2, hset_length]
      have g2 : hget H2 t = .tok n' es := hget_hset_same _ (by simpa using htl)
      have gd : ∀ i, i ≠ t → hget H2 i = .dead := fun i hi => by
        show hget (hset _ _ _) i = _
        rw [hget_hset_other _ hi, hget_dead]
      have hi2 : ∀ a v, κ2.imm a = some v → κ1.imm a = some v := by
        intro a v ha
        simp only [κ2] at ha
        split at ha
        · exact hg.le.imm a v (h.imm a v ha)
        · exact ha
      have hat : ∀ i k, place κ2 i (hget H2 i) = some k → i = t ∧ place κ1 t (hget H1 t) = some k := by
        intro i k hk
        by_cases hit : i = t
        · subst hit
          rw [g2] at hk
          rw [hgt]
          exact ⟨rfl, hk⟩
        · rw [gd i hit] at hk; cases hk
      have S2 : SRel Γ w.heap.size κ2 H2 w1 := by
        refine ⟨fun a v ha => hs.imm a v (hi2 a v ha), fun i k hk => ?_, fun i i' k hk hk' => ?_, fun i hi => hs.fresh i (by rw [hl2] at hi; exact hi), hs.base, fun a v ha => ?_, hs.gn⟩
        · obtain ⟨e, hk⟩ := hat i k hk
          subst e
          obtain ⟨q1, q2⟩ := hs.obj i k hk
          rw [hgt] at q2
          rw [g2]
          obtain ⟨cap, c, e, k1, k2, k3, k4, k5, k6, k7⟩ := q2
          refine ⟨q1, cap, c, e, k1, k2, k3, k4, k5, fun a hb hna => k6 a hb ?_, k7⟩
          intro hno
          cases hx : κ2.imm a with
          | none => exact hna hx
          | some v => rw [hi2 a v hx] at hno; cases hno
        · rw [(hat i k hk).1, (hat i' k hk').1]
        · have h1 := h.gv a v ha
          have h2 := block_lt (h.imm a v h1)
          show (if a.block < w.heap.size then κ.imm a else κ1.imm a) = some v
          rw [if_pos h2]; exact h1
      have G2 : Grow κ.alone [] w κ2 H2 w1 := by
        refine ⟨⟨fun _ _ h => (by cases h), fun a v ha => ?_, fun _ _ _ h => (by cases h)⟩, hg.size, Nat.zero_le _, hg.os, hg.tape, hg.output, hg.drawn, fun k hk _ => hg.frame k hk fun id hp => whole_place hp, fun i k hk => ?_, fun a v ha => ?_, fun i hi => ?_⟩
        · have h1 : κ.imm a = some v := ha
          have h2 := block_lt (h.imm a v h1)
          show (if a.block < w.heap.size then κ.imm a else κ1.imm a) = some v
          rw [if_pos h2]; exact h1
        · obtain ⟨e, hk⟩ := hat i k hk
          rcases hg.places t k hk with ⟨id', q⟩ | q
          · exact (whole_place q).elim
          · exact .inr q
        · simp only [κ2] at ha
          split at ha
          · exact .inl ha
          · exact .inr (.inl (by omega))
        · simp at hi
      have V2 : VRel κ2 (.tsl t n cs) u := by
        cases hv with
        | tsl _ _ _ k cap vs h1 h2 h3 h4 h5 =>
          refine .tsl _ _ _ k cap vs h1 h2 (PRels.flat' hf h3) (fun j v hj => ?_) h5
          have hn' := Nat.eq_of_beq_eq_true hn
          subst hn'
          have hk : w.heap.size ≤ k := by
            rcases hg.places t k (tok_place hgt h1) with ⟨id', q⟩ | q
            · exact (whole_place q).elim
            · exact q
          show (if k < w.heap.size then κ.imm _ else κ1.imm _) = some v
          rw [if_neg (by omega)]
          exact h4 j v hj
      cases thaw with
      | true =>
        refine adopt_rel h S2 G2 (thaw := true) V2 ?_
        simp only [adopt, g2, needK_def, hn, hf, cond_true]
        exact he
      | false =>
        simp only [cond_false] at he
        injection he with he; injection he with e1 e2; subst e1; subst e2
        obtain ⟨q1, q2⟩ := h.back S2 G2
        exact ⟨_, .pv _ _ (out1_rel (H1 := H2) S2 rfl V2), q1, q2⟩
    · cases he
  · cases he

theorem callSK_inv {R : Type} {E : Orc} {t : Tgt} {args : List AV} {h : Heap} {F : AV → Heap → Option R} {y : R} (he : callSK E t args h F = some y) : ∃ v h', E t args h = some (v, h') ∧ F v h' = some y := by
  rw [callSK_def] at he
  cases hx : E t args h with
  | none => rw [hx] at he; cases he
  | some p => rw [hx] at he; exact ⟨p.1, p.2, rfl, he⟩
theorem callPK_inv {R : Type} {E : Orc} {f : FuncId} {ps : List PV} {F : PV → Option R} {y : R} (he : callPK E f ps F = some y) : ∃ v h' p, E (.fn f) (ps.map .pv) [] = some (v, h') ∧ out h' v = some p ∧ F p = some y := by
  rw [callPK_def] at he
  unfold EP at he
  cases hx : E (.fn f) (ps.map .pv) [] with
  | none => rw [hx] at he; cases he
  | some p =>
    rw [hx] at he; simp only [Option.bind_some] at he
    cases hy : out p.2 p.1 with
    | none => rw [hy] at he; cases he
    | some q => rw [hy] at he; exact ⟨p.1, p.2, q, rfl, hy, he⟩

/-- A call of a function. -/
theorem call_sound {env : Env} {E : Orc} (hE : OrcOK Γ E) {f : FuncId} {args : List AV} {v : AV} {H' : Heap} (he : callK env E (.fn f) args H (fun v h => some (v, h)) = some (v, H')) (hs : SRel Γ base κ H w) {vs : List Value} (ha : VRels κ args vs) :
    FnOK Γ.P f ∧ CallsIn Fence.wide 0 Γ.P f vs.toArray w (Out Γ base κ H w v H') := by
  simp only [callK] at he
  split at he
  · obtain ⟨v', h', h1, h2⟩ := callSK_inv he
    injection h2 with h2; injection h2 with e1 e2; subst e1; subst e2
    exact ⟨hE.ok _ _ _ _ _ h1, hE.fn _ _ _ _ _ h1 base κ w vs hs ha⟩
  · split at he
    · rename_i ps hd
      obtain ⟨v', h', p, h1, h2, h3⟩ := callPK_inv he
      injection h3 with h3; injection h3 with e1 e2; subst e1; subst e2
      refine ⟨hE.ok _ _ _ _ _ h1, (hE.fn _ _ _ _ _ h1 w.heap.size κ.alone w vs hs.alone (VRels.of_pv (κ := κ.alone) (downs_rel (κ := κ) hd ha))).mono ?_⟩
      intro e w' ho
      cases e with
      | returned u =>
        obtain ⟨κ1, g1, g2, g3⟩ := ho
        obtain ⟨k1, k2⟩ := hs.back g2 g3
        exact ⟨_, .pv _ _ (out_rel g2 h2 g1), k1, k2⟩
      | panicked _ => exact ho.elim
      | outgrown => exact ho.elim
    · cases he
  · split at he
    · rename_i ps hd
      obtain ⟨v', h', h1, h2⟩ := callSK_inv he
      refine ⟨hE.ok _ _ _ _ _ h1, (hE.fn _ _ _ _ _ h1 w.heap.size κ.alone w vs hs.alone (VRels.of_pv (κ := κ.alone) (downs_rel (κ := κ) hd ha))).mono ?_⟩
      intro e w' ho
      cases e with
      | returned u =>
        obtain ⟨κ1, g1, g2, g3⟩ := ho
        exact adopt_rel hs g2 g3 g1 h2
      | panicked _ => exact ho.elim
      | outgrown => exact ho.elim
    · cases he
  · split at he
    · rename_i ps hd
      obtain ⟨v', h', h1, h2⟩ := callSK_inv he
      refine ⟨hE.ok _ _ _ _ _ h1, (hE.fn _ _ _ _ _ h1 w.heap.size κ.alone w vs hs.alone (VRels.of_pv (κ := κ.alone) (downs_rel (κ := κ) hd ha))).mono ?_⟩
      intro e w' ho
      cases e with
      | returned u =>
        obtain ⟨κ1, g1, g2, g3⟩ := ho
        exact adopt_rel hs g2 g3 g1 h2
      | panicked _ => exact ho.elim
      | outgrown => exact ho.elim
    · cases he
  · obtain ⟨ps, he, hl⟩ := lendsK_inv he
    obtain ⟨v', h', h1, h2⟩ := callSK_inv he
    refine ⟨hE.ok _ _ _ _ _ h1, (hE.fn _ _ _ _ _ h1 w.heap.size (K.whole w) w vs hs.whole (VRels.of_pv (κ := K.whole w) (lent_rel hs hl ha))).mono ?_⟩
    intro e w' ho
    cases e with
    | returned u =>
      obtain ⟨κ1, g1, g2, g3⟩ := ho
      exact adoptL_rel hs g2 g3 g1 h2
    | panicked _ => exact ho.elim
    | outgrown => exact ho.elim
end
end Go.VM

namespace Go.VM
open Go

section
variable {R S : Type}
theorem callPK_bind (E : Orc) (f : FuncId) (ps : List PV) (G : PV → Option R) (F : R → Option S) : (callPK E f ps G).bind F = callPK E f ps fun p => (G p).bind F := by
  simp only [callPK_def]; cases EP E f ps <;> rfl
theorem callSK_bind (E : Orc) (t : Tgt) (args : List AV) (h : Heap) (G : AV → Heap → Option R) (F : R → Option S) : (callSK E t args h G).bind F = callSK E t args h fun v h => (G v h).bind F := by
  simp only [callSK_def]; cases E t args h <;> rfl
theorem adopt_bind (thaw : Bool) (h' h : Heap) (v : AV) (G : AV → Heap → Option R) (F : R → Option S) : (adopt thaw h' h v G).bind F = adopt thaw h' h v fun v h => (G v h).bind F := by
  cases v <;> (try rfl)
  · simp only [adopt]; split <;> simp only [needK_bind, cond_bind, Option.bind_none]
  · simp only [adopt]; split <;> simp only [needK_bind, Option.bind_none]
theorem adoptL_bind (thaw : Bool) (h' h : Heap) (v : AV) (G : AV → Heap → Option R) (F : R → Option S) : (adoptL thaw h' h v G).bind F = adoptL thaw h' h v fun v h => (G v h).bind F := by
  cases v <;> (try rfl)
  simp only [adoptL]; split <;> simp only [needK_bind, cond_bind, Option.bind_none]
theorem lendsK_bind (h : Heap) (F : R → Option S) : ∀ (l : List AV) (G : List PV → Option R), (lendsK h l G).bind F = lendsK h l fun ps => (G ps).bind F := by
  intro l
  induction l with
  | nil => intro G; rfl
  | cons a l ih =>
    intro G
    simp only [lendsK]
    split
    · rw [ih]
    · split
      · rw [hgetK_bind]
        congr 1
        funext o
        split
        · rw [secK_bind]; simp only [ih]
        · rfl
      · rfl
theorem callK_bind (env : Env) (E : Orc) (t : Tgt) (args : List AV) (h : Heap) (G : AV → Heap → Option R) (F : R → Option S) : (callK env E t args h G).bind F = callK env E t args h fun v h => (G v h).bind F := by
  cases t with
  | yield id => exact callSK_bind _ _ _ _ _ _
  | fn f =>
    simp only [callK]
    split
    · exact callSK_bind _ _ _ _ _ _
    · split
      · exact callPK_bind _ _ _ _ _
      · rfl
    · split
      · rw [callSK_bind]; simp only [adopt_bind]
      · rfl
    · split
      · rw [callSK_bind]; simp only [adopt_bind]
      · rfl
    · rw [lendsK_bind]; simp only [callSK_bind, adoptL_bind]
theorem operK_bind (env : Env) (E : Orc) (o : VOp) (r : Regs) (h : Heap) (G : AV → Heap → Option R) (F : R → Option S) : (operK env E o r h G).bind F = operK env E o r h fun v h => (G v h).bind F := by
  cases o
  case callV f args =>
    simp only [operK]
    split <;> first | exact callK_bind _ _ _ _ _ _ _ | exact callSK_bind _ _ _ _ _ _ | rfl
  all_goals simp only [operK, opK_bind, callK_bind]

theorem operK_inv {env : Env} {E : Orc} {o : VOp} {r : Regs} {h : Heap} {F : AV → Heap → Option R} {y : R} (he : operK env E o r h F = some y) : ∃ v h', operK env E o r h (fun v h => some (v, h)) = some (v, h') ∧ F v h' = some y := by
  have : operK env E o r h F = (operK env E o r h (fun v h => some (v, h))).bind (fun p => F p.1 p.2) := by rw [operK_bind]; rfl
  rw [this] at he
  cases hx : operK env E o r h (fun v h => some (v, h)) with
  | none => rw [hx] at he; cases he
  | some p => rw [hx] at he; exact ⟨p.1, p.2, rfl, he⟩
theorem operG_bind (env : Env) (E : Orc) (o : VOper) (r : Regs) (h : Heap) (G : AV → Heap → Option R) (F : R → Option S) : (operG env E o r h G).bind F = operG env E o r h fun v h => (G v h).bind F := by
  unfold operG
  cases badG r o.guard
  · exact operK_bind _ _ _ _ _ _ _
  · rfl
theorem operG_inv {env : Env} {E : Orc} {o : VOper} {r : Regs} {h : Heap} {F : AV → Heap → Option R} {y : R} (he : operG env E o r h F = some y) : badG r o.guard = false ∧ ∃ v h', operK env E o.op r h (fun v h => some (v, h)) = some (v, h') ∧ F v h' = some y := by
  unfold operG at he
  cases hb : badG r o.guard with
  | true => rw [hb] at he; cases he
  | false => rw [hb] at he; exact ⟨rfl, operK_inv he⟩
end

theorem operK_op {R : Type} {env : Env} {E : Orc} {o : VOp} (h1 : ∀ m f xs, o ≠ .call m f xs) (h2 : ∀ f xs, o ≠ .callV f xs) (r : Regs) (h : Heap) (F : AV → Heap → Option R) : operK env E o r h F = opK o r h F := by
  cases o <;> first | rfl | exact absurd rfl (h1 _ _ _) | exact absurd rfl (h2 _ _)

theorem compBuiltin_calls {P : Program} {mu g : Bool} {b : Builtin} {xs : List Opd} {ts : List TypeId} {vo : VOp} (h : compBuiltin P mu g b xs ts = some vo) : (∀ m f ys, vo ≠ .call m f ys) ∧ (∀ f ys, vo ≠ .callV f ys) := by
  unfold compBuiltin at h
  repeat' split at h
  all_goals first
    | (cases h; done)
    | (injection h with h; subst h; exact ⟨fun _ _ _ e => (by cases e), fun _ _ e => (by cases e)⟩)
    | (rw [Bool.cond_eq_ite] at h; split at h
       · first
         | (injection h with h; subst h; exact ⟨fun _ _ _ e => (by cases e), fun _ _ e => (by cases e)⟩)
         | (rw [Bool.cond_eq_ite] at h; split at h <;> (injection h with h; subst h; exact ⟨fun _ _ _ e => (by cases e), fun _ _ e => (by cases e)⟩))
       · cases h)
    | (obtain ⟨q, _, rfl⟩ := map_some h; exact ⟨fun _ _ _ e => (by cases e), fun _ _ e => (by cases e)⟩)

/-- Which operations are calls. -/
theorem compOp_calls {P : Program} {mu : Mu} {op : Op} {vo : VOp} (h : compOp P mu op = some vo) :
    (∀ m f xs, vo = .call m f xs → ∃ args ts, op = .call ⟨.value (.func f), args, ts⟩ ∧ compOpds args.toList = some xs ∧ FnOK P f) ∧
    (∀ g xs, vo = .callV g xs → ∃ x args ts, op = .call ⟨.value x, args, ts⟩ ∧ compOpd x = some g ∧ compOpds args.toList = some xs) ∧ (∀ c, op ≠ .defer c) := by
  have no : (∀ m f xs, vo ≠ .call m f xs) → (∀ f xs, vo ≠ .callV f xs) → (∀ c, op ≠ .defer c) →
      (∀ m f xs, vo = .call m f xs → ∃ args ts, op = .call ⟨.value (.func f), args, ts⟩ ∧ compOpds args.toList = some xs ∧ FnOK P f) ∧
      (∀ g xs, vo = .callV g xs → ∃ x args ts, op = .call ⟨.value x, args, ts⟩ ∧ compOpd x = some g ∧ compOpds args.toList = some xs) ∧ (∀ c, op ≠ .defer c) :=
    fun h1 h2 h3 => ⟨fun m f xs e => absurd e (h1 m f xs), fun f xs e => absurd e (h2 f xs), h3⟩
  cases op with
  | call c =>
    obtain ⟨callee, args, ts⟩ := c
    simp only [compOp] at h
    split at h
    · rename_i xs hx
      split at h
      · rename_i f
        split at h
        · rename_i fn hf
          cases hb : (fn.body.isSome && fn.name != "runtime.NumGoroutine") with
          | false => rw [hb] at h; cases h
          | true =>
            rw [hb] at h; simp only [cond_true] at h
            injection h with h; subst h
            rw [Bool.and_eq_true] at hb
            refine ⟨fun m' f' xs' e => ?_, fun _ _ e => (by cases e), fun _ e => (by cases e)⟩
            injection e with e0 e1 e2; subst e1; subst e2
            exact ⟨args, ts, rfl, hx, fn, hf, hb.1, by simpa using hb.2⟩
        · cases h
      · rename_i x hx2
        obtain ⟨g, hg, rfl⟩ := map_some h
        refine ⟨fun _ _ _ e => (by cases e), fun g' xs' e => ?_, fun _ e => (by cases e)⟩
        injection e with e1 e2; subst e1; subst e2
        exact ⟨_, args, ts, rfl, hg, hx⟩
      · obtain ⟨h1, h2⟩ := compBuiltin_calls h
        exact no h1 h2 (fun _ e => (by cases e))
      · cases h
    · cases h
  | makeFunc fn p q =>
    cases fn with
    | func f =>
      simp only [compOp] at h
      split at h
      · injection h with h; subst h; refine no ?_ ?_ ?_ <;> (intros; intro e; cases e)
      · cases h
    | _ => simp [compOp] at h
  | _ =>
    simp only [compOp, compUpd] at h
    repeat' split at h
    all_goals (try (rw [Bool.cond_eq_ite] at h; split at h))
    all_goals (try (rw [Bool.cond_eq_ite] at h; split at h))
    all_goals first
      | (cases h; done)
      | (injection h with h; subst h; refine no ?_ ?_ ?_ <;> (intros; intro e; cases e))
      | (obtain ⟨q, _, rfl⟩ := map_some h; refine no ?_ ?_ ?_ <;> (intros; intro e; cases e))
      | (obtain ⟨q, _, rfl⟩ := map_some h; refine no ?_ ?_ ?_ <;> (intros; intro e; first | (cases e; done) | (cases hg : mu.g <;> rw [hg] at e <;> cases e)))
end Go.VM

namespace Go.VM
open Go

section
variable {Γ : Ctx} {base : Nat} {κ : K} {H H' : Heap} {w : World} {o : Oper} {a : Act} {v : AV} {r : Regs}

theorem pv_bool {κ : K} {x : AV} {b : Bool} (h : VRel κ x (.bool b)) (hna : x ≠ .any) : x = .pv (.bool b) := by
  cases h with
  | pv _ _ h => cases h; rfl
  | any => exact absurd rfl hna

/-- A step is carried out as the abstract machine says. -/
def StepTo (Γ : Ctx) (ro : Option Nat) (base : Nat) (κ : K) (H : Heap) (w : World) (o : Oper) (a : Act) (v : AV) (H' : Heap) : Prop :=
  ∀ (K : Act → World → Prop) (Q : Exit → Act → World → Prop), (∀ v' κ' w', VRel κ' v v' → SRel Γ base κ' H' w' → Grow κ H w κ' H' w' → K (a.put o.dst v') w') → o.wpIn (wideR ro) 0 Γ.P a w K Q

theorem OpOK.step (ro : Option Nat) (hnd : ∀ c, o.op ≠ .defer c) (h : OpOK Γ base κ H w o a v H') : StepTo Γ ro base κ H w o a v H' := by
  intro K Q hK
  obtain ⟨nx, v', κ', w', h1, h2, h3, h4, h5⟩ := h
  refine ⟨fun _ _ => trivial, ?_⟩
  rw [Oper.semAt_eq _ _ _ hnd, h1]
  rcases h2 with rfl | ⟨rfl, rfl⟩
  · exact hK v' κ' w' h3 h4 h5
  · exact hK undef κ' w' h3 h4 h5

theorem step_enter (ro : Option Nat) (hnd : ∀ c, o.op ≠ .defer c) {f : FuncId} {args : Array Value} (hrun : (execOp a.eval o).run Γ.P w = .ok (.enter f args) w) (h : CallsIn Fence.wide 0 Γ.P f args w (Out Γ base κ H w v H')) : StepTo Γ ro base κ H w o a v H' := by
  intro K Q hK
  refine ⟨fun _ _ => trivial, ?_⟩
  rw [Oper.semAt_eq _ _ _ hnd, hrun, Oper.uponIn_enter]
  refine ⟨fun hd => (by cases hd), ?_⟩
  have h' : CallsIn (wideR ro) 0 Γ.P f args w (Out Γ base κ H w v H') := h
  refine h'.mono ?_
  intro e w' ho
  cases e with
  | returned u =>
    obtain ⟨κ', g1, g2, g3⟩ := ho
    exact hK u κ' w' g1 g2 g3
  | panicked _ => exact ho.elim
  | outgrown => exact ho.elim

theorem step_round (ro : Option Nat) (hnd : ∀ c, o.op ≠ .defer c) {l : Nat} {f : FuncId} {tmps : Array Value} {asg body : Code} (hrun : (execOp a.eval o).run Γ.P w = .ok (.round l f tmps asg body) w) (h : RoundIn Fence.wide 0 Γ.P l f tmps asg body w (Out Γ base κ H w v H')) : StepTo Γ ro base κ H w o a v H' := by
  intro K Q hK
  refine ⟨fun _ _ => trivial, ?_⟩
  rw [Oper.semAt_eq _ _ _ hnd, hrun, Oper.uponIn_round]
  refine ⟨fun hd => (by cases hd), ?_⟩
  have h' : RoundIn (wideR ro) 0 Γ.P l f tmps asg body w (Out Γ base κ H w v H') := h
  refine h'.mono ?_
  intro e w' ho
  cases e with
  | returned u =>
    obtain ⟨κ', g1, g2, g3⟩ := ho
    exact hK u κ' w' g1 g2 g3
  | panicked _ => exact ho.elim
  | outgrown => exact ho.elim

theorem invoke_func {P : Program} {f : FuncId} (cap args : Array Value) (hf : FnOK P f) (w : World) : (invoke (.fn (.func f) cap) args).run P w = .ok (.enter f (args ++ cap)) w := run_callFunc hf _ w

theorem resolve_func {ρ : Operand → Value} {x : Operand} {args : Array Operand} {ts : Array TypeId} {ty : TypeId} {fn : Fn} {va vb : Array Value} (h : ρ x = .func fn va vb) (P : Program) (w : World) :
    (resolve ρ ⟨.value x, args, ts⟩ ty).run P w = .ok { target := .fn fn vb, args := va ++ args.map ρ } w := by
  simp [resolve, Deferred.ofValue, h]

/-- One operation: any. -/
theorem oper_sound {env : Env} {E : Orc} (hE : OrcOK Γ E) (ro : Option Nat) {mu : Mu} {vo : VOp} (hs : SRel Γ base κ H w) (hr : RRel κ r a) (hc : compOp Γ.P mu o.op = some vo)
    (he : operK env E vo r H (fun v h => some (v, h)) = some (v, H')) : StepTo Γ ro base κ H w o a v H' := by
  obtain ⟨c1, c2, hnd⟩ := compOp_calls hc
  by_cases h1 : ∃ m f xs, vo = .call m f xs
  · obtain ⟨m, f, xs, rfl⟩ := h1
    obtain ⟨args, ts, hop, hxs, hfn⟩ := c1 m f xs rfl
    simp only [operK] at he
    have hargs := opds_rel hr hxs
    obtain ⟨_, hcall⟩ := call_sound hE he hs hargs
    refine step_enter ro hnd (f := f) (args := (args.toList.map a.eval).toArray) ?_ hcall
    simp only [execOp, hop, Sem.run_bind]
    rw [resolve_func (x := .func f) (by rfl)]
    simp only [Result.andThen_ok, invoke_func _ _ hfn]
    congr 2
    apply Array.ext'; simp
  · by_cases h2 : ∃ g xs, vo = .callV g xs
    · obtain ⟨g, xs, rfl⟩ := h2
      obtain ⟨x, args, ts, hop, hg, hxs⟩ := c2 g xs rfl
      simp only [operK] at he
      have hargs := opds_rel hr hxs
      have hgv := opd_rel hr hg
      have fin : ∀ (f : FuncId) (as bs : List AV) (va vb : List Value), a.eval x = .func (.func f) va.toArray vb.toArray → VRels κ as va → VRels κ bs vb →
          callK env E (.fn f) (as ++ xs.map (Opd.ev r) ++ bs) H (fun v h => some (v, h)) = some (v, H') → StepTo Γ ro base κ H w o a v H' := by
        intro f as bs va vb hx ha hb hcall
        obtain ⟨hfn, hcall⟩ := call_sound hE hcall hs ((ha.append hargs).append hb)
        refine step_enter ro hnd (f := f) (args := (va ++ args.toList.map a.eval ++ vb).toArray) ?_ hcall
        simp only [execOp, hop, Sem.run_bind]
        rw [resolve_func hx]
        simp only [Result.andThen_ok, invoke_func _ _ hfn]
        congr 2
        apply Array.ext'; simp
      split at he
      · rename_i f as bs hm
        rw [hm] at hgv
        generalize hx : a.eval x = vx at hgv
        cases hgv with
        | pv _ _ hgv => cases hgv with
          | fn _ _ _ va vb g1 g2 => exact fin f _ _ va vb hx (VRels.of_pv g1) (VRels.of_pv g2) he
      · rename_i f as bs hm
        rw [hm] at hgv
        generalize hx : a.eval x = vx at hgv
        cases hgv with
        | fn _ _ _ va vb g1 g2 => exact fin f _ _ va vb hx g1 g2 he
      · rename_i id hm
        rw [hm] at hgv
        generalize hx : a.eval x = vx at hgv
        cases hgv with
        | yield _ k hl =>
          obtain ⟨v', h', g1, g2⟩ := callSK_inv he
          injection g2 with g2; injection g2 with e1 e2; subst e1; subst e2
          obtain ⟨f, tmps, asg, body, hy, hround⟩ := hE.yield _ _ _ _ _ g1 base κ w _ k hs hargs hl
          refine step_round ro hnd (l := k) (f := f) (tmps := tmps) (asg := asg) (body := body) ?_ hround
          simp only [execOp, hop, Sem.run_bind]
          rw [resolve_func hx]
          simp only [Result.andThen_ok, invoke]
          rw [← hy]
          congr 2
          apply Array.ext'; simp
      · cases he
    · rw [operK_op (fun m f xs e => h1 ⟨m, f, xs, e⟩) (fun f xs e => h2 ⟨f, xs, e⟩)] at he
      exact (op_sound hs hr hc he).step ro hnd

/-! ### the frame's state -/
/-- Marks among the deferred calls, each of a block made since, in which no call lies. -/
inductive Marks (sz : Nat) (κ : K) (H : Heap) (w : World) : List Deferred → Prop
  | nil : Marks sz κ H w []
  | cons (D : Nat) (ds : List Deferred) : sz ≤ D → w.heap[D]? = some (.deferred (some [])) → (∀ id, place κ id (hget H id) ≠ some D) → (∀ d ∈ ds, d.target ≠ .collected D) → Marks sz κ H w ds →
      Marks sz κ H w ({ target := .collected D, args := #[] } :: ds)

theorem Marks.grow {sz : Nat} {κ κ' : K} {H H' : Heap} {w w' : World} {ds : List Deferred} (h : Marks sz κ H w ds) (g : Grow κ H w κ' H' w') : Marks sz κ' H' w' ds := by
  induction h with
  | nil => exact .nil
  | cons D ds h1 h2 h3 h4 _ ih =>
    have hlt : D < w.heap.size := (Array.getElem?_eq_some_iff.1 h2).1
    refine .cons D ds h1 (by rw [g.frame D hlt h3]; exact h2) (fun id hp => ?_) h4 ih
    rcases g.places id D hp with ⟨id', h'⟩ | h'
    · exact h3 id' h'
    · omega

structure Conf (Γ : Ctx) (base sz n : Nat) (κ : K) (H : Heap) (w : World) (r : Regs) (a : Act) : Prop where
  srel : SRel Γ base κ H w
  regs : RRel κ r a
  size : n ≤ a.tmps.size
  marks : Marks sz κ H w a.defers

theorem put_size (a : Act) (d : Option Tmp) (v : Value) : (a.put d v).tmps.size = a.tmps.size := by cases d <;> simp [Act.put]
theorem put_defers (a : Act) (d : Option Tmp) (v : Value) : (a.put d v).defers = a.defers := by cases d <;> simp [Act.put]

theorem RRel.put {n : Nat} (h : RRel κ r a) (hn : n ≤ a.tmps.size) {d : Option Tmp} (hd : okDst n d = true) {v : AV} {v' : Value} (hv : VRel κ v v') : RRel κ (put r d v) (a.put d v') := by
  intro t
  cases d with
  | none => exact h t
  | some d =>
    have hlt : d < a.tmps.size := Nat.lt_of_lt_of_le (blt_lt hd) hn
    simp only [Act.put, Go.VM.put, upd]
    cases hb : Nat.beq t d with
    | true =>
      have := Nat.eq_of_beq_eq_true hb
      subst this
      simpa [Array.getD, hlt] using hv
    | false =>
      have hne : d ≠ t := fun e => by subst e; simp at hb
      have e : (a.tmps.setIfInBounds d v').getD t undef = a.tmps.getD t undef := by
        simp only [Array.getD_eq_getD_getElem?]
        rw [Array.getElem?_setIfInBounds_ne hne]
      simp only [cond_false]
      rw [e]
      exact h t

theorem Conf.step {sz n : Nat} (h : Conf Γ base sz n κ H w r a) {κ' : K} {w' : World} (hs : SRel Γ base κ' H' w') (hg : Grow κ H w κ' H' w') {d : Option Tmp} (hd : okDst n d = true) {v' : Value} (hv : VRel κ' v v') :
    Conf Γ base sz n κ' H' w' (put r d v) (a.put d v') :=
  ⟨hs, (h.regs.mono hg.le).put h.size hd hv, by rw [put_size]; exact h.size, by rw [put_defers]; exact h.marks.grow hg⟩

theorem wantedV_no {r : Regs} {t : Nat} {wt : Bool} (h : ∀ b, r t ≠ .pv (.bool b)) (hna : r t ≠ .any) : wantedV r (some (t, wt)) = false := by
  unfold wantedV
  dsimp only
  split
  · rename_i b e; exact absurd e (h b)
  · rename_i e; exact absurd e hna
  · rfl
/-- Whether an operation is carried out. -/
theorem wanted_rel (hr : RRel κ r a) {ops : Array Oper} {g : Option (Nat × Bool)} (hg : guardOf ops.toList o = some g) (hb : badG r g = false ∨ wantedV r g = false) : Region.wanted o (yielded ops a.tmps) = wantedV r g := by
  unfold guardOf at hg
  split at hg
  · rename_i h0
    injection hg with hg; subst hg
    simp [Region.wanted, h0, wantedV]
  · rename_i j wt h0
    split at hg
    · rename_i p hp
      split at hg
      · rename_i t ht
        injection hg with hg; subst hg
        have hp' : ops[j]? = some p := by rw [← Array.getElem?_toList]; exact hp
        have hna : r t ≠ .any := fun e => by
          rcases hb with hb | hb
          · simp [badG, e] at hb
          · simp [wantedV, e] at hb
        have hrt := hr t
        simp only [Region.wanted, h0, yielded, hp', Option.bind_some, ht]
        simp only [Array.getD_eq_getD_getElem?] at hrt
        cases hv : a.tmps[t]? with
        | none =>
          rw [hv] at hrt
          simp only [Option.getD_none] at hrt
          rw [wantedV_no (fun b e => by rw [e] at hrt; have := bool_rel hrt; cases this) hna]
          rfl
        | some u =>
          rw [hv] at hrt
          simp only [Option.getD_some] at hrt
          cases u with
          | bool b =>
            simp only [wantedV, pv_bool hrt hna]
            cases b <;> cases wt <;> rfl
          | _ =>
            rw [wantedV_no (fun b e => by rw [e] at hrt; have := bool_rel hrt; cases this) hna]
            rfl
      · cases hg
    · cases hg
end

theorem compOpers_cons {P : Program} {mu : Nat → Mu} {n : Nat} {all : List Oper} {o : Oper} {l : List Oper} :
    (∃ g v, compOpers P mu n all (o :: l) = ⟨o.dst, g, v⟩ :: compOpers P mu n all l ∧ guardOf all o = some g ∧ okDst n o.dst = true ∧ compOp P (mu (o.dst.getD 0)) o.op = some v) ∨
    compOpers P mu n all (o :: l) = ⟨none, none, .bad⟩ :: compOpers P mu n all l := by
  simp only [compOpers]
  split
  · rename_i g v h1 h2 h3
    exact .inl ⟨g, v, rfl, h1, h2, h3⟩
  · exact .inr rfl

section
variable {Γ : Ctx} {base sz n : Nat} {R : Type}

theorem ops_sound {env : Env} {E : Orc} (hE : OrcOK Γ E) (ro : Option Nat) {mu : Nat → Mu} {ops : Array Oper} {Q : Exit → Act → World → Prop} {κ0 : K} {H0 : Heap} {w0 : World} {k : Regs → Heap → Option R} {y : R} : ∀ (l : List Oper) (i : Nat),
    ops.toList.drop i = l → ∀ (r : Regs) (H : Heap) (a : Act) (w : World) (κ : K), Conf Γ base sz n κ H w r a → Grow κ0 H0 w0 κ H w → evOps env E (compOpers Γ.P mu n ops.toList l) r H k = some y →
    (∀ r' H' κ' a' w', k r' H' = some y → Conf Γ base sz n κ' H' w' r' a' → Grow κ0 H0 w0 κ' H' w' → Q .normal a' w') → wpOpsIn (wideR ro) 0 Γ.P ops Q (List.range' i l.length) a w := by
  intro l
  induction l with
  | nil =>
    intro i _ r H a w κ hcf hg he hQ
    simp only [compOpers, evOps_nil, evOps_cons] at he
    exact hQ r H κ a w he hcf hg
  | cons o l ih =>
    intro i hi r H a w κ hcf hg he hQ
    have hoi : ops[i]? = some o := by
      rw [← Array.getElem?_toList]
      have : (ops.toList.drop i)[0]? = some o := by rw [hi]; rfl
      simpa [List.getElem?_drop] using this
    have hnext : ops.toList.drop (i + 1) = l := by rw [← List.drop_drop, hi]; rfl
    rw [List.length_cons, List.range'_succ]
    simp only [wpOpsIn, hoi]
    rcases compOpers_cons (P := Γ.P) (mu := mu) (n := n) (all := ops.toList) (o := o) (l := l) with ⟨g, v, e, hgd, hdst, hop⟩ | e
    · rw [e] at he
      simp only [evOps_nil, evOps_cons] at he
      cases hw : wantedV r g with
      | true =>
        rw [hw] at he
        simp only [cond_true] at he
        obtain ⟨hbg, v1, H1, he1, he2⟩ := operG_inv he
        rw [wanted_rel hcf.regs hgd (.inl hbg), hw]
        simp only [if_true]
        rw [forceK_def, putK_def] at he2
        refine oper_sound hE ro hcf.srel hcf.regs hop he1 _ _ fun v' κ' w' hv hs hgr => ?_
        exact ih (i + 1) hnext _ _ _ _ κ' (hcf.step hs hgr hdst hv) (hg.trans hgr) he2 hQ
      | false =>
        rw [hw] at he
        simp only [cond_false, putK_def] at he
        rw [wanted_rel hcf.regs hgd (.inr hw), hw]
        simp only [Bool.false_eq_true, if_false]
        exact ⟨fun _ _ => trivial, ih (i + 1) hnext _ _ _ _ κ (hcf.step hcf.srel (Grow.refl _ _ _) hdst (undefV_rel κ)) hg he hQ⟩
    · rw [e] at he
      simp only [evOps_nil, evOps_cons, wantedV, cond_true, operG, badG, cond_false, operK, opK] at he
      cases he
end
end Go.VM

namespace Go.VM
open Go

/-! ### lists -/
theorem memN_iff {l : List Nat} {x : Nat} : memN l x = true ↔ x ∈ l := by
  induction l with
  | nil => simp [memN]
  | cons a l ih =>
    simp only [memN, Bool.or_eq_true, ih, List.mem_cons]
    constructor
    · rintro (h | h)
      · exact .inl (Nat.eq_of_beq_eq_true h).symm
      · exact .inr h
    · rintro (h | h)
      · subst h; exact .inl (by simp)
      · exact .inr h
theorem memP_iff {l : List (Nat × Nat)} {x y : Nat} : memP l x y = true ↔ (x, y) ∈ l := by
  induction l with
  | nil => simp [memP]
  | cons a l ih =>
    obtain ⟨a, b⟩ := a
    simp only [memP, Bool.or_eq_true, Bool.and_eq_true, ih, List.mem_cons, Prod.mk.injEq]
    constructor
    · rintro (⟨h, h'⟩ | h)
      · exact .inl ⟨(Nat.eq_of_beq_eq_true h).symm, (Nat.eq_of_beq_eq_true h').symm⟩
      · exact .inr h
    · rintro (⟨h, h'⟩ | h)
      · subst h; subst h'; exact .inl ⟨by simp, by simp⟩
      · exact .inr h
theorem allFrom_get {α : Type} {f : Nat → α → Bool} : ∀ {l : List α} {i : Nat}, allFrom f l i = true → ∀ {j : Nat} {a : α}, l[j]? = some a → f (i + j) a = true := by
  intro l
  induction l with
  | nil => intro i _ j a h; simp at h
  | cons b l ih =>
    intro i h j a ha
    simp only [allFrom, Bool.and_eq_true] at h
    cases j with
    | zero => simp at ha; subst ha; exact h.1
    | succ j =>
      simp at ha
      have := ih h.2 ha
      rwa [Nat.add_assoc, Nat.add_comm 1 j] at this

/-! ### what an operation looks at -/
theorem opd_congr {r r' : Regs} {x : Opd} (h : ∀ t ∈ x.tmps, r t = r' t) : x.ev r = x.ev r' := by
  cases x with
  | t n => exact h n (by simp [Opd.tmps])
  | _ => rfl
theorem opds_congr {r r' : Regs} {l : List Opd} (h : ∀ t ∈ (l.map Opd.tmps).flatten, r t = r' t) : l.map (Opd.ev r) = l.map (Opd.ev r') := by
  apply List.map_congr_left
  intro x hx
  exact opd_congr fun t ht => h t (List.mem_flatten.2 ⟨_, List.mem_map.2 ⟨x, hx, rfl⟩, ht⟩)
theorem opt_congr {r r' : Regs} {x : Option Opd} (h : ∀ t ∈ optTmps x, r t = r' t) : x.map (Opd.ev r) = x.map (Opd.ev r') := by
  cases x with
  | none => rfl
  | some x => exact congrArg some (opd_congr h)
theorem parts_congr {r r' : Regs} {l : List (Nat × Nat × Opd)} (h : ∀ t ∈ (l.map fun (_, _, x) => x.tmps).flatten, r t = r' t) : (l.map fun (o, n, x) => (o, n, x.ev r)) = l.map fun (o, n, x) => (o, n, x.ev r') := by
  apply List.map_congr_left
  rintro ⟨o, n, x⟩ hx
  have := opd_congr (r := r) (r' := r') (x := x) fun t ht => h t (List.mem_flatten.2 ⟨_, List.mem_map.2 ⟨_, hx, rfl⟩, ht⟩)
  simp only [this]

theorem operK_congr {R : Type} {env : Env} {E : Orc} {o : VOp} {r r' : Regs} (hh : ∀ t ∈ o.tmps, r t = r' t) (H : Heap) (F : AV → Heap → Option R) : operK env E o r H F = operK env E o r' H F := by
  cases o <;> simp only [VOp.tmps, List.mem_append] at hh
  case build z ps => simp only [operK, opK, parts_congr hh]
  case buildSlice mu es len z ps => simp only [operK, opK, parts_congr hh]
  case buildG es len z ps => simp only [operK, opK, parts_congr hh]
  case mkFn f a b => simp only [operK, opK, opds_congr fun t ht => hh t (.inl ht), opds_congr fun t ht => hh t (.inr ht)]
  case minmax mx xs => simp only [operK, opK, opds_congr hh]
  case call f xs => simp only [operK, opds_congr hh]
  case callV f xs => simp only [operK, opd_congr fun t ht => hh t (.inl ht), opds_congr fun t ht => hh t (.inr ht)]
  case pick c a b => simp only [operK, opK, opd_congr fun t ht => hh t (.inl (.inl ht)), opd_congr fun t ht => hh t (.inl (.inr ht)), opd_congr fun t ht => hh t (.inr ht)]
  case updM kk c a b => simp only [operK, opK, opd_congr fun t ht => hh t (.inl (.inl ht)), opd_congr fun t ht => hh t (.inl (.inr ht)), opd_congr fun t ht => hh t (.inr ht)]
  case sliceStr x lo hi => simp only [operK, opK, opd_congr fun t ht => hh t (.inl (.inl ht)), opt_congr fun t ht => hh t (.inl (.inr ht)), opt_congr fun t ht => hh t (.inr ht)]
  case sliceA n es x lo hi => simp only [operK, opK, opd_congr fun t ht => hh t (.inl (.inl ht)), opt_congr fun t ht => hh t (.inl (.inr ht)), opt_congr fun t ht => hh t (.inr ht)]
  case sliceS es x lo hi mx => simp only [operK, opK, opd_congr fun t ht => hh t (.inl (.inl (.inl ht))), opt_congr fun t ht => hh t (.inl (.inl (.inr ht))), opt_congr fun t ht => hh t (.inl (.inr ht)), opt_congr fun t ht => hh t (.inr ht)]
  all_goals first
    | rfl
    | (simp only [operK, opK, opd_congr hh]; done)
    | (simp only [operK, opK, opd_congr fun t ht => hh t (.inl ht), opd_congr fun t ht => hh t (.inr ht)]; done)

/-- What neither reads nor writes the heap. -/
theorem operK_none {R : Type} {env : Env} {E : Orc} {o : VOp} (hc : clsOf env.md o = .none) (r : Regs) (h h' : Heap) (F : AV → Heap → Option R) : operK env E o r h F = operK env E o r h' fun v _ => F v h := by
  cases o
  case mkSlice mu es z l c => cases mu with
    | true => simp [clsOf] at hc
    | false => rfl
  case buildSlice mu es len z ps => cases mu with
    | true => simp [clsOf] at hc
    | false => rfl
  case call m f xs =>
    simp only [clsOf] at hc
    cases m with
    | pure => simp only [operK, callK]
    | shared => cases hc
    | own => cases hc
    | thaw => cases hc
    | lend th => cases hc
  all_goals first
    | rfl
    | (simp [clsOf] at hc; done)

theorem operK_keep {env : Env} {E : Orc} {o : VOp} (hc : clsOf env.md o ≠ .ef) {r : Regs} {h h' : Heap} {v : AV} (he : operK env E o r h (fun v h => some (v, h)) = some (v, h')) : h' = h := by
  cases hcl : clsOf env.md o with
  | ef => exact absurd hcl hc
  | none =>
    rw [operK_none hcl r h h] at he
    obtain ⟨v1, h1, _, h2⟩ := operK_inv he
    injection h2 with h2; injection h2 with _ e; exact e.symm
  | rd =>
    cases o <;> simp only [clsOf] at hcl <;> try (cases hcl; done)
    case load1 p =>
      simp only [operK, opK] at he
      have e : (load1K (p.ev r) h some).bind (fun v => some (v, h)) = some (v, h') := by rw [load1K_bind]; exact he
      obtain ⟨q, _, e2⟩ := bind_pair e
      injection e2 with _ e2; exact e2.symm
    case loadN n p =>
      simp only [operK, opK] at he
      have e : (loadNK n (p.ev r) h some).bind (fun v => some (v, h)) = some (v, h') := by rw [loadNK_bind]; exact he
      obtain ⟨q, _, e2⟩ := bind_pair e
      injection e2 with _ e2; exact e2.symm
    case mkSlice mu _ _ _ _ => cases mu <;> cases hcl
    case buildSlice mu _ _ _ _ => cases mu <;> cases hcl
    case call f _ => split at hcl <;> cases hcl

/-! ### the run -/
structure Ev where
  did : Bool
  v : AV
  hb : Heap
  ha : Heap
  rb : Regs

inductive Run (env : Env) (E : Orc) : List VOper → Regs → Heap → List Ev → Regs → Heap → Prop
  | nil (r h) : Run env E [] r h [] r h
  | did (o l r h v h' T r2 h2) : wantedV r o.guard = true → badG r o.guard = false → operK env E o.op r h (fun v h => some (v, h)) = some (v, h') → Run env E l (put r o.dst v) h' T r2 h2 → Run env E (o :: l) r h (⟨true, v, h, h', r⟩ :: T) r2 h2
  | not (o l r h T r2 h2) : wantedV r o.guard = false → Run env E l (put r o.dst undefV) h T r2 h2 → Run env E (o :: l) r h (⟨false, undefV, h, h, r⟩ :: T) r2 h2

def loadsOf : List VOper → List Ev → Nat → List (Nat × AV × Option Nat) → List (Nat × AV × Option Nat)
  | o :: l, e :: T, i, acc => loadsOf l T (i + 1) (if e.did then (match loadOf o.op e.rb with | some x => (i, x) :: acc | none => acc) else acc)
  | _, _, _, acc => acc
def effsOf (pairs : List (Nat × Nat)) : List Ev → Nat → List (Nat × Heap × Heap) → List (Nat × Heap × Heap)
  | e :: T, i, acc => effsOf pairs T (i + 1) (if e.did && hasSnd pairs i then (i, e.hb, e.ha) :: acc else acc)
  | _, _, acc => acc

section
variable {R : Type} {env : Env} {E : Orc}

theorem evOps_run : ∀ {l : List VOper} {r : Regs} {h : Heap} {k : Regs → Heap → Option R} {y : R}, evOps env E l r h k = some y → ∃ T r' h', Run env E l r h T r' h' ∧ k r' h' = some y := by
  intro l
  induction l with
  | nil => intro r h k y he; exact ⟨[], r, h, .nil _ _, he⟩
  | cons o l ih =>
    intro r h k y he
    simp only [evOps_nil, evOps_cons] at he
    cases hw : wantedV r o.guard with
    | true =>
      rw [hw] at he; simp only [cond_true] at he
      obtain ⟨hbg, v, h1, e1, e2⟩ := operG_inv he
      rw [forceK_def, putK_def] at e2
      obtain ⟨T, r', h', g1, g2⟩ := ih e2
      exact ⟨_, r', h', .did _ _ _ _ _ _ _ _ _ hw hbg e1 g1, g2⟩
    | false =>
      rw [hw] at he; simp only [cond_false, putK_def] at he
      obtain ⟨T, r', h', g1, g2⟩ := ih he
      exact ⟨_, r', h', .not _ _ _ _ _ _ _ hw g1, g2⟩

theorem evDraw_run {pairs : List (Nat × Nat)} : ∀ {l : List VOper} {i : Nat} {r : Regs} {h : Heap} {ls : List (Nat × AV × Option Nat)} {es : List (Nat × Heap × Heap)} {k : Regs → Heap → List (Nat × AV × Option Nat) → List (Nat × Heap × Heap) → Option R} {y : R},
    evDraw env E pairs l i r h ls es k = some y → ∃ T r' h', Run env E l r h T r' h' ∧ k r' h' (loadsOf l T i ls) (effsOf pairs T i es) = some y := by
  intro l
  induction l with
  | nil => intro i r h ls es k y he; exact ⟨[], r, h, .nil _ _, he⟩
  | cons o l ih =>
    intro i r h ls es k y he
    simp only [evDraw_nil, evDraw_cons] at he
    cases hw : wantedV r o.guard with
    | true =>
      rw [hw] at he; simp only [cond_true] at he
      obtain ⟨hbg, v, h1, e1, e2⟩ := operG_inv he
      rw [forceK_def, putK_def] at e2
      obtain ⟨T, r', h', g1, g2⟩ := ih e2
      refine ⟨_, r', h', .did _ _ _ _ _ _ _ _ _ hw hbg e1 g1, ?_⟩
      simp only [loadsOf, effsOf, if_true, Bool.true_and]
      rw [← g2]
      cases hasSnd pairs i <;> rfl
    | false =>
      rw [hw] at he; simp only [cond_false, putK_def] at he
      obtain ⟨T, r', h', g1, g2⟩ := ih he
      refine ⟨_, r', h', .not _ _ _ _ _ _ _ hw g1, ?_⟩
      simp only [loadsOf, effsOf, Bool.false_eq_true, if_false, Bool.false_and]
      exact g2

theorem loadsOf_old : ∀ {l : List VOper} {T : List Ev} {i m : Nat} {acc : List (Nat × AV × Option Nat)}, m < i → lfind (loadsOf l T i acc) m = lfind acc m := by
  intro l
  induction l with
  | nil => intro T i m acc _; cases T <;> rfl
  | cons o l ih =>
    intro T i m acc hm
    cases T with
    | nil => rfl
    | cons e T =>
      simp only [loadsOf]
      rw [ih (by omega)]
      have hne : Nat.beq i m = false := by
        cases hb : Nat.beq i m with
        | false => rfl
        | true => have := Nat.eq_of_beq_eq_true hb; omega
      split
      · split
        · simp only [lfind, hne, cond_false]
        · rfl
      · rfl
theorem loadsOf_find : ∀ {l : List VOper} {T : List Ev} {i j : Nat} {acc : List (Nat × AV × Option Nat)} {o : VOper} {e : Ev} {x : AV × Option Nat}, l[j]? = some o → T[j]? = some e → e.did = true → loadOf o.op e.rb = some x →
    lfind (loadsOf l T i acc) (i + j) = some x := by
  intro l
  induction l with
  | nil => intro T i j acc o e x h; simp at h
  | cons o0 l ih =>
    intro T i j acc o e x hl hT hd hx
    cases T with
    | nil => simp at hT
    | cons e0 T =>
      cases j with
      | zero =>
        simp at hl hT; subst hl; subst hT
        simp only [loadsOf, hd, if_true, hx, Nat.add_zero]
        rw [loadsOf_old (by omega)]
        simp [lfind]
      | succ j =>
        simp at hl hT
        simp only [loadsOf]
        have := ih (i := i + 1) (acc := if e0.did then (match loadOf o0.op e0.rb with | some x => (i, x) :: acc | none => acc) else acc) hl hT hd hx
        rwa [Nat.add_assoc, Nat.add_comm 1 j] at this
theorem effsOf_old {pairs : List (Nat × Nat)} : ∀ {T : List Ev} {i m : Nat} {acc : List (Nat × Heap × Heap)}, m < i → lfind (effsOf pairs T i acc) m = lfind acc m := by
  intro T
  induction T with
  | nil => intro i m acc _; rfl
  | cons e T ih =>
    intro i m acc hm
    simp only [effsOf]
    rw [ih (by omega)]
    have hne : Nat.beq i m = false := by
      cases hb : Nat.beq i m with
      | false => rfl
      | true => have := Nat.eq_of_beq_eq_true hb; omega
    split
    · simp only [lfind, hne, cond_false]
    · rfl
theorem effsOf_find {pairs : List (Nat × Nat)} : ∀ {T : List Ev} {i j : Nat} {acc : List (Nat × Heap × Heap)} {e : Ev}, T[j]? = some e → e.did = true → hasSnd pairs (i + j) = true → lfind (effsOf pairs T i acc) (i + j) = some (e.hb, e.ha) := by
  intro T
  induction T with
  | nil => intro i j acc e h; simp at h
  | cons e0 T ih =>
    intro i j acc e hT hd hs
    cases j with
    | zero =>
      simp at hT; subst hT
      simp only [effsOf, Nat.add_zero] at hs ⊢
      rw [effsOf_old (by omega)]
      simp [hd, hs, lfind]
    | succ j =>
      simp at hT
      simp only [effsOf]
      have := ih (i := i + 1) (acc := if e0.did && hasSnd pairs i then (i, e0.hb, e0.ha) :: acc else acc) hT hd (by rwa [Nat.add_assoc, Nat.add_comm 1 j])
      rwa [Nat.add_assoc, Nat.add_comm 1 j] at this

theorem hasSnd_mem : ∀ {l : List (Nat × Nat)} {i j : Nat}, (i, j) ∈ l → hasSnd l j = true := by
  intro l
  induction l with
  | nil => intro i j h; cases h
  | cons a l ih =>
    intro i j h
    obtain ⟨a, b⟩ := a
    simp only [hasSnd, Bool.or_eq_true]
    rcases List.mem_cons.1 h with e | e
    · injection e with _ e; subst e; exact .inl (by simp)
    · exact .inr (ih e)

/-- What the check of the pairs says. -/
theorem checkPairs_inv {ls : List (Nat × AV × Option Nat)} {es : List (Nat × Heap × Heap)} : ∀ {l : List (Nat × Nat)} {x : Option R} {y : R}, checkPairs ls es l x = some y →
    x = some y ∧ ∀ i j p n hb ha, (i, j) ∈ l → lfind ls i = some (p, n) → lfind es j = some (hb, ha) → (∃ id off, p = .ptr id off ∧ readObj (hget hb id) off n = readObj (hget ha id) off n) ∨ (∃ cs off, p = .rptr cs off) ∨ ∃ id m off, p = .gptr id m off ∧ readG (hget hb id) m off n = readG (hget ha id) m off n := by
  intro l
  induction l with
  | nil => intro x y h; exact ⟨h, fun i j p n hb ha hm => by cases hm⟩
  | cons a l ih =>
    intro x y h
    obtain ⟨a, b⟩ := a
    simp only [checkPairs] at h
    have step : ∀ {z : Prop}, checkPairs ls es l x = some y → (∀ p n hb ha, lfind ls a = some (p, n) → lfind es b = some (hb, ha) → (∃ id off, p = .ptr id off ∧ readObj (hget hb id) off n = readObj (hget ha id) off n) ∨ (∃ cs off, p = .rptr cs off) ∨ ∃ id m off, p = .gptr id m off ∧ readG (hget hb id) m off n = readG (hget ha id) m off n) →
        x = some y ∧ ∀ i j p n hb ha, (i, j) ∈ (a, b) :: l → lfind ls i = some (p, n) → lfind es j = some (hb, ha) → (∃ id off, p = .ptr id off ∧ readObj (hget hb id) off n = readObj (hget ha id) off n) ∨ (∃ cs off, p = .rptr cs off) ∨ ∃ id m off, p = .gptr id m off ∧ readG (hget hb id) m off n = readG (hget ha id) m off n := by
      intro _ h1 h2
      obtain ⟨g1, g2⟩ := ih h1
      refine ⟨g1, fun i j p n hb ha hm hi hj => ?_⟩
      rcases List.mem_cons.1 hm with e | e
      · injection e with e1 e2; subst e1; subst e2; exact h2 p n hb ha hi hj
      · exact g2 i j p n hb ha e hi hj
    split at h
    · rename_i p n hb ha h1 h2
      split at h
      · rename_i id off
        rw [sameK_def] at h
        split at h
        · rename_i hc
          exact step (z := True) h fun p' n' hb' ha' e1 e2 => by
            rw [h1] at e1; rw [h2] at e2
            injection e1 with e1; injection e1 with e1 e1'; injection e2 with e2; injection e2 with e2 e2'
            subst e1; subst e1'; subst e2; subst e2'
            exact .inl ⟨id, off, rfl, hc.1⟩
        · cases h
      · rename_i cs off
        exact step (z := True) h fun p' n' hb' ha' e1 e2 => by
          rw [h1] at e1
          injection e1 with e1; injection e1 with e1 _
          subst e1
          exact .inr (.inl ⟨cs, off, rfl⟩)
      · rename_i id mm off
        rw [sameK_def] at h
        split at h
        · rename_i hc
          exact step (z := True) h fun p' n' hb' ha' e1 e2 => by
            rw [h1] at e1; rw [h2] at e2
            injection e1 with e1; injection e1 with e1 e1'; injection e2 with e2; injection e2 with e2 e2'
            subst e1; subst e1'; subst e2; subst e2'
            exact .inr (.inr ⟨id, mm, off, rfl, hc.1⟩)
        · cases h
      · cases h
    · rename_i hno
      exact step (z := True) h fun p n hb ha e1 e2 => (hno p n hb ha e1 e2).elim
/-- What the check of the boxes says. -/
theorem checkBox_inv {ls : List (Nat × AV × Option Nat)} : ∀ {l : List (Nat × PV)} {x : Option R} {y : R}, checkBox ls l x = some y → x = some y ∧ ∀ i p, (i, p) ∈ l → ∃ n, lfind ls i = some (.pv p, n) := by
  intro l
  induction l with
  | nil => intro x y h; exact ⟨h, fun i p hm => by cases hm⟩
  | cons a l ih =>
    intro x y h
    obtain ⟨i, p⟩ := a
    simp only [checkBox] at h
    split at h
    · rename_i v n h1
      rw [sameK_def] at h
      split at h
      · rename_i hc
        obtain ⟨g1, g2⟩ := ih h
        refine ⟨g1, fun j q hm => ?_⟩
        rcases List.mem_cons.1 hm with e | e
        · injection e with e1 e2; subst e1; subst e2
          have := hc.1
          injection this with this
          exact ⟨n, by rw [h1, this]⟩
        · exact g2 j q e
      · cases h
    · cases h
/-- What is known of a block that is made ahead. -/
def Held (zs : List (Nat × PV)) (a : AlS) (s : HSh) (c : List PV) : Prop := match a with
  | .z z => s = none ∧ c = z
  | .x i _ _ => s = none ∧ ∃ p, (i, p) ∈ zs ∧ cellsP p = some c
  | .m i _ es z _ => ∃ k n, (i, .int k n) ∈ zs ∧ 0 ≤ n ∧ n ≤ 1099511627776 ∧ s = some (es, n.toNat) ∧ c = zerosOf z n.toNat
theorem Held.more {zs : List (Nat × PV)} {a : AlS} {s : HSh} {c : List PV} (h : Held zs a s c) (x : Nat × PV) : Held (x :: zs) a s c := by
  cases a with
  | z z => exact h
  | x i pre v => obtain ⟨h0, p, h1, h2⟩ := h; exact ⟨h0, p, List.mem_cons_of_mem _ h1, h2⟩
  | m i pre es z v => obtain ⟨k, n, h1, h2⟩ := h; exact ⟨k, n, List.mem_cons_of_mem _ h1, h2⟩
theorem conts_inv {env : Env} {E : Orc} : ∀ {al : List (Nat × AlS)} {r : Regs} {h : Heap} {k : List (Nat × HSh × List PV) → List (Nat × PV) → Option R} {y : R}, conts env E al r h k = some y →
    ∃ a zs, k a zs = some y ∧ a.map (·.1) = al.map (·.1) ∧ ∀ (m : Nat) (t : Nat) (s : AlS), al[m]? = some (t, s) → ∃ sh c, a[m]? = some (t, sh, c) ∧ Held zs s sh c := by
  intro al
  induction al with
  | nil => intro r h k y he; exact ⟨[], [], he, rfl, fun m t s hm => by simp at hm⟩
  | cons x al ih =>
    intro r h k y he
    obtain ⟨t0, s0⟩ := x
    cases s0 with
    | z z =>
      simp only [conts] at he
      obtain ⟨a, zs, h1, h2, h3⟩ := ih he
      refine ⟨(t0, none, z) :: a, zs, h1, by simp [h2], fun m t s hm => ?_⟩
      cases m with
      | zero => simp at hm; obtain ⟨e1, e2⟩ := hm; subst e1; subst e2; exact ⟨none, z, rfl, rfl, rfl⟩
      | succ m => simp at hm; obtain ⟨sh, c, g1, g2⟩ := h3 m t s hm; exact ⟨sh, c, by simpa using g1, g2⟩
    | m i pre es z v =>
      simp only [conts] at he
      obtain ⟨T, r', h', _, he⟩ := evOps_run he
      split at he
      · rename_i kd n hp
        obtain ⟨hc, he⟩ := needK_inv he
        simp only [Bool.and_eq_true, decide_eq_true_eq] at hc
        rw [eqK_def] at he
        obtain ⟨a, zs, h1, h2, h3⟩ := ih he
        refine ⟨(t0, some (es, n.toNat), zerosOf z n.toNat) :: a, (i, .int kd n) :: zs, h1, by simp [h2], fun m t s hm => ?_⟩
        cases m with
        | zero => simp at hm; obtain ⟨e1, e2⟩ := hm; subst e1; subst e2; exact ⟨_, _, rfl, kd, n, List.mem_cons_self .., hc.1, hc.2, rfl, rfl⟩
        | succ m => simp at hm; obtain ⟨sh, c', g1, g2⟩ := h3 m t s hm; exact ⟨sh, c', by simpa using g1, g2.more _⟩
      · cases he
    | x i pre v =>
      simp only [conts] at he
      obtain ⟨T, r', h', _, he⟩ := evOps_run he
      split at he
      · rename_i p hp
        split at he
        · rename_i c hc
          obtain ⟨a, zs, h1, h2, h3⟩ := ih he
          refine ⟨(t0, none, c) :: a, (i, p) :: zs, h1, by simp [h2], fun m t s hm => ?_⟩
          cases m with
          | zero => simp at hm; obtain ⟨e1, e2⟩ := hm; subst e1; subst e2; exact ⟨none, c, rfl, rfl, p, List.mem_cons_self .., hc⟩
          | succ m => simp at hm; obtain ⟨sh, c', g1, g2⟩ := h3 m t s hm; exact ⟨sh, c', by simpa using g1, g2.more _⟩
        · cases he
      · cases he
end
end Go.VM
