/-
  Part 3 of an abstract machine that answers as the model does.
  Operations, one by one: those that only reckon, those that make a block.
  Equality of structs and arrays of plain scalars.
  Operations that write, build, cut and append.
  Building, cutting, appending, copying.
  Cutting, appending, copying, making.
-/
import Derived.Test.YtkkpkoekbmgabaaV2
import Derived.LaidEqlPtr
import Derived.Deep.AppendSrc
import Derived.Laws.StructEq
import Derived.ChangeKeysEq
import Derived.Laws.Slices
set_option linter.all false
set_option linter.unusedVariables false
set_option linter.unusedSimpArgs false
set_option linter.unusedSectionVars false
namespace Go.VM
open Go

/-- An operation that hands back a value in a world that fits. -/
def OpOK (Γ : Ctx) (base : Nat) (κ : K) (H : Heap) (w : World) (o : Oper) (a : Act) (v : AV) (H' : Heap) : Prop :=
  ∃ nx v' κ' w', (execOp a.eval o).run Γ.P w = .ok nx w' ∧ ((nx = .value v') ∨ (nx = .skip ∧ v' = undef)) ∧ VRel κ' v v' ∧ SRel Γ base κ' H' w' ∧ Grow κ H w κ' H' w'

section
variable {Γ : Ctx} {base : Nat} {κ : K} {H H' : Heap} {w : World} {o : Oper} {a : Act} {v : AV} {r : Regs}

theorem OpOK.same {v' : Value} (hs : SRel Γ base κ H w) (h : (execOp a.eval o).run Γ.P w = .ok (.value v') w) (hv : VRel κ v v') : OpOK Γ base κ H w o a v H :=
  ⟨_, v', κ, w, h, .inl rfl, hv, hs, Grow.refl _ _ _⟩

theorem undefV_rel (κ : K) : VRel κ undefV undef := .pv _ _ (.tup [] [] .nil)

theorem int_rel {k : IntKind} {n : Int} {vx : Value} (h : VRel κ (.pv (.int k n)) vx) : vx = .int k n := by
  cases h with | pv _ _ h => cases h; rfl
theorem str_rel {s : ByteArray} {vx : Value} (h : VRel κ (.pv (.str s)) vx) : vx = .string s := by
  cases h with | pv _ _ h => cases h; rfl
theorem bool_rel {b : Bool} {vx : Value} (h : VRel κ (.pv (.bool b)) vx) : vx = .bool b := by
  cases h with | pv _ _ h => cases h; rfl

/-! ### two operands -/
theorem kindEq_eq {a b : IntKind} (h : kindEq a b = true) : a = b := by cases a <;> cases b <;> first | rfl | (simp [kindEq] at h)

theorem eqGuard_plain {va vb : Value} (h1 : ¬ (va = .nilIface ∧ vb = .nilIface)) (h2 : ∀ p q, ¬ (va = .agg p ∧ vb = .agg q)) (op : BinOp) (t : TypeId) (x y : Operand) :
    (eqGuard op t x y va vb).run Γ.P w = .ok () w := by
  cases op
  case eql => cases va <;> cases vb <;> first | rfl | exact absurd ⟨rfl, rfl⟩ h1 | exact absurd ⟨rfl, rfl⟩ (h2 _ _)
  case neq => cases va <;> cases vb <;> first | rfl | exact absurd ⟨rfl, rfl⟩ h1 | exact absurd ⟨rfl, rfl⟩ (h2 _ _)
  all_goals rfl
theorem equal_once (t : TypeId) (va vb : Value) : Op.equal t va vb = Op.equalIn (9999 + 1) t va vb := rfl

theorem intBin_rel {op : BinOp} {k : IntKind} {m n : Int} (hsh : isShift op = false) (he : intBinK op k m n (fun p => some (AV.pv p)) = some v) (t : TypeId) :
    ∃ v', (binOp op t (.int k m) (.int k n)).run Γ.P w = .ok v' w ∧ VRel κ v v' := by
  cases op <;> simp only [intBinK, eqK_def, needK_def, boolK_def, isShift] at he hsh <;> try (cases hsh; done)
  all_goals
    first
      | (injection he with he; subst he; refine ⟨_, ?_, .pv _ _ (by constructor)⟩
         simp [binOp, Op.intArith, Op.intBits, Op.intCmp]; done)
      | (cases hz : decide (n = 0) with
         | true => rw [hz] at he; simp at he
         | false =>
           rw [hz] at he; simp at he; subst he
           have hn : n ≠ 0 := by simpa using hz
           refine ⟨_, ?_, .pv _ _ (by constructor)⟩
           simp [binOp, Op.intDiv, hn]; done)
      | cases he
theorem shift_rel {op : BinOp} {k k' : IntKind} {m n : Int} (he : shiftK op k m n (fun p => some (AV.pv p)) = some v) (t : TypeId) :
    ∃ v', (binOp op t (.int k m) (.int k' n)).run Γ.P w = .ok v' w ∧ VRel κ v v' := by
  cases op <;> simp only [shiftK, eqK_def, needK_def] at he <;> try (cases he; done)
  all_goals
    cases hz : decide (n < 0) with
    | true => rw [hz] at he; simp at he
    | false =>
      rw [hz] at he; simp at he; subst he
      have hn : ¬ n < 0 := by simpa using hz
      refine ⟨_, ?_, .pv _ _ (by constructor)⟩
      simp [binOp, Op.shift, hn]
theorem strBin_rel {op : BinOp} {m n : ByteArray} (he : strBinK op m n (fun p => some (AV.pv p)) = some v) (t : TypeId) :
    ∃ v', (binOp op t (.string m) (.string n)).run Γ.P w = .ok v' w ∧ VRel κ v v' := by
  cases op <;> simp only [strBinK, eqK_def, needK_def, boolK_def] at he <;> try (cases he; done)
  case add =>
    cases hz : decide (m.size + n.size ≤ 9223372036854775807) with
    | false => rw [hz] at he; simp at he
    | true =>
      rw [hz] at he; simp at he; subst he
      have hn : m.size + n.size ≤ 9223372036854775807 := by simpa using hz
      refine ⟨_, ?_, .pv _ _ (.str _)⟩
      have : ¬ (((m.size + n.size : Nat) : Int) > IntKind.i64.max) := by
        show ¬ (((m.size + n.size : Nat) : Int) > 9223372036854775807)
        omega
      simp only [binOp, Op.stringOp, if_neg this]
      rfl
  all_goals
    injection he with he; subst he; exact ⟨_, rfl, .pv _ _ (.bool _)⟩
theorem boolBin_rel {op : BinOp} {m n : Bool} (he : boolBinK op m n (fun p => some (AV.pv p)) = some v) {t : TypeId} (ht : Γ.P.underlying t = some .bool) :
    ∃ v', (binOp op t (.bool m) (.bool n)).run Γ.P w = .ok v' w ∧ VRel κ v v' := by
  have heq : (Op.equal t (.bool m) (.bool n)).run Γ.P w = .ok (m == n) w := by
    rw [equal_once, Op.equalIn]; simp [run_underlying ht]
  cases op <;> simp only [boolBinK, boolK_def] at he <;> try (cases he; done)
  all_goals
    injection he with he; subst he; refine ⟨_, ?_, .pv _ _ (.bool _)⟩; simp [binOp, heq]

theorem ptr_val {id off : Nat} {v : Value} (h : VRel κ (.ptr id off) v) : ∃ a, v = .pointer (some a) := by cases h; exact ⟨_, rfl⟩
theorem rptr_val {cs : List PV} {off : Nat} {v : Value} (h : VRel κ (.rptr cs off) v) : ∃ a, v = .pointer (some a) := by cases h; exact ⟨_, rfl⟩
theorem nilp_val {v : Value} (h : VRel κ (.pv .nilp) v) : v = .pointer none := by cases h with | pv _ _ h => cases h; rfl
theorem nilm_val {v : Value} (h : VRel κ (.pv .nilm) v) : v = .map none := by cases h with | pv _ _ h => cases h; rfl
theorem nilf_val {v : Value} (h : VRel κ (.pv .nilf) v) : v = .nilFunc := by cases h with | pv _ _ h => cases h; rfl
theorem map_val {id : Nat} {v : Value} (h : VRel κ (.map id) v) : ∃ k, v = .map (some k) := by cases h; exact ⟨_, rfl⟩
theorem fn_val {f : FuncId} {a b : List AV} {v : Value} (h : VRel κ (.fn f a b) v) : ∃ g x y, v = .func g x y := by cases h; exact ⟨_, _, _, rfl⟩
theorem fnp_val {f : FuncId} {a b : List PV} {v : Value} (h : VRel κ (.pv (.fn f a b)) v) : ∃ g x y, v = .func g x y := by cases h with | pv _ _ h => cases h; exact ⟨_, _, _, rfl⟩
theorem yield_val {id : Nat} {v : Value} (h : VRel κ (.yield id) v) : ∃ g x y, v = .func g x y := by cases h; exact ⟨_, _, _, rfl⟩
theorem tsl_val {t n : Nat} {cs : List PV} {v : Value} (h : VRel κ (.tsl t n cs) v) : ∃ a n c, v = .slice (some a) n c := by cases h; exact ⟨_, _, _, rfl⟩
theorem hs_val {es id off n c : Nat} {v : Value} (h : VRel κ (.hs es id off n c) v) : ∃ a n c, v = .slice (some a) n c := by cases h; exact ⟨_, _, _, rfl⟩
theorem slnil_val {v : Value} (h : VRel κ (.pv (.sl .nil 0 [])) v) : v = .slice none 0 0 := by
  cases h with
  | pv _ _ h => cases h with
    | slNil => rfl
    | sl _ _ _ _ _ _ hne => exact absurd rfl hne

/-- Equality with nil. -/
theorem nilEq_rel {k : BK} {x y : AV} {vx vy : Value} {c : Bool} (hx : VRel κ x vx) (hy : VRel κ y vy) (h : nilEq k x y = some c) {t : TypeId}
    (ht : (k = .ptr → ∃ e j, Γ.P.underlying t = some (.pointer e) ∧ Γ.P.info? e = some j) ∧ (k = .sl → ∃ e, Γ.P.underlying t = some (.slice e)) ∧ (k = .map → ∃ e f, Γ.P.underlying t = some (.map e f)) ∧ (k = .fn → ∃ e f g, Γ.P.underlying t = some (.func e f g))) :
    (Op.equal t vx vy).run Γ.P w = .ok c w ∧ (∀ op xo yo, (eqGuard op t xo yo vx vy).run Γ.P w = .ok () w) ∧ ∀ op, op = .eql ∨ op = .neq → binOp op t vx vy = (do let b ← Op.equal t vx vy; pure (.bool (if op = .eql then b else !b))) := by
  have fin : ∀ {vx vy : Value} {d : TypeDesc}, Γ.P.underlying t = some d →
      ((match d, vx, vy with
        | .pointer _, .pointer none, .pointer b => some b.isNone
        | .pointer _, .pointer _, .pointer none => some false
        | .slice _, .slice none _ _, .slice b _ _ => some b.isNone
        | .slice _, .slice _ _ _, .slice none _ _ => some false
        | .map _ _, .map none, .map b => some b.isNone
        | .map _ _, .map _, .map none => some false
        | .func _ _ _, .nilFunc, .nilFunc => some true
        | .func _ _ _, .nilFunc, .func _ _ _ | .func _ _ _, .func _ _ _, .nilFunc => some false
        | _, _, _ => none) = some c) →
      (Op.equal t vx vy).run Γ.P w = .ok c w ∧ (∀ op xo yo, (eqGuard op t xo yo vx vy).run Γ.P w = .ok () w) ∧ ∀ op, op = .eql ∨ op = .neq → binOp op t vx vy = (do let b ← Op.equal t vx vy; pure (.bool (if op = .eql then b else !b))) := by
    intro vx vy d hu hc
    split at hc <;> first | (injection hc with hc; subst hc) | cases hc
    all_goals
      refine ⟨?_, fun op xo yo => eqGuard_plain (by simp) (by simp) op t xo yo, ?_⟩
      · rw [equal_once, Op.equalIn]; simp [run_underlying hu]
      · rintro op (rfl | rfl) <;> rfl
  unfold nilEq at h
  obtain ⟨h1, h2, h3, h4⟩ := ht
  have nonNil : ∀ {x : AV} {vx : Value}, VRel κ x vx → slNonNil x = true → ∃ a n c, vx = .slice (some a) n c := fun {x vx} hx hn => by
    unfold slNonNil at hn
    split at hn
    · exact tsl_val hx
    · exact hs_val hx
    · cases hx with
      | pv _ _ hx => cases hx with
        | slNil x a b => unfold nnB at hn; split at hn <;> first | exact absurd rfl a | exact absurd rfl b | cases hn
        | sl _ _ _ a cap vs => exact ⟨a, _, cap, rfl⟩
    · cases hn
  have isNil : ∀ {x : AV} {vx : Value}, VRel κ x vx → isNilLit x = true → vx = .slice none 0 0 := fun {x vx} hx hn => by
    unfold isNilLit at hn
    split at hn
    · exact slnil_val hx
    · cases hn
  split at h
  rotate_right
  · cases h
  rotate_right
  · obtain ⟨e, hu⟩ := h2 rfl
    unfold slEq at h
    cases hy0 : isNilLit y with
    | true =>
      rw [hy0] at h
      rw [isNil hy hy0]
      cases hx0 : isNilLit x with
      | true =>
        rw [hx0] at h; injection h with h; subst h
        rw [isNil hx hx0]; exact fin hu rfl
      | false =>
        rw [hx0] at h
        cases hx1 : slNonNil x with
        | true =>
          rw [hx1] at h; injection h with h; subst h
          obtain ⟨_, _, _, ha⟩ := nonNil hx hx1
          rw [ha]; exact fin hu rfl
        | false => rw [hx1] at h; cases h
    | false =>
      rw [hy0] at h
      cases hx0 : isNilLit x with
      | true =>
        rw [hx0] at h
        rw [isNil hx hx0]
        cases hy1 : slNonNil y with
        | true =>
          rw [hy1] at h; injection h with h; subst h
          obtain ⟨_, _, _, ha⟩ := nonNil hy hy1
          rw [ha]; exact fin hu rfl
        | false => rw [hy1] at h; cases h
      | false => rw [hx0] at h; cases h
  rotate_right
  · rename_i i o j q
    cases hb : (Nat.beq i j && Nat.beq o q) with
    | false => rw [hb] at h; cases h
    | true =>
      rw [hb] at h; injection h with h; subst h
      rw [Bool.and_eq_true] at hb
      have e1 := Nat.eq_of_beq_eq_true hb.1
      have e2 := Nat.eq_of_beq_eq_true hb.2
      subst e1; subst e2
      obtain ⟨e, ti, hu, hi⟩ := h1 rfl
      cases hx with
      | ptr _ _ k1 g1 => cases hy with
        | ptr _ _ k2 g2 =>
          rw [g1] at g2; injection g2 with g2; subst g2
          refine ⟨?_, fun op xo yo => eqGuard_plain (by simp) (by simp) op t xo yo, ?_⟩
          · rw [equal_once, Op.equalIn]; simp [run_underlying hu, sizeOf, typeInfo, hi, run_sameAddr_same]
          · rintro op (rfl | rfl) <;> rfl
  all_goals first | (injection h with h; subst h) | cases h
  · obtain ⟨e, _, hu, _⟩ := h1 rfl; rw [nilp_val hx, nilp_val hy]; exact fin hu rfl
  · obtain ⟨e, _, hu, _⟩ := h1 rfl; obtain ⟨a, ha⟩ := ptr_val hx; rw [ha, nilp_val hy]; exact fin hu rfl
  · obtain ⟨e, _, hu, _⟩ := h1 rfl; obtain ⟨a, ha⟩ := ptr_val hy; rw [ha, nilp_val hx]; exact fin hu rfl
  · obtain ⟨e, _, hu, _⟩ := h1 rfl; obtain ⟨a, ha⟩ := rptr_val hx; rw [ha, nilp_val hy]; exact fin hu rfl
  · obtain ⟨e, _, hu, _⟩ := h1 rfl; obtain ⟨a, ha⟩ := rptr_val hy; rw [ha, nilp_val hx]; exact fin hu rfl
  · obtain ⟨e, f, hu⟩ := h3 rfl; rw [nilm_val hx, nilm_val hy]; exact fin hu rfl
  · obtain ⟨e, f, hu⟩ := h3 rfl; obtain ⟨a, ha⟩ := map_val hx; rw [ha, nilm_val hy]; exact fin hu rfl
  · obtain ⟨e, f, hu⟩ := h3 rfl; obtain ⟨a, ha⟩ := map_val hy; rw [ha, nilm_val hx]; exact fin hu rfl
  · obtain ⟨e, f, g, hu⟩ := h4 rfl; rw [nilf_val hx, nilf_val hy]; exact fin hu rfl
  · obtain ⟨e, f, g, hu⟩ := h4 rfl; obtain ⟨_, _, _, ha⟩ := fn_val hx; rw [ha, nilf_val hy]; exact fin hu rfl
  · obtain ⟨e, f, g, hu⟩ := h4 rfl; obtain ⟨_, _, _, ha⟩ := fnp_val hx; rw [ha, nilf_val hy]; exact fin hu rfl
  · obtain ⟨e, f, g, hu⟩ := h4 rfl; obtain ⟨_, _, _, ha⟩ := yield_val hx; rw [ha, nilf_val hy]; exact fin hu rfl
  · obtain ⟨e, f, g, hu⟩ := h4 rfl; obtain ⟨_, _, _, ha⟩ := fn_val hy; rw [ha, nilf_val hx]; exact fin hu rfl
  · obtain ⟨e, f, g, hu⟩ := h4 rfl; obtain ⟨_, _, _, ha⟩ := fnp_val hy; rw [ha, nilf_val hx]; exact fin hu rfl
  · obtain ⟨e, f, g, hu⟩ := h4 rfl; obtain ⟨_, _, _, ha⟩ := yield_val hy; rw [ha, nilf_val hx]; exact fin hu rfl
end
end Go.VM

namespace Go.VM
open Go

theorem aggEq_append {s1 s2 : List SK} {as bs : List PV} {c : Bool} (h : aggEq (s1 ++ s2) as bs = some c) :
    ∃ c1 c2, aggEq s1 (as.take s1.length) (bs.take s1.length) = some c1 ∧ aggEq s2 (as.drop s1.length) (bs.drop s1.length) = some c2 ∧ c = (c1 && c2) := by
  induction s1 generalizing as bs c with
  | nil => exact ⟨true, c, by simp [aggEq], by simpa using h, by simp⟩
  | cons k ks ih =>
    cases as with
    | nil => simp [aggEq] at h
    | cons a as =>
      cases bs with
      | nil => simp [aggEq] at h
      | cons b bs =>
        simp only [List.cons_append, aggEq] at h
        split at h
        · rename_i x y hx hy
          injection h with h; subst h
          obtain ⟨c1, c2, h1, h2, rfl⟩ := ih hy
          exact ⟨x && c1, c2, by simp [aggEq, hx, h1], by simpa using h2, by rw [Bool.and_assoc]⟩
        · cases h
theorem aggEq_length {s : List SK} {as bs : List PV} {c : Bool} (h : aggEq s as bs = some c) : as.length = s.length ∧ bs.length = s.length := by
  induction s generalizing as bs c with
  | nil => cases as <;> cases bs <;> simp [aggEq] at h <;> exact ⟨rfl, rfl⟩
  | cons k ks ih =>
    cases as with
    | nil => simp [aggEq] at h
    | cons a as =>
      cases bs with
      | nil => simp [aggEq] at h
      | cons b bs =>
        simp only [aggEq] at h
        split at h
        · rename_i x y hx hy
          have := ih hy
          simp [this]
        · cases h

section
variable {P : Program} {I : Imm} {w : World}

/-- A part of an aggregate, as it is read. -/
def IsPart (P : Program) (t : TypeId) (l : List Value) (v : Value) : Prop := (aggT P t = some true ∧ v = .agg l.toArray) ∨ (aggT P t = some false ∧ l = [v])

theorem run_part' {t : TypeId} {n : Nat} {g : Bool} (hg : aggT P t = some g) (hn : sizeT P t = some n) (h1 : g = false → n = 1) (cs : List Value) (off : Nat) (hl : off + n ≤ cs.length) :
    ∃ v, (part t cs.toArray off).run P w = .ok v w ∧ IsPart P t ((cs.drop off).take n) v := by
  cases g with
  | true =>
    refine ⟨.agg ((cs.drop off).take n).toArray, ?_, .inl ⟨hg, rfl⟩⟩
    simp [part, run_isAgg' hg, run_sizeOf' hn]
  | false =>
    have hn1 := h1 rfl
    subst hn1
    obtain ⟨v, hv⟩ : ∃ v, cs[off]? = some v := ⟨cs[off]'(by omega), by simp⟩
    refine ⟨v, ?_, .inr ⟨hg, ?_⟩⟩
    · simp [part, run_isAgg' hg, hv]
    · apply List.ext_getElem?
      intro j
      cases j with
      | zero => simp [List.getElem?_drop, hv]
      | succ j => simp; omega

theorem scalar_equal {t : TypeId} {k : SK} {p q : PV} {x y : Value} {c : Bool} (hp : PRel I p x) (hq : PRel I q y) (he : scalarEq k p q = some c)
    (hk : (k = .b → P.underlying t = some .bool) ∧ (k = .i → ∃ j, P.underlying t = some (.int j)) ∧ (k = .s → P.underlying t = some .string)) (m : Nat) :
    (Op.equalIn (m + 1) t x y).run P w = .ok c w := by
  unfold scalarEq at he
  split at he
  · injection he with he; subst he
    cases hp; cases hq
    rw [Op.equalIn]; simp [run_underlying (hk.1 rfl)]
  · rename_i k1 a k2 b
    cases hke : kindEq k1 k2 with
    | false => rw [hke] at he; simp at he
    | true =>
      rw [hke] at he; simp at he; subst he
      have := kindEq_eq hke; subst this
      cases hp; cases hq
      obtain ⟨j, hu⟩ := hk.2.1 rfl
      rw [Op.equalIn]; simp [run_underlying hu]
  · injection he with he; subst he
    cases hp; cases hq
    rw [Op.equalIn]; simp [run_underlying (hk.2.2 rfl), beq_toListBytes]
  · cases he

/-- What shape says. -/
def ShapeOK (P : Program) (I : Imm) (m : Nat) (t : TypeId) (sh : List SK) : Prop :=
  ∀ (w : World) (as bs : List PV) (xs ys : List Value) (x y : Value) (c : Bool), PRels I as xs → PRels I bs ys → aggEq sh as bs = some c → IsPart P t xs x → IsPart P t ys y → (Op.equalIn m t x y).run P w = .ok c w

theorem shapeFs_ok {g : TypeId → Option (List SK)} {m : Nat} (hg : ∀ t sh, g t = some sh → ShapeOK P I m t sh ∧ (aggT P t = some false → sh.length = 1)) :
    ∀ (fs : List Field) (off : Nat) (sh : List SK), shapeFs P g fs off = some sh → ∀ (w : World) (as bs : List PV) (xs ys : List Value) (c : Bool), PRels I as xs → PRels I bs ys → xs.length = off + sh.length → ys.length = off + sh.length →
      aggEq sh (as.drop off) (bs.drop off) = some c → (Op.eqFields m xs.toArray ys.toArray fs).run P w = .ok c w := by
  intro fs
  induction fs with
  | nil =>
    intro off sh hsh w as bs xs ys c _ _ _ _ he
    simp [shapeFs] at hsh; subst hsh
    cases h1 : as.drop off with
    | nil => cases h2 : bs.drop off with
      | nil => rw [h1, h2] at he; simp [aggEq] at he; subst he; simp [Op.eqFields]
      | cons => rw [h1, h2] at he; simp [aggEq] at he
    | cons => rw [h1] at he; simp [aggEq] at he
  | cons f fs ih =>
    intro off sh hsh w as bs xs ys c ha hb hlx hly he
    simp only [shapeFs] at hsh
    split at hsh
    · rename_i s ag r h1 h2 h3
      cases hc : (f.name != "_" && Nat.beq f.offset off && (sizeT P f.type == some s.length)) with
      | false => rw [hc] at hsh; simp at hsh
      | true =>
        rw [hc] at hsh; simp at hsh; subst hsh
        simp only [Bool.and_eq_true, bne_iff_ne, beq_iff_eq] at hc
        obtain ⟨⟨hname, hoff⟩, hsize⟩ := hc
        have hoff : f.offset = off := Nat.eq_of_beq_eq_true hoff
        rw [hsize] at h3
        simp only [Option.getD_some] at h3
        obtain ⟨c1, c2, e1, e2, rfl⟩ := aggEq_append he
        simp only [List.length_append] at hlx hly
        obtain ⟨x, hx, hpx⟩ := run_part' (w := w) h2 hsize (fun e => (hg _ _ h1).2 (by rw [h2, e])) xs off (by omega)
        obtain ⟨y, hy, hpy⟩ := run_part' (w := w) h2 hsize (fun e => (hg _ _ h1).2 (by rw [h2, e])) ys off (by omega)
        have heq := (hg _ _ h1).1 w _ _ _ _ x y c1 ((ha.drop off).take s.length) ((hb.drop off).take s.length) e1 hpx hpy
        rw [List.drop_drop, List.drop_drop] at e2
        have ih' := ih (off + s.length) r h3 w as bs xs ys c2 ha hb (by omega) (by omega) e2
        simp only [Op.eqFields, if_pos hname, hoff, Sem.run_bind, hx, hy, heq, Result.andThen_ok]
        cases c1
        · simp
        · simpa using ih'
    · cases hsh

theorem shapeItems_ok {m : Nat} {e : TypeId} {s : List SK} (hs : ShapeOK P I m e s) {g : Bool} (hg : aggT P e = some g) (h1 : g = false → s.length = 1) (hn : sizeT P e = some s.length) (hc : P.cellsOf e = s.length) :
    ∀ (k i : Nat) (w : World) (as bs : List PV) (xs ys : List Value) (c : Bool), PRels I as xs → PRels I bs ys → xs.length = (i + k) * s.length → ys.length = (i + k) * s.length →
      aggEq (List.replicate k s).flatten (as.drop (i * s.length)) (bs.drop (i * s.length)) = some c → (Op.eqItems m e (P.cellsOf e) xs.toArray ys.toArray (List.range' i k)).run P w = .ok c w := by
  intro k
  induction k with
  | zero =>
    intro i w as bs xs ys c _ _ _ _ he
    simp at he
    cases h1 : as.drop (i * s.length) with
    | nil => cases h2 : bs.drop (i * s.length) with
      | nil => rw [h1, h2] at he; simp [aggEq] at he; subst he; simp [Op.eqItems]
      | cons => rw [h1, h2] at he; simp [aggEq] at he
    | cons => rw [h1] at he; simp [aggEq] at he
  | succ k ih =>
    intro i w as bs xs ys c ha hb hlx hly he
    rw [List.replicate_succ, List.flatten_cons] at he
    obtain ⟨c1, c2, e1, e2, rfl⟩ := aggEq_append he
    have hmul : (i + (k + 1)) * s.length = i * s.length + s.length + k * s.length := by
      rw [Nat.add_mul, Nat.add_mul]; omega
    obtain ⟨x, hx, hpx⟩ := run_part' (w := w) hg hn h1 xs (i * s.length) (by omega)
    obtain ⟨y, hy, hpy⟩ := run_part' (w := w) hg hn h1 ys (i * s.length) (by omega)
    have heq := hs w _ _ _ _ x y c1 ((ha.drop (i * s.length)).take s.length) ((hb.drop (i * s.length)).take s.length) e1 hpx hpy
    rw [List.drop_drop, List.drop_drop] at e2
    have hi : i * s.length + s.length = (i + 1) * s.length := by rw [Nat.add_mul]; omega
    rw [hi] at e2
    have ih' := ih (i + 1) w as bs xs ys c2 ha hb (by rw [hlx]; congr 1; omega) (by rw [hly]; congr 1; omega) e2
    rw [List.range'_succ]
    rw [hc] at ih' ⊢
    simp only [Op.eqItems, Sem.run_bind, hx, hy, heq, Result.andThen_ok]
    cases c1
    · simp
    · simpa using ih'

theorem shapeT_ok : ∀ (d : Nat) (t : TypeId) (sh : List SK), shapeT P d t = some sh → ∀ m, d ≤ m → ShapeOK P I m t sh ∧ (aggT P t = some false → sh.length = 1) := by
  intro d
  induction d with
  | zero => intro t sh h; simp [shapeT] at h
  | succ d ih =>
    intro t sh h m hm
    obtain ⟨m, rfl⟩ : ∃ k, m = k + 1 := ⟨m - 1, by omega⟩
    simp only [shapeT] at h
    have scalar : ∀ (k : SK), sh = [k] → aggT P t = some false → ((k = .b → P.underlying t = some .bool) ∧ (k = .i → ∃ j, P.underlying t = some (.int j)) ∧ (k = .s → P.underlying t = some .string)) → ShapeOK P I (m + 1) t sh := by
      intro k hk ha hu w as bs xs ys x y c hax hby he hx hy
      subst hk
      rcases hx with ⟨h1, _⟩ | ⟨_, rfl⟩
      · rw [ha] at h1; cases h1
      rcases hy with ⟨h1, _⟩ | ⟨_, rfl⟩
      · rw [ha] at h1; cases h1
      cases hax with
      | cons p _ ps _ hp hps => cases hps; cases hby with
        | cons q _ qs _ hq hqs =>
          cases hqs
          simp only [aggEq] at he
          cases hs : scalarEq k p q with
          | none => rw [hs] at he; simp at he
          | some z => rw [hs] at he; simp at he; subst he; exact scalar_equal hp hq hs hu m
    split at h
    · rename_i hu; injection h with h
      exact ⟨scalar .b h.symm (by simp [aggT, hu]) ⟨fun _ => hu, (nomatch ·), (nomatch ·)⟩, fun _ => by rw [← h]; rfl⟩
    · rename_i j hu; injection h with h
      exact ⟨scalar .i h.symm (by simp [aggT, hu]) ⟨(nomatch ·), fun _ => ⟨j, hu⟩, (nomatch ·)⟩, fun _ => by rw [← h]; rfl⟩
    · rename_i hu; injection h with h
      exact ⟨scalar .s h.symm (by simp [aggT, hu]) ⟨(nomatch ·), (nomatch ·), fun _ => hu⟩, fun _ => by rw [← h]; rfl⟩
    · rename_i fs hu
      cases hst : P.stoodInHeld t with
      | true => rw [hst] at h; simp at h
      | false =>
        rw [hst] at h; simp only [cond_false] at h
        have ha : aggT P t = some true := by simp [aggT, hu]
        refine ⟨?_, fun e => by rw [ha] at e; cases e⟩
        intro w as bs xs ys x y c hax hby he hx hy
        rcases hx with ⟨_, rfl⟩ | ⟨h1, _⟩
        · rcases hy with ⟨_, rfl⟩ | ⟨h1, _⟩
          · have hf : P.fieldsOf t = fs := by simp [Program.fieldsOf, hu]
            rw [run_equalIn_struct (P := P) w m t xs.toArray ys.toArray (by rw [hf]; exact hu) hst, hf]
            have hl := aggEq_length he
            exact shapeFs_ok (fun t' sh' h' => ih t' sh' h' m (by omega)) fs.toList 0 sh h w as bs xs ys c hax hby (by rw [← hax.length]; omega) (by rw [← hby.length]; omega) (by simpa using he)
          · rw [ha] at h1; cases h1
        · rw [ha] at h1; cases h1
    · rename_i n e hu
      have ha : aggT P t = some true := by simp [aggT, hu]
      split at h
      · rename_i s g hs hg
        cases hz : (sizeT P e == some s.length) with
        | false => rw [hz] at h; simp at h
        | true =>
          rw [hz] at h; simp only [cond_true] at h
          injection h with h; subst h
          have hn : sizeT P e = some s.length := by simpa using hz
          obtain ⟨i, hi, hi2⟩ : ∃ i, P.info? e = some i ∧ i.size = s.length := by
            unfold sizeT at hn
            cases hi : P.info? e with
            | none => rw [hi] at hn; simp at hn
            | some i => rw [hi] at hn; simp at hn; exact ⟨i, rfl, hn⟩
          have hc : P.cellsOf e = s.length := by simp [Program.cellsOf, hi, hi2]
          refine ⟨?_, fun e => by rw [ha] at e; cases e⟩
          intro w as bs xs ys x y c hax hby he hx hy
          rcases hx with ⟨_, rfl⟩ | ⟨h1, _⟩
          · rcases hy with ⟨_, rfl⟩ | ⟨h1, _⟩
            · rw [run_equalIn_array (P := P) w m xs.toArray ys.toArray hu hi, List.range_eq_range']
              have hl := aggEq_length he
              have hlen : (List.replicate n s).flatten.length = n * s.length := by simp
              have h0 := ih e s hs m (by omega)
              exact shapeItems_ok h0.1 hg (fun e' => h0.2 (by rw [hg, e'])) hn hc n 0 w as bs xs ys c hax hby (by rw [← hax.length]; simp; omega) (by rw [← hby.length]; simp; omega) (by simpa using he)
            · rw [ha] at h1; cases h1
          · rw [ha] at h1; cases h1
      · cases h
    · cases h
end
end Go.VM

namespace Go.VM
open Go

section
variable {Γ : Ctx} {base : Nat} {κ : K} {H : Heap} {w : World}

/-! ### writing into a block -/
theorem SRel.write (hs : SRel Γ base κ H w) {id k : Nat} {c c' rest : List Value} {e : TypeId} {o : HObj} (hl : κ.loc id = some k) (hlive : (∃ cs, hget H id = .cells cs) ∨ (∃ cs, hget H id = .pcells cs))
    (hw : w.heap[k]? = some (.cells (c ++ rest).toArray e (0, 0))) (ho : (∃ cs, o = .cells cs ∧ VRels κ cs c') ∨ (∃ cs, o = .pcells cs ∧ PRels κ.imm cs c')) (h1 : Ones c') :
    SRel Γ base κ (hset H id o) (w.setRow k (c' ++ rest).toArray) ∧ Grow κ H w κ (hset H id o) (w.setRow k (c' ++ rest).toArray) := by
  have hp : place κ id (hget H id) = some k := by rcases hlive with ⟨cs, h⟩ | ⟨cs, h⟩ <;> rw [h] <;> exact hl
  have hno : ∀ a : Addr, a.block = k → κ.imm a = none := by
    obtain ⟨_, hob⟩ := hs.obj id k hp
    rcases hlive with ⟨cs, h⟩ | ⟨cs, h⟩ <;> rw [h] at hob <;> obtain ⟨_, _, _, _, _, h3, _⟩ := hob <;> exact h3
  refine hs.turnOne id o k k ⟨rfl, rfl, rfl, Nat.le_refl _, by simp⟩ κ.le_refl hp rfl (fun _ _ => rfl) (fun j _ hj => setRow_other w k j _ hj) ?_ ?_ (.inl rfl) ?_
  · intro a v hv
    have hne : a.block ≠ k := fun e => by rw [hno a e] at hv; cases hv
    exact ⟨by rw [cell_setRow_other w k _ a hne]; exact hs.imm a v hv, .inl hv⟩
  · intro j hj
    rcases ho with ⟨cs, rfl, _⟩ | ⟨cs, rfl, _⟩ <;> (simp only [place] at hj; rw [hl] at hj; exact (Option.some.inj hj).symm)
  · rcases ho with ⟨cs, rfl, hr⟩ | ⟨cs, rfl, hr⟩
    · exact ⟨c', rest, e, setRow_heap w k _ _ e _ hw, hr, hno, h1⟩
    · exact ⟨c', rest, e, setRow_heap w k _ _ e _ hw, hr, hno, h1⟩

theorem mkCells_cases {cs : List AV} {c : List Value} (h : VRels κ cs c) : (∃ l, mkCells cs = .cells l ∧ VRels κ l c) ∨ (∃ l, mkCells cs = .pcells l ∧ PRels κ.imm l c) := by
  unfold mkCells
  cases ha : allPV cs with
  | some ps => exact .inr ⟨ps, rfl, by have := allPV_eq ha; subst this; exact h.to_pv⟩
  | none => exact .inl ⟨cs, rfl, h⟩

theorem run_storeAt {t : TypeId} {k off : Nat} {c rest : List Value} {e : TypeId} {v : Value} (hn : sizeT Γ.P t = some v.cells.size) (hw : w.heap[k]? = some (.cells (c ++ rest).toArray e (0, 0))) (hl : off + v.cells.size ≤ c.length) (h1 : Ones v.cells.toList) :
    (Instr.storeAt t (.pointer (some ⟨k, off, none⟩)) v).run Γ.P w = .ok () (w.setRow k (c.take off ++ v.cells.toList ++ c.drop (off + v.cells.size) ++ rest).toArray) := by
  have hst := run_storeCells_at Γ.P k off e v.cells.toList 0 (c ++ rest).toArray w hw (by simp; omega) h1
  have e1 : (c ++ rest).take off = c.take off := by rw [List.take_append_of_le_length (by omega)]
  have e2 : (c ++ rest).drop (off + v.cells.size) = c.drop (off + v.cells.size) ++ rest := by rw [List.drop_append_of_le_length hl]
  simp only [Instr.storeAt, Instr.sureAddr, storeVar, Sem.run_bind, Sem.run_pure, Result.andThen_ok, run_sizeOf' hn, ne_eq, not_true_eq_false, if_false]
  simp only [Nat.add_zero, Array.length_toList] at hst
  rw [e1, e2] at hst
  simpa using hst

theorem splice_one {c : List Value} {off : Nat} {v : Value} (h : off < c.length) : c.take off ++ [v] ++ c.drop (off + 1) = c.set off v := by
  rw [List.set_eq_take_append_cons_drop, if_pos h]; simp
theorem PRels.splice {I : Imm} {ps qs : List PV} {vs us : List Value} (h : PRels I ps vs) (g : PRels I qs us) (off n : Nat) : PRels I (ps.take off ++ qs ++ ps.drop (off + n)) (vs.take off ++ us ++ vs.drop (off + n)) :=
  ((h.take off).append g).append (h.drop _)
theorem VRels.splice {ps qs : List AV} {vs us : List Value} (h : VRels κ ps vs) (g : VRels κ qs us) (off n : Nat) : VRels κ (ps.take off ++ qs ++ ps.drop (off + n)) (vs.take off ++ us ++ vs.drop (off + n)) :=
  ((h.take off).append g).append (h.drop _)
theorem Ones.splice {vs us : List Value} (h : Ones vs) (g : Ones us) (off n : Nat) : Ones (vs.take off ++ us ++ vs.drop (off + n)) := ((h.take off).append g).append (h.drop _)

theorem blt_lt {a b : Nat} (h : Nat.blt a b = true) : a < b := Nat.le_of_ble_eq_true h

theorem isAgg_rel {v : AV} {vv : Value} {vs : List AV} (hv : VRel κ v vv) (h : v.isAgg = some vs) : ∃ us, vv = .agg us.toArray ∧ VRels κ vs us ∧ Ones us := by
  unfold AV.isAgg at h
  split at h
  · injection h with h; subst h
    cases hv with | pv _ _ hv => cases hv with | agg _ us h1 h2 => exact ⟨us, rfl, VRels.of_pv h1, h2⟩
  · injection h with h; subst h
    cases hv with | agg _ us h1 h2 => exact ⟨us, rfl, h1, h2⟩
  · cases h
/-- A row's cells are written. -/
theorem SRel.writeRow (hs : SRel Γ base κ H w) {id n es k cap : Nat} {cs cs' : List AV} (hg : hget H id = .row n es cs) (htl : κ.tl id n = some (k, cap)) {c c' rest : List Value} {e : TypeId}
    (hw : w.heap[k]? = some (.cells (c ++ rest).toArray e (0, 0))) (hl : c'.length = c.length) (hl2 : cs'.length = cs.length) (hr : VRels κ cs' c') (h1 : Ones c') (hrel : VRels κ cs c) :
    SRel Γ base κ (hset H id (.row n es cs')) (w.setRow k (c' ++ rest).toArray) ∧ Grow κ H w κ (hset H id (.row n es cs')) (w.setRow k (c' ++ rest).toArray) := by
  obtain ⟨hp, c0, rest0, e0, q1, q2, q3, q4, q5, q6, q7, q8, q9⟩ := row_cells hs hg htl
  have hlen : (c' ++ rest).length = cap * es := by
    rw [hw] at q1
    injection q1 with q1; injection q1 with q1 _
    have := congrArg List.length (congrArg Array.toList q1)
    simp only at this
    rw [List.length_append, hl, ← List.length_append, this]; exact q2
  refine hs.turnOne id _ k k ⟨rfl, rfl, rfl, Nat.le_refl _, by simp⟩ κ.le_refl hp rfl (fun _ _ => rfl) (fun j _ hj => setRow_other w k j _ hj) ?_ ?_ (.inl rfl) ?_
  · intro a v hv
    have hne : a.block ≠ k := fun e => by rw [q8 a e] at hv; cases hv
    exact ⟨by rw [cell_setRow_other w k _ a hne]; exact hs.imm a v hv, .inl hv⟩
  · intro j hj
    simp only [place, htl] at hj
    simpa using hj.symm
  · exact ⟨cap, c', rest, e, htl, setRow_heap w k _ _ e _ hw, hlen, q3, q4, hl2.trans q5, hr, h1, q8, q9⟩

theorem store1_rel (hs : SRel Γ base κ H w) {p v : AV} {pv vv : Value} {H' : Heap} {t : TypeId} (hp : VRel κ p pv) (hv : VRel κ v vv) (he : store1K p v H (fun h => some h) = some H') (hn : sizeT Γ.P t = some 1) :
    ∃ w', (Instr.storeAt t pv vv).run Γ.P w = .ok () w' ∧ SRel Γ base κ H' w' ∧ Grow κ H w κ H' w' := by
  cases hp with
  | ptr id off k hl =>
    simp only [store1K, hgetK_def] at he
    obtain ⟨g1, g2⟩ := ptr_cells hs hl
    have one : v.one = true → vv.oneCell' = true ∧ vv.cells = #[vv] := fun h1 => by
      have h2 := hv.one h1
      refine ⟨h2, ?_⟩
      cases vv <;> first | rfl | simp [Value.oneCell'] at h2
    have go : ∀ (c rest : List Value) (e : TypeId) (o : HObj), w.heap[k]? = some (.cells (c ++ rest).toArray e (0, 0)) → Ones c → vv.oneCell' = true → vv.cells = #[vv] → off < c.length →
        ((∃ cs, hget H id = .cells cs) ∨ (∃ cs, hget H id = .pcells cs)) → ((∃ cs, o = .cells cs ∧ VRels κ cs (c.set off vv)) ∨ (∃ cs, o = .pcells cs ∧ PRels κ.imm cs (c.set off vv))) → H' = hset H id o →
        ∃ w', (Instr.storeAt t (.pointer (some ⟨k, off, none⟩)) vv).run Γ.P w = .ok () w' ∧ SRel Γ base κ H' w' ∧ Grow κ H w κ H' w' := by
      intro c rest e o hw hones h1 h2 hlt hlive ho hH
      have hr := run_storeAt (Γ := Γ) (t := t) (v := vv) (off := off) (by rw [h2]; exact hn) hw (by rw [h2]; exact hlt) (by rw [h2]; intro u hu; simp at hu; rw [hu]; exact h1)
      rw [h2] at hr
      simp only [List.size_toArray, List.length_cons, List.length_nil, Nat.zero_add] at hr
      rw [splice_one hlt] at hr
      subst hH
      obtain ⟨a, b⟩ := hs.write hl hlive hw ho (hones.set off h1)
      exact ⟨_, hr, a, b⟩
    split at he
    · rename_i cs hg
      obtain ⟨c, rest, e, hw, hr, hones, _⟩ := g1 cs hg
      split at he
      · rename_i q
        cases hq : q.one with
        | false => rw [hq] at he; simp at he
        | true =>
          rw [hq] at he; simp only [cond_true, needK_def] at he
          cases hb : Nat.blt off cs.length with
          | false => rw [hb] at he; simp at he
          | true =>
            rw [hb] at he; simp only [cond_true, eqK_def] at he
            injection he with he
            have hlt : off < c.length := by rw [← hr.length]; exact blt_lt hb
            cases hv with
            | pv _ _ hv =>
              have h1 := PRel.one hv hq
              exact go c rest e _ hw hones h1 (by cases vv <;> first | rfl | simp [Value.oneCell'] at h1) hlt (.inr ⟨cs, hg⟩) (.inr ⟨_, rfl, hr.set off hv⟩) he.symm
      · rename_i v' _
        cases hq : v.one with
        | false => rw [hq] at he; simp at he
        | true =>
          rw [hq] at he; simp only [cond_true] at he
          cases hb : Nat.blt off cs.length with
          | false => rw [hb] at he; simp at he
          | true =>
            rw [hb] at he; simp only [cond_true] at he
            injection he with he
            have hlt : off < c.length := by rw [← hr.length]; exact blt_lt hb
            obtain ⟨h1, h2⟩ := one hq
            exact go c rest e _ hw hones h1 h2 hlt (.inr ⟨cs, hg⟩) (.inl ⟨_, rfl, (VRels.of_pv hr).set off hv⟩) he.symm
    · rename_i cs hg
      obtain ⟨c, rest, e, hw, hr, hones, _⟩ := g2 cs hg
      cases hq : v.one with
      | false => rw [hq] at he; simp at he
      | true =>
        rw [hq] at he; simp only [cond_true] at he
        cases hb : Nat.blt off cs.length with
        | false => rw [hb] at he; simp at he
        | true =>
          rw [hb] at he; simp only [cond_true] at he
          injection he with he
          have hlt : off < c.length := by rw [← hr.length]; exact blt_lt hb
          obtain ⟨h1, h2⟩ := one hq
          exact go c rest e _ hw hones h1 h2 hlt (.inl ⟨cs, hg⟩) (mkCells_cases (hr.set off hv)) he.symm
    · cases he
  | gptr id n off k cap htl =>
    simp only [store1K, hgetK_def] at he
    cases hg : hget H id with
    | row n' es cs =>
      rw [hg] at he; dsimp only [rowK] at he
      rw [needK_def] at he
      cases hb : (Nat.beq n' n && v.one && Nat.blt off cs.length) with
      | false => rw [hb] at he; cases he
      | true =>
        rw [hb] at he; simp only [cond_true, eqK_def] at he
        injection he with he
        rw [Bool.and_eq_true, Bool.and_eq_true] at hb
        obtain ⟨⟨hb1, hb2⟩, hb3⟩ := hb
        have := Nat.eq_of_beq_eq_true hb1; subst this
        obtain ⟨_, c, rest, e, hw, _, _, _, _, hr, hones, _⟩ := row_cells hs hg htl
        have hlt : off < c.length := by rw [← hr.length]; exact blt_lt hb3
        have h1 := hv.one hb2
        have h2 : vv.cells = #[vv] := by cases vv <;> first | rfl | simp [Value.oneCell'] at h1
        have hrun := run_storeAt (Γ := Γ) (t := t) (v := vv) (off := off) (by rw [h2]; exact hn) hw (by rw [h2]; exact hlt) (by rw [h2]; intro u hu; simp at hu; rw [hu]; exact h1)
        rw [h2] at hrun
        simp only [List.size_toArray, List.length_cons, List.length_nil, Nat.zero_add] at hrun
        rw [splice_one hlt] at hrun
        subst he
        obtain ⟨a, b⟩ := hs.writeRow hg htl hw (by simp) (by simp) (hr.set off hv) (hones.set off h1) hr
        exact ⟨_, hrun, a, b⟩
    | _ => rw [hg] at he; cases he
  | _ => simp [store1K] at he

theorem storeN_rel (hs : SRel Γ base κ H w) {n : Nat} {p v : AV} {pv vv : Value} {H' : Heap} {t : TypeId} (hp : VRel κ p pv) (hv : VRel κ v vv) (he : storeNK n p v H (fun h => some h) = some H') (hn : sizeT Γ.P t = some n) :
    ∃ w', (Instr.storeAt t pv vv).run Γ.P w = .ok () w' ∧ SRel Γ base κ H' w' ∧ Grow κ H w κ H' w' := by
  cases hp with
  | ptr id off k hl =>
    simp only [storeNK, hgetK_def] at he
    obtain ⟨g1, g2⟩ := ptr_cells hs hl
    have go : ∀ (c rest us : List Value) (e : TypeId) (o : HObj), w.heap[k]? = some (.cells (c ++ rest).toArray e (0, 0)) → Ones c → Ones us → vv = .agg us.toArray → us.length = n → off + n ≤ c.length →
        ((∃ cs, hget H id = .cells cs) ∨ (∃ cs, hget H id = .pcells cs)) →
        ((∃ cs, o = .cells cs ∧ VRels κ cs (c.take off ++ us ++ c.drop (off + n))) ∨ (∃ cs, o = .pcells cs ∧ PRels κ.imm cs (c.take off ++ us ++ c.drop (off + n)))) → H' = hset H id o →
        ∃ w', (Instr.storeAt t (.pointer (some ⟨k, off, none⟩)) vv).run Γ.P w = .ok () w' ∧ SRel Γ base κ H' w' ∧ Grow κ H w κ H' w' := by
      intro c rest us e o hw hones h1 h2 h3 hle hlive ho hH
      subst h2
      have hr := run_storeAt (Γ := Γ) (t := t) (v := .agg us.toArray) (off := off) (by simpa [Value.cells, h3] using hn) hw (by simpa [Value.cells, h3] using hle) (by simpa [Value.cells] using h1)
      simp only [Value.cells, List.size_toArray, h3] at hr
      subst hH
      obtain ⟨a, b⟩ := hs.write hl hlive hw ho (hones.splice h1 off n)
      exact ⟨_, hr, a, b⟩
    have cond : ∀ (l m : Nat), (Nat.beq l n && Nat.ble (off + n) m) = true → l = n ∧ off + n ≤ m := fun l m h => by
      rw [Bool.and_eq_true] at h
      exact ⟨Nat.eq_of_beq_eq_true h.1, Nat.le_of_ble_eq_true h.2⟩
    split at he
    · rename_i cs hg
      obtain ⟨c, rest, e, hw, hr, hones, _⟩ := g1 cs hg
      split at he
      · rename_i qs
        rw [needK_def] at he
        cases hb : (Nat.beq qs.length n && Nat.ble (off + n) cs.length) with
        | false => rw [hb] at he; simp at he
        | true =>
          rw [hb] at he; simp only [cond_true, eqK_def] at he
          injection he with he
          obtain ⟨hl1, hl2⟩ := cond _ _ hb
          cases hv with
          | pv _ _ hv => cases hv with
            | agg _ us hus h1 =>
              exact go c rest us e _ hw hones h1 rfl (by rw [← hus.length]; exact hl1) (by rw [← hr.length]; exact hl2) (.inr ⟨cs, hg⟩) (.inr ⟨_, rfl, hr.splice hus off n⟩) he.symm
      · rename_i vs
        cases hb : (Nat.beq vs.length n && Nat.ble (off + n) cs.length) with
        | false => rw [hb] at he; simp at he
        | true =>
          rw [hb] at he; simp only [cond_true] at he
          injection he with he
          obtain ⟨hl1, hl2⟩ := cond _ _ hb
          cases hv with
          | agg _ us hus h1 =>
            exact go c rest us e _ hw hones h1 rfl (by rw [← hus.length]; exact hl1) (by rw [← hr.length]; exact hl2) (.inr ⟨cs, hg⟩) (.inl ⟨_, rfl, (VRels.of_pv hr).splice hus off n⟩) he.symm
      · cases he
    · rename_i cs hg
      obtain ⟨c, rest, e, hw, hr, hones, _⟩ := g2 cs hg
      split at he
      · rename_i qs
        cases hb : (Nat.beq qs.length n && Nat.ble (off + n) cs.length) with
        | false => rw [hb] at he; simp at he
        | true =>
          rw [hb] at he; simp only [cond_true] at he
          injection he with he
          obtain ⟨hl1, hl2⟩ := cond _ _ hb
          cases hv with
          | pv _ _ hv => cases hv with
            | agg _ us hus h1 =>
              exact go c rest us e _ hw hones h1 rfl (by rw [← hus.length]; exact hl1) (by rw [← hr.length]; exact hl2) (.inl ⟨cs, hg⟩) (mkCells_cases (hr.splice (VRels.of_pv hus) off n)) he.symm
      · rename_i vs
        cases hb : (Nat.beq vs.length n && Nat.ble (off + n) cs.length) with
        | false => rw [hb] at he; simp at he
        | true =>
          rw [hb] at he; simp only [cond_true] at he
          injection he with he
          obtain ⟨hl1, hl2⟩ := cond _ _ hb
          cases hv with
          | agg _ us hus h1 =>
            exact go c rest us e _ hw hones h1 rfl (by rw [← hus.length]; exact hl1) (by rw [← hr.length]; exact hl2) (.inl ⟨cs, hg⟩) (.inl ⟨_, rfl, hr.splice hus off n⟩) he.symm
      · cases he
    · cases he
  | gptr id m off k cap htl =>
    simp only [storeNK] at he
    cases hag : v.isAgg with
    | none => rw [hag] at he; cases he
    | some vs =>
      rw [hag] at he; dsimp only at he
      rw [hgetK_def] at he
      cases hg : hget H id with
      | row n' es cs =>
        rw [hg] at he; dsimp only [rowK] at he
        rw [needK_def] at he
        cases hb : (Nat.beq n' m && Nat.beq vs.length n && Nat.ble (off + n) cs.length) with
        | false => rw [hb] at he; cases he
        | true =>
          rw [hb] at he; simp only [cond_true, eqK_def] at he
          injection he with he
          rw [Bool.and_eq_true, Bool.and_eq_true] at hb
          obtain ⟨⟨hb1, hb2⟩, hb3⟩ := hb
          have := Nat.eq_of_beq_eq_true hb1; subst this
          have hvn := Nat.eq_of_beq_eq_true hb2
          have hle := Nat.le_of_ble_eq_true hb3
          obtain ⟨us, rfl, hus, h1⟩ := isAgg_rel hv hag
          obtain ⟨_, c, rest, e, hw, _, _, _, _, hr, hones, _⟩ := row_cells hs hg htl
          have hul : us.length = n := by rw [← hus.length]; exact hvn
          have hcl := hr.length
          have hrun := run_storeAt (Γ := Γ) (t := t) (v := .agg us.toArray) (off := off) (by simpa [Value.cells, hul] using hn) hw (by simp [Value.cells, hul]; omega) (by simpa [Value.cells] using h1)
          simp only [Value.cells, List.size_toArray, hul] at hrun
          subst he
          obtain ⟨a, b⟩ := hs.writeRow hg htl hw (by simp; omega) (by simp; omega) (hr.splice hus off n) (hones.splice h1 off n) hr
          exact ⟨_, hrun, a, b⟩
      | _ => rw [hg] at he; cases he
  | _ => simp [storeNK] at he
end
end Go.VM

namespace Go.VM
open Go

section
variable {Γ : Ctx} {base : Nat} {κ : K} {H : Heap} {w : World}

/-! ### building -/
theorem foldl_set (vs : List Value) : ∀ (i off : Nat) (cells : Array Value), off + i + vs.length ≤ cells.size →
    ((vs.toArray.zipIdx i).foldl (fun cs (p : Value × Nat) => cs.setIfInBounds (off + p.2) p.1) cells).toList = cells.toList.take (off + i) ++ vs ++ cells.toList.drop (off + i + vs.length) := by
  induction vs with
  | nil =>
    intro i off cells _
    have e : (([] : List Value).toArray.zipIdx i) = #[] := by apply Array.ext'; simp
    rw [e]; simp
  | cons v vs ih =>
    intro i off cells h
    simp only [List.length_cons] at h
    have e : (v :: vs).toArray.zipIdx i = #[(v, i)] ++ vs.toArray.zipIdx (i + 1) := by
      apply Array.ext'
      simp
    rw [e, Array.foldl_append]
    simp only [List.foldl_toArray', List.foldl_cons, List.foldl_nil]
    have := ih (i + 1) off (cells.setIfInBounds (off + i) v) (by simp; omega)
    simp only [List.length_cons] at this ⊢
    rw [this]
    have := list_seg_step cells.toList (off + i) v vs (by simp; omega)
    simpa [Array.toList_setIfInBounds, Nat.add_assoc, Nat.add_comm, Nat.add_left_comm] using this

theorem fill_one {place : Nat → Option (Nat × Nat)} {cells : List Value} {i off n : Nat} {v : Value} {rest : List (Nat × Value)} (hp : place i = some (off, n)) (hv : v.cells.size = n) (hl : off + n ≤ cells.length) :
    Instr.fill place cells.toArray ((i, v) :: rest) = Instr.fill place (cells.take off ++ v.cells.toList ++ cells.drop (off + n)).toArray rest := by
  have h := foldl_set v.cells.toList 0 off cells.toArray (by simp [hv]; omega)
  simp only [Array.toArray_toList, Nat.add_zero, Array.length_toList, hv] at h
  have h' : v.cells.zipIdx.foldl (fun cs (p : Value × Nat) => cs.setIfInBounds (off + p.2) p.1) cells.toArray = (cells.take off ++ v.cells.toList ++ cells.drop (off + n)).toArray := by
    apply Array.ext'
    simpa using h
  simp only [Instr.fill, hp]
  have hc : ¬ (v.cells.size ≠ n ∨ off + v.cells.size > cells.toArray.size) := by simp [hv]; omega
  rw [show (if v.cells.size ≠ n || off + v.cells.size > cells.toArray.size then (none : Option (Array Value)) else Instr.fill place (v.cells.zipIdx.foldl (fun cs (c, j) => cs.setIfInBounds (off + j) c) cells.toArray) rest) = Instr.fill place (v.cells.zipIdx.foldl (fun cs (c, j) => cs.setIfInBounds (off + j) c) cells.toArray) rest from if_neg (by simpa using hc)]
  exact congrArg (fun x => Instr.fill place x rest) h'

/-- Parts: their places, and what they hold. -/
inductive PartsRel (κ : K) (place : Nat → Option (Nat × Nat)) : List (Nat × Nat × AV) → List (Nat × Value) → Prop
  | nil : PartsRel κ place [] []
  | cons (i off n x v l m) : place i = some (off, n) → VRel κ x v → PartsRel κ place l m → PartsRel κ place ((off, n, x) :: l) ((i, v) :: m)

theorem compParts_rel {r : Regs} {a : Act} (hr : RRel κ r a) {place : Nat → Option (Nat × Nat)} {most : Nat} {parts : List (Nat × Operand)} {ps : List (Nat × Nat × Opd)} (h : compParts place most parts = some ps) :
    PartsRel κ place (ps.map fun (o, n, x) => (o, n, x.ev r)) (parts.map fun (i, x) => (i, a.eval x)) ∧ ∀ p ∈ ps, p.1 + p.2.1 ≤ most := by
  induction parts generalizing ps with
  | nil => simp [compParts] at h; subst h; exact ⟨.nil, fun _ h => by cases h⟩
  | cons p parts ih =>
    obtain ⟨i, x⟩ := p
    simp only [compParts] at h
    split at h
    · rename_i off n y q h1 h2 h3
      cases hb : Nat.ble (off + n) most with
      | false => rw [hb] at h; simp at h
      | true =>
        rw [hb] at h; simp only [cond_true] at h
        injection h with h; subst h
        obtain ⟨g1, g2⟩ := ih h3
        refine ⟨.cons _ _ _ _ _ _ _ h1 (opd_rel hr h2) g1, fun p hp => ?_⟩
        rcases List.mem_cons.1 hp with e | e
        · subst e; exact Nat.le_of_ble_eq_true hb
        · exact g2 p e
    · cases h

theorem cells_of_agg (vs : List Value) : (Value.agg vs.toArray).cells.toList = vs := by simp [Value.cells]
theorem cells_of_one {v : Value} (h : v.oneCell' = true) : v.cells = #[v] := by cases v <;> first | rfl | simp [Value.oneCell'] at h

theorem fill_rel : ∀ (l : List (Nat × Nat × PV)) (m : List (Nat × Value)) (place : Nat → Option (Nat × Nat)) (z out : List PV) (cells : List Value),
    PartsRel κ place (l.map fun (o, n, p) => (o, n, AV.pv p)) m → (∀ p ∈ l, p.1 + p.2.1 ≤ z.length) → PRels κ.imm z cells → Ones cells → fill z l = some out →
    ∃ c, Instr.fill place cells.toArray m = some c.toArray ∧ PRels κ.imm out c ∧ Ones c ∧ out.length = z.length := by
  intro l
  induction l with
  | nil =>
    intro m place z out cells hp _ hz h1 he
    cases hp
    simp [fill] at he; subst he
    exact ⟨cells, by simp [Instr.fill], hz, h1, rfl⟩
  | cons q l ih =>
    intro m place z out cells hp hb hz h1 he
    obtain ⟨off, n, p⟩ := q
    simp only [List.map_cons] at hp
    cases hp with
    | cons i _ _ _ v _ m hpl hv hrest =>
      cases hv with
      | pv _ _ hv =>
        have hle : off + n ≤ z.length := hb (off, n, p) (by simp)
        have hlc : off + n ≤ cells.length := by rw [← hz.length]; exact hle
        have hlen : ∀ (qs : List PV), qs.length = n → (z.take off ++ qs ++ z.drop (off + n)).length = z.length := by
          intro qs hq
          simp only [List.length_append, List.length_take, List.length_drop, hq]
          omega
        have step : ∀ (qs : List PV) (us : List Value), PRels κ.imm qs us → Ones us → qs.length = n → v.cells.toList = us → fill (z.take off ++ qs ++ z.drop (off + n)) l = some out →
            ∃ c, Instr.fill place cells.toArray ((i, v) :: m) = some c.toArray ∧ PRels κ.imm out c ∧ Ones c ∧ out.length = z.length := by
          intro qs us hqs hu1 hqn hcu hf
          have hvn : v.cells.size = n := by rw [← Array.length_toList, hcu, ← hqs.length]; exact hqn
          rw [fill_one hpl hvn hlc, hcu]
          obtain ⟨c, g1, g2, g3, g4⟩ := ih m place _ out _ hrest (fun p hp => by rw [hlen qs hqn]; exact hb p (by simp [hp])) (hz.splice hqs off n) (h1.splice hu1 off n) hf
          exact ⟨c, g1, g2, g3, by rw [g4, hlen qs hqn]⟩
        have stepOne : PV.one p = true → (bif Nat.beq n 1 then fill (z.set off p) l else none) = some out →
            ∃ c, Instr.fill place cells.toArray ((i, v) :: m) = some c.toArray ∧ PRels κ.imm out c ∧ Ones c ∧ out.length = z.length := by
          intro hone hf
          cases hn : Nat.beq n 1 with
          | false => rw [hn] at hf; simp at hf
          | true =>
            rw [hn] at hf; simp only [cond_true] at hf
            have hn1 : n = 1 := Nat.eq_of_beq_eq_true hn
            subst hn1
            have h2 := PRel.one hv hone
            refine step [p] [v] (.cons _ _ _ _ hv .nil) (.cons h2 .nil) rfl (by rw [cells_of_one h2]) ?_
            rw [← hf]
            congr 1
            rw [List.set_eq_take_append_cons_drop, if_pos (by omega)]; simp
        cases hv with
        | agg qs us hqs hu1 =>
          simp only [fill] at he
          cases hb2 : Nat.beq qs.length n with
          | false => rw [hb2] at he; simp at he
          | true =>
            rw [hb2] at he; simp only [cond_true] at he
            exact step qs us hqs hu1 (Nat.eq_of_beq_eq_true hb2) (cells_of_agg us) he
        | tup => simp [fill] at he
        | _ => exact stepOne rfl (by simpa [fill] using he)

theorem partsPV_eq {l : List (Nat × Nat × AV)} {ps : List (Nat × Nat × PV)} (h : partsPV l = some ps) : l = ps.map fun (o, n, p) => (o, n, AV.pv p) := by
  induction l generalizing ps with
  | nil => simp [partsPV] at h; subst h; rfl
  | cons q l ih =>
    obtain ⟨o, n, x⟩ := q
    cases x with
    | pv p =>
      simp only [partsPV, Option.map_eq_some_iff] at h
      obtain ⟨qs, h1, rfl⟩ := h
      simp [ih h1]
    | _ => simp [partsPV] at h

theorem cellsOf_rel {x : AV} {v : Value} (h : VRel κ x v) (hn : x.isTup = false) : VRels κ x.cellsOf v.cells.toList ∧ Ones v.cells.toList := by
  have one : x.cellsOf = [x] → v.oneCell' = true → VRels κ x.cellsOf v.cells.toList ∧ Ones v.cells.toList := fun e h1 => by
    rw [e, cells_of_one h1]
    exact ⟨.cons _ _ _ _ h .nil, .cons h1 .nil⟩
  cases x with
  | pv p =>
    cases p with
    | agg ps => cases h with
      | pv _ _ h => cases h with
        | agg _ us h1 h2 => simp only [AV.cellsOf, Value.cells]; exact ⟨VRels.of_pv h1, h2⟩
    | tup => simp [AV.isTup] at hn
    | _ => exact one rfl (h.one rfl)
  | agg cs => cases h with
    | agg _ us h1 h2 => simp only [AV.cellsOf, Value.cells]; exact ⟨h1, h2⟩
  | tup => simp [AV.isTup] at hn
  | any => simp [AV.isTup] at hn
  | _ => exact one rfl (h.one rfl)

theorem fillA_rel : ∀ (l : List (Nat × Nat × AV)) (m : List (Nat × Value)) (place : Nat → Option (Nat × Nat)) (z out : List AV) (cells : List Value),
    PartsRel κ place l m → (∀ p ∈ l, p.1 + p.2.1 ≤ z.length) → VRels κ z cells → Ones cells → fillA z l = some out →
    ∃ c, Instr.fill place cells.toArray m = some c.toArray ∧ VRels κ out c ∧ Ones c ∧ out.length = z.length := by
  intro l
  induction l with
  | nil =>
    intro m place z out cells hp _ hz h1 he
    cases hp
    simp [fillA] at he; subst he
    exact ⟨cells, by simp [Instr.fill], hz, h1, rfl⟩
  | cons q l ih =>
    intro m place z out cells hp hb hz h1 he
    cases hp with
    | cons i off n x v _ m hpl hv hrest =>
      have hle : off + n ≤ z.length := hb (off, n, x) (by simp)
      have hlc : off + n ≤ cells.length := by rw [← hz.length]; exact hle
      simp only [fillA] at he
      cases hc : (!x.isTup && Nat.beq x.cellsOf.length n) with
      | false => rw [hc] at he; simp at he
      | true =>
        rw [hc] at he; simp only [cond_true] at he
        simp only [Bool.and_eq_true, Bool.not_eq_true'] at hc
        obtain ⟨g1, g2⟩ := cellsOf_rel hv hc.1
        have hqn : x.cellsOf.length = n := Nat.eq_of_beq_eq_true hc.2
        have hvn : v.cells.size = n := by rw [← Array.length_toList, ← g1.length]; exact hqn
        have hlen : (z.take off ++ x.cellsOf ++ z.drop (off + n)).length = z.length := by
          simp only [List.length_append, List.length_take, List.length_drop, hqn]
          omega
        rw [fill_one hpl hvn hlc]
        obtain ⟨c, k1, k2, k3, k4⟩ := ih m place _ out _ hrest (fun p hp => by rw [hlen]; exact hb p (by simp [hp])) (hz.splice g1 off n) (h1.splice g2 off n) he
        exact ⟨c, k1, k2, k3, by rw [k4, hlen]⟩

theorem zeroT_rel {t : TypeId} {ps : List PV} (h : zeroT Γ.P t = some ps) : ∃ i z, Γ.P.info? t = some i ∧ i.zero = some z ∧ PRels κ.imm ps z.cells.toList ∧ Ones z.cells.toList ∧ ps.length = i.size := by
  unfold zeroT at h
  split at h
  · rename_i i hi
    split at h
    · rename_i z hz
      split at h
      · rename_i qs hq
        cases hb : Nat.beq qs.length i.size with
        | false => rw [hb] at h; simp at h
        | true =>
          rw [hb] at h; simp only [cond_true] at h
          injection h with h; subst h
          obtain ⟨a, b⟩ := scalarsPV_rel κ.imm hq
          exact ⟨i, z, hi, hz, a, b, Nat.eq_of_beq_eq_true hb⟩
      · cases h
    · cases h
  · cases h

theorem run_zeroValue' {t : TypeId} {i : TypeInfo} {z : Value} (hi : Γ.P.info? t = some i) (hz : i.zero = some z) : (zeroValue t).run Γ.P w = .ok z w := by
  simp [zeroValue, typeInfo, hi, hz]

/-- The cells of so many zero values. -/
theorem zeros_cells (z : List Value) (n : Nat) : ((Array.range (n * z.length)).map fun i => z.toArray[i % z.toArray.size]!).toList = (List.replicate n z).flatten := by
  apply List.ext_getElem?
  intro j
  simp only [Array.toList_map, Array.toList_range, List.getElem?_map]
  by_cases hj : j < n * z.length
  · have hz : 0 < z.length := by
      rcases Nat.eq_zero_or_pos z.length with h | h
      · rw [h] at hj; simp at hj
      · exact h
    have hm : j % z.length < z.length := Nat.mod_lt _ hz
    rw [List.getElem?_range hj]
    simp only [Option.map_some]
    have e : (List.replicate n z).flatten[j]? = z[j % z.length]? := by
      induction n generalizing j with
      | zero => simp at hj
      | succ n ih =>
        rw [List.replicate_succ, List.flatten_cons, List.getElem?_append]
        split
        · rename_i hlt; rw [Nat.mod_eq_of_lt hlt]
        · rename_i hge
          have hge : z.length ≤ j := by omega
          rw [ih (j - z.length) (by rw [Nat.add_mul] at hj; omega) (Nat.mod_lt _ hz)]
          rw [Nat.mod_eq_sub_mod hge]
    rw [e]
    simp [hm]
  · rw [List.getElem?_eq_none (by simp; omega), List.getElem?_eq_none (by simp; omega)]
    rfl

theorem zerosOf_flat (z : List PV) (n : Nat) : zerosOf z n = (List.replicate n z).flatten := by
  induction n with
  | zero => rfl
  | succ n ih => rw [zerosOf, ih, List.replicate_succ, List.flatten_cons]
theorem PRels.flat {I : Imm} {ps : List PV} {vs : List Value} (h : PRels I ps vs) (n : Nat) : PRels I (List.replicate n ps).flatten (List.replicate n vs).flatten := by
  induction n with
  | zero => exact .nil
  | succ n ih => rw [List.replicate_succ, List.flatten_cons, List.replicate_succ, List.flatten_cons]; exact h.append ih
theorem Ones.flat {vs : List Value} (h : Ones vs) (n : Nat) : Ones (List.replicate n vs).flatten := by
  induction n with
  | zero => exact .nil
  | succ n ih => rw [List.replicate_succ, List.flatten_cons]; exact h.append ih
end
end Go.VM

namespace Go.VM
open Go

theorem mulE_eq (i es : Nat) : mulE i es = i * es := by
  unfold mulE
  cases h : Nat.beq es 1 with
  | true => have := Nat.eq_of_beq_eq_true h; subst this; simp
  | false => rfl
theorem addO_eq (a b : Nat) : addO a b = a + b := by
  unfold addO
  cases h : Nat.beq a 0 with
  | true => have := Nat.eq_of_beq_eq_true h; subst this; simp
  | false =>
    cases h2 : Nat.beq b 0 with
    | true => have := Nat.eq_of_beq_eq_true h2; subst this; simp
    | false => rfl

section inv
variable {R : Type}
theorem idxK_inv {i : AV} {len : Nat} {F : Nat → Option R} {y : R} (h : idxK i len F = some y) : ∃ k j, i = .pv (.int k j) ∧ 0 ≤ j ∧ j < (len : Int) ∧ F j.toNat = some y := by
  unfold idxK at h
  split at h
  · rename_i k j
    rw [needK_def] at h
    cases hb : (decide (0 ≤ j) && decide (j < (len : Int))) with
    | false => rw [hb] at h; simp at h
    | true =>
      rw [hb] at h
      simp only [Bool.and_eq_true, decide_eq_true_eq] at hb
      exact ⟨k, j, rfl, hb.1, hb.2, h⟩
  · cases h
theorem boundK_inv {x : Option AV} {d y : Nat} {F : Nat → Option R} {z : R} (h : boundK x d y F = some z) :
    (x = none ∧ F d = some z) ∨ ∃ k i, x = some (.pv (.int k i)) ∧ 0 ≤ i ∧ i ≤ (y : Int) ∧ F i.toNat = some z := by
  unfold boundK at h
  split at h
  · exact .inl ⟨rfl, h⟩
  · rename_i k i
    rw [needK_def] at h
    cases hb : (decide (0 ≤ i) && decide (i ≤ (y : Int))) with
    | false => rw [hb] at h; simp at h
    | true =>
      rw [hb] at h
      simp only [Bool.and_eq_true, decide_eq_true_eq] at hb
      exact .inr ⟨k, i, rfl, hb.1, hb.2, h⟩
  · cases h
theorem needK_inv {p : Bool} {x : Option R} {y : R} (h : needK p x = some y) : p = true ∧ x = some y := by
  rw [needK_def] at h
  cases p with
  | false => simp at h
  | true => exact ⟨rfl, h⟩
end inv

section
variable {Γ : Ctx} {base : Nat} {κ : K} {H : Heap} {w : World}

/-! ### bounds of slices -/
/-- An operand that may be missing. -/
def ORel (κ : K) : Option AV → Option Value → Prop
  | none, none => True
  | some a, some v => VRel κ a v
  | _, _ => False

/-- The lower and the upper bound, as the model finds them. -/
theorem run_bounds {lo hi : Option AV} {vlo vhi : Option Value} (hl : ORel κ lo vlo) (hh : ORel κ hi vhi) (isS : Bool) {len cap n : Nat} (hn : n ≤ cap) (hlen : len = n) {R : Type} {F : Nat → Nat → Option R} {y : R}
    (he : (boundK hi n n fun h => boundK lo 0 h fun l => F h l) = some y) :
    ∃ h l, l ≤ h ∧ h ≤ n ∧ (hi = none → h = n) ∧ F h l = some y ∧ (Instr.sliceBounds isS len cap vlo vhi none).run Γ.P w = .ok (l, h, cap) w := by
  subst hlen
  have low : ∀ h, h ≤ len → (boundK lo 0 h fun l => F h l) = some y → ∃ l, l ≤ h ∧ F h l = some y ∧ (match vlo with | some v => Instr.sliceBound v h (if false then .slice3C else .sliceB) | none => pure 0 : Sem Nat).run Γ.P w = .ok l w := by
    intro h _ hb
    rcases boundK_inv hb with ⟨e, hF⟩ | ⟨k, i, e, h0, h1, hF⟩
    · subst e
      cases vlo with
      | none => exact ⟨0, Nat.zero_le _, hF, rfl⟩
      | some _ => exact hl.elim
    · subst e
      cases vlo with
      | none => exact hl.elim
      | some v =>
        have := int_rel (κ := κ) hl
        subst this
        refine ⟨i.toNat, by omega, hF, ?_⟩
        simp [run_sliceBound w k i h _ h0 h1]
  rcases boundK_inv he with ⟨e, hF⟩ | ⟨k, i, e, h0, h1, hF⟩
  · subst e
    cases vhi with
    | some _ => exact hh.elim
    | none =>
      obtain ⟨l, hle, hF2, hr⟩ := low len (Nat.le_refl _) hF
      refine ⟨len, l, hle, Nat.le_refl _, fun _ => rfl, hF2, ?_⟩
      cases vlo with
      | none => simp [Instr.sliceBounds] at hr ⊢; exact hr
      | some v => simp [Instr.sliceBounds] at hr ⊢; simp [hr]
  · subst e
    cases vhi with
    | none => exact hh.elim
    | some v =>
      have := int_rel (κ := κ) hh
      subst this
      obtain ⟨l, hle, hF2, hr⟩ := low i.toNat (by omega) hF
      refine ⟨i.toNat, l, hle, by omega, (nomatch ·), hF2, ?_⟩
      have hb : ∀ c, (Instr.sliceBound (.int k i) cap c).run Γ.P w = .ok i.toNat w := fun c => run_sliceBound w k i cap c h0 (by omega)
      cases vlo with
      | none => simp [Instr.sliceBounds, hb] at hr ⊢; exact hr
      | some v => simp [Instr.sliceBounds, hb] at hr ⊢; simp [hr]

/-- A part of a value slice. -/
theorem part_rel {I : Imm} {e e' : Ext} {n : Nat} {cs : List PV} {v : Value} (hv : PRel I (.sl e n cs) v) {es l h m : Nat} (hlh : l ≤ h) (hhn : h ≤ n)
    (hm : ∀ a cap, v = .slice (some a) n cap → h ≤ m ∧ (e' = .exact ∨ e' = .nnx → m = h)) (he : e' ≠ .nil) (hnn : e' = .nn ∨ e' = .nnx → e = .nn ∨ e = .nnx) :
    (v = .slice none 0 0 ∧ l = 0 ∧ h = 0 ∧ PRel I (.sl e' (h - l) ((cs.drop (l * es)).take ((h - l) * es))) (.slice none 0 0)) ∨
    (∃ a cap, v = .slice (some a) n cap ∧ n ≤ cap ∧ (e = .exact ∨ e = .nnx → cap = n) ∧ PRel I (.sl e' (h - l) ((cs.drop (l * es)).take ((h - l) * es))) (.slice (if m = l then some a else some (a.add (l * es))) (h - l) (m - l))) := by
  cases hv with
  | slNil _ k1 k2 =>
    have hl : l = 0 := by omega
    have hh : h = 0 := by omega
    subst hl; subst hh
    exact .inl ⟨rfl, rfl, rfl, by simpa using PRel.slNil (I := I) e' (fun h => (hnn (.inl h)).elim k1 k2) (fun h => (hnn (.inr h)).elim k1 k2)⟩
  | sl _ _ _ a cap vs h1 h2 h3 h4 h5 h6 =>
    obtain ⟨hm1, hm2⟩ := hm a cap rfl
    refine .inr ⟨a, cap, rfl, h3, h2, ?_⟩
    have hrel := (h4.drop (l * es)).take ((h - l) * es)
    by_cases hml : m = l
    · rw [if_pos hml]
      have hhl : h - l = 0 := by omega
      rw [hhl] at hrel ⊢
      simp only [Nat.zero_mul, List.take_zero]
      exact .sl e' 0 [] a (m - l) [] he (fun _ => by omega) (Nat.zero_le _) .nil (fun j v hj => by simp at hj) .nil
    · rw [if_neg hml]
      refine .sl e' _ _ (a.add (l * es)) (m - l) _ he (fun hx => by have := hm2 hx; omega) (by omega) hrel (fun j v hj => ?_) ((h6.drop _).take _)
      rw [addr_add_add]
      refine h5 _ _ ?_
      rw [List.getElem?_take] at hj
      split at hj
      · rwa [List.getElem?_drop] at hj
      · cases hj

theorem run_sliceAt_sl {t e : TypeId} {es : Nat} (ht : Γ.P.underlying t = some (.slice e)) (hn : sizeT Γ.P e = some es) {a : Option Addr} {len cap l h m : Nat} {lo hi mx : Option Value}
    (hb : (Instr.sliceBounds true len cap lo hi mx).run Γ.P w = .ok (l, h, m) w) :
    (Instr.sliceAt t (.slice a len cap) lo hi mx).run Γ.P w = .ok (.slice (if m = l then a else a.map (·.add (l * es))) (h - l) (m - l)) w := by
  simp [Instr.sliceAt, Instr.slice, run_underlying ht, hb, run_sizeOf' hn]

theorem PRel.tsl_unk {I : Imm} {n k cap : Nat} {cs : List PV} {vs : List Value} (h2 : n ≤ cap) (h3 : PRels I cs vs) (h4 : ∀ (j : Nat) (v : Value), vs[j]? = some v → I ⟨k, j, none⟩ = some v) (h5 : Ones vs) :
    PRel I (.sl .nn n cs) (.slice (some ⟨k, 0, none⟩) n cap) :=
  .sl .nn n cs _ cap vs (by simp) (by simp) h2 h3 (fun j v hj => by rw [addr_add_lit]; exact h4 j v hj) h5
/-- A slice with a token, as a plain one. -/
theorem tsl_plain {t n : Nat} {cs : List PV} {v : Value} (h : VRel κ (.tsl t n cs) v) : PRel κ.imm (.sl .nn n cs) v := by
  cases h with
  | tsl _ _ _ k cap vs h1 h2 h3 h4 h5 => exact PRel.tsl_unk h2 h3 h4 h5

theorem part_ne (e : Ext) (f c : Bool) : e.part f c ≠ .nil := by cases e <;> cases f <;> cases c <;> simp [Ext.part]

/-- The same for a value slice, whatever its room: what the machine does with it. -/
theorem slice_value {t e : TypeId} {es : Nat} (ht : Γ.P.underlying t = some (.slice e)) (hn : sizeT Γ.P e = some es) {x : Ext} {n : Nat} {cs : List PV} {vx : Value} (hx : PRel κ.imm (.sl x n cs) vx)
    {lo hi : Option AV} {vlo vhi vmx : Option Value} (hl : ORel κ lo vlo) (hh : ORel κ hi vhi) (hm : ORel κ none vmx) {v : AV} (x1 : Ext) (hx1 : x1 ≠ .nil) (hx2 : x1 = .exact ∨ x1 = .nnx → (hi = none ∧ x ≠ .unk ∧ x ≠ .nn) ∨ x = .nil) (hx3 : x1 = .nn ∨ x1 = .nnx → x = .nn ∨ x = .nnx)
    (he : (boundK hi n n fun h => boundK lo 0 h fun l => eqK ((cs.drop (mulE l es)).take (mulE (h - l) es)) fun cs' => some (AV.pv (.sl x1 (h - l) cs'))) = some v) :
    ∃ v', (Instr.sliceAt t vx vlo vhi vmx).run Γ.P w = .ok v' w ∧ VRel κ v v' := by
  cases vmx with
  | some _ => exact hm.elim
  | none =>
    have key : ∀ (a : Option Addr) (cap : Nat), vx = .slice a n cap → n ≤ cap → (x = .exact ∨ x = .nnx → cap = n) → (x = .nil → cap = n) → ∃ v', (Instr.sliceAt t vx vlo vhi none).run Γ.P w = .ok v' w ∧ VRel κ v v' := by
      intro a cap hva hcap hex hnil
      obtain ⟨h, l, hlh, hhn, hnone, hF, hr⟩ := run_bounds (Γ := Γ) (w := w) hl hh true hcap rfl he
      rw [eqK_def] at hF
      simp only [mulE_eq] at hF
      injection hF with hF; subst hF
      have hm' : x1 = .exact ∨ x1 = .nnx → cap = h := fun e1 => by
        rcases hx2 e1 with ⟨e2, e3⟩ | e2
        rotate_left
        · subst e2
          have h0 : n = 0 := by
            cases hx with
            | slNil => rfl
            | sl _ _ _ a cap us h1 => exact absurd rfl h1
          have := hnil rfl
          omega
        rw [hnone e2]
        cases x with
        | unk => exact absurd rfl e3.1
        | nn => exact absurd rfl e3.2
        | exact => exact hex (.inl rfl)
        | nnx => exact hex (.inr rfl)
        | nil => exact hnil rfl
      rcases part_rel (m := cap) (es := es) (l := l) (h := h) (e' := x1) hx hlh hhn (fun a' cap' e => ⟨by omega, hm'⟩) hx1 hx3 with ⟨e, e1, e2, hrel⟩ | ⟨a', cap', e, _, _, hrel⟩
      · rw [hva] at e; injection e with e3 e4 e5
        subst e3; subst e4; subst e5; subst e1; subst e2
        refine ⟨_, by rw [hva]; exact run_sliceAt_sl ht hn hr, .pv _ _ ?_⟩
        simpa using hrel
      · rw [hva] at e; injection e with e3 e4 e5
        subst e3; subst e5
        refine ⟨_, by rw [hva]; exact run_sliceAt_sl ht hn hr, .pv _ _ ?_⟩
        simpa using hrel
    cases hx with
    | slNil => exact key none 0 rfl (Nat.le_refl _) (fun _ => rfl) (fun _ => rfl)
    | sl _ _ _ a cap vs h1 h2 h3 h4 h5 h6 => exact key (some a) cap rfl h3 h2 (fun e => absurd e h1)

theorem slice_value3 {t e : TypeId} {es : Nat} (ht : Γ.P.underlying t = some (.slice e)) (hn : sizeT Γ.P e = some es) {x : Ext} {n : Nat} {cs : List PV} {vx : Value} (hx : PRel κ.imm (.sl x n cs) vx)
    {lo : Option AV} {vlo vhi vmx : Option Value} {k k' : IntKind} {m m' : Int} (hl : ORel κ lo vlo) (hh : ORel κ (some (.pv (.int k' m'))) vhi) (hm : ORel κ (some (.pv (.int k m))) vmx) {v : AV}
    (he : needK (decide (m = m')) (boundK (some (.pv (.int k' m'))) n n fun h => boundK lo 0 h fun l => eqK ((cs.drop (mulE l es)).take (mulE (h - l) es)) fun cs' => some (AV.pv (.sl .exact (h - l) cs'))) = some v) :
    ∃ v', (Instr.sliceAt t vx vlo vhi vmx).run Γ.P w = .ok v' w ∧ VRel κ v v' := by
  cases vmx with
  | none => exact hm.elim
  | some vm =>
    cases vhi with
    | none => exact hh.elim
    | some vh =>
      obtain ⟨hb, he⟩ := needK_inv he
      have hmh : m = m' := by simpa using hb
      subst hmh
      have hvm := int_rel (κ := κ) hm
      have hvh := int_rel (κ := κ) hh
      subst hvm; subst hvh
      have key : ∀ (a : Option Addr) (cap : Nat), vx = .slice a n cap → n ≤ cap → ∃ v', (Instr.sliceAt t vx vlo (some (.int k' m)) (some (.int k m))).run Γ.P w = .ok v' w ∧ VRel κ v v' := by
        intro a cap hva hcap
        rcases boundK_inv he with ⟨e, _⟩ | ⟨k2, i, e, h0, h1, hF⟩
        · cases e
        · injection e with e; injection e with e; injection e with e1 e2
          subst e2
          have low : ∃ l, l ≤ m.toNat ∧ eqK ((cs.drop (mulE l es)).take (mulE (m.toNat - l) es)) (fun cs' => some (AV.pv (.sl .exact (m.toNat - l) cs'))) = some v ∧
              (Instr.sliceBounds true n cap vlo (some (.int k' m)) (some (.int k m))).run Γ.P w = .ok (l, m.toNat, m.toNat) w := by
            have hb1 : ∀ k c, (Instr.sliceBound (.int k m) cap c).run Γ.P w = .ok m.toNat w := fun k c => run_sliceBound w k m cap c h0 (by omega)
            have hb2 : ∀ k c, (Instr.sliceBound (.int k m) m.toNat c).run Γ.P w = .ok m.toNat w := fun k c => run_sliceBound w k m _ c h0 (by omega)
            rcases boundK_inv hF with ⟨e, hF2⟩ | ⟨k3, i3, e, g0, g1, hF2⟩
            · subst e
              cases vlo with
              | some _ => exact hl.elim
              | none => exact ⟨0, Nat.zero_le _, hF2, by simp [Instr.sliceBounds, hb1, hb2]⟩
            · subst e
              cases vlo with
              | none => exact hl.elim
              | some vl =>
                have hvl := int_rel (κ := κ) hl
                subst hvl
                exact ⟨i3.toNat, by omega, hF2, by simp [Instr.sliceBounds, hb1, hb2, run_sliceBound w k3 i3 m.toNat _ g0 g1]⟩
          obtain ⟨l, hle, hF2, hr⟩ := low
          rw [eqK_def] at hF2
          simp only [mulE_eq] at hF2
          injection hF2 with hF2; subst hF2
          rcases part_rel (m := m.toNat) (es := es) (l := l) (h := m.toNat) (e' := .exact) hx hle (by omega) (fun a' cap' _ => ⟨Nat.le_refl _, fun _ => rfl⟩) (by simp) (by simp) with ⟨e, e1, e2, hrel⟩ | ⟨a', cap', e, _, _, hrel⟩
          · rw [hva] at e; injection e with e3 e4 e5
            subst e3; subst e4; subst e5; subst e1
            refine ⟨_, by rw [hva]; exact run_sliceAt_sl ht hn hr, .pv _ _ ?_⟩
            rw [e2] at hrel ⊢
            simpa using hrel
          · rw [hva] at e; injection e with e3 e4 e5
            subst e3; subst e5
            refine ⟨_, by rw [hva]; exact run_sliceAt_sl ht hn hr, .pv _ _ ?_⟩
            simpa using hrel
      cases hx with
      | slNil => exact key none 0 rfl (Nat.le_refl _)
      | sl _ _ _ a cap vs h1 h2 h3 h4 h5 h6 => exact key (some a) cap rfl h3

theorem sliceS_rel {t e : TypeId} {es : Nat} (ht : Γ.P.underlying t = some (.slice e)) (hn : sizeT Γ.P e = some es) {x : AV} {vx : Value} (hx : VRel κ x vx)
    {lo hi mx : Option AV} {vlo vhi vmx : Option Value} (hl : ORel κ lo vlo) (hh : ORel κ hi vhi) (hm : ORel κ mx vmx) {v : AV}
    (he : sliceSK es x lo hi mx (fun v => some v) = some v) : ∃ v', (Instr.sliceAt t vx vlo vhi vmx).run Γ.P w = .ok v' w ∧ VRel κ v v' := by
  unfold sliceSK at he
  split at he
  · rename_i x n cs
    cases hx with
    | pv _ _ hx =>
      split at he
      · refine slice_value ht hn hx hl hh hm (x.part hi.isNone false) (part_ne _ _ _) (fun e => ?_) (fun e => ?_) he
        · cases x <;> cases hi <;> simp_all [Ext.part]
        · cases x <;> cases hi <;> simp_all [Ext.part]
      · split at he
        · exact slice_value3 ht hn hx hl hh hm he
        · cases he
  · rename_i tk n cs
    split at he
    · exact slice_value ht hn (tsl_plain hx) hl hh hm .nn (by simp) (by simp) (by simp) he
    · split at he
      · exact slice_value3 ht hn (tsl_plain hx) hl hh hm he
      · cases he
  · rename_i es' id off n cap
    cases hx with
    | hs _ _ _ _ _ k cap' h1 h2 h3 =>
      cases mx with
      | some _ => simp at he
      | none =>
        cases vmx with
        | some _ => exact hm.elim
        | none =>
          simp only at he
          obtain ⟨h, l, hlh, hhn, hnone, hF, hr⟩ := run_bounds (Γ := Γ) (w := w) (cap := cap') hl hh true (by omega) rfl he
          obtain ⟨hb, hF⟩ := needK_inv hF
          simp only [mulE_eq, addO_eq] at hF
          injection hF with hF; subst hF
          refine ⟨_, run_sliceAt_sl ht hn hr, ?_⟩
          have hor : l < cap ∨ l = 0 := by
            rw [Bool.or_eq_true] at hb
            rcases hb with hb | hb
            · exact .inl (blt_lt hb)
            · exact .inr (Nat.eq_of_beq_eq_true hb)
          by_cases hml : cap' = l
          · rw [if_pos hml]
            have hl0 : l = 0 := by omega
            subst hl0
            simpa using VRel.hs (κ := κ) _ _ _ (h - 0) (cap - 0) k (cap' - 0) h1 (by omega) (by omega)
          · rw [if_neg hml]
            simp only [Option.map_some, addr_add_lit']
            exact .hs _ _ _ _ _ k _ h1 (by omega) (by omega)
  · rename_i tk m
    cases hx with
    | zsl _ _ k cap h1 h2 =>
      cases mx with
      | some _ => simp at he
      | none =>
        cases vmx with
        | some _ => exact hm.elim
        | none =>
          cases lo with
          | some _ => simp at he
          | none =>
            cases vlo with
            | some _ => exact hl.elim
            | none =>
              simp only at he
              have he' : (boundK hi m m fun h => boundK (none : Option AV) 0 h fun _ => needK (Nat.beq h 0) (some (AV.tsl tk 0 []))) = some v := he
              obtain ⟨h, l, hlh, hhn, hnone, hF, hr⟩ := run_bounds (Γ := Γ) (w := w) (cap := cap) (vlo := none) (lo := none) trivial hh true h2 rfl he'
              have hq := needK_inv hF
              clear hF
              obtain ⟨hb, hF⟩ := hq
              have h0 := Nat.eq_of_beq_eq_true hb
              subst h0
              have hl0 : l = 0 := by omega
              subst hl0
              have hF := Option.some.inj hF
              subst hF
              refine ⟨_, run_sliceAt_sl ht hn hr, ?_⟩
              by_cases hml : cap = 0
              · rw [if_pos hml]
                simpa using VRel.tsl (κ := κ) tk 0 [] k cap [] h1 (Nat.zero_le _) .nil (fun j v hj => by simp at hj) .nil
              · rw [if_neg hml]
                simp only [Option.map_some, addr_add_lit']
                simpa using VRel.tsl (κ := κ) tk 0 [] k cap [] h1 (Nat.zero_le _) .nil (fun j v hj => by simp at hj) .nil
  · cases he
end
end Go.VM
