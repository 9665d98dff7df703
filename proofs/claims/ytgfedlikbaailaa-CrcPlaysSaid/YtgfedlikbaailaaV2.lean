/-
  Part 2 of an abstract machine that answers as the model does.
  What the abstract machine's values and heap say of a world.
  How a world may turn under the abstract machine's heap: nothing of it, one object, a new one.
  Operations: what the abstract machine does is what the model does.
  Operations, one by one: those that only reckon, those that make a block.
  Equality of structs and arrays of plain scalars.
-/
import Derived.Test.YtgfedlikbaailaaV1
import Derived.Laws.AppendOwn
import Derived.Laws.Entries
import Derived.ChangeKeysEq
import Derived.Laws.CopyRow
import Derived.LaidEqlPtr
import Derived.Deep.AppendSrc
import Derived.Laws.StructEq
set_option linter.all false
set_option linter.unusedVariables false
set_option linter.unusedSimpArgs false
set_option linter.unusedSectionVars false
namespace Go.VM
open Go

abbrev Imm := Addr → Option Value
/-- Values of one cell each. -/
def Ones (vs : List Value) : Prop := ∀ v ∈ vs, v.oneCell' = true
theorem Ones.append {a b : List Value} (h : Ones a) (g : Ones b) : Ones (a ++ b) := fun v hv => by
  rcases List.mem_append.1 hv with h1 | h1
  · exact h v h1
  · exact g v h1
theorem Ones.take {a : List Value} (h : Ones a) (n : Nat) : Ones (a.take n) := fun v hv => h v (List.mem_of_mem_take hv)
theorem Ones.drop {a : List Value} (h : Ones a) (n : Nat) : Ones (a.drop n) := fun v hv => h v (List.mem_of_mem_drop hv)
theorem Ones.nil : Ones [] := fun v hv => by cases hv
theorem Ones.cons {v : Value} {l : List Value} (h : v.oneCell' = true) (g : Ones l) : Ones (v :: l) := fun u hu => by
  rcases List.mem_cons.1 hu with h1 | h1
  · rw [h1]; exact h
  · exact g u h1
theorem Ones.set {a : List Value} (h : Ones a) (n : Nat) {v : Value} (hv : v.oneCell' = true) : Ones (a.set n v) := fun u hu => by
  rcases List.mem_or_eq_of_mem_set hu with h1 | h1
  · exact h u h1
  · rw [h1]; exact hv
theorem Ones.get {a : List Value} (h : Ones a) {i : Nat} {v : Value} (hv : a[i]? = some v) : v.oneCell' = true := h v (List.mem_of_getElem? hv)

mutual
inductive PRel (I : Imm) : PV → Value → Prop
  | bool (b) : PRel I (.bool b) (.bool b)
  | int (k n) : PRel I (.int k n) (.int k n)
  | str (s) : PRel I (.str s) (.string s)
  | nilp : PRel I .nilp (.pointer none)
  | nilm : PRel I .nilm (.map none)
  | nilf : PRel I .nilf .nilFunc
  | nili : PRel I .nili .nilIface
  | slNil (x) : x ≠ .nn → x ≠ .nnx → PRel I (.sl x 0 []) (.slice none 0 0)
  | sl (x) (n) (cs) (a : Addr) (cap) (vs : List Value) : x ≠ .nil → (x = .exact ∨ x = .nnx → cap = n) → n ≤ cap → PRels I cs vs → (∀ (j : Nat) (v : Value), vs[j]? = some v → I (a.add j) = some v) → Ones vs → PRel I (.sl x n cs) (.slice (some a) n cap)
  | agg (cs) (vs : List Value) : PRels I cs vs → Ones vs → PRel I (.agg cs) (.agg vs.toArray)
  | tup (cs) (vs : List Value) : PRels I cs vs → PRel I (.tup cs) (.tuple vs.toArray)
  | fn (f) (a b) (va vb : List Value) : PRels I a va → PRels I b vb → PRel I (.fn f a b) (.func (.func f) va.toArray vb.toArray)
  | iface (t p v) : PRel I p v → PRel I (.iface t p) (.iface t v)
inductive PRels (I : Imm) : List PV → List Value → Prop
  | nil : PRels I [] []
  | cons (p v ps vs) : PRel I p v → PRels I ps vs → PRels I (p :: ps) (v :: vs)
end

def Imm.le (I J : Imm) : Prop := ∀ a v, I a = some v → J a = some v

mutual
theorem PRel.mono {I J : Imm} (h : I.le J) {p : PV} {v : Value} (r : PRel I p v) : PRel J p v := by
  cases r with
  | bool => exact .bool _
  | int => exact .int _ _
  | str => exact .str _
  | nilp => exact .nilp
  | nilm => exact .nilm
  | nilf => exact .nilf
  | nili => exact .nili
  | slNil _ h1 h2 => exact .slNil _ h1 h2
  | sl x n cs a cap vs h1 h2 h3 h4 h5 h6 => exact .sl x n cs a cap vs h1 h2 h3 (h4.mono h) (fun j v hj => h _ _ (h5 j v hj)) h6
  | agg cs vs h1 h2 => exact .agg _ _ (h1.mono h) h2
  | tup cs vs h1 => exact .tup _ _ (h1.mono h)
  | fn f a b va vb h1 h2 => exact .fn _ _ _ _ _ (h1.mono h) (h2.mono h)
  | iface t p v h1 => exact .iface _ _ _ (h1.mono h)
theorem PRels.mono {I J : Imm} (h : I.le J) {p : List PV} {v : List Value} (r : PRels I p v) : PRels J p v := by
  cases r with
  | nil => exact .nil
  | cons p v ps vs h1 h2 => exact .cons _ _ _ _ (h1.mono h) (h2.mono h)
end

structure K where
  loc : Nat → Option Nat
  imm : Imm
  tl : Nat → Nat → Option (Nat × Nat)

structure K.le (κ κ' : K) : Prop where
  loc : ∀ id k, κ.loc id = some k → κ'.loc id = some k
  imm : κ.imm.le κ'.imm
  tl : ∀ t n p, κ.tl t n = some p → κ'.tl t n = some p

theorem K.le_refl (κ : K) : κ.le κ := ⟨fun _ _ h => h, fun _ _ h => h, fun _ _ _ h => h⟩
theorem K.le_trans {a b c : K} (h : a.le b) (g : b.le c) : a.le c := ⟨fun i k x => g.loc i k (h.loc i k x), fun i k x => g.imm i k (h.imm i k x), fun t n p x => g.tl t n p (h.tl t n p x)⟩

mutual
inductive VRel (κ : K) : AV → Value → Prop
  | pv (p v) : PRel κ.imm p v → VRel κ (.pv p) v
  | ptr (id off k) : κ.loc id = some k → VRel κ (.ptr id off) (.pointer (some ⟨k, off, none⟩))
  | rptr (cs off) (a : Addr) (vs : List Value) : PRels κ.imm cs vs → (∀ (j : Nat) (v : Value), vs[j]? = some v → κ.imm (a.add j) = some v) → Ones vs → VRel κ (.rptr cs off) (.pointer (some (a.add off)))
  | tsl (t n cs k cap) (vs : List Value) : κ.tl t n = some (k, cap) → n ≤ cap → PRels κ.imm cs vs → (∀ (j : Nat) (v : Value), vs[j]? = some v → κ.imm ⟨k, j, none⟩ = some v) → Ones vs → VRel κ (.tsl t n cs) (.slice (some ⟨k, 0, none⟩) n cap)
  | zsl (t m k cap) : κ.tl t 0 = some (k, cap) → m ≤ cap → VRel κ (.zsl t m) (.slice (some ⟨k, 0, none⟩) m cap)
  | hs (es id off n cap k cap') : κ.loc id = some k → n ≤ cap → cap ≤ cap' → VRel κ (.hs es id off n cap) (.slice (some ⟨k, off, none⟩) n cap')
  | map (id k) : κ.loc id = some k → VRel κ (.map id) (.map (some k))
  | yield (id k) : κ.loc id = some k → VRel κ (.yield id) (.func (.yield k) #[] #[])
  | fn (f) (a b) (va vb : List Value) : VRels κ a va → VRels κ b vb → VRel κ (.fn f a b) (.func (.func f) va.toArray vb.toArray)
  | iface (t a v) : VRel κ a v → VRel κ (.iface t a) (.iface t v)
  | agg (cs) (vs : List Value) : VRels κ cs vs → Ones vs → VRel κ (.agg cs) (.agg vs.toArray)
  | tup (cs) (vs : List Value) : VRels κ cs vs → VRel κ (.tup cs) (.tuple vs.toArray)
  | gs (id n k cap) : κ.tl id n = some (k, cap) → n ≤ cap → VRel κ (.gs id n) (.slice (some ⟨k, 0, none⟩) n cap)
  | gptr (id n off k cap) : κ.tl id n = some (k, cap) → VRel κ (.gptr id n off) (.pointer (some ⟨k, off, none⟩))
inductive VRels (κ : K) : List AV → List Value → Prop
  | nil : VRels κ [] []
  | cons (a v as vs) : VRel κ a v → VRels κ as vs → VRels κ (a :: as) (v :: vs)
end

mutual
theorem VRel.mono {κ κ' : K} (h : κ.le κ') {a : AV} {v : Value} (r : VRel κ a v) : VRel κ' a v := by
  cases r with
  | pv p v h1 => exact .pv _ _ (h1.mono h.imm)
  | ptr id off k h1 => exact .ptr _ _ _ (h.loc _ _ h1)
  | rptr cs off a vs h1 h2 h3 => exact .rptr _ _ _ vs (h1.mono h.imm) (fun j v hj => h.imm _ _ (h2 j v hj)) h3
  | tsl t n cs k cap vs h1 h2 h3 h4 h5 => exact .tsl _ _ _ _ _ vs (h.tl _ _ _ h1) h2 (h3.mono h.imm) (fun j v hj => h.imm _ _ (h4 j v hj)) h5
  | zsl t m k cap h1 h2 => exact .zsl _ _ _ _ (h.tl _ _ _ h1) h2
  | hs es id off n cap k cap' h1 h2 h3 => exact .hs _ _ _ _ _ _ _ (h.loc _ _ h1) h2 h3
  | map id k h1 => exact .map _ _ (h.loc _ _ h1)
  | yield id k h1 => exact .yield _ _ (h.loc _ _ h1)
  | fn f a b va vb h1 h2 => exact .fn _ _ _ _ _ (h1.mono h) (h2.mono h)
  | iface t a v h1 => exact .iface _ _ _ (h1.mono h)
  | agg cs vs h1 h2 => exact .agg _ _ (h1.mono h) h2
  | tup cs vs h1 => exact .tup _ _ (h1.mono h)
  | gs id n k cap h1 h2 => exact .gs _ _ _ _ (h.tl _ _ _ h1) h2
  | gptr id n off k cap h1 => exact .gptr _ _ _ _ _ (h.tl _ _ _ h1)
theorem VRels.mono {κ κ' : K} (h : κ.le κ') {a : List AV} {v : List Value} (r : VRels κ a v) : VRels κ' a v := by
  cases r with
  | nil => exact .nil
  | cons a v as vs h1 h2 => exact .cons _ _ _ _ (h1.mono h) (h2.mono h)
end

/-! ### lists -/
theorem lget_eq {α : Type} (l : List α) (i : Nat) : lget l i = l[i]? := by
  induction l generalizing i with
  | nil => rfl
  | cons b l ih => cases i with
    | zero => rfl
    | succ i => simpa [lget] using ih i
theorem PRels.length {I : Imm} {ps : List PV} {vs : List Value} (h : PRels I ps vs) : ps.length = vs.length := by
  induction ps generalizing vs with
  | nil => cases h; rfl
  | cons p ps ih => cases h with | cons _ _ _ _ _ h2 => simp [ih h2]
theorem PRels.get {I : Imm} {ps : List PV} {vs : List Value} (h : PRels I ps vs) {i : Nat} {p : PV} (hp : ps[i]? = some p) : ∃ v, vs[i]? = some v ∧ PRel I p v := by
  induction ps generalizing vs i with
  | nil => simp at hp
  | cons q ps ih => cases h with
    | cons _ v _ vs h1 h2 =>
      cases i with
      | zero => simp at hp; subst hp; exact ⟨v, rfl, h1⟩
      | succ i => simp at hp; simpa using ih h2 hp
theorem PRels.append {I : Imm} {ps qs : List PV} {vs us : List Value} (h : PRels I ps vs) (g : PRels I qs us) : PRels I (ps ++ qs) (vs ++ us) := by
  induction ps generalizing vs with
  | nil => cases h; exact g
  | cons p ps ih => cases h with | cons _ _ _ _ h1 h2 => exact .cons _ _ _ _ h1 (ih h2)
theorem PRels.take {I : Imm} {ps : List PV} {vs : List Value} (h : PRels I ps vs) (n : Nat) : PRels I (ps.take n) (vs.take n) := by
  induction ps generalizing vs n with
  | nil => cases h; simp; exact .nil
  | cons p ps ih => cases h with
    | cons _ _ _ _ h1 h2 => cases n with
      | zero => simp; exact .nil
      | succ n => simp; exact .cons _ _ _ _ h1 (ih h2 n)
theorem PRels.drop {I : Imm} {ps : List PV} {vs : List Value} (h : PRels I ps vs) (n : Nat) : PRels I (ps.drop n) (vs.drop n) := by
  induction ps generalizing vs n with
  | nil => cases h; simp; exact .nil
  | cons p ps ih => cases h with
    | cons _ _ _ _ h1 h2 => cases n with
      | zero => simp; exact .cons _ _ _ _ h1 h2
      | succ n => simp; exact ih h2 n
theorem PRels.set {I : Imm} {ps : List PV} {vs : List Value} (h : PRels I ps vs) (n : Nat) {p : PV} {v : Value} (hp : PRel I p v) : PRels I (ps.set n p) (vs.set n v) := by
  induction ps generalizing vs n with
  | nil => cases h; simp; exact .nil
  | cons q ps ih => cases h with
    | cons _ _ _ _ h1 h2 => cases n with
      | zero => simp; exact .cons _ _ _ _ hp h2
      | succ n => simp; exact .cons _ _ _ _ h1 (ih h2 n)
theorem VRels.length {κ : K} {ps : List AV} {vs : List Value} (h : VRels κ ps vs) : ps.length = vs.length := by
  induction ps generalizing vs with
  | nil => cases h; rfl
  | cons p ps ih => cases h with | cons _ _ _ _ _ h2 => simp [ih h2]
theorem VRels.get {κ : K} {ps : List AV} {vs : List Value} (h : VRels κ ps vs) {i : Nat} {p : AV} (hp : lget ps i = some p) : ∃ v, vs[i]? = some v ∧ VRel κ p v := by
  induction ps generalizing vs i with
  | nil => simp [lget] at hp
  | cons q ps ih => cases h with
    | cons _ v _ vs h1 h2 =>
      cases i with
      | zero => simp [lget] at hp; subst hp; exact ⟨v, rfl, h1⟩
      | succ i => simp [lget] at hp; simpa using ih h2 hp
theorem VRels.append {κ : K} {ps qs : List AV} {vs us : List Value} (h : VRels κ ps vs) (g : VRels κ qs us) : VRels κ (ps ++ qs) (vs ++ us) := by
  induction ps generalizing vs with
  | nil => cases h; exact g
  | cons p ps ih => cases h with | cons _ _ _ _ h1 h2 => exact .cons _ _ _ _ h1 (ih h2)
theorem VRels.take {κ : K} {ps : List AV} {vs : List Value} (h : VRels κ ps vs) (n : Nat) : VRels κ (ps.take n) (vs.take n) := by
  induction ps generalizing vs n with
  | nil => cases h; simp; exact .nil
  | cons p ps ih => cases h with
    | cons _ _ _ _ h1 h2 => cases n with
      | zero => simp; exact .nil
      | succ n => simp; exact .cons _ _ _ _ h1 (ih h2 n)
theorem VRels.drop {κ : K} {ps : List AV} {vs : List Value} (h : VRels κ ps vs) (n : Nat) : VRels κ (ps.drop n) (vs.drop n) := by
  induction ps generalizing vs n with
  | nil => cases h; simp; exact .nil
  | cons p ps ih => cases h with
    | cons _ _ _ _ h1 h2 => cases n with
      | zero => simp; exact .cons _ _ _ _ h1 h2
      | succ n => simp; exact ih h2 n
theorem VRels.set {κ : K} {ps : List AV} {vs : List Value} (h : VRels κ ps vs) (n : Nat) {p : AV} {v : Value} (hp : VRel κ p v) : VRels κ (ps.set n p) (vs.set n v) := by
  induction ps generalizing vs n with
  | nil => cases h; simp; exact .nil
  | cons q ps ih => cases h with
    | cons _ _ _ _ h1 h2 => cases n with
      | zero => simp; exact .cons _ _ _ _ hp h2
      | succ n => simp; exact .cons _ _ _ _ h1 (ih h2 n)
theorem VRels.of_pv {κ : K} {ps : List PV} {vs : List Value} (h : PRels κ.imm ps vs) : VRels κ (ps.map .pv) vs := by
  induction ps generalizing vs with
  | nil => cases h; exact .nil
  | cons p ps ih => cases h with | cons _ _ _ _ h1 h2 => exact .cons _ _ _ _ (.pv _ _ h1) (ih h2)
theorem VRels.to_pv {κ : K} {ps : List PV} {vs : List Value} (h : VRels κ (ps.map .pv) vs) : PRels κ.imm ps vs := by
  induction ps generalizing vs with
  | nil => cases h; exact .nil
  | cons p ps ih => cases h with | cons _ _ _ _ h1 h2 => cases h1 with | pv _ _ h1 => exact .cons _ _ _ _ h1 (ih h2)
theorem allPV_eq {l : List AV} {ps : List PV} (h : allPV l = some ps) : l = ps.map .pv := by
  induction l generalizing ps with
  | nil => simp [allPV] at h; subst h; rfl
  | cons a l ih =>
    cases a with
    | pv p =>
      simp only [allPV, Option.map_eq_some_iff] at h
      obtain ⟨qs, h1, rfl⟩ := h
      simp [ih h1]
    | _ => simp [allPV] at h

/-! ### the heap -/
def place (κ : K) (id : Nat) : HObj → Option Nat
  | .dead => none
  | .tok n _ => (κ.tl id n).map (·.1)
  | .row n _ _ => (κ.tl id n).map (·.1)
  | _ => κ.loc id

structure Ctx where
  P : Program
  md : FuncId → Mode
  /-- What package-level variables hold. -/
  gi : Imm
  /-- Where they end. -/
  gn : Addr → Bool

def jumpOf : Ex → Option Code
  | .normal => none
  | .exit id => some (.exit id)
  | .ret => some .ret

def StateRel : LState → LoopState → Option Code → Prop
  | .ready, s, j => s = .ready ∧ j = none
  | .busy, s, _ => s = .busy
  | .done e, s, j => s = .done ∧ j = jumpOf e ∧ e ≠ .normal

structure LoopRel (Γ : Ctx) (κ : K) (l : VLoop) (L : Loop) : Prop where
  state : StateRel l.state L.state L.pending
  regs : ∀ t, VRel κ (l.regs t) (L.tmps.getD t undef)
  params : l.params = L.params.toList
  bound : ∀ t ∈ l.params, t < L.tmps.size
  code : ∃ mu n, n ≤ L.tmps.size ∧ l.assign = compCode Γ.P Γ.md mu false n L.assign ∧ l.body = compCode Γ.P Γ.md mu false n L.body

inductive MRels (I : Imm) : List (PV × PV) → List MapEntry → Prop
  | nil : MRels I [] []
  | cons (k v : PV) (e : MapEntry) (es l) : PRel I k e.key → PRel I v e.val → MRels I es l → MRels I ((k, v) :: es) (e :: l)
theorem MRels.mono {I J : Imm} (h : I.le J) {es : List (PV × PV)} {l : List MapEntry} (r : MRels I es l) : MRels J es l := by
  induction r with
  | nil => exact .nil
  | cons k v e es l h1 h2 _ ih => exact .cons _ _ _ _ _ (h1.mono h) (h2.mono h) ih

def ObjRel (Γ : Ctx) (κ : K) (w : World) (id k : Nat) : HObj → Prop
  | .dead => True
  | .cells cs => ∃ (c rest : List Value) (e : TypeId), w.heap[k]? = some (.cells (c ++ rest).toArray e (0, 0)) ∧ VRels κ cs c ∧ (∀ a : Addr, a.block = k → κ.imm a = none) ∧ Ones c
  | .pcells cs => ∃ (c rest : List Value) (e : TypeId), w.heap[k]? = some (.cells (c ++ rest).toArray e (0, 0)) ∧ PRels κ.imm cs c ∧ (∀ a : Addr, a.block = k → κ.imm a = none) ∧ Ones c
  | .tok n es => ∃ (cap : Nat) (c : List Value) (e : TypeId), κ.tl id n = some (k, cap) ∧ w.heap[k]? = some (.cells c.toArray e (0, 0)) ∧ c.length = cap * es ∧ cap ≤ maxLen ∧ n ≤ cap ∧
      (∀ a : Addr, a.block = k → κ.imm a ≠ none → a.off < n * es) ∧ ∀ m, n < m → κ.tl id m = none
  | .loop l => ∃ L, w.heap[k]? = some (.loop L) ∧ LoopRel Γ κ l L
  | .map es => ∃ (ents : Array MapEntry) (clock : Nat), w.heap[k]? = some (.map ents clock) ∧ MRels κ.imm es ents.toList
  | .row n es cs => ∃ (cap : Nat) (c rest : List Value) (e : TypeId), κ.tl id n = some (k, cap) ∧ w.heap[k]? = some (.cells (c ++ rest).toArray e (0, 0)) ∧ (c ++ rest).length = cap * es ∧ cap ≤ maxLen ∧ n ≤ cap ∧
      cs.length = n * es ∧ VRels κ cs c ∧ Ones c ∧ (∀ a : Addr, a.block = k → κ.imm a = none) ∧ ∀ m, n < m → κ.tl id m = none

structure SRel (Γ : Ctx) (b0 : Nat) (κ : K) (H : Heap) (w : World) : Prop where
  imm : ∀ a v, κ.imm a = some v → w.cell? a = some v
  obj : ∀ id k, place κ id (hget H id) = some k → b0 ≤ k ∧ ObjRel Γ κ w id k (hget H id)
  inj : ∀ id id' k, place κ id (hget H id) = some k → place κ id' (hget H id') = some k → id = id'
  fresh : ∀ id, H.length ≤ id → κ.loc id = none ∧ ∀ n, κ.tl id n = none
  base : b0 ≤ w.heap.size
  gv : Γ.gi.le κ.imm
  gn : ∀ a, Γ.gn a = true → a.block < b0 ∧ w.cell? a = none

/-- Nothing in the world is this object. -/
def Idle (κ : K) (id : Nat) : Prop := κ.loc id = none ∧ ∀ n, κ.tl id n = none

structure Grow (κ : K) (H : Heap) (w : World) (κ' : K) (H' : Heap) (w' : World) : Prop where
  le : κ.le κ'
  size : w.heap.size ≤ w'.heap.size
  len : H.length ≤ H'.length
  os : w'.os = w.os
  tape : w'.tape = w.tape
  output : w'.output = w.output
  frame : ∀ k, k < w.heap.size → (∀ id, place κ id (hget H id) ≠ some k) → w'.heap[k]? = w.heap[k]?
  places : ∀ id k, place κ' id (hget H' id) = some k → (∃ id', place κ id' (hget H id') = some k) ∨ w.heap.size ≤ k
  imm : ∀ a v, κ'.imm a = some v → κ.imm a = some v ∨ w.heap.size ≤ a.block ∨ ∃ id, place κ id (hget H id) = some a.block
  idle : ∀ id, id < H.length → Idle κ id → hget H' id = hget H id ∧ Idle κ' id

theorem Grow.refl (κ : K) (H : Heap) (w : World) : Grow κ H w κ H w :=
  ⟨κ.le_refl, Nat.le_refl _, Nat.le_refl _, rfl, rfl, rfl, fun _ _ _ => rfl, fun _ _ h => .inl ⟨_, h⟩, fun _ _ h => .inl h, fun _ _ h => ⟨rfl, h⟩⟩

theorem Grow.trans {κ κ1 κ2 : K} {H H1 H2 : Heap} {w w1 w2 : World} (h : Grow κ H w κ1 H1 w1) (g : Grow κ1 H1 w1 κ2 H2 w2) : Grow κ H w κ2 H2 w2 := by
  refine ⟨K.le_trans h.le g.le, Nat.le_trans h.size g.size, Nat.le_trans h.len g.len, g.os.trans h.os, g.tape.trans h.tape, g.output.trans h.output, ?_, ?_, ?_, fun id hid hi => ?_⟩
  · intro k hk hn
    rw [g.frame k (Nat.lt_of_lt_of_le hk h.size) (fun id hp => ?_), h.frame k hk hn]
    rcases h.places id k hp with ⟨id', h'⟩ | h'
    · exact hn id' h'
    · omega
  · intro id k hp
    rcases g.places id k hp with ⟨id', h'⟩ | h'
    · exact h.places id' k h'
    · exact .inr (Nat.le_trans h.size h')
  · intro a v hv
    rcases g.imm a v hv with h' | h' | ⟨id, h'⟩
    · exact h.imm a v h'
    · exact .inr (.inl (Nat.le_trans h.size h'))
    · rcases h.places id _ h' with h'' | h''
      · exact .inr (.inr h'')
      · exact .inr (.inl h'')
  · obtain ⟨h1, h2⟩ := h.idle id hid hi
    obtain ⟨g1, g2⟩ := g.idle id (Nat.lt_of_lt_of_le hid h.len) h2
    exact ⟨g1.trans h1, g2⟩

theorem hget_ge {H : Heap} {id : Nat} (h : H.length ≤ id) : hget H id = .dead := by
  induction H generalizing id with
  | nil => cases id <;> rfl
  | cons o H ih => cases id with
    | zero => simp at h
    | succ id => exact ih (by simpa using h)
theorem hget_append_lt {H H2 : Heap} {id : Nat} (h : id < H.length) : hget (H ++ H2) id = hget H id := by
  induction H generalizing id with
  | nil => simp at h
  | cons o H ih => cases id with
    | zero => rfl
    | succ id => exact ih (by simpa using h)
theorem hget_append_same (H : Heap) (o : HObj) : hget (H ++ [o]) H.length = o := by
  induction H with
  | nil => rfl
  | cons a H ih => simpa [hget] using ih
theorem hset_length (H : Heap) (id : Nat) (o : HObj) : (hset H id o).length = H.length := by
  induction H generalizing id with
  | nil => rfl
  | cons a H ih => cases id <;> simp [hset, ih]
theorem hget_hset_same {H : Heap} {id : Nat} (o : HObj) (h : id < H.length) : hget (hset H id o) id = o := by
  induction H generalizing id with
  | nil => simp at h
  | cons a H ih => cases id with
    | zero => rfl
    | succ id => exact ih (by simpa using h)
theorem hget_hset_other {H : Heap} {id j : Nat} (o : HObj) (h : j ≠ id) : hget (hset H id o) j = hget H j := by
  induction H generalizing id j with
  | nil => rfl
  | cons a H ih => cases id with
    | zero => cases j with
      | zero => exact absurd rfl h
      | succ j => rfl
    | succ id => cases j with
      | zero => rfl
      | succ j => exact ih (by omega)
theorem lt_of_hget {H : Heap} {id : Nat} (h : hget H id ≠ .dead) : id < H.length := by
  rcases Nat.lt_or_ge id H.length with h' | h'
  · exact h'
  · exact absurd (hget_ge h') h
end Go.VM

namespace Go.VM
open Go

theorem block_lt {w : World} {a : Addr} {v : Value} (h : w.cell? a = some v) : a.block < w.heap.size := World.block_lt_of_cell? w a h

theorem place_lt {Γ : Ctx} {base : Nat} {κ : K} {H : Heap} {w : World} (h : SRel Γ base κ H w) {id k : Nat} (hp : place κ id (hget H id) = some k) : k < w.heap.size := by
  obtain ⟨_, ho⟩ := h.obj id k hp
  have lt : ∀ o, w.heap[k]? = some o → k < w.heap.size := fun o ho => (Array.getElem?_eq_some_iff.1 ho).1
  cases hg : hget H id with
  | dead => rw [hg] at hp; simp [place] at hp
  | cells cs => rw [hg] at ho; obtain ⟨c, rest, e, h1, _⟩ := ho; exact lt _ h1
  | pcells cs => rw [hg] at ho; obtain ⟨c, rest, e, h1, _⟩ := ho; exact lt _ h1
  | tok n es => rw [hg] at ho; obtain ⟨cap, c, e, _, h1, _⟩ := ho; exact lt _ h1
  | loop l => rw [hg] at ho; obtain ⟨L, h1, _⟩ := ho; exact lt _ h1
  | map es => rw [hg] at ho; obtain ⟨L, c, h1, _⟩ := ho; exact lt _ h1
  | row n es cs => rw [hg] at ho; obtain ⟨cap, c, rest, e, _, h1, _⟩ := ho; exact lt _ h1

theorem LoopRel.mono {Γ : Ctx} {κ κ' : K} (h : κ.le κ') {l : VLoop} {L : Loop} (r : LoopRel Γ κ l L) : LoopRel Γ κ' l L :=
  ⟨r.state, fun t => (r.regs t).mono h, r.params, r.bound, r.code⟩

theorem ObjRel.mono {Γ : Ctx} {κ κ' : K} {w w' : World} {id k : Nat} {o : HObj} (h : κ.le κ') (hk : w'.heap[k]? = w.heap[k]?)
    (hi : ∀ a : Addr, a.block = k → κ'.imm a = κ.imm a) (ht : ∀ m, κ'.tl id m = κ.tl id m) (r : ObjRel Γ κ w id k o) : ObjRel Γ κ' w' id k o := by
  cases o with
  | dead => trivial
  | cells cs =>
    obtain ⟨c, rest, e, h1, h2, h3, h4⟩ := r
    exact ⟨c, rest, e, hk.trans h1, h2.mono h, fun a ha => (hi a ha).trans (h3 a ha), h4⟩
  | pcells cs =>
    obtain ⟨c, rest, e, h1, h2, h3, h4⟩ := r
    exact ⟨c, rest, e, hk.trans h1, h2.mono h.imm, fun a ha => (hi a ha).trans (h3 a ha), h4⟩
  | tok n es =>
    obtain ⟨cap, c, e, h1, h2, h3, h4, h5, h6, h7⟩ := r
    exact ⟨cap, c, e, (ht n).trans h1, hk.trans h2, h3, h4, h5, fun a ha hn => h6 a ha (by rwa [hi a ha] at hn), fun m hm => (ht m).trans (h7 m hm)⟩
  | loop l =>
    obtain ⟨L, h1, h2⟩ := r
    exact ⟨L, hk.trans h1, h2.mono h⟩
  | map es =>
    obtain ⟨L, c, h1, h2⟩ := r
    exact ⟨L, c, hk.trans h1, h2.mono h.imm⟩
  | row n es cs =>
    obtain ⟨cap, c, rest, e, h1, h2, h3, h4, h5, h6, h7, h8, h9, h10⟩ := r
    exact ⟨cap, c, rest, e, (ht n).trans h1, hk.trans h2, h3, h4, h5, h6, h7.mono h, h8, fun a ha => (hi a ha).trans (h9 a ha), fun m hm => (ht m).trans (h10 m hm)⟩

/-- What is the same of two worlds but for the heap and the draws. -/
structure Same (w w' : World) : Prop where
  os : w'.os = w.os
  tape : w'.tape = w.tape
  output : w'.output = w.output
  size : w.heap.size ≤ w'.heap.size

/-- Old blocks lie as they lay; what is new among the cells that stay is in new blocks. -/
theorem SRel.turnNone {Γ : Ctx} {base : Nat} {κ κ' : K} {H : Heap} {w w' : World} (h : SRel Γ base κ H w) (hs : Same w w') (hle : κ.le κ')
    (hloc : κ'.loc = κ.loc) (htl : κ'.tl = κ.tl) (hold : ∀ k, k < w.heap.size → w'.heap[k]? = w.heap[k]?)
    (himm : ∀ a v, κ'.imm a = some v → κ.imm a = some v ∨ (w.heap.size ≤ a.block ∧ w'.cell? a = some v)) :
    SRel Γ base κ' H w' ∧ Grow κ H w κ' H w' := by
  have hp : ∀ id o, place κ' id o = place κ id o := fun id o => by cases o <;> simp [place, hloc, htl]
  have hcell : ∀ a v, w.cell? a = some v → w'.cell? a = some v := fun a v hv => (World.cell?_of_block (hold _ (block_lt hv))).trans hv
  refine ⟨⟨?_, ?_, ?_, ?_, Nat.le_trans h.base hs.size, fun a v hv => hle.imm a v (h.gv a v hv), fun a ha => ⟨(h.gn a ha).1, (World.cell?_of_block (hold _ (Nat.lt_of_lt_of_le (h.gn a ha).1 h.base))).trans (h.gn a ha).2⟩⟩, ⟨hle, hs.size, Nat.le_refl _, hs.os, hs.tape, hs.output, fun k hk _ => hold k hk, fun id k hk => .inl ⟨id, by rwa [hp] at hk⟩, ?_, fun id _ hi => ⟨rfl, by rw [hloc]; exact hi.1, by rw [htl]; exact hi.2⟩⟩⟩
  · intro a v hv
    rcases himm a v hv with h1 | ⟨_, h1⟩
    · exact hcell a v (h.imm a v h1)
    · exact h1
  · intro id k hk
    rw [hp] at hk
    have hlt := place_lt h hk
    obtain ⟨hb, ho⟩ := h.obj id k hk
    refine ⟨hb, ho.mono hle (hold k hlt) (fun a ha => ?_) (fun m => by rw [htl])⟩
    cases hv : κ'.imm a with
    | none => cases hv' : κ.imm a with
      | none => rfl
      | some u => rw [hle.imm a u hv'] at hv; cases hv
    | some v => rcases himm a v hv with h1 | ⟨h1, _⟩
                · exact h1.symm
                · omega
  · intro id id' k h1 h2
    rw [hp] at h1 h2
    exact h.inj id id' k h1 h2
  · intro id hid
    rw [hloc, htl]
    exact h.fresh id hid
  · intro a v hv
    rcases himm a v hv with h1 | ⟨h1, _⟩
    · exact .inl h1
    · exact .inr (.inl h1)

/-- A new object. -/
theorem SRel.turnNew {Γ : Ctx} {base : Nat} {κ κ' : K} {H : Heap} {w w' : World} (o : HObj) (k0 : Nat) (h : SRel Γ base κ H w) (hs : Same w w') (hle : κ.le κ')
    (hloc : ∀ i, i ≠ H.length → κ'.loc i = κ.loc i) (htl : ∀ i, i ≠ H.length → κ'.tl i = κ.tl i) (hold : ∀ k, k < w.heap.size → w'.heap[k]? = w.heap[k]?)
    (himm : ∀ a v, κ'.imm a = some v → κ.imm a = some v ∨ (w.heap.size ≤ a.block ∧ w'.cell? a = some v))
    (hk0 : place κ' H.length o = some k0) (hnew : w.heap.size ≤ k0) (ho : ObjRel Γ κ' w' H.length k0 o) :
    SRel Γ base κ' (H ++ [o]) w' ∧ Grow κ H w κ' (H ++ [o]) w' := by
  have hp : ∀ id o, id ≠ H.length → place κ' id o = place κ id o := fun id o hi => by cases o <;> simp [place, hloc id hi, htl id hi]
  have hcell : ∀ a v, w.cell? a = some v → w'.cell? a = some v := fun a v hv => (World.cell?_of_block (hold _ (block_lt hv))).trans hv
  have hpl : ∀ id k, place κ' id (hget (H ++ [o]) id) = some k → (id < H.length ∧ place κ id (hget H id) = some k) ∨ (id = H.length ∧ k = k0) := by
    intro id k hk
    rcases Nat.lt_trichotomy id H.length with hi | hi | hi
    · rw [hget_append_lt hi, hp _ _ (by omega)] at hk
      exact .inl ⟨hi, hk⟩
    · subst hi
      rw [hget_append_same, hk0] at hk
      exact .inr ⟨rfl, by simpa using hk.symm⟩
    · rw [hget_ge (by simp; omega)] at hk
      simp [place] at hk
  refine ⟨⟨?_, ?_, ?_, ?_, Nat.le_trans h.base hs.size, fun a v hv => hle.imm a v (h.gv a v hv), fun a ha => ⟨(h.gn a ha).1, (World.cell?_of_block (hold _ (Nat.lt_of_lt_of_le (h.gn a ha).1 h.base))).trans (h.gn a ha).2⟩⟩, ⟨hle, hs.size, by simp, hs.os, hs.tape, hs.output, fun k hk _ => hold k hk, ?_, ?_,
    fun id hid hi => ⟨hget_append_lt hid, by rw [hloc id (by omega)]; exact hi.1, by rw [htl id (by omega)]; exact hi.2⟩⟩⟩
  · intro a v hv
    rcases himm a v hv with h1 | ⟨_, h1⟩
    · exact hcell a v (h.imm a v h1)
    · exact h1
  · intro id k hk
    rcases hpl id k hk with ⟨hi, hk⟩ | ⟨rfl, rfl⟩
    · have hlt := place_lt h hk
      obtain ⟨hb, hor⟩ := h.obj id k hk
      rw [hget_append_lt hi]
      refine ⟨hb, hor.mono hle (hold k hlt) (fun a ha => ?_) (fun m => by rw [htl id (by omega)])⟩
      cases hv : κ'.imm a with
      | none => cases hv' : κ.imm a with
        | none => rfl
        | some u => rw [hle.imm a u hv'] at hv; cases hv
      | some v => rcases himm a v hv with h1 | ⟨h1, _⟩
                  · exact h1.symm
                  · omega
    · rw [hget_append_same]
      exact ⟨Nat.le_trans h.base hnew, ho⟩
  · intro id id' k h1 h2
    rcases hpl id k h1 with ⟨hi, hk⟩ | ⟨hi, hk⟩ <;> rcases hpl id' k h2 with ⟨hi', hk'⟩ | ⟨hi', hk'⟩
    · exact h.inj id id' k hk hk'
    · have := place_lt h hk; omega
    · have := place_lt h hk'; omega
    · omega
  · intro id hid
    simp at hid
    rw [hloc id (by omega), htl id (by omega)]
    exact h.fresh id (by omega)
  · intro id k hk
    rcases hpl id k hk with ⟨hi, hk⟩ | ⟨_, hk⟩
    · exact .inl ⟨id, hk⟩
    · subst hk; exact .inr hnew
  · intro a v hv
    rcases himm a v hv with h1 | ⟨h1, _⟩
    · exact .inl h1
    · exact .inr (.inl h1)

/-- One object turns; it may move to a new block. -/
theorem SRel.turnOne {Γ : Ctx} {base : Nat} {κ κ' : K} {H : Heap} {w w' : World} (id0 : Nat) (o : HObj) (k0 k1 : Nat) (h : SRel Γ base κ H w) (hs : Same w w') (hle : κ.le κ')
    (h0 : place κ id0 (hget H id0) = some k0)
    (hloc : κ'.loc = κ.loc) (htl : ∀ i, i ≠ id0 → κ'.tl i = κ.tl i) (hold : ∀ k, k < w.heap.size → k ≠ k0 → w'.heap[k]? = w.heap[k]?)
    (himm : ∀ a v, κ'.imm a = some v → w'.cell? a = some v ∧ (κ.imm a = some v ∨ w.heap.size ≤ a.block ∨ a.block = k0))
    (hk1 : ∀ k, place κ' id0 o = some k → k = k1) (hnew : k1 = k0 ∨ w.heap.size ≤ k1) (ho : ObjRel Γ κ' w' id0 k1 o) :
    SRel Γ base κ' (hset H id0 o) w' ∧ Grow κ H w κ' (hset H id0 o) w' := by
  have hid0 : id0 < H.length := lt_of_hget (fun e => by rw [e] at h0; simp [place] at h0)
  have hp : ∀ id o, id ≠ id0 → place κ' id o = place κ id o := fun id o hi => by cases o <;> simp [place, hloc, htl id hi]
  have hb0 := (h.obj id0 k0 h0).1
  have hpl : ∀ id k, place κ' id (hget (hset H id0 o) id) = some k → (id ≠ id0 ∧ place κ id (hget H id) = some k) ∨ (id = id0 ∧ k = k1) := by
    intro id k hk
    by_cases hi : id = id0
    · subst hi
      rw [hget_hset_same o hid0] at hk
      exact .inr ⟨rfl, hk1 k hk⟩
    · rw [hget_hset_other o hi, hp _ _ hi] at hk
      exact .inl ⟨hi, hk⟩
  refine ⟨⟨fun a v hv => (himm a v hv).1, ?_, ?_, ?_, Nat.le_trans h.base hs.size, fun a v hv => hle.imm a v (h.gv a v hv), fun a ha => ⟨(h.gn a ha).1, (World.cell?_of_block (hold _ (Nat.lt_of_lt_of_le (h.gn a ha).1 h.base) (by have := (h.gn a ha).1; omega))).trans (h.gn a ha).2⟩⟩,
    ⟨hle, hs.size, by rw [hset_length]; exact Nat.le_refl _, hs.os, hs.tape, hs.output, fun k hk hn => hold k hk (fun e => hn id0 (by rw [e]; exact h0)), ?_, ?_, fun id _ hi => ?_⟩⟩
  · intro id k hk
    rcases hpl id k hk with ⟨hi, hk⟩ | ⟨hi, hk⟩
    · have hlt := place_lt h hk
      have hne : k ≠ k0 := fun e => hi (h.inj id id0 k hk (by rw [e]; exact h0))
      obtain ⟨hb, hor⟩ := h.obj id k hk
      rw [hget_hset_other o hi]
      refine ⟨hb, hor.mono hle (hold k hlt hne) (fun a ha => ?_) (fun m => by rw [htl id hi])⟩
      cases hv : κ'.imm a with
      | none => cases hv' : κ.imm a with
        | none => rfl
        | some u => rw [hle.imm a u hv'] at hv; cases hv
      | some v => rcases (himm a v hv).2 with h1 | h1 | h1
                  · exact h1.symm
                  · omega
                  · omega
    · rw [hi, hk, hget_hset_same o hid0]
      exact ⟨by rcases hnew with e | e; · rw [e]; exact hb0
                · exact Nat.le_trans h.base e, ho⟩
  · intro id id' k h1 h2
    rcases hpl id k h1 with ⟨hi, hk⟩ | ⟨hi, hk⟩ <;> rcases hpl id' k h2 with ⟨hi', hk'⟩ | ⟨hi', hk'⟩
    · exact h.inj id id' k hk hk'
    · rcases hnew with e | e
      · exact absurd (h.inj id id0 k hk (by rw [hk', e]; exact h0)) hi
      · have := place_lt h hk; omega
    · rcases hnew with e | e
      · exact absurd (h.inj id' id0 k hk' (by rw [hk, e]; exact h0)) hi'
      · have := place_lt h hk'; omega
    · omega
  · intro id hid
    rw [hset_length] at hid
    rw [hloc, htl id (by omega)]
    exact h.fresh id hid
  · intro id k hk
    rcases hpl id k hk with ⟨hi, hk⟩ | ⟨_, hk⟩
    · exact .inl ⟨id, hk⟩
    · subst hk
      rcases hnew with e | e
      · exact .inl ⟨id0, by rw [e]; exact h0⟩
      · exact .inr e
  · intro a v hv
    rcases (himm a v hv).2 with h1 | h1 | h1
    · exact .inl h1
    · exact .inr (.inl h1)
    · exact .inr (.inr ⟨id0, by rw [h1]; exact h0⟩)
  · have hne : id ≠ id0 := fun e => by
      subst e
      have : place κ id (hget H id) = none := by cases hget H id <;> simp [place, hi.1, hi.2]
      rw [this] at h0; cases h0
    exact ⟨hget_hset_other o hne, by rw [hloc]; exact hi.1, by rw [htl id hne]; exact hi.2⟩

theorem Same.alloc (w : World) (o : Obj) : Same w (w.alloc o) := ⟨rfl, rfl, rfl, by simp⟩
theorem Same.refl (w : World) : Same w w := ⟨rfl, rfl, rfl, Nat.le_refl _⟩
theorem Same.trans {a b c : World} (h : Same a b) (g : Same b c) : Same a c := ⟨g.os.trans h.os, g.tape.trans h.tape, g.output.trans h.output, Nat.le_trans h.size g.size⟩
theorem Same.drew (w : World) : Same w w.drew := ⟨rfl, rfl, rfl, Nat.le_refl _⟩

/-- A draw. -/
theorem SRel.drew {Γ : Ctx} {base : Nat} {κ : K} {H : Heap} {w : World} (h : SRel Γ base κ H w) : SRel Γ base κ H w.drew ∧ Grow κ H w κ H w.drew :=
  h.turnNone (Same.drew w) κ.le_refl rfl rfl (fun _ _ => rfl) (fun _ _ h => .inl h)

/-- An object that nobody of the abstract machine knows. -/
theorem SRel.allocOther {Γ : Ctx} {base : Nat} {κ : K} {H : Heap} {w : World} (h : SRel Γ base κ H w) (o : Obj) : SRel Γ base κ H (w.alloc o) ∧ Grow κ H w κ H (w.alloc o) :=
  h.turnNone (Same.alloc w o) κ.le_refl rfl rfl (fun k hk => heap_alloc_old w o k hk) (fun _ _ h => .inl h)

def K.at (κ : K) (id k : Nat) : K := { κ with loc := fun i => if i = id then some k else κ.loc i }
theorem K.le_at (κ : K) {id k : Nat} (h : κ.loc id = none) : κ.le (κ.at id k) :=
  ⟨fun i j hj => by
    show (if i = id then some k else κ.loc i) = some j
    split
    · rename_i e; subst e; rw [h] at hj; cases hj
    · exact hj, fun _ _ h => h, fun _ _ _ h => h⟩

theorem SRel.imm_none {Γ : Ctx} {base : Nat} {κ : K} {H : Heap} {w : World} (h : SRel Γ base κ H w) (a : Addr) (ha : w.heap.size ≤ a.block) : κ.imm a = none := by
  cases hv : κ.imm a with
  | none => rfl
  | some v => have := block_lt (h.imm a v hv); omega

/-- A new block of plain cells. -/
theorem SRel.newP {Γ : Ctx} {base : Nat} {κ : K} {H : Heap} {w : World} (h : SRel Γ base κ H w) (cs : List PV) (c rest : List Value) (e : TypeId) (hc : PRels κ.imm cs c) (h1 : Ones c) :
    SRel Γ base (κ.at H.length w.heap.size) (H ++ [.pcells cs]) (w.alloc (.cells (c ++ rest).toArray e)) ∧ Grow κ H w (κ.at H.length w.heap.size) (H ++ [.pcells cs]) (w.alloc (.cells (c ++ rest).toArray e)) := by
  refine h.turnNew (.pcells cs) w.heap.size (Same.alloc w _) (κ.le_at (h.fresh _ (Nat.le_refl _)).1) (fun i hi => by simp [K.at, hi]) (fun _ _ => rfl)
    (fun k hk => heap_alloc_old w _ k hk) (fun _ _ h => .inl h) (by simp [place, K.at]) (Nat.le_refl _) ⟨c, rest, e, heap_alloc_new w _, hc, fun a ha => h.imm_none a (by omega), h1⟩
/-- A new block of any cells. -/
theorem SRel.newC {Γ : Ctx} {base : Nat} {κ : K} {H : Heap} {w : World} (h : SRel Γ base κ H w) (cs : List AV) (c rest : List Value) (e : TypeId) (hc : VRels κ cs c) (h1 : Ones c) :
    SRel Γ base (κ.at H.length w.heap.size) (H ++ [.cells cs]) (w.alloc (.cells (c ++ rest).toArray e)) ∧ Grow κ H w (κ.at H.length w.heap.size) (H ++ [.cells cs]) (w.alloc (.cells (c ++ rest).toArray e)) := by
  have hle := κ.le_at (k := w.heap.size) (h.fresh H.length (Nat.le_refl _)).1
  refine h.turnNew (.cells cs) w.heap.size (Same.alloc w _) hle (fun i hi => by simp [K.at, hi]) (fun _ _ => rfl)
    (fun k hk => heap_alloc_old w _ k hk) (fun _ _ h => .inl h) (by simp [place, K.at]) (Nat.le_refl _) ⟨c, rest, e, heap_alloc_new w _, hc.mono hle, fun a ha => h.imm_none a (by omega), h1⟩
theorem K.at_same (κ : K) (id k : Nat) : (κ.at id k).loc id = some k := by simp [K.at]

/-- Cells of a block that stay as they are, from now on: the first n of block k. -/
def K.keep (κ : K) (k n : Nat) (c : List Value) : K :=
  { κ with imm := fun a => match κ.imm a with | some v => some v | none => if a.block = k ∧ a.spot = none ∧ a.off < n then c[a.off]? else none }
theorem K.le_keep (κ : K) (k n : Nat) (c : List Value) : κ.le (κ.keep k n c) := ⟨fun _ _ h => h, fun a v h => by simp [K.keep, h], fun _ _ _ h => h⟩
theorem K.keep_some {κ : K} {k n : Nat} {c : List Value} {a : Addr} {v : Value} (h : (κ.keep k n c).imm a = some v) : κ.imm a = some v ∨ (a.block = k ∧ a.spot = none ∧ a.off < n ∧ c[a.off]? = some v) := by
  simp only [K.keep] at h
  split at h
  · rename_i u hu; exact .inl (hu.trans h)
  · split at h
    · rename_i h1; exact .inr ⟨h1.1, h1.2.1, h1.2.2, h⟩
    · cases h
theorem K.keep_at {κ : K} {k n : Nat} {c : List Value} {j : Nat} {v : Value} (h0 : κ.imm ⟨k, j, none⟩ = none) (hj : j < n) (hv : c[j]? = some v) : (κ.keep k n c).imm ⟨k, j, none⟩ = some v := by
  simp [K.keep, h0, hj, hv]

theorem addr_add_lit (k i : Nat) : (⟨k, 0, none⟩ : Addr).add i = ⟨k, i, none⟩ := by unfold Addr.add; split <;> simp_all
theorem addr_add_lit' (k o i : Nat) : (⟨k, o, none⟩ : Addr).add i = ⟨k, o + i, none⟩ := by unfold Addr.add; split <;> simp_all
theorem addr_add_add (a : Addr) (i j : Nat) : (a.add i).add j = a.add (i + j) := by
  unfold Addr.add
  by_cases hi : i = 0
  · subst hi; simp
  · by_cases hj : j = 0
    · subst hj; simp [hi]
    · simp [hi, hj, Nat.add_assoc]
theorem addr_add_block (a : Addr) (i : Nat) : (a.add i).block = a.block := by unfold Addr.add; split <;> rfl

/-- A new row of cells that stay. -/
theorem SRel.newRow {Γ : Ctx} {base : Nat} {κ : K} {H : Heap} {w : World} (h : SRel Γ base κ H w) (c : List Value) (e : TypeId) (fr : Nat × Nat) :
    SRel Γ base (κ.keep w.heap.size c.length c) H (w.alloc (.cells c.toArray e fr)) ∧ Grow κ H w (κ.keep w.heap.size c.length c) H (w.alloc (.cells c.toArray e fr)) ∧
      ∀ (j : Nat) (v : Value), c[j]? = some v → (κ.keep w.heap.size c.length c).imm ((⟨w.heap.size, 0, none⟩ : Addr).add j) = some v := by
  have hnew : (w.alloc (.cells c.toArray e fr)).heap[w.heap.size]? = some (.cells c.toArray e fr) := heap_alloc_new w _
  have hg := h.turnNone (κ' := κ.keep w.heap.size c.length c) (Same.alloc w (.cells c.toArray e fr)) (κ.le_keep _ _ _) rfl rfl (fun k hk => heap_alloc_old w _ k hk) (fun a v hv => by
    rcases K.keep_some hv with h1 | ⟨h1, h2, _, h4⟩
    · exact .inl h1
    · refine .inr ⟨by omega, ?_⟩
      unfold World.cell?
      rw [h1, hnew]
      simp [h2, h4])
  refine ⟨hg.1, hg.2, fun j v hv => ?_⟩
  rw [addr_add_lit]
  exact K.keep_at (h.imm_none _ (by simp)) (List.getElem?_eq_some_iff.1 hv).1 hv
end Go.VM

namespace Go.VM
open Go

section runs
variable {P : Program}
theorem run_isAgg' {t : TypeId} {b : Bool} (h : aggT P t = some b) (w : World) : (isAgg t).run P w = .ok b w := by
  unfold aggT at h
  cases hu : P.underlying t with
  | none => rw [hu] at h; simp at h
  | some d =>
    rw [hu] at h
    simp only [isAgg, Sem.run_bind, run_underlying hu, Result.andThen_ok]
    cases d <;> simp at h <;> subst h <;> rfl
theorem run_sizeOf' {t : TypeId} {n : Nat} (h : sizeT P t = some n) (w : World) : (sizeOf t).run P w = .ok n w := by
  unfold sizeT at h
  cases hi : P.info? t with
  | none => rw [hi] at h; simp at h
  | some i =>
    rw [hi] at h; simp at h
    simp [sizeOf, typeInfo, hi, h]
end runs

theorem scalarPV_rel (I : Imm) {v : Value} {p : PV} (h : scalarPV v = some p) : PRel I p v ∧ v.oneCell' = true := by
  unfold scalarPV at h
  split at h <;> first | (injection h with h; subst h; first | exact ⟨.slNil _ (by simp) (by simp), rfl⟩ | exact ⟨by constructor, rfl⟩) | cases h
theorem scalarsPV_rel (I : Imm) {l : List Value} {ps : List PV} (h : scalarsPV l = some ps) : PRels I ps l ∧ Ones l := by
  induction l generalizing ps with
  | nil => simp [scalarsPV] at h; subst h; exact ⟨.nil, .nil⟩
  | cons v l ih =>
    simp only [scalarsPV] at h
    split at h
    · rename_i p qs h1 h2
      injection h with h; subst h
      obtain ⟨a, b⟩ := scalarPV_rel I h1
      obtain ⟨c, d⟩ := ih h2
      exact ⟨.cons _ _ _ _ a c, .cons b d⟩
    · cases h
theorem constPV_rel (I : Imm) {v : Value} {p : PV} (h : constPV v = some p) : PRel I p v := by
  unfold constPV at h
  split at h
  · rename_i cs
    simp only [Option.map_eq_some_iff] at h
    obtain ⟨ps, h1, rfl⟩ := h
    obtain ⟨a, b⟩ := scalarsPV_rel I h1
    have := PRel.agg ps cs.toList a b
    simpa using this
  · rename_i vs
    split at h
    · rename_i he
      injection h with h; subst h
      have : vs = ([] : List Value).toArray := by rw [← he]
      rw [this]
      exact .tup [] [] .nil
    · cases h
  · exact (scalarPV_rel I h).1

def RRel (κ : K) (r : Regs) (a : Act) : Prop := ∀ t, VRel κ (r t) (a.tmps.getD t undef)

theorem RRel.mono {κ κ' : K} (h : κ.le κ') {r : Regs} {a : Act} (g : RRel κ r a) : RRel κ' r a := fun t => (g t).mono h

theorem opd_rel {κ : K} {r : Regs} {a : Act} (hr : RRel κ r a) {x : Operand} {y : Opd} (h : compOpd x = some y) : VRel κ (y.ev r) (a.eval x) := by
  cases x with
  | tmp t => simp [compOpd] at h; subst h; exact hr t
  | const v =>
    simp only [compOpd, Option.map_eq_some_iff] at h
    obtain ⟨p, h1, rfl⟩ := h
    exact .pv _ _ (constPV_rel _ h1)
  | global g => simp [compOpd] at h
  | func f =>
    simp [compOpd] at h; subst h
    have := PRel.fn (I := κ.imm) f [] [] [] [] .nil .nil
    exact .pv _ _ this
theorem opds_rel {κ : K} {r : Regs} {a : Act} (hr : RRel κ r a) {xs : List Operand} {ys : List Opd} (h : compOpds xs = some ys) : VRels κ (ys.map (Opd.ev r)) (xs.map a.eval) := by
  induction xs generalizing ys with
  | nil => simp [compOpds] at h; subst h; exact .nil
  | cons x xs ih =>
    simp only [compOpds] at h
    split at h
    · rename_i u us h1 h2
      injection h with h; subst h
      exact .cons _ _ _ _ (opd_rel hr h1) (ih h2)
    · cases h
theorem opt_rel {κ : K} {r : Regs} {a : Act} (hr : RRel κ r a) {x : Option Operand} {y : Option Opd} (h : compOpt x = some y) :
    (x = none ∧ y = none) ∨ ∃ u v, x = some u ∧ y = some v ∧ VRel κ (v.ev r) (a.eval u) := by
  cases x with
  | none => simp [compOpt] at h; exact .inl ⟨rfl, h.symm⟩
  | some u =>
    simp only [compOpt, Option.map_eq_some_iff] at h
    obtain ⟨v, h1, rfl⟩ := h
    exact .inr ⟨u, v, rfl, rfl, opd_rel hr h1⟩

/-! ### reading -/
theorem app_get {c rest : List Value} {j : Nat} {v : Value} (h : c[j]? = some v) : (c ++ rest)[j]? = some v := by
  rw [List.getElem?_append_left (List.getElem?_eq_some_iff.1 h).1]; exact h
theorem cell_at {w : World} {k off : Nat} {c : List Value} {e : TypeId} {fr : Nat × Nat} {v : Value} (h : w.heap[k]? = some (.cells c.toArray e fr)) (hv : c[off]? = some v) : w.cell? ⟨k, off, none⟩ = some v := by
  simp [World.cell?, h, hv]

/-- What a pointer's cells are, if n of them can be read. -/
theorem ptr_cells {Γ : Ctx} {base : Nat} {κ : K} {H : Heap} {w : World} (hs : SRel Γ base κ H w) {id k : Nat} (hl : κ.loc id = some k) :
    (∀ cs, hget H id = .pcells cs → ∃ (c rest : List Value) (e : TypeId), w.heap[k]? = some (.cells (c ++ rest).toArray e (0, 0)) ∧ PRels κ.imm cs c ∧ Ones c ∧ base ≤ k) ∧
    (∀ cs, hget H id = .cells cs → ∃ (c rest : List Value) (e : TypeId), w.heap[k]? = some (.cells (c ++ rest).toArray e (0, 0)) ∧ VRels κ cs c ∧ Ones c ∧ base ≤ k) := by
  constructor
  · intro cs hg
    obtain ⟨hb, ho⟩ := hs.obj id k (by rw [hg]; exact hl)
    rw [hg] at ho
    obtain ⟨c, rest, e, h1, h2, _, h4⟩ := ho
    exact ⟨c, rest, e, h1, h2, h4, hb⟩
  · intro cs hg
    obtain ⟨hb, ho⟩ := hs.obj id k (by rw [hg]; exact hl)
    rw [hg] at ho
    obtain ⟨c, rest, e, h1, h2, _, h4⟩ := ho
    exact ⟨c, rest, e, h1, h2, h4, hb⟩

theorem VRel.pv_one {κ : K} {p : PV} {v : Value} (h : VRel κ (.pv p) v) (hp : p.one = true) : v.oneCell' = true := by
  cases h with
  | pv _ _ h => cases h <;> first | rfl | simp [PV.one] at hp
theorem PRel.one {I : Imm} {p : PV} {v : Value} (h : PRel I p v) (hp : p.one = true) : v.oneCell' = true := by
  cases h <;> first | rfl | simp [PV.one] at hp
theorem VRel.one {κ : K} {a : AV} {v : Value} (h : VRel κ a v) (ha : a.one = true) : v.oneCell' = true := by
  cases h with
  | pv p v h => cases h <;> first | rfl | simp [AV.one] at ha
  | agg => simp [AV.one] at ha
  | tup => simp [AV.one] at ha
  | _ => rfl

theorem mkAgg_rel {κ : K} {l : List AV} {vs : List Value} (h : VRels κ l vs) (h1 : Ones vs) : VRel κ (mkAgg l) (.agg vs.toArray) := by
  unfold mkAgg
  cases ha : allPV l with
  | some ps =>
    have := allPV_eq ha
    subst this
    exact .pv _ _ (.agg _ _ h.to_pv h1)
  | none => exact .agg _ _ h h1
theorem mkTup_rel {κ : K} {l : List AV} {vs : List Value} (h : VRels κ l vs) : VRel κ (mkTup l) (.tuple vs.toArray) := by
  unfold mkTup
  cases ha : allPV l with
  | some ps =>
    have := allPV_eq ha
    subst this
    exact .pv _ _ (.tup _ _ h.to_pv)
  | none => exact .tup _ _ h

/-- A row that may be written and grows, as it lies. -/
theorem row_cells {Γ : Ctx} {base : Nat} {κ : K} {H : Heap} {w : World} (hs : SRel Γ base κ H w) {id n es k cap : Nat} {cs : List AV} (hg : hget H id = .row n es cs) (htl : κ.tl id n = some (k, cap)) :
    place κ id (hget H id) = some k ∧ ∃ (c rest : List Value) (e : TypeId), w.heap[k]? = some (.cells (c ++ rest).toArray e (0, 0)) ∧ (c ++ rest).length = cap * es ∧ cap ≤ maxLen ∧ n ≤ cap ∧
      cs.length = n * es ∧ VRels κ cs c ∧ Ones c ∧ (∀ a : Addr, a.block = k → κ.imm a = none) ∧ ∀ m, n < m → κ.tl id m = none := by
  have hp : place κ id (hget H id) = some k := by rw [hg]; simp [place, htl]
  refine ⟨hp, ?_⟩
  obtain ⟨_, ho⟩ := hs.obj id k hp
  rw [hg] at ho
  obtain ⟨cap', c, rest, e, h1, h2, h3, h4, h5, h6, h7, h8, h9, h10⟩ := ho
  rw [htl] at h1; injection h1 with h1; injection h1 with _ h1; subst h1
  exact ⟨c, rest, e, h2, h3, h4, h5, h6, h7, h8, h9, h10⟩

section load
variable {Γ : Ctx} {base : Nat} {κ : K} {H : Heap} {w : World} {R : Type}

theorem load1_rel (hs : SRel Γ base κ H w) {p v : AV} {pv : Value} (hp : VRel κ p pv) (he : load1K p H (fun v => some v) = some v) {t : TypeId} (ht : aggT Γ.P t = some false) :
    ∃ v', (Instr.loadAt t pv).run Γ.P w = .ok v' w ∧ VRel κ v v' := by
  have key : ∀ (a : Addr) (v' : Value), pv = .pointer (some a) → w.cell? a = some v' → (Instr.loadAt t pv).run Γ.P w = .ok v' w := by
    intro a v' e hc
    subst e
    simp [Instr.loadAt, Instr.sureAddr, loadVar, run_isAgg' ht, hc]
  cases hp with
  | ptr id off k hl =>
    simp only [load1K, hgetK_def] at he
    obtain ⟨h1, h2⟩ := ptr_cells hs hl
    split at he
    · rename_i cs hg
      rw [getK_def] at he
      obtain ⟨c, rest, e, hw, hr, _, _⟩ := h1 cs hg
      cases hq : cs[off]? with
      | none => rw [hq] at he; simp at he
      | some q =>
        rw [hq] at he; simp at he; subst he
        obtain ⟨v', hv', hrel⟩ := hr.get hq
        exact ⟨v', key _ _ rfl (cell_at hw (app_get hv')), .pv _ _ hrel⟩
    · rename_i cs hg
      obtain ⟨c, rest, e, hw, hr, _, _⟩ := h2 cs hg
      cases hq : lget cs off with
      | none => rw [hq] at he; simp at he
      | some q =>
        rw [hq] at he; simp at he; subst he
        obtain ⟨v', hv', hrel⟩ := hr.get hq
        exact ⟨v', key _ _ rfl (cell_at hw (app_get hv')), hrel⟩
    · cases he
  | rptr cs off a vs hr hi _ =>
    simp only [load1K, getK_def] at he
    cases hq : cs[off]? with
    | none => rw [hq] at he; simp at he
    | some q =>
      rw [hq] at he; simp at he; subst he
      obtain ⟨v', hv', hrel⟩ := hr.get hq
      exact ⟨v', key _ _ rfl (hs.imm _ _ (hi _ _ hv')), .pv _ _ hrel⟩
  | gptr id n off k cap htl =>
    simp only [load1K, hgetK_def] at he
    cases hg : hget H id with
    | row n' es cs =>
      rw [hg] at he; dsimp only [rowK] at he
      rw [needK_def] at he
      cases hb : Nat.beq n' n with
      | false => rw [hb] at he; cases he
      | true =>
        rw [hb] at he; simp only [cond_true] at he
        have := Nat.eq_of_beq_eq_true hb; subst this
        rw [getK_def] at he
        obtain ⟨_, c, rest, e, hw, _, _, _, _, hr, _⟩ := row_cells hs hg htl
        cases hq : cs[off]? with
        | none => rw [hq] at he; simp at he
        | some q =>
          rw [hq] at he; simp at he; subst he
          obtain ⟨v', hv', hrel⟩ := hr.get (by rw [lget_eq]; exact hq)
          exact ⟨v', key _ _ rfl (cell_at hw (app_get hv')), hrel⟩
    | _ => rw [hg] at he; cases he
  | _ => simp [load1K] at he

theorem loadN_rel (hs : SRel Γ base κ H w) {n : Nat} {p v : AV} {pv : Value} (hp : VRel κ p pv) (he : loadNK n p H (fun v => some v) = some v) {t : TypeId} (ht : aggT Γ.P t = some true) (hn : sizeT Γ.P t = some n) :
    ∃ v', (Instr.loadAt t pv).run Γ.P w = .ok v' w ∧ VRel κ v v' := by
  have key : ∀ (a : Addr) (l : List Value), pv = .pointer (some a) → l.length = n → (∀ (j : Nat) (v : Value), l[j]? = some v → w.cell? (a.add j) = some v) → (Instr.loadAt t pv).run Γ.P w = .ok (.agg l.toArray) w := by
    intro a l e hl hc
    subst e
    have := run_loadCells_list (P := Γ.P) w a l hc
    rw [hl] at this
    simp [Instr.loadAt, Instr.sureAddr, loadVar, run_isAgg' ht, run_sizeOf' hn, this]
  have seg : ∀ (l : List Value) (off : Nat), off + n ≤ l.length → ((l.drop off).take n).length = n := by intro l off h; simp; omega
  have segget : ∀ (l : List Value) (off j : Nat) (v : Value), ((l.drop off).take n)[j]? = some v → l[off + j]? = some v := by
    intro l off j v h
    rw [List.getElem?_take] at h
    split at h
    · rwa [List.getElem?_drop] at h
    · cases h
  cases hp with
  | ptr id off k hl =>
    simp only [loadNK, hgetK_def] at he
    obtain ⟨h1, h2⟩ := ptr_cells hs hl
    split at he
    · rename_i cs hg
      rw [secK_def] at he
      obtain ⟨c, rest, e, hw, hr, hones, _⟩ := h1 cs hg
      cases hb : Nat.ble (off + n) cs.length with
      | false => rw [hb] at he; simp at he
      | true =>
        rw [hb] at he; simp at he; subst he
        have hle : off + n ≤ c.length := by rw [← hr.length]; exact Nat.le_of_ble_eq_true hb
        refine ⟨_, key _ ((c.drop off).take n) rfl (seg c off hle) (fun j v hv => ?_), .pv _ _ (.agg _ _ ((hr.drop off).take n) ((hones.drop off).take n))⟩
        rw [addr_add_lit']
        exact cell_at hw (app_get (segget c off j v hv))
    · rename_i cs hg
      obtain ⟨c, rest, e, hw, hr, hones, _⟩ := h2 cs hg
      cases hb : Nat.ble (off + n) cs.length with
      | false => rw [hb] at he; simp at he
      | true =>
        rw [hb] at he; simp at he; subst he
        have hle : off + n ≤ c.length := by rw [← hr.length]; exact Nat.le_of_ble_eq_true hb
        refine ⟨_, key _ ((c.drop off).take n) rfl (seg c off hle) (fun j v hv => ?_), mkAgg_rel ((hr.drop off).take n) ((hones.drop off).take n)⟩
        rw [addr_add_lit']
        exact cell_at hw (app_get (segget c off j v hv))
    · cases he
  | rptr cs off a vs hr hi hones =>
    simp only [loadNK, secK_def] at he
    cases hb : Nat.ble (off + n) cs.length with
    | false => rw [hb] at he; simp at he
    | true =>
      rw [hb] at he; simp at he; subst he
      have hle : off + n ≤ vs.length := by rw [← hr.length]; exact Nat.le_of_ble_eq_true hb
      refine ⟨_, key _ ((vs.drop off).take n) rfl (seg vs off hle) (fun j v hv => ?_), .pv _ _ (.agg _ _ ((hr.drop off).take n) ((hones.drop off).take n))⟩
      rw [addr_add_add]
      exact hs.imm _ _ (hi _ _ (segget vs off j v hv))
  | gptr id m off k cap htl =>
    simp only [loadNK, hgetK_def] at he
    cases hg : hget H id with
    | row n' es cs =>
      rw [hg] at he; dsimp only [rowK] at he
      rw [needK_def] at he
      cases hb : Nat.beq n' m with
      | false => rw [hb] at he; cases he
      | true =>
        rw [hb] at he; simp only [cond_true] at he
        have := Nat.eq_of_beq_eq_true hb; subst this
        rw [secK_def] at he
        obtain ⟨_, c, rest, e, hw, _, _, _, _, hr, hones, _⟩ := row_cells hs hg htl
        cases hb2 : Nat.ble (off + n) cs.length with
        | false => rw [hb2] at he; simp at he
        | true =>
          rw [hb2] at he; simp at he; subst he
          have hle : off + n ≤ c.length := by rw [← hr.length]; exact Nat.le_of_ble_eq_true hb2
          refine ⟨_, key _ ((c.drop off).take n) rfl (seg c off hle) (fun j v hv => ?_), mkAgg_rel ((hr.drop off).take n) ((hones.drop off).take n)⟩
          rw [addr_add_lit']
          exact cell_at hw (app_get (segget c off j v hv))
    | _ => rw [hg] at he; cases he
  | _ => simp [loadNK] at he
end load
end Go.VM

namespace Go.VM
open Go

/-- An operation that hands back a value in a world that fits. -/
def OpOK (Γ : Ctx) (base : Nat) (κ : K) (H : Heap) (w : World) (o : Oper) (a : Act) (v : AV) (H' : Heap) : Prop :=
  ∃ nx v' κ' w', (execOp a.eval o).run Γ.P w = .ok nx w' ∧ ((nx = .value v') ∨ (nx = .skip ∧ v' = undef)) ∧ VRel κ' v v' ∧ SRel Γ base κ' H' w' ∧ Grow κ H w κ' H' w'

section
variable {Γ : Ctx} {base : Nat} {κ : K} {H H' : Heap} {w : World} {o : Oper} {a : Act} {v : AV} {r : Regs}

theorem OpOK.same {v' : Value} (hs : SRel Γ base κ H w) (h : (execOp a.eval o).run Γ.P w = .ok (.value v') w) (hv : VRel κ v v') : OpOK Γ base κ H w o a v H :=
  ⟨_, v', κ, w, h, .inl rfl, hv, hs, Grow.refl _ _ _⟩

theorem undefV_rel (κ : K) : VRel κ undefV undef := .pv _ _ (.tup [] [] .nil)

theorem asBool_rel {x : AV} {vx : Value} {b : Bool} (h : VRel κ x vx) (hx : x = .pv (.bool b)) : vx = .bool b := by
  subst hx; cases h with | pv _ _ h => cases h; rfl
theorem int_rel {k : IntKind} {n : Int} {vx : Value} (h : VRel κ (.pv (.int k n)) vx) : vx = .int k n := by
  cases h with | pv _ _ h => cases h; rfl
theorem str_rel {s : ByteArray} {vx : Value} (h : VRel κ (.pv (.str s)) vx) : vx = .string s := by
  cases h with | pv _ _ h => cases h; rfl
theorem bool_rel {b : Bool} {vx : Value} (h : VRel κ (.pv (.bool b)) vx) : vx = .bool b := by
  cases h with | pv _ _ h => cases h; rfl

/-! ### two operands -/
theorem kindEq_eq {a b : IntKind} (h : kindEq a b = true) : a = b := by cases a <;> cases b <;> first | rfl | (simp [kindEq] at h)

theorem eqGuard_plain {va vb : Value} (h1 : ¬ (va = .nilIface ∧ vb = .nilIface)) (h2 : ∀ p q, ¬ (va = .agg p ∧ vb = .agg q)) (op : BinOp) (t : TypeId) (x y : Operand) :
    (eqGuard op t x y va vb).run Γ.P w = .ok () w := by
  cases op
  case eql => cases va <;> cases vb <;> first | rfl | exact absurd ⟨rfl, rfl⟩ h1 | exact absurd ⟨rfl, rfl⟩ (h2 _ _)
  case neq => cases va <;> cases vb <;> first | rfl | exact absurd ⟨rfl, rfl⟩ h1 | exact absurd ⟨rfl, rfl⟩ (h2 _ _)
  all_goals rfl
theorem equal_once (t : TypeId) (va vb : Value) : Op.equal t va vb = Op.equalIn (9999 + 1) t va vb := rfl

theorem intBin_rel {op : BinOp} {k : IntKind} {m n : Int} (hsh : isShift op = false) (he : intBinK op k m n (fun p => some (AV.pv p)) = some v) (t : TypeId) :
    ∃ v', (binOp op t (.int k m) (.int k n)).run Γ.P w = .ok v' w ∧ VRel κ v v' := by
  cases op <;> simp only [intBinK, eqK_def, needK_def, boolK_def, isShift] at he hsh <;> try (cases hsh; done)
  all_goals
    first
      | (injection he with he; subst he; refine ⟨_, ?_, .pv _ _ (by constructor)⟩
         simp [binOp, Op.intArith, Op.intBits, Op.intCmp]; done)
      | (cases hz : decide (n = 0) with
         | true => rw [hz] at he; simp at he
         | false =>
           rw [hz] at he; simp at he; subst he
           have hn : n ≠ 0 := by simpa using hz
           refine ⟨_, ?_, .pv _ _ (by constructor)⟩
           simp [binOp, Op.intDiv, hn]; done)
      | cases he
theorem shift_rel {op : BinOp} {k k' : IntKind} {m n : Int} (he : shiftK op k m n (fun p => some (AV.pv p)) = some v) (t : TypeId) :
    ∃ v', (binOp op t (.int k m) (.int k' n)).run Γ.P w = .ok v' w ∧ VRel κ v v' := by
  cases op <;> simp only [shiftK, eqK_def, needK_def] at he <;> try (cases he; done)
  all_goals
    cases hz : decide (n < 0) with
    | true => rw [hz] at he; simp at he
    | false =>
      rw [hz] at he; simp at he; subst he
      have hn : ¬ n < 0 := by simpa using hz
      refine ⟨_, ?_, .pv _ _ (by constructor)⟩
      simp [binOp, Op.shift, hn]
theorem strBin_rel {op : BinOp} {m n : ByteArray} (he : strBinK op m n (fun p => some (AV.pv p)) = some v) (t : TypeId) :
    ∃ v', (binOp op t (.string m) (.string n)).run Γ.P w = .ok v' w ∧ VRel κ v v' := by
  cases op <;> simp only [strBinK, eqK_def, needK_def, boolK_def] at he <;> try (cases he; done)
  case add =>
    cases hz : decide (m.size + n.size ≤ 9223372036854775807) with
    | false => rw [hz] at he; simp at he
    | true =>
      rw [hz] at he; simp at he; subst he
      have hn : m.size + n.size ≤ 9223372036854775807 := by simpa using hz
      refine ⟨_, ?_, .pv _ _ (.str _)⟩
      have : ¬ (((m.size + n.size : Nat) : Int) > IntKind.i64.max) := by
        show ¬ (((m.size + n.size : Nat) : Int) > 9223372036854775807)
        omega
      simp only [binOp, Op.stringOp, if_neg this]
      rfl
  all_goals
    injection he with he; subst he; exact ⟨_, rfl, .pv _ _ (.bool _)⟩
theorem boolBin_rel {op : BinOp} {m n : Bool} (he : boolBinK op m n (fun p => some (AV.pv p)) = some v) {t : TypeId} (ht : Γ.P.underlying t = some .bool) :
    ∃ v', (binOp op t (.bool m) (.bool n)).run Γ.P w = .ok v' w ∧ VRel κ v v' := by
  have heq : (Op.equal t (.bool m) (.bool n)).run Γ.P w = .ok (m == n) w := by
    rw [equal_once, Op.equalIn]; simp [run_underlying ht]
  cases op <;> simp only [boolBinK, boolK_def] at he <;> try (cases he; done)
  all_goals
    injection he with he; subst he; refine ⟨_, ?_, .pv _ _ (.bool _)⟩; simp [binOp, heq]

theorem ptr_val {id off : Nat} {v : Value} (h : VRel κ (.ptr id off) v) : ∃ a, v = .pointer (some a) := by cases h; exact ⟨_, rfl⟩
theorem rptr_val {cs : List PV} {off : Nat} {v : Value} (h : VRel κ (.rptr cs off) v) : ∃ a, v = .pointer (some a) := by cases h; exact ⟨_, rfl⟩
theorem nilp_val {v : Value} (h : VRel κ (.pv .nilp) v) : v = .pointer none := by cases h with | pv _ _ h => cases h; rfl
theorem nilm_val {v : Value} (h : VRel κ (.pv .nilm) v) : v = .map none := by cases h with | pv _ _ h => cases h; rfl
theorem nilf_val {v : Value} (h : VRel κ (.pv .nilf) v) : v = .nilFunc := by cases h with | pv _ _ h => cases h; rfl
theorem map_val {id : Nat} {v : Value} (h : VRel κ (.map id) v) : ∃ k, v = .map (some k) := by cases h; exact ⟨_, rfl⟩
theorem fn_val {f : FuncId} {a b : List AV} {v : Value} (h : VRel κ (.fn f a b) v) : ∃ g x y, v = .func g x y := by cases h; exact ⟨_, _, _, rfl⟩
theorem fnp_val {f : FuncId} {a b : List PV} {v : Value} (h : VRel κ (.pv (.fn f a b)) v) : ∃ g x y, v = .func g x y := by cases h with | pv _ _ h => cases h; exact ⟨_, _, _, rfl⟩
theorem yield_val {id : Nat} {v : Value} (h : VRel κ (.yield id) v) : ∃ g x y, v = .func g x y := by cases h; exact ⟨_, _, _, rfl⟩
theorem tsl_val {t n : Nat} {cs : List PV} {v : Value} (h : VRel κ (.tsl t n cs) v) : ∃ a n c, v = .slice (some a) n c := by cases h; exact ⟨_, _, _, rfl⟩
theorem hs_val {es id off n c : Nat} {v : Value} (h : VRel κ (.hs es id off n c) v) : ∃ a n c, v = .slice (some a) n c := by cases h; exact ⟨_, _, _, rfl⟩
theorem slnil_val {v : Value} (h : VRel κ (.pv (.sl .nil 0 [])) v) : v = .slice none 0 0 := by
  cases h with
  | pv _ _ h => cases h with
    | slNil => rfl
    | sl _ _ _ _ _ _ hne => exact absurd rfl hne

/-- Equality with nil. -/
theorem nilEq_rel {k : BK} {x y : AV} {vx vy : Value} {c : Bool} (hx : VRel κ x vx) (hy : VRel κ y vy) (h : nilEq k x y = some c) {t : TypeId}
    (ht : (k = .ptr → ∃ e j, Γ.P.underlying t = some (.pointer e) ∧ Γ.P.info? e = some j) ∧ (k = .sl → ∃ e, Γ.P.underlying t = some (.slice e)) ∧ (k = .map → ∃ e f, Γ.P.underlying t = some (.map e f)) ∧ (k = .fn → ∃ e f g, Γ.P.underlying t = some (.func e f g))) :
    (Op.equal t vx vy).run Γ.P w = .ok c w ∧ (∀ op xo yo, (eqGuard op t xo yo vx vy).run Γ.P w = .ok () w) ∧ ∀ op, op = .eql ∨ op = .neq → binOp op t vx vy = (do let b ← Op.equal t vx vy; pure (.bool (if op = .eql then b else !b))) := by
  have fin : ∀ {vx vy : Value} {d : TypeDesc}, Γ.P.underlying t = some d →
      ((match d, vx, vy with
        | .pointer _, .pointer none, .pointer b => some b.isNone
        | .pointer _, .pointer _, .pointer none => some false
        | .slice _, .slice none _ _, .slice b _ _ => some b.isNone
        | .slice _, .slice _ _ _, .slice none _ _ => some false
        | .map _ _, .map none, .map b => some b.isNone
        | .map _ _, .map _, .map none => some false
        | .func _ _ _, .nilFunc, .nilFunc => some true
        | .func _ _ _, .nilFunc, .func _ _ _ | .func _ _ _, .func _ _ _, .nilFunc => some false
        | _, _, _ => none) = some c) →
      (Op.equal t vx vy).run Γ.P w = .ok c w ∧ (∀ op xo yo, (eqGuard op t xo yo vx vy).run Γ.P w = .ok () w) ∧ ∀ op, op = .eql ∨ op = .neq → binOp op t vx vy = (do let b ← Op.equal t vx vy; pure (.bool (if op = .eql then b else !b))) := by
    intro vx vy d hu hc
    split at hc <;> first | (injection hc with hc; subst hc) | cases hc
    all_goals
      refine ⟨?_, fun op xo yo => eqGuard_plain (by simp) (by simp) op t xo yo, ?_⟩
      · rw [equal_once, Op.equalIn]; simp [run_underlying hu]
      · rintro op (rfl | rfl) <;> rfl
  unfold nilEq at h
  obtain ⟨h1, h2, h3, h4⟩ := ht
  have nonNil : ∀ {x : AV} {vx : Value}, VRel κ x vx → slNonNil x = true → ∃ a n c, vx = .slice (some a) n c := fun {x vx} hx hn => by
    unfold slNonNil at hn
    split at hn
    · exact tsl_val hx
    · exact hs_val hx
    · cases hx with
      | pv _ _ hx => cases hx with
        | slNil x a b => unfold nnB at hn; split at hn <;> first | exact absurd rfl a | exact absurd rfl b | cases hn
        | sl _ _ _ a cap vs => exact ⟨a, _, cap, rfl⟩
    · cases hn
  have isNil : ∀ {x : AV} {vx : Value}, VRel κ x vx → isNilLit x = true → vx = .slice none 0 0 := fun {x vx} hx hn => by
    unfold isNilLit at hn
    split at hn
    · exact slnil_val hx
    · cases hn
  split at h
  rotate_right
  · cases h
  rotate_right
  · obtain ⟨e, hu⟩ := h2 rfl
    unfold slEq at h
    cases hy0 : isNilLit y with
    | true =>
      rw [hy0] at h
      rw [isNil hy hy0]
      cases hx0 : isNilLit x with
      | true =>
        rw [hx0] at h; injection h with h; subst h
        rw [isNil hx hx0]; exact fin hu rfl
      | false =>
        rw [hx0] at h
        cases hx1 : slNonNil x with
        | true =>
          rw [hx1] at h; injection h with h; subst h
          obtain ⟨_, _, _, ha⟩ := nonNil hx hx1
          rw [ha]; exact fin hu rfl
        | false => rw [hx1] at h; cases h
    | false =>
      rw [hy0] at h
      cases hx0 : isNilLit x with
      | true =>
        rw [hx0] at h
        rw [isNil hx hx0]
        cases hy1 : slNonNil y with
        | true =>
          rw [hy1] at h; injection h with h; subst h
          obtain ⟨_, _, _, ha⟩ := nonNil hy hy1
          rw [ha]; exact fin hu rfl
        | false => rw [hy1] at h; cases h
      | false => rw [hx0] at h; cases h
  rotate_right
  · rename_i i o j q
    cases hb : (Nat.beq i j && Nat.beq o q) with
    | false => rw [hb] at h; cases h
    | true =>
      rw [hb] at h; injection h with h; subst h
      rw [Bool.and_eq_true] at hb
      have e1 := Nat.eq_of_beq_eq_true hb.1
      have e2 := Nat.eq_of_beq_eq_true hb.2
      subst e1; subst e2
      obtain ⟨e, ti, hu, hi⟩ := h1 rfl
      cases hx with
      | ptr _ _ k1 g1 => cases hy with
        | ptr _ _ k2 g2 =>
          rw [g1] at g2; injection g2 with g2; subst g2
          refine ⟨?_, fun op xo yo => eqGuard_plain (by simp) (by simp) op t xo yo, ?_⟩
          · rw [equal_once, Op.equalIn]; simp [run_underlying hu, sizeOf, typeInfo, hi, run_sameAddr_same]
          · rintro op (rfl | rfl) <;> rfl
  all_goals first | (injection h with h; subst h) | cases h
  · obtain ⟨e, _, hu, _⟩ := h1 rfl; rw [nilp_val hx, nilp_val hy]; exact fin hu rfl
  · obtain ⟨e, _, hu, _⟩ := h1 rfl; obtain ⟨a, ha⟩ := ptr_val hx; rw [ha, nilp_val hy]; exact fin hu rfl
  · obtain ⟨e, _, hu, _⟩ := h1 rfl; obtain ⟨a, ha⟩ := ptr_val hy; rw [ha, nilp_val hx]; exact fin hu rfl
  · obtain ⟨e, _, hu, _⟩ := h1 rfl; obtain ⟨a, ha⟩ := rptr_val hx; rw [ha, nilp_val hy]; exact fin hu rfl
  · obtain ⟨e, _, hu, _⟩ := h1 rfl; obtain ⟨a, ha⟩ := rptr_val hy; rw [ha, nilp_val hx]; exact fin hu rfl
  · obtain ⟨e, f, hu⟩ := h3 rfl; rw [nilm_val hx, nilm_val hy]; exact fin hu rfl
  · obtain ⟨e, f, hu⟩ := h3 rfl; obtain ⟨a, ha⟩ := map_val hx; rw [ha, nilm_val hy]; exact fin hu rfl
  · obtain ⟨e, f, hu⟩ := h3 rfl; obtain ⟨a, ha⟩ := map_val hy; rw [ha, nilm_val hx]; exact fin hu rfl
  · obtain ⟨e, f, g, hu⟩ := h4 rfl; rw [nilf_val hx, nilf_val hy]; exact fin hu rfl
  · obtain ⟨e, f, g, hu⟩ := h4 rfl; obtain ⟨_, _, _, ha⟩ := fn_val hx; rw [ha, nilf_val hy]; exact fin hu rfl
  · obtain ⟨e, f, g, hu⟩ := h4 rfl; obtain ⟨_, _, _, ha⟩ := fnp_val hx; rw [ha, nilf_val hy]; exact fin hu rfl
  · obtain ⟨e, f, g, hu⟩ := h4 rfl; obtain ⟨_, _, _, ha⟩ := yield_val hx; rw [ha, nilf_val hy]; exact fin hu rfl
  · obtain ⟨e, f, g, hu⟩ := h4 rfl; obtain ⟨_, _, _, ha⟩ := fn_val hy; rw [ha, nilf_val hx]; exact fin hu rfl
  · obtain ⟨e, f, g, hu⟩ := h4 rfl; obtain ⟨_, _, _, ha⟩ := fnp_val hy; rw [ha, nilf_val hx]; exact fin hu rfl
  · obtain ⟨e, f, g, hu⟩ := h4 rfl; obtain ⟨_, _, _, ha⟩ := yield_val hy; rw [ha, nilf_val hx]; exact fin hu rfl
end
end Go.VM

namespace Go.VM
open Go

theorem aggEq_append {s1 s2 : List SK} {as bs : List PV} {c : Bool} (h : aggEq (s1 ++ s2) as bs = some c) :
    ∃ c1 c2, aggEq s1 (as.take s1.length) (bs.take s1.length) = some c1 ∧ aggEq s2 (as.drop s1.length) (bs.drop s1.length) = some c2 ∧ c = (c1 && c2) := by
  induction s1 generalizing as bs c with
  | nil => exact ⟨true, c, by simp [aggEq], by simpa using h, by simp⟩
  | cons k ks ih =>
    cases as with
    | nil => simp [aggEq] at h
    | cons a as =>
      cases bs with
      | nil => simp [aggEq] at h
      | cons b bs =>
        simp only [List.cons_append, aggEq] at h
        split at h
        · rename_i x y hx hy
          injection h with h; subst h
          obtain ⟨c1, c2, h1, h2, rfl⟩ := ih hy
          exact ⟨x && c1, c2, by simp [aggEq, hx, h1], by simpa using h2, by rw [Bool.and_assoc]⟩
        · cases h
theorem aggEq_length {s : List SK} {as bs : List PV} {c : Bool} (h : aggEq s as bs = some c) : as.length = s.length ∧ bs.length = s.length := by
  induction s generalizing as bs c with
  | nil => cases as <;> cases bs <;> simp [aggEq] at h <;> exact ⟨rfl, rfl⟩
  | cons k ks ih =>
    cases as with
    | nil => simp [aggEq] at h
    | cons a as =>
      cases bs with
      | nil => simp [aggEq] at h
      | cons b bs =>
        simp only [aggEq] at h
        split at h
        · rename_i x y hx hy
          have := ih hy
          simp [this]
        · cases h

section
variable {P : Program} {I : Imm} {w : World}

/-- A part of an aggregate, as it is read. -/
def IsPart (P : Program) (t : TypeId) (l : List Value) (v : Value) : Prop := (aggT P t = some true ∧ v = .agg l.toArray) ∨ (aggT P t = some false ∧ l = [v])

theorem run_part' {t : TypeId} {n : Nat} {g : Bool} (hg : aggT P t = some g) (hn : sizeT P t = some n) (h1 : g = false → n = 1) (cs : List Value) (off : Nat) (hl : off + n ≤ cs.length) :
    ∃ v, (part t cs.toArray off).run P w = .ok v w ∧ IsPart P t ((cs.drop off).take n) v := by
  cases g with
  | true =>
    refine ⟨.agg ((cs.drop off).take n).toArray, ?_, .inl ⟨hg, rfl⟩⟩
    simp [part, run_isAgg' hg, run_sizeOf' hn]
  | false =>
    have hn1 := h1 rfl
    subst hn1
    obtain ⟨v, hv⟩ : ∃ v, cs[off]? = some v := ⟨cs[off]'(by omega), by simp⟩
    refine ⟨v, ?_, .inr ⟨hg, ?_⟩⟩
    · simp [part, run_isAgg' hg, hv]
    · apply List.ext_getElem?
      intro j
      cases j with
      | zero => simp [List.getElem?_drop, hv]
      | succ j => simp; omega

theorem scalar_equal {t : TypeId} {k : SK} {p q : PV} {x y : Value} {c : Bool} (hp : PRel I p x) (hq : PRel I q y) (he : scalarEq k p q = some c)
    (hk : (k = .b → P.underlying t = some .bool) ∧ (k = .i → ∃ j, P.underlying t = some (.int j)) ∧ (k = .s → P.underlying t = some .string)) (m : Nat) :
    (Op.equalIn (m + 1) t x y).run P w = .ok c w := by
  unfold scalarEq at he
  split at he
  · injection he with he; subst he
    cases hp; cases hq
    rw [Op.equalIn]; simp [run_underlying (hk.1 rfl)]
  · rename_i k1 a k2 b
    cases hke : kindEq k1 k2 with
    | false => rw [hke] at he; simp at he
    | true =>
      rw [hke] at he; simp at he; subst he
      have := kindEq_eq hke; subst this
      cases hp; cases hq
      obtain ⟨j, hu⟩ := hk.2.1 rfl
      rw [Op.equalIn]; simp [run_underlying hu]
  · injection he with he; subst he
    cases hp; cases hq
    rw [Op.equalIn]; simp [run_underlying (hk.2.2 rfl), beq_toListBytes]
  · cases he

/-- What shape says. -/
def ShapeOK (P : Program) (I : Imm) (m : Nat) (t : TypeId) (sh : List SK) : Prop :=
  ∀ (w : World) (as bs : List PV) (xs ys : List Value) (x y : Value) (c : Bool), PRels I as xs → PRels I bs ys → aggEq sh as bs = some c → IsPart P t xs x → IsPart P t ys y → (Op.equalIn m t x y).run P w = .ok c w

theorem shapeFs_ok {g : TypeId → Option (List SK)} {m : Nat} (hg : ∀ t sh, g t = some sh → ShapeOK P I m t sh ∧ (aggT P t = some false → sh.length = 1)) :
    ∀ (fs : List Field) (off : Nat) (sh : List SK), shapeFs P g fs off = some sh → ∀ (w : World) (as bs : List PV) (xs ys : List Value) (c : Bool), PRels I as xs → PRels I bs ys → xs.length = off + sh.length → ys.length = off + sh.length →
      aggEq sh (as.drop off) (bs.drop off) = some c → (Op.eqFields m xs.toArray ys.toArray fs).run P w = .ok c w := by
  intro fs
  induction fs with
  | nil =>
    intro off sh hsh w as bs xs ys c _ _ _ _ he
    simp [shapeFs] at hsh; subst hsh
    cases h1 : as.drop off with
    | nil => cases h2 : bs.drop off with
      | nil => rw [h1, h2] at he; simp [aggEq] at he; subst he; simp [Op.eqFields]
      | cons => rw [h1, h2] at he; simp [aggEq] at he
    | cons => rw [h1] at he; simp [aggEq] at he
  | cons f fs ih =>
    intro off sh hsh w as bs xs ys c ha hb hlx hly he
    simp only [shapeFs] at hsh
    split at hsh
    · rename_i s ag r h1 h2 h3
      cases hc : (f.name != "_" && Nat.beq f.offset off && (sizeT P f.type == some s.length)) with
      | false => rw [hc] at hsh; simp at hsh
      | true =>
        rw [hc] at hsh; simp at hsh; subst hsh
        simp only [Bool.and_eq_true, bne_iff_ne, beq_iff_eq] at hc
        obtain ⟨⟨hname, hoff⟩, hsize⟩ := hc
        have hoff : f.offset = off := Nat.eq_of_beq_eq_true hoff
        rw [hsize] at h3
        simp only [Option.getD_some] at h3
        obtain ⟨c1, c2, e1, e2, rfl⟩ := aggEq_append he
        simp only [List.length_append] at hlx hly
        obtain ⟨x, hx, hpx⟩ := run_part' (w := w) h2 hsize (fun e => (hg _ _ h1).2 (by rw [h2, e])) xs off (by omega)
        obtain ⟨y, hy, hpy⟩ := run_part' (w := w) h2 hsize (fun e => (hg _ _ h1).2 (by rw [h2, e])) ys off (by omega)
        have heq := (hg _ _ h1).1 w _ _ _ _ x y c1 ((ha.drop off).take s.length) ((hb.drop off).take s.length) e1 hpx hpy
        rw [List.drop_drop, List.drop_drop] at e2
        have ih' := ih (off + s.length) r h3 w as bs xs ys c2 ha hb (by omega) (by omega) e2
        simp only [Op.eqFields, if_pos hname, hoff, Sem.run_bind, hx, hy, heq, Result.andThen_ok]
        cases c1
        · simp
        · simpa using ih'
    · cases hsh

theorem shapeItems_ok {m : Nat} {e : TypeId} {s : List SK} (hs : ShapeOK P I m e s) {g : Bool} (hg : aggT P e = some g) (h1 : g = false → s.length = 1) (hn : sizeT P e = some s.length) (hc : P.cellsOf e = s.length) :
    ∀ (k i : Nat) (w : World) (as bs : List PV) (xs ys : List Value) (c : Bool), PRels I as xs → PRels I bs ys → xs.length = (i + k) * s.length → ys.length = (i + k) * s.length →
      aggEq (List.replicate k s).flatten (as.drop (i * s.length)) (bs.drop (i * s.length)) = some c → (Op.eqItems m e (P.cellsOf e) xs.toArray ys.toArray (List.range' i k)).run P w = .ok c w := by
  intro k
  induction k with
  | zero =>
    intro i w as bs xs ys c _ _ _ _ he
    simp at he
    cases h1 : as.drop (i * s.length) with
    | nil => cases h2 : bs.drop (i * s.length) with
      | nil => rw [h1, h2] at he; simp [aggEq] at he; subst he; simp [Op.eqItems]
      | cons => rw [h1, h2] at he; simp [aggEq] at he
    | cons => rw [h1] at he; simp [aggEq] at he
  | succ k ih =>
    intro i w as bs xs ys c ha hb hlx hly he
    rw [List.replicate_succ, List.flatten_cons] at he
    obtain ⟨c1, c2, e1, e2, rfl⟩ := aggEq_append he
    have hmul : (i + (k + 1)) * s.length = i * s.length + s.length + k * s.length := by
      rw [Nat.add_mul, Nat.add_mul]; omega
    obtain ⟨x, hx, hpx⟩ := run_part' (w := w) hg hn h1 xs (i * s.length) (by omega)
    obtain ⟨y, hy, hpy⟩ := run_part' (w := w) hg hn h1 ys (i * s.length) (by omega)
    have heq := hs w _ _ _ _ x y c1 ((ha.drop (i * s.length)).take s.length) ((hb.drop (i * s.length)).take s.length) e1 hpx hpy
    rw [List.drop_drop, List.drop_drop] at e2
    have hi : i * s.length + s.length = (i + 1) * s.length := by rw [Nat.add_mul]; omega
    rw [hi] at e2
    have ih' := ih (i + 1) w as bs xs ys c2 ha hb (by rw [hlx]; congr 1; omega) (by rw [hly]; congr 1; omega) e2
    rw [List.range'_succ]
    rw [hc] at ih' ⊢
    simp only [Op.eqItems, Sem.run_bind, hx, hy, heq, Result.andThen_ok]
    cases c1
    · simp
    · simpa using ih'

theorem shapeT_ok : ∀ (d : Nat) (t : TypeId) (sh : List SK), shapeT P d t = some sh → ∀ m, d ≤ m → ShapeOK P I m t sh ∧ (aggT P t = some false → sh.length = 1) := by
  intro d
  induction d with
  | zero => intro t sh h; simp [shapeT] at h
  | succ d ih =>
    intro t sh h m hm
    obtain ⟨m, rfl⟩ : ∃ k, m = k + 1 := ⟨m - 1, by omega⟩
    simp only [shapeT] at h
    have scalar : ∀ (k : SK), sh = [k] → aggT P t = some false → ((k = .b → P.underlying t = some .bool) ∧ (k = .i → ∃ j, P.underlying t = some (.int j)) ∧ (k = .s → P.underlying t = some .string)) → ShapeOK P I (m + 1) t sh := by
      intro k hk ha hu w as bs xs ys x y c hax hby he hx hy
      subst hk
      rcases hx with ⟨h1, _⟩ | ⟨_, rfl⟩
      · rw [ha] at h1; cases h1
      rcases hy with ⟨h1, _⟩ | ⟨_, rfl⟩
      · rw [ha] at h1; cases h1
      cases hax with
      | cons p _ ps _ hp hps => cases hps; cases hby with
        | cons q _ qs _ hq hqs =>
          cases hqs
          simp only [aggEq] at he
          cases hs : scalarEq k p q with
          | none => rw [hs] at he; simp at he
          | some z => rw [hs] at he; simp at he; subst he; exact scalar_equal hp hq hs hu m
    split at h
    · rename_i hu; injection h with h
      exact ⟨scalar .b h.symm (by simp [aggT, hu]) ⟨fun _ => hu, (nomatch ·), (nomatch ·)⟩, fun _ => by rw [← h]; rfl⟩
    · rename_i j hu; injection h with h
      exact ⟨scalar .i h.symm (by simp [aggT, hu]) ⟨(nomatch ·), fun _ => ⟨j, hu⟩, (nomatch ·)⟩, fun _ => by rw [← h]; rfl⟩
    · rename_i hu; injection h with h
      exact ⟨scalar .s h.symm (by simp [aggT, hu]) ⟨(nomatch ·), (nomatch ·), fun _ => hu⟩, fun _ => by rw [← h]; rfl⟩
    · rename_i fs hu
      cases hst : P.stoodInHeld t with
      | true => rw [hst] at h; simp at h
      | false =>
        rw [hst] at h; simp only [cond_false] at h
        have ha : aggT P t = some true := by simp [aggT, hu]
        refine ⟨?_, fun e => by rw [ha] at e; cases e⟩
        intro w as bs xs ys x y c hax hby he hx hy
        rcases hx with ⟨_, rfl⟩ | ⟨h1, _⟩
        · rcases hy with ⟨_, rfl⟩ | ⟨h1, _⟩
          · have hf : P.fieldsOf t = fs := by simp [Program.fieldsOf, hu]
            rw [run_equalIn_struct (P := P) w m t xs.toArray ys.toArray (by rw [hf]; exact hu) hst, hf]
            have hl := aggEq_length he
            exact shapeFs_ok (fun t' sh' h' => ih t' sh' h' m (by omega)) fs.toList 0 sh h w as bs xs ys c hax hby (by rw [← hax.length]; omega) (by rw [← hby.length]; omega) (by simpa using he)
          · rw [ha] at h1; cases h1
        · rw [ha] at h1; cases h1
    · rename_i n e hu
      have ha : aggT P t = some true := by simp [aggT, hu]
      split at h
      · rename_i s g hs hg
        cases hz : (sizeT P e == some s.length) with
        | false => rw [hz] at h; simp at h
        | true =>
          rw [hz] at h; simp only [cond_true] at h
          injection h with h; subst h
          have hn : sizeT P e = some s.length := by simpa using hz
          obtain ⟨i, hi, hi2⟩ : ∃ i, P.info? e = some i ∧ i.size = s.length := by
            unfold sizeT at hn
            cases hi : P.info? e with
            | none => rw [hi] at hn; simp at hn
            | some i => rw [hi] at hn; simp at hn; exact ⟨i, rfl, hn⟩
          have hc : P.cellsOf e = s.length := by simp [Program.cellsOf, hi, hi2]
          refine ⟨?_, fun e => by rw [ha] at e; cases e⟩
          intro w as bs xs ys x y c hax hby he hx hy
          rcases hx with ⟨_, rfl⟩ | ⟨h1, _⟩
          · rcases hy with ⟨_, rfl⟩ | ⟨h1, _⟩
            · rw [run_equalIn_array (P := P) w m xs.toArray ys.toArray hu hi, List.range_eq_range']
              have hl := aggEq_length he
              have hlen : (List.replicate n s).flatten.length = n * s.length := by simp
              have h0 := ih e s hs m (by omega)
              exact shapeItems_ok h0.1 hg (fun e' => h0.2 (by rw [hg, e'])) hn hc n 0 w as bs xs ys c hax hby (by rw [← hax.length]; simp; omega) (by rw [← hby.length]; simp; omega) (by simpa using he)
            · rw [ha] at h1; cases h1
          · rw [ha] at h1; cases h1
      · cases h
    · cases h
end
end Go.VM
