/-
  Blocks: zones, owners, spreads; what is kept of a heap; functions that only read zones.
-/
import Derived.Test.YtkkpkoekbmgabaaPSpA
import Derived.Test.YtkkpkoekbmgabaaV12
set_option linter.all false
set_option linter.unusedVariables false
set_option linter.unusedSimpArgs false
set_option linter.unusedSectionVars false
namespace Go.Proofs.Ytkkpkoekbmgabaa
open Go Go.VM

/-! ### zones, owners, spreads -/
abbrev iv (n : Int) : PV := .int .i64 n
structure Zn where
  b0 : Int
  b1 : Int
  r0 : Int
  r1 : Int
deriving DecidableEq
def zc (z : Zn) : List PV := [iv z.b0, iv z.b1, iv z.r0, iv z.r1]
def zcs (l : List Zn) : List PV := l.flatMap zc
structure Ow where
  pod : List UInt8
  ct : List UInt8
  kind : Int
deriving DecidableEq
def oc (o : Ow) : List PV := [sv o.pod, sv o.ct, iv o.kind]
structure Sd where
  a0 : Int
  a1 : Int
  a2 : Int
  a3 : Int
  a4 : Int
  a5 : Int
  a6 : Int
  a7 : Int
deriving DecidableEq
def sc (s : Sd) : List PV := [iv s.a0, iv s.a1, iv s.a2, iv s.a3, iv s.a4, iv s.a5, iv s.a6, iv s.a7]
def Sd.l (s : Sd) : List Int := [s.a0, s.a1, s.a2, s.a3, s.a4, s.a5, s.a6, s.a7]
def Sd.at (s : Sd) (i : Nat) : Int := s.l.getD i 0
def s0 : Sd := ⟨0, 0, 0, 0, 0, 0, 0, 0⟩
def Zn.room (z : Zn) (k : Nat) : Int := if k = 0 then z.b0 - z.r0 else z.b1 - z.r1
def Zn.ok (z : Zn) : Prop := 0 ≤ z.r0 ∧ z.r0 ≤ z.b0 ∧ z.b0 ≤ 1073741824 ∧ 0 ≤ z.r1 ∧ z.r1 ≤ z.b1 ∧ z.b1 ≤ 1073741824
instance (z : Zn) : Decidable z.ok := by unfold Zn.ok; infer_instance
def fits (l : List Zn) : Prop := (∀ z ∈ l, z.ok) ∧ 0 < l.length ∧ l.length < 9
instance (l : List Zn) : Decidable (fits l) := by unfold fits; infer_instance
theorem zcs_len (l : List Zn) : (zcs l).length = l.length * 4 := by
  unfold zcs
  induction l with
  | nil => rfl
  | cons a l ih => rw [List.flatMap_cons, List.length_append, ih, List.length_cons]; simp [zc]; omega
theorem zcs_get {l : List Zn} {i : Nat} {z : Zn} (h : l[i]? = some z) : ((zcs l).drop (i * 4)).take 4 = zc z := by
  induction l generalizing i with
  | nil => cases h
  | cons a l ih =>
    cases i with
    | zero => simp at h; subst h; simp [zcs, zc]
    | succ i =>
      have := ih (i := i) (by simpa using h)
      have e : (zcs (a :: l)).drop ((i + 1) * 4) = (zcs l).drop (i * 4) := by
        rw [show (i + 1) * 4 = 4 + i * 4 by omega, ← List.drop_drop]
        rfl
      rw [e]; exact this

/-- A table: its zones, its map. -/
def tobj (x : Ext) (zs : List Zn) (m : Nat) : HObj := .cells [.pv (.sl x zs.length (zcs zs)), .map m]
structure TbZ (H : Heap) (p : Nat) (zs : List Zn) (m : Nat) : Prop where
  obj : ∃ x, hget H p = tobj x zs m
  fit : fits zs
variable {H : Heap} {p m : Nat} {zs : List Zn}
theorem zones_ok (h : TbZ H p zs m) : EE env (.fn 19) [.ptr p 0] H = some (.pv (iv zs.length), H) := by
  obtain ⟨x, hx⟩ := h.obj
  refine Has.eq (EE_has ?_)
  refine hgetK_has _ hx ?_
  exact Has.intro rfl
def zoneF (zs : List Zn) (i : Int) : Option Zn := if 0 ≤ i then zs[i.toNat]? else none
def zoneV (o : Option Zn) : PV := match o with
  | none => .tup [.agg [iv 0, iv 0, iv 0, iv 0], .bool false]
  | some z => .tup [.agg (zc z), .bool true]
theorem zone_ok (h : TbZ H p zs m) (i : Int) : ∃ H', EE env (.fn 18) [.ptr p 0, .pv (iv i)] H = some (.pv (zoneV (zoneF zs i)), H') ∧ Kp [] H H' := by
  obtain ⟨x, hx⟩ := h.obj
  refine ⟨H ++ [.pcells (match zoneF zs i with | none => [iv 0, iv 0, iv 0, iv 0] | some z => zc z)], ?_, (Kp.refl _ _).app _⟩
  refine Has.eq (EE_has ?_)
  have hx2 : ∀ o, hget (H ++ [o]) p = tobj x zs m := fun o => by rw [hget_app _ (hget_lt hx (by intro h; cases h))]; exact hx
  refine boolK_dec (fun h1 => ?_) (fun h1 => ?_)
  · (repeat (first | refine hgetK_last ?_ | refine hgetK_set ?_ | refine hgetK_has _ rfl ?_ | refine needK_has rfl ?_ | refine getK_has rfl ?_ | refine secK_has rfl (by first | exact Nat.le_refl _ | decide | exact Nat.le_of_ble_eq_true rfl) ?_ | refine eqK_has ?_))
    refine Has.intro ?_
    have : zoneF zs i = none := by unfold zoneF; rw [if_neg (by omega)]
    rw [this]
    simp only [hset_last]
    rfl
  · refine callSK_has (zones_ok ⟨⟨x, hx2 _⟩, h.fit⟩) ?_
    refine boolK_dec (fun h2 => ?_) (fun h2 => ?_)
    · (repeat (first | refine hgetK_last ?_ | refine hgetK_set ?_ | refine hgetK_has _ rfl ?_ | refine needK_has rfl ?_ | refine getK_has rfl ?_ | refine secK_has rfl (by first | exact Nat.le_refl _ | decide | exact Nat.le_of_ble_eq_true rfl) ?_ | refine eqK_has ?_))
      refine Has.intro ?_
      have : zoneF zs i = none := by unfold zoneF; rw [if_pos (by omega), List.getElem?_eq_none (by omega)]
      rw [this]
      simp only [hset_last]
      rfl
    · obtain ⟨j, rfl⟩ : ∃ j : Nat, i = (j : Int) := ⟨i.toNat, by omega⟩
      have hj : j < zs.length := by omega
      have hz : zoneF zs (j : Int) = some zs[j] := by unfold zoneF; rw [if_pos (by omega)]; simp
      rw [hz]
      refine hgetK_has _ (hx2 _) ?_
      (repeat (first | refine hgetK_has _ rfl ?_ | refine needK_has rfl ?_ | refine getK_has rfl ?_))
      refine needK_has (by simp; omega) ?_
      refine secK_has (v := zc zs[j]) (zcs_get (List.getElem?_eq_getElem hj)) (by rw [zcs_len]; show j * 4 + 4 ≤ _; omega) ?_
      (repeat (first | refine hgetK_last ?_ | refine hgetK_set ?_ | refine hgetK_has _ rfl ?_ | refine needK_has rfl ?_ | refine getK_has rfl ?_ | refine secK_has rfl (by first | exact Nat.le_refl _ | decide | exact Nat.le_of_ble_eq_true rfl) ?_ | refine eqK_has ?_))
      refine Has.intro ?_
      simp only [hset_last]
      rfl
end Go.Proofs.Ytkkpkoekbmgabaa
