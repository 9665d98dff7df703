/-
  Blocks: rooms.
-/
import Derived.Test.YtkkpkoekbmgabaaBsA
set_option linter.all false
set_option linter.unusedVariables false
set_option linter.unusedSimpArgs false
set_option linter.unusedSectionVars false
namespace Go.Proofs.Ytkkpkoekbmgabaa
open Go Go.VM
variable {H : Heap} {p m : Nat} {zs : List Zn}

def isKind (k : Int) : Prop := k = 0 ∨ k = 1
instance (k : Int) : Decidable (isKind k) := by unfold isKind; infer_instance
theorem kind_ok (k : Int) : EP (EE env) 32 [iv k] = some (.bool (decide (isKind k))) := by
  refine Has.eq (EP_has ?_)
  refine boolK_beq (fun h1 => ?_) (fun h1 => ?_)
  · rw [show decide (isKind k) = true from decide_eq_true (.inl h1)]
    exact Has.intro (Has.intro rfl)
  · refine boolK_beq (fun h2 => ?_) (fun h2 => ?_)
    · rw [show decide (isKind k) = true from decide_eq_true (.inr h2)]
      exact Has.intro (Has.intro rfl)
    · rw [show decide (isKind k) = false from decide_eq_false (fun h => h.elim h1 h2)]
      exact Has.intro (Has.intro rfl)
/-- The room of a zone. -/
def roomF (zs : List Zn) (i k : Int) : Int := match zoneF zs i with
  | none => 0
  | some z => if isKind k then z.room k.toNat else 0
theorem zoneF_mem {i : Int} {z : Zn} (h : zoneF zs i = some z) : 0 ≤ i ∧ i < zs.length ∧ z ∈ zs := by
  unfold zoneF at h
  split at h
  · obtain ⟨h1, h2⟩ := List.getElem?_eq_some_iff.1 h
    exact ⟨by omega, by omega, h2 ▸ List.getElem_mem _⟩
  · cases h
theorem room_bound (hf : fits zs) (i k : Int) : 0 ≤ roomF zs i k ∧ roomF zs i k ≤ 1073741824 := by
  unfold roomF
  split
  · omega
  · rename_i z hz
    have := hf.1 z (zoneF_mem hz).2.2
    unfold Zn.ok at this
    unfold Zn.room
    split
    · split <;> omega
    · omega
theorem room_ok (h : TbZ H p zs m) (i k : Int) : ∃ H', EE env (.fn 12) [.ptr p 0, .pv (iv i), .pv (iv k)] H = some (.pv (iv (roomF zs i k)), H') ∧ Kp [] H H' := by
  obtain ⟨H1, h1, h2⟩ := zone_ok h i
  cases hz : zoneF zs i with
  | none =>
    rw [hz] at h1
    refine ⟨H1 ++ [.pcells [iv 0, iv 0, iv 0, iv 0]], ?_, h2.app _⟩
    refine Has.eq (EE_has ?_)
    refine callSK_has h1 ?_
    (repeat (first | refine hgetK_last ?_ | refine hgetK_set ?_ | refine hgetK_has _ rfl ?_ | refine needK_has rfl ?_ | refine getK_has rfl ?_ | refine secK_has rfl (by first | exact Nat.le_refl _ | decide | exact Nat.le_of_ble_eq_true rfl) ?_ | refine eqK_has ?_))
    refine Has.intro ?_
    simp only [hset_last]
    have : roomF zs i k = 0 := by unfold roomF; rw [hz]
    rw [this]; rfl
  | some z =>
    rw [hz] at h1
    refine ⟨H1 ++ [.pcells (zc z)], ?_, h2.app _⟩
    refine Has.eq (EE_has ?_)
    refine callSK_has h1 ?_
    (repeat (first | refine hgetK_last ?_ | refine hgetK_set ?_ | refine hgetK_has _ rfl ?_ | refine needK_has rfl ?_ | refine getK_has rfl ?_ | refine secK_has rfl (by first | exact Nat.le_refl _ | decide | exact Nat.le_of_ble_eq_true rfl) ?_ | refine eqK_has ?_))
    refine callPK_dec (kind_ok k) (fun hk => ?_) (fun hk => ?_)
    · have hzo := h.fit.1 z (zoneF_mem hz).2.2
      unfold Zn.ok at hzo
      rcases hk with rfl | rfl
      · (repeat (first | refine hgetK_last ?_ | refine hgetK_set ?_ | refine hgetK_two1 ?_ | refine hgetK_two2 ?_ | refine hgetK_two3 ?_ | refine hgetK_two4 ?_ | refine hgetK_two5 ?_ | refine needK_has rfl ?_ | refine getK_has rfl ?_ | refine secK_has rfl (by first | exact Nat.le_refl _ | decide | exact Nat.le_of_ble_eq_true rfl) ?_))
        refine eqK_has_eq (z.b0 - z.r0) (wrap_i64 (by omega) (by omega)) ?_
        refine Has.intro ?_
        simp only [hset_last]
        have : roomF zs i 0 = z.b0 - z.r0 := by unfold roomF; rw [hz]; rfl
        rw [this]; rfl
      · (repeat (first | refine hgetK_last ?_ | refine hgetK_set ?_ | refine hgetK_two1 ?_ | refine hgetK_two2 ?_ | refine hgetK_two3 ?_ | refine hgetK_two4 ?_ | refine hgetK_two5 ?_ | refine needK_has rfl ?_ | refine getK_has rfl ?_ | refine secK_has rfl (by first | exact Nat.le_refl _ | decide | exact Nat.le_of_ble_eq_true rfl) ?_))
        refine eqK_has_eq (z.b1 - z.r1) (wrap_i64 (by omega) (by omega)) ?_
        refine Has.intro ?_
        simp only [hset_last]
        have : roomF zs i 1 = z.b1 - z.r1 := by unfold roomF; rw [hz]; rfl
        rw [this]; rfl
    · refine Has.intro ?_
      simp only [hset_last]
      have : roomF zs i k = 0 := by unfold roomF; rw [hz]; exact if_neg hk
      rw [this]; rfl
end Go.Proofs.Ytkkpkoekbmgabaa
