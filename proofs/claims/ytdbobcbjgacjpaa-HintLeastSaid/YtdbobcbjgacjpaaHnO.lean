/-
  The least hint: any mask of fewer nodes is ahead of it; with more that is free there is a hint of no more nodes.
-/
import Derived.Test.YtdbobcbjgacjpaaHnL
set_option linter.all false
set_option linter.unusedVariables false
set_option linter.unusedSimpArgs false
set_option linter.unusedSectionVars false
namespace Go.Proofs.Ytdbobcbjgacjpaa
open Go Go.VM

/-- In order of how many nodes they have. -/
def upB : Nat → List Nat → Bool
  | _, [] => true
  | c, a :: l => Nat.ble c (cnt a) && upB (cnt a) l
theorem upB_le : ∀ {l : List Nat} {c : Nat}, upB c l = true → ∀ x ∈ l, c ≤ cnt x := by
  intro l
  induction l with
  | nil => intro c _ x h; cases h
  | cons a l ih =>
    intro c h x hx
    unfold upB at h
    rw [Bool.and_eq_true] at h
    have h1 := Nat.le_of_ble_eq_true h.1
    rcases List.mem_cons.1 hx with rfl | hx
    · exact h1
    · exact Nat.le_trans h1 (ih h.2 x hx)
theorem upB_app : ∀ {l l' : List Nat} {a c : Nat}, upB c (l ++ a :: l') = true → ∀ x ∈ l', cnt a ≤ cnt x := by
  intro l
  induction l with
  | nil =>
    intro l' a c h
    have h' : (Nat.ble c (cnt a) && upB (cnt a) l') = true := h
    rw [Bool.and_eq_true] at h'
    exact upB_le h'.2
  | cons b l ih =>
    intro l' a c h
    have h' : upB c (b :: (l ++ a :: l')) = true := h
    unfold upB at h'
    rw [Bool.and_eq_true] at h'
    exact ih h'.2
theorem all_up : ∀ n, n < 9 → upB 0 (0 :: msq n) = true := by decide +kernel
def allB (n : Nat) : Nat → Bool
  | 0 => true
  | k + 1 => (0 :: msq n).any (Nat.beq k) && allB n k
theorem all_in0 : ∀ n, n < 9 → allB n (2 ^ n) = true := by decide +kernel
theorem allB_mem {n : Nat} : ∀ {k : Nat}, allB n k = true → ∀ x, x < k → x ∈ 0 :: msq n := by
  intro k
  induction k with
  | zero => intro _ x hx; omega
  | succ k ih =>
    intro h x hx
    unfold allB at h
    rw [Bool.and_eq_true] at h
    by_cases e : x = k
    · obtain ⟨y, h1, h2⟩ := List.any_eq_true.1 h.1
      have := Nat.eq_of_beq_eq_true h2
      rw [e, this]; exact h1
    · exact ih h.2 x (by omega)
theorem all_in {n x : Nat} (hn : n < 9) (hx : x < 2 ^ n) : x ∈ 0 :: msq n := allB_mem (all_in0 n hn) x hx

/-- What the first one is. -/
theorem wv_some {F N : Nat → Int} {n : Int} {m : Nat} (h : wv F N n 0 = some m) : ∃ k : Nat, n = k ∧ k ≤ 8 ∧ fit F N n ∧ m < 2 ^ k ∧ en F N m ∧ ∀ x, x < 2 ^ k → en F N x → cnt m ≤ cnt x := by
  unfold wv at h
  split at h
  · rename_i hf
    obtain ⟨hf, _, hp⟩ := hf
    have h1 := hf.2.1
    have h2 := hf.2.2
    refine ⟨n.toNat, by omega, by omega, hf, ?_⟩
    have hn : n.toNat < 9 := by omega
    obtain ⟨hm, l1, l2, e, ha⟩ := List.find?_eq_some_iff_append.1 h
    have hmem : m ∈ 0 :: msq n.toNat := by rw [e]; simp
    rw [hit0, decide_eq_true_iff] at hm
    refine ⟨?_, hm, fun x hx hex => ?_⟩
    · rcases List.mem_cons.1 hmem with rfl | h
      · exact Nat.pow_pos (by decide)
      · exact (msq_in _ hn m h).2
    · have hx' := all_in hn hx
      rw [e] at hx'
      rcases List.mem_append.1 hx' with h' | h'
      · have := ha x h'
        rw [hit0] at this
        simp [hex] at this
      · rcases List.mem_cons.1 h' with rfl | h'
        · exact Nat.le_refl _
        · have := all_up _ hn
          rw [e] at this
          exact upB_app this x h'
  · cases h
theorem wv_has {F N : Nat → Int} {n m : Nat} (hn : n ≤ 8) (hf : fit F N n) (hm : m < 2 ^ n) (he : en F N m) : ∃ x, wv F N n 0 = some x := by
  unfold wv
  have hp : (0 : Int) < 2 ^ n := Int.pow_pos (by decide)
  rw [if_pos ⟨hf, Int.le_refl _, hp⟩]
  have hx := all_in (show n < 9 by omega) hm
  cases hq : (0 :: msq (n : Int).toNat).find? (hit F N 0) with
  | some x => exact ⟨x, rfl⟩
  | none =>
    have := List.find?_eq_none.1 hq m hx
    rw [hit0] at this
    simp [he] at this

/-! ### a node less -/
theorem bit_off : ∀ m, m < 256 → ∀ i, i < 8 → m.testBit i = true → (m &&& (255 - 2 ^ i)) ≤ m ∧ cnt (m &&& (255 - 2 ^ i)) < cnt m := by decide +kernel
theorem least {F N : Nat → Int} {n : Int} {m i : Nat} (h : wv F N n 0 = some m) (hi : i < 8) (hb : m.testBit i = true) : ¬ en F N (m &&& (255 - 2 ^ i)) := by
  obtain ⟨k, rfl, hk, _, hm, _, hall⟩ := wv_some h
  have hp : 2 ^ k ≤ 2 ^ 8 := Nat.pow_le_pow_right (by decide) hk
  obtain ⟨h1, h2⟩ := bit_off m (by omega) i hi hb
  intro he
  have := hall _ (by omega) he
  omega

/-! ### what is spread -/
theorem ovn_need {f : Nat → Int} {u : Nat} {need : Int} (hf : ∀ i, i < 8 → cb (f i)) (hn : cb need) : ∀ i, i ≤ 8 → (ovn f u need i).1 = if need ≤ sf f u i then 0 else need - sf f u i := by
  intro i
  induction i with
  | zero => intro _; show need = if need ≤ 0 then 0 else need - 0; have := hn.1; split <;> omega
  | succ i ih =>
    intro hi
    have hb := sf_bd hf u i (by omega)
    have hfi := hf i (by omega)
    unfold cb at hfi
    have e1 : sf f u (i + 1) = sf f u i + (if u.testBit i then f i else 0) := rfl
    have e2 : ovn f u need (i + 1) = if u.testBit i then stp f (ovn f u need i) i else ovn f u need i := rfl
    have e3 := ih (by omega)
    rw [e1, e2]
    cases hb : u.testBit i with
    | false => simpa using e3
    | true =>
      simp only [if_true]
      show (ovn f u need i).1 - min (ovn f u need i).1 (f i) = _
      rw [e3]
      split <;> split <;> omega
def osum (f : Nat → Int) (u : Nat) (need : Int) : Nat → Int
  | 0 => 0
  | i + 1 => osum f u need i + oz f u need i
theorem osum_need (f : Nat → Int) (u : Nat) (need : Int) : ∀ i, osum f u need i + (ovn f u need i).1 = need := by
  intro i
  induction i with
  | zero => show 0 + need = need; omega
  | succ i ih =>
    have e2 : ovn f u need (i + 1) = if u.testBit i then stp f (ovn f u need i) i else ovn f u need i := rfl
    show osum f u need i + oz f u need i + _ = need
    rw [e2]
    unfold oz
    cases hb : u.testBit i with
    | false => simp; omega
    | true =>
      simp only [if_true]
      show osum f u need i + min (ovn f u need i).1 (f i) + ((ovn f u need i).1 - min (ovn f u need i).1 (f i)) = need
      omega
theorem osum_all {f : Nat → Int} {u : Nat} {need : Int} (hf : ∀ i, i < 8 → cb (f i)) (hn : cb need) (h : need ≤ sm f (nds u)) : osum f u need 8 = need := by
  have h1 := osum_need f u need 8
  have h2 := ovn_need hf hn (u := u) 8 (Nat.le_refl _)
  rw [← sm_sf, if_pos h] at h2
  omega
theorem oz_bd {f : Nat → Int} {u : Nat} {need : Int} (hf : ∀ i, i < 8 → cb (f i)) (hn : cb need) {j : Nat} (hj : j < 8) : 0 ≤ oz f u need j ∧ oz f u need j ≤ f j ∧ (0 < oz f u need j → u.testBit j = true) := by
  have h1 := (ovn_bd hf hn u j (by omega)).1
  have h2 := (hf j hj).1
  unfold oz
  cases hb : u.testBit j with
  | false => simp; omega
  | true => simp; omega
theorem osum_bd {f : Nat → Int} {u : Nat} {need : Int} (hf : ∀ i, i < 8 → cb (f i)) (hn : cb need) : ∀ i, i ≤ 8 → 0 ≤ osum f u need i ∧ osum f u need i ≤ need := by
  intro i hi
  have h1 := osum_need f u need i
  have h2 := (ovn_bd hf hn u i hi).1
  refine ⟨?_, by omega⟩
  clear h1 h2
  induction i with
  | zero => exact Int.le_refl _
  | succ i ih =>
    have := ih (by omega)
    have h3 := (oz_bd hf hn (u := u) (show i < 8 by omega)).1
    show 0 ≤ osum f u need i + oz f u need i
    omega

/-! ### more that is free -/
def up1 (F : Nat → Int) (i : Nat) : Int := if F i < 1073741824 then F i + 1 else F i
/-- More up to a place. -/
def upTo (F : Nat → Int) (p : Nat) : Nat → Int := fun j => if j < p then up1 F j else F j
theorem up1_le (F : Nat → Int) (i : Nat) : F i ≤ up1 F i := by unfold up1; split <;> omega
theorem rt_up {F N : Nat → Int} (h : rt F N) : rt (upTo F 16) N := by
  intro k hk
  obtain ⟨h1, h2⟩ := h k hk
  refine ⟨fun i hi => ?_, h2⟩
  have := h1 i hi
  unfold upTo
  rw [if_pos (by omega)]
  unfold cb up1 at *
  split <;> omega
theorem sm_mono {f g : Nat → Int} {l : List Nat} (h : ∀ x ∈ l, f x ≤ g x) : sm f l ≤ sm g l := by
  unfold sm
  have key : ∀ (l : List Nat) (a b : Int), a ≤ b → (∀ x ∈ l, f x ≤ g x) → l.foldl (fun s x => s + f x) a ≤ l.foldl (fun s x => s + g x) b := by
    intro l
    induction l with
    | nil => intro a b hab _; exact hab
    | cons x l ih =>
      intro a b hab hx
      have h1 := hx x (by simp)
      exact ih _ _ (by show a + f x ≤ b + g x; omega) fun y hy => hx y (by simp [hy])
  exact key l 0 0 (Int.le_refl _) h
theorem en_up {F N : Nat → Int} {u : Nat} (h : en F N u) : en (upTo F 16) N u := by
  intro k hk
  refine Int.le_trans (h k hk) (sm_mono fun x hx => ?_)
  have hx8 : x < 8 := List.mem_range.1 (List.mem_filter.1 hx).1
  show F (8 * k + x) ≤ upTo F 16 (8 * k + x)
  unfold upTo
  rw [if_pos (by omega)]
  exact up1_le F _
theorem more {F N : Nat → Int} {n : Int} {m : Nat} (h : wv F N n 0 = some m) : ∃ x, wv (upTo F 16) N n 0 = some x ∧ cnt x ≤ cnt m ∧ x < 256 ∧ m < 256 := by
  obtain ⟨k, rfl, hk, hf, hm, he, _⟩ := wv_some h
  have hp : 2 ^ k ≤ 2 ^ 8 := Nat.pow_le_pow_right (by decide) hk
  have hf' : fit (upTo F 16) N (k : Int) := ⟨rt_up hf.1, hf.2⟩
  obtain ⟨x, hx⟩ := wv_has hk hf' hm (en_up he)
  obtain ⟨k', e, _, _, hxl, _, hall⟩ := wv_some hx
  have : k = k' := by omega
  subst this
  exact ⟨x, hx, hall m hm (en_up he), by omega, by omega⟩
end Go.Proofs.Ytdbobcbjgacjpaa
