/-
  Blocks: owners in order.
-/
import Derived.Test.YtkkpkoekbmgabaaBsI
set_option linter.all false
set_option linter.unusedVariables false
set_option linter.unusedSimpArgs false
set_option linter.unusedSectionVars false
namespace Go.Proofs.Ytkkpkoekbmgabaa
open Go Go.VM

/-! ### texts in order -/
def lt (a b : List UInt8) : Bool := Op.bytesLess a b
theorem lt_irr (a : List UInt8) : lt a a = false := by
  induction a with
  | nil => rfl
  | cons x a ih => simp only [lt, Op.bytesLess] at ih ⊢; simp [ih]
theorem lt_cons (x y : UInt8) (a b : List UInt8) : lt (x :: a) (y :: b) = (decide (x.toNat < y.toNat) || (decide (x = y) && lt a b)) := by
  show (decide (x < y) || (x == y && Op.bytesLess a b)) = _
  rw [show (x == y) = decide (x = y) from rfl]
  simp only [UInt8.lt_iff_toNat_lt]
  rfl
theorem lt_asym : ∀ (a b : List UInt8), lt a b = true → lt b a = false := by
  intro a
  induction a with
  | nil => intro b; cases b <;> simp [lt, Op.bytesLess]
  | cons x a ih =>
    intro b
    cases b with
    | nil => simp [lt, Op.bytesLess]
    | cons y b =>
      rw [lt_cons, lt_cons]
      intro h
      simp only [Bool.or_eq_true, Bool.and_eq_true, decide_eq_true_eq, Bool.or_eq_false_iff, Bool.and_eq_false_iff, decide_eq_false_iff_not] at h ⊢
      rcases h with h | ⟨h1, h2⟩
      · exact ⟨by omega, .inl fun e => by subst e; omega⟩
      · subst h1; exact ⟨by omega, .inr (ih _ h2)⟩
theorem lt_tri : ∀ (a b : List UInt8), lt a b = false → lt b a = false → a = b := by
  intro a
  induction a with
  | nil => intro b; cases b <;> simp [lt, Op.bytesLess]
  | cons x a ih =>
    intro b
    cases b with
    | nil => simp [lt, Op.bytesLess]
    | cons y b =>
      rw [lt_cons, lt_cons]
      intro h g
      simp only [Bool.or_eq_false_iff, Bool.and_eq_false_iff, decide_eq_false_iff_not] at h g
      have e : x = y := UInt8.toNat_inj.1 (by omega)
      subst e
      rw [ih b (h.2.resolve_left (fun h => h rfl)) (g.2.resolve_left (fun h => h rfl))]
theorem lt_trans : ∀ (a b c : List UInt8), lt a b = true → lt b c = true → lt a c = true := by
  intro a
  induction a with
  | nil => intro b c h g; cases b <;> cases c <;> simp_all [lt, Op.bytesLess]
  | cons x a ih =>
    intro b c h g
    cases b with
    | nil => simp [lt, Op.bytesLess] at h
    | cons y b =>
      cases c with
      | nil => simp [lt, Op.bytesLess] at g
      | cons z c =>
        rw [lt_cons] at h g ⊢
        simp only [Bool.or_eq_true, Bool.and_eq_true, decide_eq_true_eq] at h g ⊢
        rcases h with h | ⟨h1, h2⟩
        · rcases g with g | ⟨g1, g2⟩
          · exact .inl (by omega)
          · subst g1; exact .inl h
        · subst h1
          rcases g with g | ⟨g1, g2⟩
          · exact .inl g
          · exact .inr ⟨g1, ih _ _ h2 g2⟩
theorem str_lss (a b : List UInt8) : Op.bytesLess (⟨a.toArray⟩ : ByteArray).toList (⟨b.toArray⟩ : ByteArray).toList = lt a b := by
  unfold lt; simp
theorem str_gtr (a b : List UInt8) : (!(Op.bytesLess (⟨a.toArray⟩ : ByteArray).toList (⟨b.toArray⟩ : ByteArray).toList || (⟨a.toArray⟩ : ByteArray).toList == (⟨b.toArray⟩ : ByteArray).toList)) = lt b a := by
  rw [str_lss, sbeq]
  cases h : lt a b with
  | true => simp [lt_asym a b h]
  | false =>
    by_cases e : a = b
    · subst e; simp [h]
    · simp only [Bool.false_or, decide_eq_false e, Bool.not_false]
      cases g : lt b a with
      | true => rfl
      | false => exact absurd (lt_tri a b h g) e
theorem nan_s (a : List UInt8) : EP (EE env) 54 [sv a] = some (.bool false) := by
  refine Has.eq (EP_has ?_)
  refine boolK_sne (fun h => absurd rfl h) (fun _ => ?_)
  exact Has.intro (Has.intro rfl)
theorem nan_i (a : Int) : EP (EE env) 55 [iv a] = some (.bool false) := by
  refine Has.eq (EP_has ?_)
  refine boolK_bne (fun h => absurd rfl h) (fun _ => ?_)
  exact Has.intro (Has.intro rfl)
def cmpS (a b : List UInt8) : Int := if lt a b = true then -1 else if lt b a = true then 1 else 0
def cmpI (a b : Int) : Int := if a < b then -1 else if a > b then 1 else 0
theorem cmp_s (a b : List UInt8) : EP (EE env) 49 [sv a, sv b] = some (iv (cmpS a b)) := by
  refine Has.eq (EP_has ?_)
  refine callPK_has (nan_s a) ?_
  refine callPK_has (nan_s b) ?_
  refine boolK_has_eq (str_lss a b) ?_
  unfold cmpS
  cases h1 : lt a b with
  | true => exact Has.intro (Has.intro rfl)
  | false =>
    refine boolK_has_eq (str_gtr a b) ?_
    cases h2 : lt b a with
    | true => exact Has.intro (Has.intro rfl)
    | false => exact Has.intro (Has.intro rfl)
theorem cmp_i (a b : Int) : EP (EE env) 50 [iv a, iv b] = some (iv (cmpI a b)) := by
  refine Has.eq (EP_has ?_)
  refine callPK_has (nan_i a) ?_
  refine callPK_has (nan_i b) ?_
  unfold cmpI
  refine boolK_dec (fun h1 => ?_) (fun h1 => ?_)
  · rw [if_pos h1]; exact Has.intro (Has.intro rfl)
  · rw [if_neg h1]
    refine boolK_dec (fun h2 => ?_) (fun h2 => ?_)
    · rw [if_pos h2]; exact Has.intro (Has.intro rfl)
    · rw [if_neg h2]; exact Has.intro (Has.intro rfl)
def or3 (a b c : Int) : Int := if a ≠ 0 then a else if b ≠ 0 then b else c
theorem or_ok (x : Ext) (a b c : Int) : EP (EE env) 48 [.sl x 3 [iv a, iv b, iv c]] = some (iv (or3 a b c)) := by
  refine Has.eq (EP_has ?_)
  refine loopK_has ?_
  refine iterE_upK 3 (fun i => [(8, .pv (iv i)), (7, .pv (iv 3)), (6, .pv (.sl x 3 [iv a, iv b, iv c])), (3, .pv (iv 0))]) (fun i h => h = [] ∧ ∀ j, j < i → [a, b, c].getD j 0 = 0) (fun i hi r h hh => ?_) (fun r h hh => ?_) (by (repeat (first | exact trivial | refine ⟨rfl, ?_⟩))) ⟨rfl, fun j hj => by omega⟩
  · obtain ⟨rfl, hh⟩ := hh
    refine boolK_dec_t (by omega) ?_
    refine needK_has (by simp; omega) ?_
    refine getK_has (v := iv ([a, b, c].getD i 0)) (by match i, hi with | 0, _ => rfl | 1, _ => rfl | 2, _ => rfl) ?_
    refine boolK_bne (fun h1 => ?_) (fun h1 => ?_)
    · refine Has.intro (Has.intro (Has.intro ?_))
      have : or3 a b c = [a, b, c].getD i 0 := by
        unfold or3
        match i, hi with
        | 0, _ => rw [if_pos (show a ≠ 0 from h1)]; rfl
        | 1, _ => have h0 : a = 0 := hh 0 (by decide); rw [if_neg (by omega), if_pos (show b ≠ 0 from h1)]; rfl
        | 2, _ =>
          have h0 : a = 0 := hh 0 (by decide)
          have h2 : b = 0 := hh 1 (by decide)
          rw [if_neg (by omega), if_neg (by omega)]; rfl
      rw [this]
    · refine eqK_has_eq ((i + 1 : Nat) : Int) (i64_succ (by omega)) ?_
      refine Has.intro ⟨by (repeat (first | exact trivial | refine ⟨rfl, ?_⟩)), rfl, fun j hj => ?_⟩
      by_cases hji : j < i
      · exact hh j hji
      · obtain rfl : j = i := by omega
        exact h1
  · obtain ⟨rfl, hh⟩ := hh
    refine boolK_dec_f (by decide) ?_
    refine Has.intro (Has.intro (Has.intro ?_))
    have h0 : a = 0 := hh 0 (by decide)
    have h1 : b = 0 := hh 1 (by decide)
    have h2 : c = 0 := hh 2 (by decide)
    subst h0 h1 h2
    rfl
def cmpO (a b : Ow) : Int := or3 (cmpS a.pod b.pod) (cmpS a.ct b.ct) (cmpI a.kind b.kind)
theorem cmp_o (a b : Ow) : EP (EE env) 43 [.agg (oc a), .agg (oc b)] = some (iv (cmpO a b)) := by
  refine Has.eq (EP_has ?_)
  (repeat (first | refine hgetK_has _ rfl ?_ | refine needK_has rfl ?_ | refine getK_has rfl ?_))
  refine callPK_has (cmp_s a.pod b.pod) ?_
  (repeat (first | refine hgetK_has _ rfl ?_ | refine needK_has rfl ?_ | refine getK_has rfl ?_))
  refine callPK_has (cmp_s a.ct b.ct) ?_
  (repeat (first | refine hgetK_has _ rfl ?_ | refine needK_has rfl ?_ | refine getK_has rfl ?_))
  refine callPK_has (cmp_i a.kind b.kind) ?_
  (repeat (first | refine hgetK_last ?_ | refine hgetK_set ?_ | refine hgetK_has _ rfl ?_ | refine needK_has rfl ?_ | refine getK_has rfl ?_ | refine secK_has rfl (by first | exact Nat.le_refl _ | decide | exact Nat.le_of_ble_eq_true rfl) ?_ | refine eqK_has ?_))
  refine callPK_has (or_ok _ (cmpS a.pod b.pod) (cmpS a.ct b.ct) (cmpI a.kind b.kind)) ?_
  exact Has.intro (Has.intro rfl)
/-- One owner ahead of another. -/
def owLt (a b : Ow) : Prop := if a.pod ≠ b.pod then lt a.pod b.pod = true else if a.ct ≠ b.ct then lt a.ct b.ct = true else a.kind < b.kind
instance (a b : Ow) : Decidable (owLt a b) := by unfold owLt; infer_instance
theorem cmpO_neg (a b : Ow) : cmpO a b < 0 ↔ owLt a b := by
  unfold cmpO or3 cmpS cmpI owLt
  by_cases h1 : a.pod = b.pod
  · rw [h1, lt_irr]
    by_cases h2 : a.ct = b.ct
    · rw [h2, lt_irr]
      simp
      split <;> (try split) <;> omega
    · simp [h2]
      cases g1 : lt a.ct b.ct with
      | true => simp
      | false =>
        cases g2 : lt b.ct a.ct with
        | true => simp
        | false => exact absurd (lt_tri _ _ g1 g2) h2
  · simp [h1]
    cases g1 : lt a.pod b.pod with
    | true => simp
    | false =>
      cases g2 : lt b.pod a.pod with
      | true => simp
      | false => exact absurd (lt_tri _ _ g1 g2) h1
theorem owLt_irr (a : Ow) : ¬ owLt a a := by unfold owLt; simp
theorem owLt_asym {a b : Ow} (h : owLt a b) : ¬ owLt b a := by
  unfold owLt at *
  by_cases h1 : a.pod = b.pod
  · by_cases h2 : a.ct = b.ct
    · simp [h1, h2] at h ⊢; omega
    · simp [h1, h2, Ne.symm h2] at h ⊢; exact lt_asym _ _ h
  · simp [h1, Ne.symm h1] at h ⊢; exact lt_asym _ _ h
theorem owLt_trans {a b c : Ow} (h : owLt a b) (g : owLt b c) : owLt a c := by
  unfold owLt at *
  by_cases h1 : a.pod = b.pod
  · by_cases g1 : b.pod = c.pod
    · simp only [h1, g1, ne_eq, not_true_eq_false, if_false] at h g ⊢
      by_cases h2 : a.ct = b.ct
      · by_cases g2 : b.ct = c.ct
        · simp [h2, g2] at h g ⊢; omega
        · simp [h2, g2] at h g ⊢; exact g
      · by_cases g2 : b.ct = c.ct
        · rw [← g2]; simp [h2] at h ⊢; exact h
        · simp [h2, g2] at h g ⊢
          have ht := lt_trans _ _ _ h g
          have : a.ct ≠ c.ct := fun e => by rw [e, lt_irr] at ht; cases ht
          simp [this, ht]
    · simp [h1, g1] at h g ⊢; exact g
  · by_cases g1 : b.pod = c.pod
    · rw [← g1]; simp [h1] at h ⊢; exact h
    · simp [h1, g1] at h g ⊢
      have ht := lt_trans _ _ _ h g
      have : a.pod ≠ c.pod := fun e => by rw [e, lt_irr] at ht; cases ht
      simp [this, ht]
theorem owLt_tri {a b : Ow} (h : ¬ owLt a b) (g : ¬ owLt b a) : a = b := by
  obtain ⟨a1, a2, a3⟩ := a
  obtain ⟨b1, b2, b3⟩ := b
  unfold owLt at *
  dsimp only at h g
  by_cases h1 : a1 = b1
  · by_cases h2 : a2 = b2
    · simp [h1, h2] at h g ⊢; omega
    · simp [h1, h2, Ne.symm h2] at h g; exact absurd (lt_tri _ _ h g) h2
  · simp [h1, Ne.symm h1] at h g; exact absurd (lt_tri _ _ h g) h1
end Go.Proofs.Ytkkpkoekbmgabaa
