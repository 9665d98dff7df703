/-
  Blocks: Rows.
-/
import Derived.Test.YtkkpkoekbmgabaaBsL
set_option linter.all false
set_option linter.unusedVariables false
set_option linter.unusedSimpArgs false
set_option linter.unusedSectionVars false
namespace Go.Proofs.Ytkkpkoekbmgabaa
open Go Go.VM
variable {H : Heap} {p m : Nat} {zs : List Zn} {L : List Rw}

def rc (r : Rw) : List PV := oc r.1 ++ sc r.2
def rcs (l : List Rw) : List PV := l.flatMap rc
theorem rcs_len (l : List Rw) : (rcs l).length = l.length * 11 := by
  unfold rcs
  induction l with
  | nil => rfl
  | cons a l ih => rw [List.flatMap_cons, List.length_append, ih, List.length_cons]; simp [rc, oc, sc]; omega
/-- The loop that gathers rows. -/
def gor (R0 : Regs) (st : LState) : HObj := .loop ⟨st, R0, [14, 15], c11.at [1, 1, 1, 1, 0, 1, 0, 0], c11.at [1, 1, 1, 1, 0, 1, 0, 1]⟩
def bx (v : AV) : HObj := match v with
  | .pv p => .pcells [p]
  | v => .cells [v]
theorem bx_ne {H : Heap} {v : AV} {n : Nat} {cs : List PV} (hv : AppV H v .nil 11 n cs) : (∀ l, bx v ≠ .loop l) ∧ bx v ≠ .dead := by
  rcases hv with ⟨_, _, rfl, _⟩ | ⟨_, _, t, rfl, _⟩
  · exact ⟨fun l h => (by cases h), fun h => (by cases h)⟩
  · exact ⟨fun l h => (by cases h), fun h => (by cases h)⟩
/-- One more row, or enough of them. -/
theorem yield_row {h : Heap} {lid q3 q5 n : Nat} {most : Int} {R0 : Regs} {v : AV} {cs : List PV} (hR3 : R0 3 = .ptr q3 0) (hR5 : R0 5 = .ptr q5 0) (hl : hget h lid = gor R0 .ready) (hq3 : hget h q3 = .pcells [iv most]) (hq5 : hget h q5 = bx v)
    (hv : AppV h v .nil 11 n cs) (hn2 : n ≤ 1000000) (r : Rw) :
    Has (EE env (.yield lid) [.pv (.agg (oc r.1)), .pv (.agg (sc r.2))] h) fun y => ((n : Int) ≥ most ∧ y.1 = .pv (.bool false) ∧ Kp [lid] h y.2 ∧ hget y.2 lid = gor R0 (.done (.exit 0))) ∨
      ((n : Int) < most ∧ y.1 = .pv (.bool true) ∧ Kp (q5 :: (tokOf v).toList) h y.2 ∧ ∃ v', hget y.2 q5 = bx v' ∧ AppV y.2 v' .nil 11 (n + 1) (cs ++ rc r) ∧ (tokOf v' = tokOf v ∨ ∃ t, tokOf v' = some t ∧ h.length ≤ t)) := by
  obtain ⟨r0, hr0⟩ : ∃ r0, R0 = setL r0 [(3, .ptr q3 0), (5, .ptr q5 0)] := by
    refine ⟨R0, ?_⟩
    have : Agr R0 [(3, .ptr q3 0), (5, .ptr q5 0)] := ⟨hR3, hR5, trivial⟩
    exact this.eq.symm
  have hll := hget_lt hl (by intro h; cases h)
  have h3l := hget_lt hq3 (by intro h; cases h)
  have h5l := hget_lt hq5 (bx_ne hv).2
  have hne3 : q3 ≠ lid := fun e => by rw [e, hl] at hq3; cases hq3
  have hne5 : q5 ≠ lid := fun e => by rw [e, hl] at hq5; exact (bx_ne hv).1 _ hq5.symm
  refine EE_has ?_
  refine hgetK_has _ hl ?_
  subst hr0
  obtain ⟨J1, hJ1⟩ : ∃ J1, J1 = hset (h ++ [HObj.pcells (oc ⟨[], [], 0⟩)]) h.length (.pcells (oc r.1)) := ⟨_, rfl⟩
  have k1 : Kp [] h J1 := by rw [hJ1]; exact ((Kp.refl _ _).app _).set _ _ (.inr (Nat.le_refl _))
  have n1 : J1.length = h.length + 1 := by rw [hJ1, hset_len]; simp
  have a1 : hget J1 h.length = .pcells (oc r.1) := by rw [hJ1]; exact hget_hset_same _ (by simp)
  obtain ⟨J2, hJ2⟩ : ∃ J2, J2 = hset (J1 ++ [HObj.pcells (sc s0)]) J1.length (.pcells (sc r.2)) := ⟨_, rfl⟩
  have k2 : Kp [] J1 J2 := by rw [hJ2]; exact ((Kp.refl _ _).app _).set _ _ (.inr (Nat.le_refl _))
  have n2 : J2.length = h.length + 2 := by rw [hJ2, hset_len, List.length_append, n1]; rfl
  have a2 : hget J2 h.length = .pcells (oc r.1) := k2.get a1 (by intro h; cases h) (by simp)
  have b2 : hget J2 J1.length = .pcells (sc r.2) := by rw [hJ2]; exact hget_hset_same _ (by simp)
  have kk := k1.step k2
  have l2 := kk.get hl (by intro h; cases h) (by simp)
  have c2 := kk.get hq3 (by intro h; cases h) (by simp)
  have d2 := kk.get hq5 (bx_ne hv).2 (by simp)
  have v2 : AppV J2 v .nil 11 n cs := hv.keep (v := .pv .nilp) ⟨kk.1, fun i hi _ => kk.2 i hi (by simp)⟩ (by
    rcases hv with ⟨_, _, rfl, _⟩ | ⟨_, _, t, rfl, _⟩
    · exact .inl rfl
    · exact .inr (by intro h; cases h))
  have e1 : J1.length = (hset (h ++ [HObj.pcells (oc ⟨[], [], 0⟩)]) h.length (.pcells (oc r.1))).length := by rw [hJ1]
  rw [hJ2, hJ1] at a2 b2 l2 c2 d2 v2 n2 kk
  refine hgetK_last ?_
  refine needK_has rfl ?_
  refine eqK_has ?_
  refine hgetK_last ?_
  refine needK_has rfl ?_
  refine eqK_has ?_
  refine hgetK_has _ l2 ?_
  obtain ⟨G, hG⟩ : ∃ G, G = hset (hset (hset (h ++ [HObj.pcells (oc ⟨[], [], 0⟩)]) h.length (.pcells (oc r.1)) ++ [HObj.pcells (sc s0)]) (hset (h ++ [HObj.pcells (oc ⟨[], [], 0⟩)]) h.length (.pcells (oc r.1))).length (.pcells (sc r.2))) lid (gor (setL r0 [(3, .ptr q3 0), (5, .ptr q5 0)]) .busy) := ⟨_, rfl⟩
  have nG : G.length = h.length + 2 := by rw [hG, hset_len, n2]
  have other : ∀ i, i ≠ lid → hget G i = hget (hset (hset (h ++ [HObj.pcells (oc ⟨[], [], 0⟩)]) h.length (.pcells (oc r.1)) ++ [HObj.pcells (sc s0)]) (hset (h ++ [HObj.pcells (oc ⟨[], [], 0⟩)]) h.length (.pcells (oc r.1))).length (.pcells (sc r.2))) i := fun i hi => by rw [hG]; exact hget_hset_ne _ _ hi
  have lG : hget G lid = gor (setL r0 [(3, .ptr q3 0), (5, .ptr q5 0)]) .busy := by rw [hG]; exact hget_hset_same _ (by rw [n2]; omega)
  have cG : hget G q3 = .pcells [iv most] := (other _ hne3).trans c2
  have dG : hget G q5 = bx v := (other _ hne5).trans d2
  have aG : hget G h.length = .pcells (oc r.1) := (other _ (by omega)).trans a2
  have n1' : (hset (h ++ [HObj.pcells (oc ⟨[], [], 0⟩)]) h.length (.pcells (oc r.1))).length = h.length + 1 := by rw [hset_len]; simp
  have bG : hget G (hset (h ++ [HObj.pcells (oc ⟨[], [], 0⟩)]) h.length (.pcells (oc r.1))).length = .pcells (sc r.2) := (other _ (by omega)).trans b2
  have vG : AppV G v .nil 11 n cs := by
    rcases v2 with h1 | ⟨hn0, hcl, t, rfl, ht⟩
    · exact .inl h1
    · refine .inr ⟨hn0, hcl, t, rfl, (other _ fun e => ?_).trans ht⟩
      rw [e, l2] at ht; cases ht
  have kG : ∀ i, i < h.length → i ≠ lid → hget G i = hget h i := fun i hi hne => (other i hne).trans (kk.2 i hi (by simp))
  have fin1 : ∀ x, Kp [lid] h (hset G lid x) ∧ hget (hset G lid x) lid = x := fun x =>
    ⟨⟨by rw [hset_len, nG]; omega, fun i hi hn => by
      have hil : i ≠ lid := by simpa using hn
      rw [hget_hset_ne _ _ hil]; exact kG i hi hil⟩, hget_hset_same _ (by rw [nG]; omega)⟩
  have fin2 : ∀ v' H', AppV H' v' .nil 11 (n + 1) (cs ++ rc r) → Fr v G H' → (tokOf v' = tokOf v ∨ tokOf v' = some G.length) →
      hget H' lid = gor (setL r0 [(3, .ptr q3 0), (5, .ptr q5 0)]) .busy ∧ hget H' q5 = bx v ∧
      (Kp (q5 :: (tokOf v).toList) h (hset (hset H' q5 (bx v')) lid (gor (setL r0 [(3, .ptr q3 0), (5, .ptr q5 0)]) .ready)) ∧
        hget (hset (hset H' q5 (bx v')) lid (gor (setL r0 [(3, .ptr q3 0), (5, .ptr q5 0)]) .ready)) q5 = bx v' ∧
        AppV (hset (hset H' q5 (bx v')) lid (gor (setL r0 [(3, .ptr q3 0), (5, .ptr q5 0)]) .ready)) v' .nil 11 (n + 1) (cs ++ rc r) ∧
        (tokOf v' = tokOf v ∨ ∃ t, tokOf v' = some t ∧ h.length ≤ t)) ∧ hget (hset H' q5 (bx v')) lid = gor (setL r0 [(3, .ptr q3 0), (5, .ptr q5 0)]) .busy := fun v' H' hv' hfr htk => by
    have hl' : hget H' lid = gor (setL r0 [(3, .ptr q3 0), (5, .ptr q5 0)]) .busy := hfr.obj vG lG (by intro h; cases h) (fun _ _ h => by cases h)
    have h5' : hget H' q5 = bx v := hfr.obj vG dG (bx_ne vG).2 (fun a b h => by rcases vG with ⟨_, _, rfl, _⟩ | ⟨_, _, t, rfl, _⟩ <;> cases h)
    have hlen : G.length ≤ H'.length := hfr.1
    rcases hv' with ⟨h0, _⟩ | ⟨hn0, hcl, t, rfl, ht⟩
    · omega
    have htl : t ≠ lid := fun e => by rw [e, hl'] at ht; cases ht
    have ht5 : t ≠ q5 := fun e => by rw [e, h5'] at ht; rcases vG with ⟨_, _, rfl, _⟩ | ⟨_, _, t, rfl, _⟩ <;> cases ht
    refine ⟨hl', h5', ⟨⟨by rw [hset_len, hset_len]; omega, fun i hi hn => ?_⟩, ?_, .inr ⟨hn0, hcl, t, rfl, ?_⟩, ?_⟩, ?_⟩
    · by_cases hil : i = lid
      · subst hil
        rw [hget_hset_same _ (by rw [hset_len]; omega)]; exact hl.symm
      · have hi5 : i ≠ q5 := fun e => hn (by simp [e])
        rw [hget_hset_ne _ _ hil, hget_hset_ne _ _ hi5, hfr.2 i (by omega) (fun e => hn (by simp [e]))]
        exact kG i hi hil
    · rw [hget_hset_ne _ _ hne5, hget_hset_same _ (by omega)]
    · rw [hget_hset_ne _ _ htl, hget_hset_ne _ _ ht5]; exact ht
    · rcases htk with h1 | h1
      · exact .inl h1
      · exact .inr ⟨_, h1, by omega⟩
    · rw [hget_hset_ne _ _ (Ne.symm hne5)]; exact hl'
  rw [hG] at lG cG dG aG bG vG fin1 fin2 nG
  refine hgetK_has _ dG ?_
  have main : ∀ F : Int → Option (AV × Heap), True := fun _ => trivial
  rcases vG with ⟨rfl, rfl, rfl, hno⟩ | ⟨hn0, hcl, t, rfl, ht⟩
  · refine getK_has rfl ?_
    refine hgetK_has _ cG ?_
    refine getK_has rfl ?_
    refine boolK_dec (fun hm => ?_) (fun hm => ?_)
    · refine hgetK_has _ lG ?_
      exact Has.intro (.inl ⟨hm, rfl, (fin1 _).1, (fin1 _).2⟩)
    · refine hgetK_has _ dG ?_
      refine getK_has rfl ?_
      refine hgetK_has _ aG ?_
      refine secK_has (v := oc r.1) rfl (Nat.le_refl _) ?_
      refine hgetK_has _ bG ?_
      refine secK_has (v := sc r.2) rfl (Nat.le_refl _) ?_
      refine app_has (m := 1) (new := rc r) (AppV.new rfl) rfl (by show (0 + 1) * 104 ≤ 140737488355328; omega) (fun v' H' hv' hfr htk => ?_)
      obtain ⟨f1, f2, f3, f4⟩ := fin2 v' H' hv' hfr htk
      rcases hv' with ⟨h0, _⟩ | ⟨hn0, hcl, t, rfl, ht⟩
      · omega
      refine hgetK_has _ f2 ?_
      refine hgetK_has _ f4 ?_
      exact Has.intro (.inr ⟨by omega, rfl, f3.1, _, f3.2⟩)
  · refine hgetK_has _ cG ?_
    refine getK_has rfl ?_
    refine boolK_dec (fun hm => ?_) (fun hm => ?_)
    · refine hgetK_has _ lG ?_
      exact Has.intro (.inl ⟨hm, rfl, (fin1 _).1, (fin1 _).2⟩)
    · refine hgetK_has _ dG ?_
      refine hgetK_has _ aG ?_
      refine secK_has (v := oc r.1) rfl (Nat.le_refl _) ?_
      refine hgetK_has _ bG ?_
      refine secK_has (v := sc r.2) rfl (Nat.le_refl _) ?_
      refine app_has (e := .nil) (n := n) (m := 1) (new := rc r) (.inr ⟨hn0, hcl, t, rfl, ht⟩) rfl (by show (n + 1) * 104 ≤ 140737488355328; omega) (fun v' H' hv' hfr htk => ?_)
      obtain ⟨f1, f2, f3, f4⟩ := fin2 v' H' hv' hfr htk
      rcases hv' with ⟨h0, _⟩ | ⟨hn0, hcl, t, rfl, ht⟩
      · omega
      refine hgetK_has _ f2 ?_
      refine hgetK_has _ f4 ?_
      exact Has.intro (.inr ⟨by omega, rfl, f3.1, _, f3.2⟩)
end Go.Proofs.Ytkkpkoekbmgabaa
