/-
  Rows, joined; clones.
-/
import Derived.Test.YtnkdddlkghkpjaaSlA
set_option linter.all false
set_option linter.unusedVariables false
set_option linter.unusedSimpArgs false
set_option linter.unusedSectionVars false
namespace Go.Proofs.Ytnkdddlkghkpjaa
open Go Go.VM

/-- A statement that may return. -/
theorem seq_if {R : Type} {Q : R → Prop} {env : Env} {E : Orc} {a b : VCode} {r : Regs} {h : Heap} {k : Ex → Regs → Heap → Option R} (Lr : List (Nat × AV)) (Pr : Prop) (L : List (Nat × AV)) (Pn : Prop) (H : Heap)
    (ha : Has (evK env E a Res r h doneK) fun x => (x.1 = .ret ∧ Agr x.2.1 Lr ∧ x.2.2 = H ∧ Pr) ∨ (x.1 = .normal ∧ Agr x.2.1 L ∧ x.2.2 = H ∧ Pn))
    (hr : Pr → ∀ r, Has (k .ret (setL r Lr) H) Q) (hn : Pn → ∀ r, Has (evK env E b R (setL r L) H k) Q) : Has (evK env E (.seq a b) R r h k) Q := by
  refine seq_join (fun e r h => (e = .ret ∧ Agr r Lr ∧ h = H ∧ Pr) ∨ (e = .normal ∧ Agr r L ∧ h = H ∧ Pn)) ha fun e r h hj => ?_
  rcases hj with ⟨rfl, h2, rfl, h4⟩ | ⟨rfl, h2, rfl, h4⟩
  · have := hr h4 r
    rw [h2.eq] at this
    exact this
  · have := hn h4 r
    rw [h2.eq] at this
    exact this
theorem grow_ok (n : Nat) (h0 : 0 < n) (h1 : n ≤ 1000000) : EE env (.fn 32) [.pv (.sl .nil 0 []), .pv (.int .i64 n)] [] = some (.tsl 0 0 [], [.tok 0 1]) := by
  refine Has.eq (EE_has ?_)
  refine boolK_dec_f (by omega) ?_
  refine eqK_has_eq 0 rfl ?_
  refine eqK_has_eq (n : Int) (by rw [wrap_i64 (by omega) (by omega)]; omega) ?_
  refine boolK_dec_t (by omega) ?_
  refine needK_has rfl ?_
  refine eqK_has_eq [] rfl ?_
  refine needK_has (by simp [Ext.noApp, Ext.part, mostBytes]; omega) ?_
  refine needK_has rfl ?_
  refine needK_has rfl ?_
  exact Has.intro rfl
theorem joined_le (rows : List (Ext × List UInt8)) (i : Nat) : (joined rows i).length ≤ (joined rows rows.length).length := by
  unfold joined
  rw [List.take_of_length_le (Nat.le_refl _)]
  conv => rhs; rw [← List.take_append_drop i rows, List.map_append, List.flatten_append, List.length_append]
  omega
theorem app_tsl {R : Type} {Q : R → Prop} {H : Heap} {F : AV → Heap → Option R} {e : Ext} {t es bytes n m : Nat} {cs new : List PV} (hk : hget H t = .tok n es) (hc : cs.length = n * es) (hl : new.length = m * es) (hb : (n + m) * bytes ≤ mostBytes)
    (k : Has (F (.tsl t (n + m) (cs ++ new)) (hset H t (.tok (n + m) es))) Q) : Has (appS false es bytes (.tsl t n cs) (.pv (.sl e m new)) H F) Q := by
  rw [appS_def]
  refine hgetK_has (.tok n es) hk ?_
  refine needK_has (by simp) ?_
  refine needK_has ?_ ?_
  · simp only [Bool.and_eq_true]
    refine ⟨⟨Nat.ble_eq_true_of_le hb, ?_⟩, ?_⟩
    · rw [mulE_eq, hc]; exact Nat.beq_refl _
    · rw [mulE_eq, hl]; exact Nat.beq_refl _
  refine eqK_has ?_
  refine eqK_has ?_
  exact k
set_option maxHeartbeats 1000000 in
theorem concat_ok (x : Ext) (rows : List (Ext × List UInt8)) (h0 : 0 < (joined rows rows.length).length) (h1 : (joined rows rows.length).length ≤ 1000000) (h2 : rows.length ≤ 100) :
    EE env (.fn 25) [.pv (.sl x rows.length (rows.map row))] [] = some (.tsl 0 (joined rows rows.length).length (bc (joined rows rows.length)), [.tok (joined rows rows.length).length 1]) := by
  refine Has.eq (EE_has ?_)
  refine loopK_has ?_
  refine iterE_up rows.length (fun i => [(0, .pv (.sl x rows.length (rows.map row))), (3, .pv (.int .i64 (joined rows i).length)), (9, .pv (.sl x rows.length (rows.map row))), (10, .pv (.int .i64 rows.length)), (11, .pv (.int .i64 i))]) (fun _ => []) (fun i hi r => ?_) (fun r => ?_) ⟨rfl, rfl, rfl, rfl, rfl, trivial⟩ rfl
  · obtain ⟨p, hp⟩ : ∃ p, rows[i]? = some p := ⟨_, List.getElem?_eq_getElem hi⟩
    have hj := joined_succ hp
    refine boolK_dec_t (by omega) ?_
    refine needK_has (by (first | rfl | (simp; done) | (simp; omega))) ?_
    refine getK_has (v := row p) (by rw [mulE_eq, Int.toNat_natCast, Nat.mul_one, List.getElem?_map, hp]; rfl) ?_
    have hle := joined_le rows (i + 1)
    have hjl : (joined rows (i + 1)).length = (joined rows i).length + p.2.length := by rw [hj, List.length_append]
    refine eqK_has_eq ((joined rows (i + 1)).length : Int) (by rw [wrap_i64 (by omega) (by omega)]; omega) ?_
    refine boolK_dec_f (by omega) ?_
    refine eqK_has_eq _ (i64_succ (by omega)) ?_
    exact Has.intro ⟨⟨rfl, rfl, rfl, rfl, rfl, trivial⟩, rfl⟩
  refine boolK_dec_f (by omega) ?_
  refine Has.intro ?_
  refine callSK_has (grow_ok _ h0 h1) ?_
  refine needK_has rfl ?_
  refine loopK_has ?_
  refine iterE_up rows.length (fun i => [(6, .tsl 0 (joined rows i).length (bc (joined rows i))), (25, .pv (.sl x rows.length (rows.map row))), (26, .pv (.int .i64 rows.length)), (27, .pv (.int .i64 i))]) (fun i => [.tok (joined rows i).length 1]) (fun i hi r => ?_) (fun r => ?_) ⟨rfl, rfl, rfl, rfl, trivial⟩ rfl
  · obtain ⟨p, hp⟩ : ∃ p, rows[i]? = some p := ⟨_, List.getElem?_eq_getElem hi⟩
    have hj := joined_succ hp
    refine boolK_dec_t (by omega) ?_
    refine needK_has (by (first | rfl | (simp; done) | (simp; omega))) ?_
    refine getK_has (v := row p) (by rw [mulE_eq, Int.toNat_natCast, Nat.mul_one, List.getElem?_map, hp]; rfl) ?_
    have hle := joined_le rows (i + 1)
    have hjl : (joined rows (i + 1)).length = (joined rows i).length + p.2.length := by rw [hj, List.length_append]
    refine app_tsl (m := p.2.length) (new := bc p.2) rfl (by rw [bc_length, Nat.mul_one]) (by rw [bc_length, Nat.mul_one]) (by unfold mostBytes; omega) ?_
    refine eqK_has_eq _ (i64_succ (by omega)) ?_
    have e1 : (joined rows i).length + p.2.length = (joined rows (i + 1)).length := hjl.symm
    have e2 : bc (joined rows i) ++ bc p.2 = bc (joined rows (i + 1)) := by rw [hj, bc_append]
    rw [e1, e2]
    exact Has.intro ⟨⟨rfl, rfl, rfl, rfl, trivial⟩, rfl⟩
  refine boolK_dec_f (by omega) ?_
  exact Has.intro (Has.intro rfl)
end Go.Proofs.Ytnkdddlkghkpjaa
