/-
  Blocks: the first test.
-/
import Derived.Test.YtkkpkoekbmgabaaBsT
set_option linter.all false
set_option linter.unusedVariables false
set_option linter.unusedSimpArgs false
set_option linter.unusedSectionVars false
namespace Go.Proofs.Ytkkpkoekbmgabaa
open Go Go.VM
variable {H : Heap} {p m : Nat} {zs : List Zn} {L : List Rw}

def z0 : List Zn := [⟨10, 4, 2, 0⟩, ⟨5, 0, 0, 0⟩]
def oa : Ow := ⟨[112], [97], 0⟩
def ob : Ow := ⟨[112], [98], 0⟩
def sa : Sd := ⟨6, 5, 0, 0, 0, 0, 0, 0⟩
def sb : Sd := ⟨3, 0, 0, 0, 0, 0, 0, 0⟩
def sd : Sd := ⟨2, 0, 0, 0, 0, 0, 0, 0⟩
theorem d1 : putE z0 [] oa sa = 0 := by decide
theorem d2 : putS z0 [] oa sa = [(oa, sa)] := by decide
theorem d3 : putE z0 [(oa, sa)] ob sb = 20 := by decide
theorem d4 : putS z0 [(oa, sa)] ob sb = [(oa, sa)] := by decide
theorem d5 : putE z0 [(oa, sa)] ob sd = 0 := by decide
theorem d6 : putS z0 [(oa, sa)] ob sd = [(oa, sa), (ob, sd)] := by decide
theorem d7 : freeF z0 [] 0 0 = 8 := by decide
theorem d8 : freeF z0 [(oa, sa), (ob, sd)] 0 0 = 0 := by decide
theorem d9 : heldF [(oa, sa), (ob, sd)] oa = sa := by decide
theorem d10 : roomF z0 0 1 = 4 := by decide
theorem d11 : others [(oa, sa), (ob, sd)] [112] = [] := by decide
theorem d12 : preS sa 8 = 11 := by decide
theorem d13 : fits z0 := by decide
theorem d14 : ¬ fits [] := by decide
theorem ma : oa.pod.length ≤ maxLen ∧ oa.ct.length ≤ maxLen := by decide
theorem mb : ob.pod.length ≤ maxLen ∧ ob.ct.length ≤ maxLen := by decide
theorem bsa (i : Nat) : -1000000000000 ≤ sa.at i ∧ sa.at i ≤ 1000000000000 := by
  by_cases hi : i < 8
  · have : ∀ i, i < 8 → -1000000000000 ≤ sa.at i ∧ sa.at i ≤ 1000000000000 := by decide
    exact this i hi
  · rw [at_ge _ (by omega)]; decide
/-- A table, and two owners in boxes. -/
def P1 (q : Nat × Nat × Nat × Nat) (L : List Rw) (J : Heap) : Prop := Ts J q.1 z0 q.2.1 L ∧ hget J q.2.2.1 = .pcells (oc oa) ∧ hget J q.2.2.2 = .pcells (oc ob)
theorem P1.kp {q : Nat × Nat × Nat × Nat} {L : List Rw} {J J' : Heap} (h : P1 q L J) (hk : Kp [] J J') : P1 q L J' := ⟨h.1.kp' hk (by simp) (by simp), hk.get h.2.1 (by intro h; cases h) (by simp), hk.get h.2.2 (by intro h; cases h) (by simp)⟩
theorem P1.ne {q : Nat × Nat × Nat × Nat} {L : List Rw} {J : Heap} (h : P1 q L J) : q.2.2.1 ≠ q.2.1 ∧ q.2.2.2 ≠ q.2.1 := by
  obtain ⟨h1, h2, h3⟩ := h
  obtain ⟨clk, E, hm, _⟩ := h1.map
  exact ⟨fun e => (by rw [e, hm] at h2; cases h2), fun e => (by rw [e, hm] at h3; cases h3)⟩
theorem P1.put {q : Nat × Nat × Nat × Nat} {L L' : List Rw} {J J' : Heap} (h : P1 q L J) (hk : Kp [q.2.1] J J') (hT : Ts J' q.1 z0 q.2.1 L') : P1 q L' J' := ⟨hT, hk.get h.2.1 (by intro h; cases h) (by simpa using h.ne.1), hk.get h.2.2 (by intro h; cases h) (by simpa using h.ne.2)⟩
theorem first_ok : EP (EE env) 6 [] = some (.bool true) := by
  refine Has.eq (EP_has (fn_has rfl ?_))
  refine seq_onK [] (fun _ => True) ?_ (fun r J _ => ?_)
  · exact Has.intro ⟨rfl, trivial, trivial⟩
  refine seq_stK (σ := Nat × Nat) (fun s => [(1, .ptr s.1 0), (2, .pv (iv 0))]) (fun s J => Ts J s.1 z0 s.2 []) ?_ (fun s r J hJ => ?_)
  · (repeat (first | refine hgetK_last ?_ | refine hgetK_set ?_ | refine hgetK_two1 ?_ | refine hgetK_two2 ?_ | refine hgetK_two3 ?_ | refine hgetK_two4 ?_ | refine hgetK_two5 ?_ | refine needK_has rfl ?_ | refine getK_has rfl ?_ | refine secK_has rfl (by first | exact Nat.le_refl _ | decide | exact Nat.le_of_ble_eq_true rfl) ?_ | refine eqK_has ?_))
    refine callSK_has' ((new_ok z0 (by decide) _).mono fun y hy => ?_)
    obtain ⟨v, J1⟩ := y
    obtain ⟨_, ⟨_, h2, h3, h4⟩ | ⟨h2, _⟩⟩ := hy
    · dsimp only at h2 h3 h4 ⊢
      subst h3
      exact Has.intro ⟨rfl, (J1.length - 1, J1.length - 2), by (repeat (first | exact trivial | refine ⟨rfl, ?_⟩)), h4, List.Pairwise.nil⟩
    · exact absurd d13 h2
  obtain ⟨p, m⟩ := s
  refine seq_onK [(1, .ptr p 0), (2, .pv (iv 0)), (4, .pv (iv 2))] (fun J => Ts J p z0 m []) ?_ (fun r J hJ => ?_)
  · refine callSK_has' ((new_ok [] (by decide) _).mono fun y hy => ?_)
    obtain ⟨v, J1⟩ := y
    obtain ⟨h1, ⟨h2, _⟩ | ⟨_, rfl⟩⟩ := hy
    · exact absurd h2 d14
    · dsimp only at h1 ⊢
      exact Has.intro ⟨rfl, by (repeat (first | exact trivial | refine ⟨rfl, ?_⟩)), hJ.kp' h1 (by simp) (by simp)⟩
  refine seq_stK (σ := Nat × Nat × Nat × Nat) (fun s => [(1, .ptr s.1 0), (2, .pv (iv 0)), (4, .pv (iv 2)), (5, .ptr s.2.2.1 0), (6, .ptr s.2.2.2 0)]) (fun s J => P1 s [] J) ?_ (fun s r J hJ => ?_)
  · have hk : ∀ a b c d, Kp [] J (hset (hset (J ++ [a] ++ [b]) J.length c) (J ++ [a]).length d) := fun a b c d => ((((Kp.refl _ _).app _).app _).set _ _ (.inr (Nat.le_refl _))).set _ _ (.inr (by simp))
    (repeat (first | refine hgetK_last ?_ | refine hgetK_set ?_ | refine hgetK_two1 ?_ | refine hgetK_two2 ?_ | refine hgetK_two3 ?_ | refine hgetK_two4 ?_ | refine hgetK_two5 ?_ | refine needK_has rfl ?_ | refine getK_has rfl ?_ | refine secK_has rfl (by first | exact Nat.le_refl _ | decide | exact Nat.le_of_ble_eq_true rfl) ?_ | refine eqK_has ?_))
    refine Has.intro ⟨rfl, (p, m, J.length, (J ++ [HObj.pcells (oc ⟨[], [], 0⟩)]).length), by (repeat (first | exact trivial | refine ⟨rfl, ?_⟩)), hJ.kp' (hk _ _ _ _) (by simp) (by simp), ?_, ?_⟩
    · exact (hget_hset_ne _ _ (by simp)).trans (hget_hset_same _ (by simp))
    · exact hget_hset_same _ (by rw [hset_len]; simp)
  obtain ⟨p, m, q5, q6⟩ := s
  refine seq_onK [(1, .ptr p 0), (2, .pv (iv 0)), (4, .pv (iv 2)), (5, .ptr q5 0), (6, .ptr q6 0), (7, .pv (iv 0))] (P1 (p, m, q5, q6) [(oa, sa)]) ?_ (fun r J hJ => ?_)
  · refine hgetK_has _ hJ.2.1 ?_
    refine secK_has (v := oc oa) rfl (Nat.le_refl _) ?_
    obtain ⟨J1, g1, g2, g3⟩ := put_ts hJ.1 oa sa ma.1 ma.2
    rw [d1] at g1
    rw [d2] at g3
    refine callSK_has g1 ?_
    exact Has.intro ⟨rfl, by (repeat (first | exact trivial | refine ⟨rfl, ?_⟩)), hJ.put g2 g3⟩
  refine seq_onK [(1, .ptr p 0), (2, .pv (iv 0)), (4, .pv (iv 2)), (5, .ptr q5 0), (6, .ptr q6 0), (7, .pv (iv 0)), (8, .pv (iv 20))] (P1 (p, m, q5, q6) [(oa, sa)]) ?_ (fun r J hJ => ?_)
  · refine hgetK_has _ hJ.2.2 ?_
    refine secK_has (v := oc ob) rfl (Nat.le_refl _) ?_
    obtain ⟨J1, g1, g2, g3⟩ := put_ts hJ.1 ob sb mb.1 mb.2
    rw [d3] at g1
    rw [d4] at g3
    refine callSK_has g1 ?_
    exact Has.intro ⟨rfl, by (repeat (first | exact trivial | refine ⟨rfl, ?_⟩)), hJ.put g2 g3⟩
  refine seq_onK [(1, .ptr p 0), (2, .pv (iv 0)), (4, .pv (iv 2)), (5, .ptr q5 0), (6, .ptr q6 0), (7, .pv (iv 0)), (8, .pv (iv 20)), (9, .pv (iv 0))] (P1 (p, m, q5, q6) [(oa, sa), (ob, sd)]) ?_ (fun r J hJ => ?_)
  · refine hgetK_has _ hJ.2.2 ?_
    refine secK_has (v := oc ob) rfl (Nat.le_refl _) ?_
    obtain ⟨J1, g1, g2, g3⟩ := put_ts hJ.1 ob sd mb.1 mb.2
    rw [d5] at g1
    rw [d6] at g3
    refine callSK_has g1 ?_
    exact Has.intro ⟨rfl, by (repeat (first | exact trivial | refine ⟨rfl, ?_⟩)), hJ.put g2 g3⟩
  refine seq_stK (σ := Nat) (fun t => [(1, .ptr p 0), (2, .pv (iv 0)), (4, .pv (iv 2)), (5, .ptr q5 0), (6, .ptr q6 0), (7, .pv (iv 0)), (8, .pv (iv 20)), (9, .pv (iv 0)), (10, .tsl t 2 (rcs [(oa, sa), (ob, sd)]))])
    (fun t J => P1 (p, m, q5, q6) [(oa, sa), (ob, sd)] J ∧ hget J t = .tok 2 11) ?_ (fun t r J hJ => ?_)
  · refine callSK_has' ((rows_ts hJ.1 (by decide) 9).mono fun y hy => ?_)
    obtain ⟨v, J1⟩ := y
    obtain ⟨h1, h2 | ⟨_, _, t, rfl, h3⟩⟩ := hy
    · exact absurd h2.1 (by decide)
    · exact Has.intro ⟨rfl, t, by (repeat (first | exact trivial | refine ⟨rfl, ?_⟩)), hJ.kp h1, h3⟩
  obtain ⟨hJ, ht⟩ := hJ
  refine seq_stK (σ := Nat × Nat) (fun s => [(1, .ptr p 0), (2, .pv (iv 0)), (4, .pv (iv 2)), (5, .ptr q5 0), (6, .ptr q6 0), (7, .pv (iv 0)), (8, .pv (iv 20)), (9, .pv (iv 0)), (10, .tsl t 2 (rcs [(oa, sa), (ob, sd)])), (11, .ptr s.1 0)])
    (fun s J => P1 (p, m, q5, q6) [(oa, sa), (ob, sd)] J ∧ hget J t = .tok 2 11 ∧ Ts J s.1 z0 s.2 [(oa, sa), (ob, sd)] ∧ s.1 ≠ m ∧ s.2 ≠ m) ?_ (fun s r J hJ => ?_)
  · obtain ⟨J1, g1, g2, g3, g4⟩ := clone_ts hJ.1
    have := hJ.1.mlt
    dsimp only at this
    refine callSK_has g1 ?_
    exact Has.intro ⟨rfl, (J.length + 1, J.length), by (repeat (first | exact trivial | refine ⟨rfl, ?_⟩)), hJ.kp g2, g2.get ht (by intro h; cases h) (by simp), g3, by dsimp only; omega, by dsimp only; omega⟩
  obtain ⟨c, mc⟩ := s
  obtain ⟨hJ, ht, hc, hc1, hc2⟩ := hJ
  dsimp only at hc hc1 hc2
  refine seq_onK [(1, .ptr p 0), (2, .pv (iv 0)), (4, .pv (iv 2)), (5, .ptr q5 0), (6, .ptr q6 0), (7, .pv (iv 0)), (8, .pv (iv 20)), (9, .pv (iv 0)), (10, .tsl t 2 (rcs [(oa, sa), (ob, sd)])), (11, .ptr c 0), (12, .pv (iv 2))]
    (fun J => P1 (p, m, q5, q6) [] J ∧ Ts J c z0 mc [(oa, sa), (ob, sd)]) ?_ (fun r J hJ => ?_)
  · obtain ⟨J1, g1, g2, g3⟩ := release_ts hJ.1 (by decide) [112]
    rw [d11] at g1 g3
    refine callSK_has g1 ?_
    exact Has.intro ⟨rfl, by (repeat (first | exact trivial | refine ⟨rfl, ?_⟩)), hJ.put g2 g3, hc.kp' g2 (by simpa using hc1) (by simpa using hc2)⟩
  obtain ⟨hJ, hc⟩ := hJ
  refine boolK_beq_t rfl ?_
  refine boolK_beq_t rfl ?_
  refine boolK_beq_t rfl ?_
  refine boolK_beq_t rfl ?_
  refine boolK_beq_t rfl ?_
  refine boolK_beq_t rfl ?_
  refine needK_has rfl ?_
  refine secK_has (v := oc oa) rfl (Nat.le_of_ble_eq_true rfl) ?_
  refine hgetK_has _ hJ.2.1 ?_
  refine secK_has (v := oc oa) rfl (Nat.le_refl _) ?_
  refine bindK_has (ow_eq oa oa) ?_
  refine boolK_dec_t rfl ?_
  refine boolK_beq_t rfl ?_
  obtain ⟨J1, g1, g2⟩ := hJ.1.free 0 0
  rw [d7] at g1
  refine callSK_has g1 ?_
  refine boolK_beq_t rfl ?_
  have hJ := hJ.kp g2
  have hc := hc.kp' g2 (by simp) (by simp)
  clear g1 g2
  obtain ⟨J2, g1, g2⟩ := hc.free 0 0
  rw [d8] at g1
  refine callSK_has g1 ?_
  refine boolK_beq_t rfl ?_
  have hJ := hJ.kp g2
  have hc := hc.kp' g2 (by simp) (by simp)
  clear g1 g2
  obtain ⟨J3, g1, g2⟩ := same_ok hJ.1.toTb hc.toTb
  rw [decide_eq_false (fun h => absurd h.2.1 (by decide))] at g1
  refine callSK_has g1 ?_
  have hJ := hJ.kp g2
  have hc := hc.kp' g2 (by simp) (by simp)
  clear g1 g2
  refine hgetK_has _ hJ.2.1 ?_
  refine secK_has (v := oc oa) rfl (Nat.le_refl _) ?_
  obtain ⟨J4, g1, g2⟩ := held_ok hc.toTb oa
  rw [d9] at g1
  refine callSK_has g1 ?_
  have hc := hc.kp' g2 (by simp) (by simp)
  refine callPK_has (sum_ok sa bsa) ?_
  rw [d12]
  refine boolK_beq_t rfl ?_
  clear g1 g2
  obtain ⟨J5, g1, g2⟩ := room_ok hc.z 0 1
  rw [d10] at g1
  refine callSK_has g1 ?_
  refine boolK_beq_t rfl ?_
  exact Has.intro (Has.intro rfl)
end Go.Proofs.Ytkkpkoekbmgabaa
