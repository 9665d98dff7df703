/-
  Blocks: BlocksBack.
-/
import Derived.Test.YtkkpkoekbmgabaaBsV
set_option linter.all false
set_option linter.unusedVariables false
set_option linter.unusedSimpArgs false
set_option linter.unusedSectionVars false
namespace Go.Proofs.Ytkkpkoekbmgabaa
open Go Go.VM
variable {H : Heap} {p m : Nat} {zs : List Zn} {L : List Rw}

def f4 (k : Int) : Bool := IntKind.i64.wrap ((BitVec.ofInt IntKind.i64.bits k &&& BitVec.ofInt IntKind.i64.bits 3).toNat : Int) == 3
theorem back_law (ps : List PV) (h : HasArgs [.sl 4 TZ, .sl 13 TOp, TOp] ps) : ∃ H', EE env (.fn 4) (ps.map .pv) [] = some (.pv (.bool true), H') := by
  obtain ⟨p1, _, rfl, h1, p2, _, rfl, h2, p3, _, rfl, h3, rfl⟩ := h
  obtain ⟨xz, zs, rfl, hz⟩ := arg_zs h1
  obtain ⟨xl, l, rfl, hl, hlo⟩ := arg_ops h2
  obtain ⟨x, rfl, hx⟩ := arg_op h3
  clear h1 h2 h3
  refine law_end (EE_has (fn_has rfl ?_))
  let P : Heap → Prop := fun J => hget J 0 = .pcells (opc x)
  let R : List (Nat × AV) := [(0, .pv (.sl xz zs.length (zcs zs))), (1, .pv (.sl xl l.length (ops l))), (5, .ptr 0 0)]
  refine seq_onK R P ?_ (fun r J hJ => ?_)
  · exact Has.intro ⟨rfl, by (repeat (first | exact trivial | refine ⟨rfl, ?_⟩)), rfl⟩
  refine seq_onK R P ?_ (fun r J hJ => ?_)
  · refine callPK_has first_ok ?_
    exact Has.intro ⟨rfl, by (repeat (first | exact trivial | refine ⟨rfl, ?_⟩)), hJ⟩
  refine seq_ifK [(6, .pv (.bool true))] (fun _ => True) R (fun J => P J ∧ smallL l ∧ smallO x.o ∧ zs.length ≤ 20) ?_ (fun r J hJ => ?_) (fun r J hJ => ?_)
  · refine callPK_has' ((great_ok xl l hl hlo).mono fun v hv => ?_)
    rcases hv with ⟨rfl, _⟩ | ⟨rfl, hv⟩
    · exact Has.intro (.inl ⟨rfl, by (repeat (first | exact trivial | refine ⟨rfl, ?_⟩)), trivial⟩)
    · refine hgetK_has _ hJ ?_
      refine secK_has (v := opc x) rfl (Nat.le_of_ble_eq_true rfl) ?_
      refine callPK_has' ((great_ok _ [x] (by show 1 ≤ maxLen; decide) (fun y hy => by rw [List.mem_singleton.1 hy]; exact hx)).mono fun v hv2 => ?_)
      rcases hv2 with ⟨rfl, _⟩ | ⟨rfl, hv2⟩
      · exact Has.intro (.inl ⟨rfl, by (repeat (first | exact trivial | refine ⟨rfl, ?_⟩)), trivial⟩)
      · refine boolK_dec (fun hz => ?_) (fun hz => ?_)
        · exact Has.intro (.inl ⟨rfl, by (repeat (first | exact trivial | refine ⟨rfl, ?_⟩)), trivial⟩)
        · exact Has.intro (.inr ⟨rfl, by (repeat (first | exact trivial | refine ⟨rfl, ?_⟩)), hJ, hv, hv2.1 0 x rfl, by omega⟩)
  · exact Has.intro rfl
  obtain ⟨hJ, hsl, hsx, hz20⟩ := hJ
  have hxo : okO x.o := hx
  by_cases hf : fits zs
  · refine seq_stK (σ := Nat × Nat) (fun s => (7, .ptr s.1 0) :: (8, .pv (iv 0)) :: R) (fun s J => P J ∧ Ts J s.1 zs s.2 []) ?_ (fun s r J hJ => ?_)
    · refine callSK_has' ((new_ok zs hz20 xz).mono fun y hy => ?_)
      obtain ⟨v, J1⟩ := y
      obtain ⟨k1, ⟨_, h2, h3, h4⟩ | ⟨h2, _⟩⟩ := hy
      · dsimp only at k1 h2 h3 h4 ⊢
        subst h3
        exact Has.intro ⟨rfl, (J1.length - 1, J1.length - 2), by (repeat (first | exact trivial | refine ⟨rfl, ?_⟩)), k1.get hJ (by intro h; cases h) (by simp), h4, List.Pairwise.nil⟩
      · exact absurd hf h2
    obtain ⟨p, m⟩ := s
    obtain ⟨hJ, hT⟩ := hJ
    dsimp only at hT
    refine seq_onK ((7, .ptr p 0) :: R) (fun J => P J ∧ Ts J p zs m []) ?_ (fun r J hJ => ?_)
    · refine boolK_bne_f rfl ?_
      exact Has.intro ⟨rfl, by (repeat (first | exact trivial | refine ⟨rfl, ?_⟩)), hJ, hT⟩
    have hmn : ∀ {J : Heap} {L : List Rw}, P J → Ts J p zs m L → 0 ≠ m := fun hP hT e => by
      obtain ⟨clk, E, hm, _⟩ := hT.map
      rw [← e, hP] at hm
      cases hm
    have hrl : ∀ i, (runA f4 zs [] (l.take i)).length ≤ 60 := fun i => by
      have := runA_len f4 zs (l.take i) []
      have := hsl.2
      rw [List.length_take] at *
      simp at *
      omega
    refine seq_onK ((7, .ptr p 0) :: R) (fun J => P J ∧ Ts J p zs m (runA f4 zs [] l)) ?_ (fun r J hJ => ?_)
    · obtain ⟨hJ, hT⟩ := hJ
      refine loopK_has ?_
      refine iterE_upK l.length (fun i => (38, .pv (iv i)) :: (37, .pv (iv l.length)) :: (36, .pv (.sl xl l.length (ops l))) :: (7, .ptr p 0) :: R) (fun i J => P J ∧ Ts J p zs m (runA f4 zs [] (l.take i))) (fun i hi r J hJ => ?_) (fun r J hJ => ?_) (by (repeat (first | exact trivial | refine ⟨rfl, ?_⟩))) ⟨hJ, hT⟩
      · obtain ⟨hJ, hT⟩ := hJ
        refine boolK_dec_t (by omega) ?_
        refine needK_has (by simp; omega) ?_
        refine secK_has (v := opc l[i]) (ops_get (List.getElem?_eq_getElem hi)) (by rw [ops_len]; show i * 13 + 13 ≤ _; omega) ?_
        have hsi := hlo l[i] (List.getElem_mem hi)
        have hk : ∀ a b, Kp [] J (hset (J ++ [a]) J.length b) := fun a b => ((Kp.refl _ _).app _).set _ _ (.inr (Nat.le_refl _))
        have hT1 := fun a b => hT.kp' (hk a b) (by simp) (by simp)
        have hP1 := fun a b => (hk a b).get hJ (by intro h; cases h) (by simp)
        have hst := runA_step (f := f4) (zs := zs) (L := []) (List.getElem?_eq_getElem hi)
        (repeat (first | refine hgetK_last ?_ | refine hgetK_set ?_ | refine hgetK_two1 ?_ | refine hgetK_two2 ?_ | refine hgetK_two3 ?_ | refine hgetK_two4 ?_ | refine hgetK_two5 ?_ | refine needK_has rfl ?_ | refine getK_has rfl ?_ | refine secK_has rfl (by first | exact Nat.le_refl _ | decide | exact Nat.le_of_ble_eq_true rfl) ?_ | refine eqK_has ?_))
        refine boolK_has (fun hb => ?_) (fun hb => ?_)
        · have hb' : f4 l[i].kind = true := hb
          rw [if_pos hb'] at hst
          (repeat (first | refine hgetK_last ?_ | refine hgetK_set ?_ | refine hgetK_two1 ?_ | refine hgetK_two2 ?_ | refine hgetK_two3 ?_ | refine hgetK_two4 ?_ | refine hgetK_two5 ?_ | refine needK_has rfl ?_ | refine getK_has rfl ?_ | refine secK_has rfl (by first | exact Nat.le_refl _ | decide | exact Nat.le_of_ble_eq_true rfl) ?_ | refine eqK_has ?_))
          obtain ⟨J1, g1, g2, g3⟩ := release_ts (hT1 (.pcells (opc ⟨0, 0, ⟨[], [], 0⟩, s0⟩)) (.pcells (opc l[i]))) (by have := hrl i; omega) l[i].o.pod
          refine callSK_has g1 ?_
          refine eqK_has_eq ((i + 1 : Nat) : Int) (i64_succ (by have : maxLen = 9223372036854775807 := rfl; omega)) ?_
          refine Has.intro ⟨by (repeat (first | exact trivial | refine ⟨rfl, ?_⟩)), g2.get (hP1 _ _) (by intro h; cases h) (by simpa using hmn hJ hT), ?_⟩
          rw [hst]; exact g3
        · have hb' : ¬ f4 l[i].kind = true := by
            intro h
            rw [show f4 l[i].kind = false from hb] at h; cases h
          rw [if_neg hb'] at hst
          (repeat (first | refine hgetK_last ?_ | refine hgetK_set ?_ | refine hgetK_two1 ?_ | refine hgetK_two2 ?_ | refine hgetK_two3 ?_ | refine hgetK_two4 ?_ | refine hgetK_two5 ?_ | refine needK_has rfl ?_ | refine getK_has rfl ?_ | refine secK_has rfl (by first | exact Nat.le_refl _ | decide | exact Nat.le_of_ble_eq_true rfl) ?_ | refine eqK_has ?_))
          obtain ⟨J1, g1, g2, g3⟩ := put_ts (hT1 (.pcells (opc ⟨0, 0, ⟨[], [], 0⟩, s0⟩)) (.pcells (opc l[i]))) l[i].o l[i].s hsi.1 hsi.2
          refine callSK_has g1 ?_
          refine eqK_has_eq ((i + 1 : Nat) : Int) (i64_succ (by have : maxLen = 9223372036854775807 := rfl; omega)) ?_
          refine Has.intro ⟨by (repeat (first | exact trivial | refine ⟨rfl, ?_⟩)), g2.get (hP1 _ _) (by intro h; cases h) (by simpa using hmn hJ hT), ?_⟩
          rw [hst]; exact g3
      · refine boolK_dec_f (by omega) ?_
        rw [List.take_of_length_le (Nat.le_refl _)] at hJ
        exact Has.intro (Has.intro ⟨rfl, by (repeat (first | exact trivial | refine ⟨rfl, ?_⟩)), hJ⟩)
    obtain ⟨L0, hL0⟩ : ∃ L0, L0 = runA f4 zs [] l := ⟨_, rfl⟩
    have hnz : NZ L0 := by rw [hL0]; exact runA_nz f4 zs l [] fun r hr => by cases hr
    rw [← hL0] at hJ
    clear hL0
    obtain ⟨hJ, hT⟩ := hJ
    refine seq_stK (σ := Nat × Nat × Nat) (fun s => (7, .ptr p 0) :: (11, .ptr s.1 0) :: (12, .ptr s.2.2 0) :: R) (fun s J => P J ∧ Ts J p zs m L0 ∧ Ts J s.1 zs s.2.1 L0 ∧ hget J s.2.2 = .pcells (sc (heldF L0 x.o)) ∧ s.1 ≠ m ∧ s.2.1 ≠ m) ?_ (fun s r J hJ => ?_)
    · have k0 : ∀ a, Kp [] J (J ++ [a]) := fun a => (Kp.refl _ _).app _
      obtain ⟨J1, g1, g2, g3, g4⟩ := clone_ts (hT.kp' (k0 (.pcells (sc s0))) (by simp) (by simp))
      have hmlt := hT.mlt
      refine callSK_has g1 ?_
      have k1 := (k0 (.pcells (sc s0))).step g2
      refine hgetK_has _ (k1.get hJ (by intro h; cases h) (by simp)) ?_
      refine secK_has (v := oc x.o) rfl (Nat.le_of_ble_eq_true rfl) ?_
      obtain ⟨J2, g5, g6⟩ := held_ok (hT.kp' k1 (by simp) (by simp)).toTb x.o
      refine callSK_has g5 ?_
      have hq : hget J2 J.length = .pcells (sc s0) := g6.get (g2.get (hget_append_same _ _) (by intro h; cases h) (by simp)) (by intro h; cases h) (by simp)
      refine hgetK_has _ hq ?_
      refine needK_has rfl ?_
      refine eqK_has ?_
      have e0 : hget (J ++ [HObj.pcells (sc s0)]) 0 = .pcells (opc x) := (k0 _).get hJ (by intro h; cases h) (by simp)
      have e1 : hget J1 0 = .pcells (opc x) := g2.get e0 (by intro h; cases h) (by simp)
      refine sameK_has ((congrArg (fun o => readObj o (addO 0 2) (some 3)) e0).trans (congrArg (fun o => readObj o (addO 0 2) (some 3)) e1).symm) ((congrArg (fun o => (readObj o (addO 0 2) (some 3)).isSome) e0).trans rfl) ?_
      have k2 := k1.step g6
      have hl1 : J.length < J2.length := hget_lt hq (by intro h; cases h)
      have e2 : (J ++ [HObj.pcells (sc s0)]).length = J.length + 1 := by simp
      rw [e2] at g3
      have g3' := g3.kp' g6 (by simp) (by simp)
      have hTk := hT.kp' k2 (by simp) (by simp)
      have k3 : ∀ o, Kp [J.length] J2 (hset J2 J.length o) := fun o => (Kp.refl _ _).set _ _ (.inl (by simp))
      have h0l := hget_lt hJ (by intro h; cases h)
      refine Has.intro ⟨rfl, (J.length + 2, J.length + 1, J.length), ?_, ?_, hTk.kp' (k3 _) (by simpa using Nat.ne_of_lt hT.lt) (by simpa using Nat.ne_of_lt hmlt), g3'.kp' (k3 _) (fun h => by have := List.mem_singleton.1 h; omega) (fun h => by have := List.mem_singleton.1 h; omega), hget_hset_same _ hl1, by dsimp only; omega, by dsimp only; omega⟩
      · rw [e2]; (repeat (first | exact trivial | refine ⟨rfl, ?_⟩))
      · exact (k3 _).get (k2.get hJ (by intro h; cases h) (by simp)) (by intro h; cases h) (by simp; omega)
    obtain ⟨c, mc, q12⟩ := s
    obtain ⟨hJ, hT, hC, hq, hc1, hc2⟩ := hJ
    dsimp only at hC hq hc1 hc2
    have hm0 := hmn hJ hT
    have hqm : q12 ≠ m := fun e => by
      obtain ⟨clk, E, hm, _⟩ := hT.map
      rw [e, hm] at hq
      cases hq
    refine seq_onK ((7, .ptr p 0) :: (11, .ptr c 0) :: (12, .ptr q12 0) :: R) (fun J => P J ∧ Ts J p zs m L0 ∧ Ts J c zs mc L0) ?_ (fun r J hJ => ?_)
    · refine hgetK_has _ hJ ?_
      refine secK_has (v := oc x.o) rfl (Nat.le_of_ble_eq_true rfl) ?_
      refine hgetK_has _ hJ ?_
      refine secK_has (v := sc x.s) rfl (Nat.le_of_ble_eq_true rfl) ?_
      obtain ⟨J1, g1, g2, g3⟩ := put_ts hT x.o x.s hx.1 hx.2
      refine callSK_has g1 ?_
      have j1 : P J1 := g2.get hJ (by intro h; cases h) (by simpa using hm0)
      have c1 := hC.kp' g2 (by simpa using hc1) (by simpa using hc2)
      have q1 := g2.get hq (by intro h; cases h) (by simpa using hqm)
      refine boolK_beq (fun he => ?_) (fun he => ?_)
      · obtain ⟨b1, b2, b3⟩ := back_ok hT.fair hT.sorted hnz hf x.o x.s he
        refine hgetK_has _ j1 ?_
        refine secK_has (v := oc x.o) rfl (Nat.le_of_ble_eq_true rfl) ?_
        obtain ⟨J2, g4, g5⟩ := held_ok g3.toTb x.o
        rw [b3] at g4
        refine callSK_has g4 ?_
        have j2 : P J2 := g5.get j1 (by intro h; cases h) (by simp)
        refine hgetK_has _ j2 ?_
        refine secK_has (v := sc x.s) rfl (Nat.le_of_ble_eq_true rfl) ?_
        refine bindK_has (sd_eq x.s x.s) ?_
        rw [decide_eq_true rfl]
        refine boolK_has_false rfl ?_
        refine hgetK_has _ j2 ?_
        refine secK_has (v := oc x.o) rfl (Nat.le_of_ble_eq_true rfl) ?_
        have q2 := g5.get q1 (by intro h; cases h) (by simp)
        refine hgetK_has _ q2 ?_
        refine secK_has (v := sc (heldF L0 x.o)) rfl (Nat.le_refl _) ?_
        obtain ⟨J3, g6, g7, g8⟩ := put_ts (g3.kp' g5 (by simp) (by simp)) x.o (heldF L0 x.o) hx.1 hx.2
        rw [b1] at g6
        rw [b2] at g8
        refine callSK_has g6 ?_
        refine boolK_bne_f rfl ?_
        refine sameK_has ((congrArg (fun o => readObj o (addO 0 5) (some 8)) j1).trans (congrArg (fun o => readObj o (addO 0 5) (some 8)) j2).symm) ((congrArg (fun o => (readObj o (addO 0 5) (some 8)).isSome) j1).trans rfl) ?_
        exact Has.intro ⟨rfl, by (repeat (first | exact trivial | refine ⟨rfl, ?_⟩)), g7.get j2 (by intro h; cases h) (by simpa using hm0), g8, (c1.kp' g5 (by simp) (by simp)).kp' g7 (by simpa using hc1) (by simpa using hc2)⟩
      · have e1 : putS zs L0 x.o x.s = L0 := if_neg he
        rw [e1] at g3
        exact Has.intro ⟨rfl, by (repeat (first | exact trivial | refine ⟨rfl, ?_⟩)), j1, g3, c1⟩
    obtain ⟨hJ, hT, hC⟩ := hJ
    obtain ⟨J1, g1, g2⟩ := same_ok hT.toTb hC.toTb
    rw [decide_eq_true ⟨rfl, (eq_sorted hT.sorted hC.sorted).2 rfl⟩] at g1
    refine callSK_has g1 ?_
    exact Has.intro rfl
  · refine seq_onK ((7, .pv .nilp) :: (8, .pv (iv 2)) :: R) (fun _ => True) ?_ (fun r J hJ => ?_)
    · refine callSK_has' ((new_ok zs hz20 xz).mono fun y hy => ?_)
      obtain ⟨v, J1⟩ := y
      obtain ⟨k1, ⟨h2, _⟩ | ⟨_, h2⟩⟩ := hy
      · exact absurd h2 hf
      · dsimp only at h2 ⊢
        subst h2
        exact Has.intro ⟨rfl, by (repeat (first | exact trivial | refine ⟨rfl, ?_⟩)), trivial⟩
    refine boolK_bne_t (by decide) ?_
    exact Has.intro rfl
end Go.Proofs.Ytkkpkoekbmgabaa
