/-
  PlanHolds in the abstract machine.
-/
import Derived.Test.YtaiomdfajdeacaaPlQ
import Derived.Test.YtaiomdfajdeacaaPlR
set_option linter.all false
set_option linter.unusedVariables false
set_option linter.unusedSimpArgs false
set_option linter.unusedSectionVars false
namespace Go.Proofs.Ytaiomdfajdeacaa
open Go Go.VM

theorem root_ok : EP (EE env) 18 [] = some (.agg (kn root)) := by
  refine Has.eq (EP_has ?_)
  (repeat (first | refine hgetK_last ?_ | refine hgetK_set ?_ | refine hgetK_has _ rfl ?_ | refine needK_has rfl ?_ | refine getK_has rfl ?_ | refine secK_has rfl (by first | exact Nat.le_refl _ | decide) ?_ | refine eqK_has ?_))
  (refine Has.intro (Has.intro ?_))
  rfl
set_option maxRecDepth 4000 in
set_option maxHeartbeats 2000000 in
theorem holds_ok (ps : List PV) (h : HasArgs [TC] ps) : ∃ H', EE env (.fn 4) (ps.map .pv) [] = some (.pv (.bool true), H') := by
  obtain ⟨p1, _, rfl, ⟨cs, rfl, h⟩, rfl⟩ := h
  obtain ⟨pod, podTo, x, y, now, to, most, rfl, hx, hy, hm1, hm2⟩ := arg_tc h
  clear h
  rw [maxLen_eq] at hm1 hm2
  refine law_end (EE_has (fn_has rfl ?_))
  refine seq_on [(1, .ptr 0 0)] [(HObj.pcells (stC pod podTo x y now to most))] (Has.intro ⟨rfl, ⟨rfl, trivial⟩, rfl⟩) (fun r => ?_)
  refine seq_on [(1, .ptr 0 0)] [(HObj.pcells (stC pod podTo x y now to most))] ?_ (fun r => ?_)
  · refine callPK_has first_ok ?_
    (refine Has.intro ⟨rfl, ?_, rfl⟩; (repeat (first | exact trivial | refine ⟨rfl, ?_⟩)))
  have hapt := apt_ok pod x now (by rw [maxLen_eq]; omega)
  have hapt2 := apt_ok podTo y to (by rw [maxLen_eq]; omega)
  by_cases hb : now.length ≤ 12 ∧ now.length = to.length ∧ aptL pod now ∧ aptL podTo to
  rotate_left
  · ((refine hgetK_has (HObj.pcells (stC pod podTo x y now to most)) rfl ?_); refine getK_has rfl ?_)
    refine boolK_dec (fun h1 => ?_) (fun h1 => ?_)
    · exact Has.intro rfl
    · ((refine hgetK_has (HObj.pcells (stC pod podTo x y now to most)) rfl ?_); refine getK_has rfl ?_)
      ((refine hgetK_has (HObj.pcells (stC pod podTo x y now to most)) rfl ?_); refine getK_has rfl ?_)
      refine boolK_bne (fun h2 => ?_) (fun h2 => ?_)
      · exact Has.intro rfl
      ((refine hgetK_has (HObj.pcells (stC pod podTo x y now to most)) rfl ?_); refine secK_has (v := kn pod) rfl (by show 5 ≤ 13; decide) ?_)
      ((refine hgetK_has (HObj.pcells (stC pod podTo x y now to most)) rfl ?_); refine getK_has rfl ?_)
      refine callPK_dec hapt (fun h3 => ?_) (fun h3 => ?_)
      · ((refine hgetK_has (HObj.pcells (stC pod podTo x y now to most)) rfl ?_); refine secK_has (v := kn podTo) rfl (by show 10 ≤ 13; decide) ?_)
        ((refine hgetK_has (HObj.pcells (stC pod podTo x y now to most)) rfl ?_); refine getK_has rfl ?_)
        refine callPK_dec_f hapt2 (fun h4 => hb ⟨by omega, by omega, h3, h4⟩) ?_
        exact Has.intro rfl
      · exact Has.intro rfl
  obtain ⟨hl, hlen, ha, hb⟩ := hb
  refine seq_on [(1, .ptr 0 0)] [(HObj.pcells (stC pod podTo x y now to most))] ?_ (fun r => ?_)
  · ((refine hgetK_has (HObj.pcells (stC pod podTo x y now to most)) rfl ?_); refine getK_has rfl ?_)
    refine boolK_dec_f (by omega) ?_
    ((refine hgetK_has (HObj.pcells (stC pod podTo x y now to most)) rfl ?_); refine getK_has rfl ?_)
    ((refine hgetK_has (HObj.pcells (stC pod podTo x y now to most)) rfl ?_); refine getK_has rfl ?_)
    refine boolK_bne_f (by omega) ?_
    ((refine hgetK_has (HObj.pcells (stC pod podTo x y now to most)) rfl ?_); refine secK_has (v := kn pod) rfl (by show 5 ≤ 13; decide) ?_)
    ((refine hgetK_has (HObj.pcells (stC pod podTo x y now to most)) rfl ?_); refine getK_has rfl ?_)
    refine callPK_dec_t hapt ha ?_
    ((refine hgetK_has (HObj.pcells (stC pod podTo x y now to most)) rfl ?_); refine secK_has (v := kn podTo) rfl (by show 10 ≤ 13; decide) ?_)
    ((refine hgetK_has (HObj.pcells (stC pod podTo x y now to most)) rfl ?_); refine getK_has rfl ?_)
    refine callPK_dec_t hapt2 hb ?_
    (refine Has.intro ⟨rfl, ?_, rfl⟩; (repeat (first | exact trivial | refine ⟨rfl, ?_⟩)))
  have hst := steps_ok pod podTo x y now to hl (by omega) hx hy most 200 (by decide)
  have hall := allS_len (pod := pod) (podTo := podTo) (to := to) hl
  obtain ⟨hend, hSD⟩ := allS_end (D pod podTo now to) pod now (Nat.le_refl _) hlen
  have hapi := fun i => apt_at hlen ha hb i
  have hei := fun i s => @e_at pod podTo now to hlen ha hb i s
  have hD : D pod podTo now to ≤ 5 + 5 * now.length := by
    have := df_le pod podTo
    have := dl_le now to
    unfold D; omega
  rw [List.take_of_length_le (by omega)] at hst
  obtain ⟨e1, he1⟩ := stl_sl (allS pod podTo now to)
  rw [he1] at hst
  generalize allS pod podTo now to = S at *
  refine seq_on [(1, .ptr 0 0), (3, .pv (.sl e1 S.length (flat sc S)))] [(HObj.pcells (stC pod podTo x y now to most))] ?_ (fun r => ?_)
  · refine hgetK_has (HObj.pcells (stC pod podTo x y now to most)) rfl ?_
    refine secK_has (v := stC pod podTo x y now to most) rfl (Nat.le_refl 13) ?_
    refine callPK_has hst ?_
    (refine Has.intro ⟨rfl, ?_, rfl⟩; (repeat (first | exact trivial | refine ⟨rfl, ?_⟩)))
  refine seq_on [(1, .ptr 0 0), (3, .pv (.sl e1 S.length (flat sc S)))] [(HObj.pcells (stC pod podTo x y now to most))] ?_ (fun r => ?_)
  · ((refine hgetK_has (HObj.pcells (stC pod podTo x y now to most)) rfl ?_); refine getK_has rfl ?_)
    refine callPK_has (most_ok _) ?_
    refine boolK_dec_f (by
      have : clampN (now.length : Int) = now.length := by unfold clampN; omega
      rw [this]; omega) ?_
    (refine Has.intro ⟨rfl, ?_, rfl⟩; (repeat (first | exact trivial | refine ⟨rfl, ?_⟩)))
  refine seq_st (σ := Heap × Nat) (fun s => [(1, .ptr 0 0), (3, .pv (.sl e1 S.length (flat sc S))), (4, .ptr s.2 0), (5, .pv (.sl x now.length (kns now)))]) (fun s => s.1)
    (fun s => hget s.1 0 = (HObj.pcells (stC pod podTo x y now to most)) ∧ hget s.1 s.2 = .pcells (kn pod) ∧ s.2 ≠ 0) ?_ (fun ⟨H, p⟩ ⟨h0, hp, hp0⟩ r => ?_)
  · ((refine hgetK_has (HObj.pcells (stC pod podTo x y now to most)) rfl ?_); refine secK_has (v := kn pod) rfl (by show 5 ≤ 13; decide) ?_)
    ((refine hgetK_has (HObj.pcells (stC pod podTo x y now to most)) rfl ?_); refine getK_has rfl ?_)
    refine hgetK_has _ rfl ?_
    refine needK_has rfl ?_
    refine eqK_has_eq (kn pod) rfl ?_
    refine sameK_has rfl rfl ?_
    refine Has.intro ⟨rfl, ([(HObj.pcells (stC pod podTo x y now to most)), .pcells (kn pod)], 1), ⟨rfl, rfl, Nat.one_ne_zero⟩, ⟨rfl, rfl, rfl, rfl, trivial⟩, rfl⟩
  dsimp only at h0 hp hp0 ⊢
  have hwl := fun i => walk_len (S.take i) pod now
  refine seq_st (σ := Heap × Ext) (fun s => [(1, .ptr 0 0), (4, .ptr p 0), (5, .pv (.sl s.2 (walk pod now S).2.length (kns (walk pod now S).2)))]) (fun s => s.1)
    (fun s => hget s.1 0 = (HObj.pcells (stC pod podTo x y now to most)) ∧ hget s.1 p = .pcells (kn (walk pod now S).1)) ?_ (fun ⟨H, ex⟩ ⟨h0, hp⟩ r => ?_)
  · refine loopK_has ?_
    refine iterE_loop (σ := Nat × Ext × Heap) (fun s => S.length - s.1) (fun s => [(1, .ptr 0 0), (4, .ptr p 0), (5, .pv (.sl s.2.1 (walk pod now (S.take s.1)).2.length (kns (walk pod now (S.take s.1)).2))), (53, .pv (.sl e1 S.length (flat sc S))), (54, .pv (.int .i64 S.length)), (55, .pv (.int .i64 s.1))]) (fun s => s.2.2)
      (fun s => s.1 ≤ S.length ∧ okX s.2.1 (walk pod now (S.take s.1)).2 ∧ hget s.2.2 0 = (HObj.pcells (stC pod podTo x y now to most)) ∧ hget s.2.2 p = .pcells (kn (walk pod now (S.take s.1)).1)) (fun ⟨i, ex, H⟩ ⟨hi, hex, h0, hp⟩ r => ?_) (0, x, H) ⟨Nat.zero_le _, hx, h0, hp⟩ ⟨rfl, rfl, rfl, rfl, rfl, rfl, trivial⟩ rfl
    dsimp only at hi hex h0 hp ⊢
    rcases Nat.lt_or_ge i S.length with hlt | hge
    · obtain ⟨s, hs⟩ : ∃ s, S[i]? = some s := ⟨_, List.getElem?_eq_getElem hlt⟩
      obtain ⟨g1, g2⟩ := flat_get sc_len hs
      have hwi := hwl i
      have hnext := walk_take (pod := pod) (now := now) hs
      have he := hei i s hs
      have hap1 := hapi (i + 1) hlt
      rw [hnext] at hap1
      have k0 := keep2 (.pcells [.int .i64 0, .int .i64 0, .int .i64 0]) (.pcells (sc s)) h0 ((by intro h; cases h))
      have kp := keep2 (.pcells [.int .i64 0, .int .i64 0, .int .i64 0]) (.pcells (sc s)) hp ((by intro h; cases h))
      have kq := hget_hset_same (H := H ++ [HObj.pcells [.int .i64 0, .int .i64 0, .int .i64 0]]) (id := H.length) (.pcells (sc s)) (by simp)
      refine boolK_dec_t (by omega) ?_
      refine needK_has (by (first | rfl | (simp; done) | (simp; omega))) ?_
      refine secK_has g1 g2 ?_
      refine hgetK_last ?_
      refine needK_has rfl ?_
      refine eqK_has_eq (sc s) rfl ?_
      generalize hset (H ++ [HObj.pcells [.int .i64 0, .int .i64 0, .int .i64 0]]) H.length (.pcells (sc s)) = H2 at *
      generalize H.length = q at *
      generalize hWW : walk pod now (S.take i) = W at *
      have hal2 := ap_len W.1 W.2 s
      have hwl2 : W.2.length ≤ 12 := by omega
      have hcall := apply_ok W.1 ex W.2 hex (by omega) s
      by_cases hw : s.who = -1
      focus
        have he0 : wr root W.1 W.2 0 s.f s.n = 0 := by
          unfold stepE at he; rw [if_pos hw] at he; exact he
        have hwr := rwrite_ok root W.1 ex W.2 (by rw [maxLen_eq]; omega) 0 s.f s.n
        rw [he0] at hwr
        (refine hgetK_has _ kq ?_; refine getK_has rfl ?_)
        refine boolK_beq_t hw ?_
        refine callPK_has root_ok ?_
        (refine hgetK_has _ kp ?_; refine secK_has (v := kn W.1) rfl (Nat.le_refl 5) ?_)
        (refine hgetK_has _ kq ?_; refine getK_has rfl ?_)
        (refine hgetK_has _ kq ?_; refine getK_has rfl ?_)
        refine callPK_has hwr ?_
      rotate_right
      focus
        have hr : 0 ≤ s.who ∧ s.who < W.2.length := by
          unfold stepE at he
          rw [if_neg hw] at he
          split at he
          · assumption
          · cases he
        obtain ⟨k, hk⟩ : ∃ k, W.2[s.who.toNat]? = some k := ⟨W.2[s.who.toNat]'(by omega), List.getElem?_eq_getElem (by omega)⟩
        obtain ⟨f1, f2⟩ := kns_get hk
        have he0 : wr W.1 k [] 0 s.f s.n = 0 := by
          unfold stepE at he; rw [if_neg hw, if_pos hr, gt_eq hk] at he; exact he
        have hwr := rwrite_ok W.1 k .nil [] (by rw [maxLen_eq]; simp) 0 s.f s.n
        rw [he0] at hwr
        (refine hgetK_has _ kq ?_; refine getK_has rfl ?_)
        refine boolK_beq_f hw ?_
        (refine hgetK_has _ kq ?_; refine getK_has rfl ?_)
        refine boolK_dec_t hr.1 ?_
        (refine hgetK_has _ kq ?_; refine getK_has rfl ?_)
        refine boolK_dec_t hr.2 ?_
        (refine hgetK_has _ kp ?_; refine secK_has (v := kn W.1) rfl (Nat.le_refl 5) ?_)
        (refine hgetK_has _ kq ?_; refine getK_has rfl ?_)
        refine needK_has (by simp; omega) ?_
        refine secK_has f1 f2 ?_
        (refine hgetK_has _ kq ?_; refine getK_has rfl ?_)
        (refine hgetK_has _ kq ?_; refine getK_has rfl ?_)
        refine callPK_has hwr ?_
      all_goals
        (refine hgetK_has _ kp ?_; refine secK_has (v := kn W.1) rfl (Nat.le_refl 5) ?_)
        refine hgetK_has _ kq ?_
        refine secK_has (v := sc s) rfl (Nat.le_refl 3) ?_
        refine callPK_has hcall ?_
        refine hgetK_has _ kp ?_
        refine needK_has rfl ?_
        refine eqK_has_eq (kn (ap W.1 W.2 s).1) rfl ?_
        refine boolK_bne_f rfl ?_
        refine hgetK_has _ (hget_hset_same _ (hget_lt kp ((by intro h; cases h)))) ?_
        refine secK_has (v := kn (ap W.1 W.2 s).1) rfl (Nat.le_refl 5) ?_
        have hapt3 := apt_ok (ap W.1 W.2 s).1 (cpx ex W.2) (ap W.1 W.2 s).2 (by rw [maxLen_eq]; omega)
        rw [hal2] at hapt3
        refine callPK_dec_t hapt3 hap1 ?_
        refine eqK_has_eq _ (i64_succ (by omega)) ?_
        refine Has.intro ⟨(i + 1, cpx ex W.2, hset H2 p (.pcells (kn (ap W.1 W.2 s).1))), ⟨hlt, ?_, (hget_hset_ne _ _ (fun e => hp0 e.symm)).trans k0, ?_⟩, by dsimp only; omega, ⟨rfl, rfl, ?_, rfl, rfl, rfl, trivial⟩, rfl⟩
        · dsimp only
          rw [hnext]
          exact okX_len (cpx_ok ex W.2) hal2
        · dsimp only
          rw [hnext]
          exact hget_hset_same _ (hget_lt kp ((by intro h; cases h)))
        · dsimp only
          rw [hnext, hal2]; rfl
    · have : i = S.length := by omega
      subst this
      rw [List.take_length] at hp ⊢
      refine boolK_dec_f (by omega) ?_
      refine Has.intro ?_
      exact Has.intro ⟨rfl, (H, ex), ⟨h0, hp⟩, ⟨rfl, rfl, rfl, trivial⟩, rfl⟩
  dsimp only at h0 hp ⊢
  rw [hend] at hp ⊢
  refine hgetK_has _ hp ?_
  refine secK_has (v := kn podTo) rfl (Nat.le_refl 5) ?_
  refine hgetK_has _ h0 ?_
  refine secK_has (v := kn podTo) rfl (by show 10 ≤ 13; decide) ?_
  refine bindK_has (aggK _ _) ?_
  refine boolK_has_true (decide_eq_true rfl) ?_
  refine hgetK_has _ h0 ?_
  refine getK_has rfl ?_
  have hsame := same_ok ex y to to (by omega)
  rw [decide_eq_true rfl] at hsame
  refine callPK_has hsame ?_
  exact Has.intro rfl
end Go.Proofs.Ytaiomdfajdeacaa
