/-
  SpecPods in the abstract machine.
-/
import Derived.Test.YtnnhkkocdgegfaaSpAA
set_option linter.all false
set_option linter.unusedVariables false
set_option linter.unusedSimpArgs false
set_option linter.unusedSectionVars false
namespace Go.Proofs.Ytnnhkkocdgegfaa
open Go Go.VM

theorem psl_some (n : Nat) (cs : List PV) : ∃ e, psl .nil n cs = .sl e n cs := ⟨_, rfl⟩
theorem vc_eq (v : Vc) : aggEq [.i, .i, .i] (vc v) (vc v) = some true := by
  show some _ = _
  simp
theorem b3_eq (q : B3) : aggEq [.b, .b, .b] (b3 q) (b3 q) = some true := by
  show some _ = _
  simp
set_option maxRecDepth 20000 in
set_option maxHeartbeats 8000000 in
theorem pods_law (ps : List PV) (h : HasArgs [TPd, TPd, .str] ps) : ∃ H', EE env (.fn 4) (ps.map .pv) [] = some (.pv (.bool true), H') := by
  obtain ⟨p1, _, rfl, h1, p2, _, rfl, h2, p3, _, rfl, h3, rfl⟩ := h
  obtain ⟨a, x, rfl, hsa⟩ := arg_pd h1
  obtain ⟨b, y, rfl, hsb⟩ := arg_pd h2
  obtain ⟨s, rfl, hs⟩ := arg_str h3
  refine law_end (EE_has (fn_has rfl ?_))
  refine seq_on [(2, .pv (sv s)), (3, .ptr 0 0), (4, .ptr 1 0)] [.pcells (pdc a x), .pcells (pdc b y)] (by (refine Has.intro ⟨rfl, ?_, rfl⟩; (repeat (first | exact trivial | refine ⟨rfl, ?_⟩)))) (fun r => ?_)
  refine seq_on [(2, .pv (sv s)), (3, .ptr 0 0), (4, .ptr 1 0)] [.pcells (pdc a x), .pcells (pdc b y)] ?_ (fun r => ?_)
  · refine callPK_has first_ok ?_
    (refine Has.intro ⟨rfl, ?_, rfl⟩; (repeat (first | exact trivial | refine ⟨rfl, ?_⟩)))
  refine seq_if [(6, .pv (.bool true))] True [(2, .pv (sv s)), (3, .ptr 0 0), (4, .ptr 1 0)] (a.l.length ≤ 51 ∧ b.l.length ≤ 51) [.pcells (pdc a x), .pcells (pdc b y)] ?_ (fun h r => Has.intro rfl) (fun ⟨hla, hlb⟩ r => ?_)
  · obtain ⟨n1, g1, l1⟩ := great_ok x a hsa
    obtain ⟨n2, g2, l2⟩ := great_ok y b hsb
    have k0 : hget [HObj.pcells (pdc a x), HObj.pcells (pdc b y)] 0 = .pcells (pdc a x) := rfl
    have k1 : hget [HObj.pcells (pdc a x), HObj.pcells (pdc b y)] 1 = .pcells (pdc b y) := rfl
    (refine hgetK_has _ k0 ?_; refine secK_has (v := pdc a x) rfl (of_decide_eq_true rfl) ?_)
    refine callPK_has g1 ?_
    (refine hgetK_has _ k1 ?_; refine secK_has (v := pdc b y) rfl (of_decide_eq_true rfl) ?_)
    refine callPK_has g2 ?_
    refine eqK_has_eq (if n2 > n1 then n2 else n1) rfl ?_
    refine boolK_dec (fun h4 => ?_) (fun h4 => ?_)
    · exact Has.intro (.inl ⟨rfl, ⟨rfl, trivial⟩, rfl, trivial⟩)
    refine boolK_dec (fun h5 => ?_) (fun h5 => ?_)
    · exact Has.intro (.inl ⟨rfl, ⟨rfl, trivial⟩, rfl, trivial⟩)
    · have : n1 ≤ 2000 ∧ n2 ≤ 2000 := by split at h4 <;> omega
      exact Has.intro (.inr ⟨rfl, ⟨rfl, rfl, rfl, trivial⟩, rfl, l1 this.1, l2 this.2⟩)
  have hs3 : sum3 a.l = .tup [.agg (vc ((sumV (rqs a.l)).getD v0)), .agg (vc ((sumV (lms a.l)).getD v0)), .bool ((sumV (rqs a.l)).isSome && (sumV (lms a.l)).isSome)] := rfl
  have hls := lsums_ok x a (by omega)
  have hrq := req_ok x a (by omega)
  refine seq_st (σ := Nat × Heap) (fun s' => [(2, .pv (sv s)), (3, .ptr 0 0), (4, .ptr 1 0), (7, .ptr s'.1 0)]) (fun s' => s'.2)
    (fun s' => hget s'.2 0 = .pcells (pdc a x) ∧ hget s'.2 1 = .pcells (pdc b y) ∧ hget s'.2 s'.1 = .pcells (vc ((sumV (rqs a.l)).getD v0)) ∧ 1 < s'.1) ?_ (fun ⟨n7, G⟩ ⟨k0, k1, k7, hn⟩ r => ?_)
  · refine hgetK_has (.pcells (pdc a x)) rfl ?_
    refine secK_has (v := pdc a x) rfl (of_decide_eq_true rfl) ?_
    refine callSK_has' ((rsums_ok _ a (by omega) [HObj.pcells (pdc a x), HObj.pcells (pdc b y)] (.inl ⟨x, rfl⟩)).mono fun y' hy => ?_)
    obtain ⟨v, G⟩ := y'
    obtain ⟨rfl, hK⟩ := hy
    have k0 : hget G 0 = .pcells (pdc a x) := hK.2 _ _ rfl ((by intro h; cases h)) ((fun _ _ h => by cases h))
    have k1 : hget G 1 = .pcells (pdc b y) := hK.2 _ _ rfl ((by intro h; cases h)) ((fun _ _ h => by cases h))
    have hn : 2 ≤ G.length := hK.1
    dsimp only
    rw [hs3]
    generalize (sumV (rqs a.l)).getD v0 = w1 at *
    generalize (sumV (lms a.l)).getD v0 = w2 at *
    have e7 : hget (G ++ [HObj.pcells ([PV.int IntKind.i64 0, PV.int IntKind.i64 0, PV.int IntKind.i64 0])] ++ [HObj.pcells ([PV.int IntKind.i64 0, PV.int IntKind.i64 0, PV.int IntKind.i64 0])]) G.length = .pcells ([PV.int IntKind.i64 0, PV.int IntKind.i64 0, PV.int IntKind.i64 0]) := (hget_app _ (by simp)).trans (hget_append_same G _)
    have hb (o : Nat) (ho : o < G.length) : hget (G ++ [HObj.pcells ([PV.int IntKind.i64 0, PV.int IntKind.i64 0, PV.int IntKind.i64 0])] ++ [HObj.pcells ([PV.int IntKind.i64 0, PV.int IntKind.i64 0, PV.int IntKind.i64 0])]) o = hget G o := (hget_app _ (by simp; omega)).trans (hget_app _ ho)
    refine hgetK_has _ e7 ?_
    refine needK_has rfl ?_
    refine eqK_has_eq (vc w1) rfl ?_
    have e8 : hget (hset (G ++ [HObj.pcells ([PV.int IntKind.i64 0, PV.int IntKind.i64 0, PV.int IntKind.i64 0])] ++ [HObj.pcells ([PV.int IntKind.i64 0, PV.int IntKind.i64 0, PV.int IntKind.i64 0])]) G.length (.pcells (vc w1))) (G ++ [HObj.pcells ([PV.int IntKind.i64 0, PV.int IntKind.i64 0, PV.int IntKind.i64 0])]).length = .pcells ([PV.int IntKind.i64 0, PV.int IntKind.i64 0, PV.int IntKind.i64 0]) := (hget_hset_ne _ _ (by simp)).trans (hget_append_same _ _)
    refine hgetK_has _ e8 ?_
    refine needK_has rfl ?_
    refine eqK_has_eq (vc w2) rfl ?_
    have hn8 : (G ++ [HObj.pcells ([PV.int IntKind.i64 0, PV.int IntKind.i64 0, PV.int IntKind.i64 0])]).length = G.length + 1 := by simp
    refine Has.intro ⟨rfl, (G.length, _), ⟨?_, ?_, ?_, hn⟩, ⟨rfl, rfl, rfl, rfl, trivial⟩, rfl⟩
    · exact (hget_hset_ne _ _ (by omega)).trans ((hget_hset_ne _ _ (by omega)).trans ((hb _ (by omega)).trans k0))
    · exact (hget_hset_ne _ _ (by omega)).trans ((hget_hset_ne _ _ (by omega)).trans ((hb _ (by omega)).trans k1))
    · exact (hget_hset_ne _ _ (by omega)).trans (hget_hset_same _ (hget_lt e7 ((by intro h; cases h))))
  dsimp only at k0 k1 k7 hn ⊢
  refine seq_st (σ := Heap) (fun _ => [(2, .pv (sv s)), (3, .ptr 0 0), (4, .ptr 1 0), (7, .ptr n7 0)]) (fun s' => s')
    (fun s' => hget s' 0 = .pcells (pdc a x) ∧ hget s' 1 = .pcells (pdc b y) ∧ hget s' n7 = .pcells (vc ((sumV (rqs a.l)).getD v0))) ?_ (fun G ⟨k0, k1, k7⟩ r => ?_)
  · (refine hgetK_has _ k0 ?_; refine secK_has (v := pdc a x) rfl (of_decide_eq_true rfl) ?_)
    refine callPK_has hls ?_
    generalize sumV (rqs a.l) = o1 at *
    cases o1 with
    | none =>
      refine hgetK_has _ k7 ?_
      refine needK_has rfl ?_
      refine eqK_has_eq (vc v0) rfl ?_
      exact Has.intro ⟨rfl, _, ⟨(hget_hset_ne _ _ (by omega)).trans k0, (hget_hset_ne _ _ (by omega)).trans k1, hget_hset_same _ (hget_lt k7 ((by intro h; cases h)))⟩, ⟨rfl, rfl, rfl, rfl, trivial⟩, rfl⟩
    | some w =>
      exact Has.intro ⟨rfl, G, ⟨k0, k1, k7⟩, ⟨rfl, rfl, rfl, rfl, trivial⟩, rfl⟩
  obtain ⟨k, hk⟩ : ∃ k, k = findI s a.l := ⟨_, rfl⟩
  refine seq_st (σ := Heap) (fun _ => [(2, .pv (sv s)), (3, .ptr 0 0), (4, .ptr 1 0), (7, .ptr n7 0), (10, .pv (.int .i64 (if 0 > k then 0 else k))), (11, .pv (.bool (decide (k ≥ 0))))]) (fun s' => s')
    (fun s' => hget s' 0 = .pcells (pdc a x) ∧ hget s' 1 = .pcells (pdc b y) ∧ hget s' n7 = .pcells (vc ((sumV (rqs a.l)).getD v0))) ?_ (fun G1 ⟨k0, k1, k7⟩ r => ?_)
  · (refine hgetK_has _ k0 ?_; refine secK_has (v := pdc a x) rfl (of_decide_eq_true rfl) ?_)
    refine callSK_has' ((find_ok _ a hsa.2.1 s G (.inl ⟨x, rfl⟩)).mono fun y' hy => ?_)
    obtain ⟨v, H'⟩ := y'
    obtain ⟨rfl, J, rfl⟩ := hy
    rw [hk]
    exact Has.intro ⟨rfl, _, ⟨(hget_app J (hget_lt k0 ((by intro h; cases h)))).trans k0, (hget_app J (hget_lt k1 ((by intro h; cases h)))).trans k1, (hget_app J (hget_lt k7 ((by intro h; cases h)))).trans k7⟩, ⟨rfl, rfl, rfl, rfl, rfl, rfl, trivial⟩, rfl⟩
  refine seq_on [(3, .ptr 0 0), (4, .ptr 1 0), (7, .ptr n7 0), (10, .pv (.int .i64 (if 0 > k then 0 else k))), (11, .pv (.bool (decide (k ≥ 0)))), (12, .pv (.int .i64 k))] G1 ?_ (fun r => ?_)
  · (refine hgetK_has _ k0 ?_; refine secK_has (v := pdc a x) rfl (of_decide_eq_true rfl) ?_)
    refine callPK_has (rfind_ok x a hsa.2.1 s) ?_
    rw [hk]
    exact Has.intro ⟨rfl, ⟨rfl, rfl, rfl, rfl, rfl, rfl, trivial⟩, rfl⟩
  clear hk
  have hrg (w : Vc) (hw : w = (sumV (rqs a.l)).getD v0) := hw
  generalize hK0 : (if 0 > k then 0 else k) = kk at *
  generalize hK1 : decide (k ≥ 0) = kb at *
  refine seq_st (σ := Heap) (fun _ => [(3, .ptr 0 0), (4, .ptr 1 0)]) (fun s' => s')
    (fun s' => hget s' 0 = .pcells (pdc a x) ∧ hget s' 1 = .pcells (pdc b y)) ?_ (fun G5 ⟨n0, n1⟩ r => ?_)
  · refine hgetK_has _ k0 ?_
    refine secK_has (v := pdc a x) rfl (of_decide_eq_true rfl) ?_
    refine callSK_has' ((pod_ok _ a hsa G1 (.inl ⟨x, rfl⟩)).mono fun y' hy => ?_)
    obtain ⟨v, G2⟩ := y'
    obtain ⟨rfl, hK⟩ := hy
    have j0 := hK.2 _ _ k0 ((by intro h; cases h)) ((fun _ _ h => by cases h))
    have j1 := hK.2 _ _ k1 ((by intro h; cases h)) ((fun _ _ h => by cases h))
    have j7 := hK.2 _ _ k7 ((by intro h; cases h)) ((fun _ _ h => by cases h))
    dsimp only at j0 j1 j7 ⊢
    refine hgetK_has _ j0 ?_
    refine secK_has (v := pdc a x) rfl (of_decide_eq_true rfl) ?_
    refine callSK_has' ((rpod_ok _ a hsa G2 (.inl ⟨x, rfl⟩)).mono fun y' hy => ?_)
    obtain ⟨v, G3⟩ := y'
    obtain ⟨rfl, hK⟩ := hy
    have i0 := hK.2 _ _ j0 ((by intro h; cases h)) ((fun _ _ h => by cases h))
    have i1 := hK.2 _ _ j1 ((by intro h; cases h)) ((fun _ _ h => by cases h))
    have i7 := hK.2 _ _ j7 ((by intro h; cases h)) ((fun _ _ h => by cases h))
    dsimp only at i0 i1 i7 ⊢
    refine boolK_has_false (by rw [beq_self_eq_true]; rfl) ?_
    refine hgetK_has _ i0 ?_
    refine secK_has (v := pdc a x) rfl (of_decide_eq_true rfl) ?_
    refine callSK_has' ((class_ok _ a hsa.2.1 G3 (.inl ⟨x, rfl⟩)).mono fun y' hy => ?_)
    obtain ⟨v, G4⟩ := y'
    obtain ⟨rfl, hK⟩ := hy
    have m0 := hK.2 _ _ i0 ((by intro h; cases h)) ((fun _ _ h => by cases h))
    have m1 := hK.2 _ _ i1 ((by intro h; cases h)) ((fun _ _ h => by cases h))
    have m7 := hK.2 _ _ i7 ((by intro h; cases h)) ((fun _ _ h => by cases h))
    dsimp only at m0 m1 m7 ⊢
    refine hgetK_has _ m0 ?_
    refine secK_has (v := pdc a x) rfl (of_decide_eq_true rfl) ?_
    refine callSK_has' ((rclass_ok _ a hsa.2.1 G4 (.inl ⟨x, rfl⟩)).mono fun y' hy => ?_)
    obtain ⟨v, G5⟩ := y'
    obtain ⟨rfl, hK⟩ := hy
    have n0 := hK.2 _ _ m0 ((by intro h; cases h)) ((fun _ _ h => by cases h))
    have n1 := hK.2 _ _ m1 ((by intro h; cases h)) ((fun _ _ h => by cases h))
    have n7' := hK.2 _ _ m7 ((by intro h; cases h)) ((fun _ _ h => by cases h))
    dsimp only at n0 n1 n7' ⊢
    refine boolK_bne_f rfl ?_
    refine hgetK_has _ n0 ?_
    refine secK_has (v := pdc a x) rfl (of_decide_eq_true rfl) ?_
    refine callPK_has hrq ?_
    refine hgetK_has _ n7' ?_
    refine secK_has (v := vc ((sumV (rqs a.l)).getD v0)) rfl (of_decide_eq_true rfl) ?_
    refine bindK_has (vc_eq _) ?_
    refine boolK_has_false rfl ?_
    refine boolK_has_eq (c := kb) hK1 ?_
    refine boolK_has_false (by rw [beq_self_eq_true]; rfl) ?_
    refine eqK_has_eq kk hK0 ?_
    refine boolK_bne_f rfl ?_
    refine hgetK_has _ n0 ?_
    refine secK_has (v := pdc a x) rfl (of_decide_eq_true rfl) ?_
    refine hgetK_has _ n1 ?_
    refine secK_has (v := pdc b y) rfl (of_decide_eq_true rfl) ?_
    refine callPK_has (same_ok x y a b hsa.2.1) ?_
    refine hgetK_has _ n0 ?_
    refine secK_has (v := pdc a x) rfl (of_decide_eq_true rfl) ?_
    refine hgetK_has _ n1 ?_
    refine secK_has (v := pdc b y) rfl (of_decide_eq_true rfl) ?_
    refine callPK_has (rsame_ok x y a b hsa.2.1) ?_
    refine boolK_has_false (by rw [beq_self_eq_true]; rfl) ?_
    refine sameK_has (by rw [k0, j0]) (by rw [k0]; rfl) ?_
    refine sameK_has (by rw [i0, m0]) (by rw [i0]; rfl) ?_
    exact Has.intro ⟨rfl, G5, ⟨n0, n1⟩, ⟨rfl, rfl, trivial⟩, rfl⟩
  obtain ⟨e1, he1⟩ := psl_some a.l.length (flat b3 (a.l.map (chg b.l)))
  obtain ⟨e2, he2⟩ := psl_some (sel b.l a.l).length (flat s1 (sel b.l a.l))
  have hch := rchanged_ok x y a b (by omega) (by omega)
  have hre := restarts_ok x y a b (by omega) (by omega)
  have hrr := rrestarts_ok x y a b (by omega) (by omega)
  rw [he1] at hch
  rw [he2] at hre hrr
  refine seq_on [(3, .ptr 0 0), (4, .ptr 1 0), (13, .pv (.sl .nn a.l.length (flat b3 (a.l.map (chg b.l))))), (14, .pv (.sl e1 a.l.length (flat b3 (a.l.map (chg b.l)))))] G5 ?_ (fun r => ?_)
  · refine hgetK_has _ n0 ?_
    refine secK_has (v := pdc a x) rfl (of_decide_eq_true rfl) ?_
    refine hgetK_has _ n1 ?_
    refine secK_has (v := pdc b y) rfl (of_decide_eq_true rfl) ?_
    refine callPK_has (changed_ok x y a b (by omega) (by omega)) ?_
    refine hgetK_has _ n0 ?_
    refine secK_has (v := pdc a x) rfl (of_decide_eq_true rfl) ?_
    refine hgetK_has _ n1 ?_
    refine secK_has (v := pdc b y) rfl (of_decide_eq_true rfl) ?_
    refine callPK_has hch ?_
    exact Has.intro ⟨rfl, ⟨rfl, rfl, rfl, rfl, trivial⟩, rfl⟩
  refine seq_on [(13, .pv (.sl .nn a.l.length (flat b3 (a.l.map (chg b.l))))), (14, .pv (.sl e1 a.l.length (flat b3 (a.l.map (chg b.l))))), (15, .pv (.sl e2 (sel b.l a.l).length (flat s1 (sel b.l a.l)))), (16, .pv (.sl e2 (sel b.l a.l).length (flat s1 (sel b.l a.l))))] G5 ?_ (fun r => ?_)
  · refine hgetK_has _ n0 ?_
    refine secK_has (v := pdc a x) rfl (of_decide_eq_true rfl) ?_
    refine hgetK_has _ n1 ?_
    refine secK_has (v := pdc b y) rfl (of_decide_eq_true rfl) ?_
    refine callPK_has hre ?_
    refine hgetK_has _ n0 ?_
    refine secK_has (v := pdc a x) rfl (of_decide_eq_true rfl) ?_
    refine hgetK_has _ n1 ?_
    refine secK_has (v := pdc b y) rfl (of_decide_eq_true rfl) ?_
    refine callPK_has hrr ?_
    exact Has.intro ⟨rfl, ⟨rfl, rfl, rfl, rfl, trivial⟩, rfl⟩
  refine seq_on [(13, .pv (.sl .nn a.l.length (flat b3 (a.l.map (chg b.l))))), (14, .pv (.sl e1 a.l.length (flat b3 (a.l.map (chg b.l))))), (15, .pv (.sl e2 (sel b.l a.l).length (flat s1 (sel b.l a.l)))), (16, .pv (.sl e2 (sel b.l a.l).length (flat s1 (sel b.l a.l))))] G5 ?_ (fun r => ?_)
  · refine boolK_bne_f rfl ?_
    refine boolK_bne_f rfl ?_
    exact Has.intro ⟨rfl, ⟨rfl, rfl, rfl, rfl, trivial⟩, rfl⟩
  have hsl : (sel b.l a.l).length ≤ 51 := by
    have := sel_len b.l a.l a.l.length
    rw [List.take_of_length_le (Nat.le_refl _)] at this; omega
  refine seq_on [(15, .pv (.sl e2 (sel b.l a.l).length (flat s1 (sel b.l a.l)))), (16, .pv (.sl e2 (sel b.l a.l).length (flat s1 (sel b.l a.l))))] G5 ?_ (fun r => ?_)
  · refine loopK_has ?_
    refine iterE_loop (σ := Nat) (fun i => a.l.length - i) (fun i => [(13, .pv (.sl .nn a.l.length (flat b3 (a.l.map (chg b.l))))), (14, .pv (.sl e1 a.l.length (flat b3 (a.l.map (chg b.l))))), (15, .pv (.sl e2 (sel b.l a.l).length (flat s1 (sel b.l a.l)))), (16, .pv (.sl e2 (sel b.l a.l).length (flat s1 (sel b.l a.l)))), (115, .pv (.int .i64 a.l.length)), (116, .pv (.int .i64 i))]) (fun _ => G5)
      (fun i => i ≤ a.l.length) (fun i hi r => ?_) 0 (Nat.zero_le _) ⟨rfl, rfl, rfl, rfl, rfl, rfl, trivial⟩ rfl
    refine boolK_dec (fun hc => ?_) (fun hc => ?_)
    · have hlt : i < a.l.length := by omega
      obtain ⟨q, hq⟩ : ∃ q, (a.l.map (chg b.l))[i]? = some q := ⟨_, List.getElem?_eq_getElem (by simp; omega)⟩
      obtain ⟨g1, g2⟩ := flat_get b3_len hq
      refine needK_has (by (first | rfl | (simp; done) | (simp; omega))) ?_
      refine secK_has g1 g2 ?_
      refine needK_has (by (first | rfl | (simp; done) | (simp; omega))) ?_
      refine secK_has g1 g2 ?_
      refine bindK_has (b3_eq q) ?_
      refine boolK_has_false rfl ?_
      refine eqK_has_eq _ (i64_succ (by omega)) ?_
      exact Has.intro ⟨i + 1, hlt, by omega, ⟨rfl, rfl, rfl, rfl, rfl, rfl, trivial⟩, rfl⟩
    · exact Has.intro (Has.intro ⟨rfl, ⟨rfl, rfl, trivial⟩, rfl⟩)
  refine loopK_has ?_
  refine iterE_loop (σ := Nat) (fun i => (sel b.l a.l).length - i) (fun i => [(15, .pv (.sl e2 (sel b.l a.l).length (flat s1 (sel b.l a.l)))), (16, .pv (.sl e2 (sel b.l a.l).length (flat s1 (sel b.l a.l)))), (130, .pv (.int .i64 (sel b.l a.l).length)), (131, .pv (.int .i64 i))]) (fun _ => G5)
    (fun i => i ≤ (sel b.l a.l).length) (fun i hi r => ?_) 0 (Nat.zero_le _) ⟨rfl, rfl, rfl, rfl, trivial⟩ rfl
  refine boolK_dec (fun hc => ?_) (fun hc => ?_)
  · have hlt : i < (sel b.l a.l).length := by omega
    obtain ⟨q, hq⟩ : ∃ q, (sel b.l a.l)[i]? = some q := ⟨_, List.getElem?_eq_getElem hlt⟩
    have hc1 := flat_cell (j := 0) s1_len hq (by decide)
    refine needK_has (by (first | rfl | (simp; done) | (simp; omega))) ?_
    refine getK_has (v := sv q) (by rw [mulE_eq, Int.toNat_natCast]; exact hc1) ?_
    refine needK_has (by (first | rfl | (simp; done) | (simp; omega))) ?_
    refine getK_has (v := sv q) (by rw [mulE_eq, Int.toNat_natCast]; exact hc1) ?_
    refine boolK_has_eq (c := decide (q ≠ q)) (str_bne q q) ?_
    rw [decide_eq_false (fun h => h rfl)]
    refine eqK_has_eq _ (i64_succ (by omega)) ?_
    exact Has.intro ⟨i + 1, hlt, by omega, ⟨rfl, rfl, rfl, rfl, trivial⟩, rfl⟩
  · exact Has.intro (Has.intro rfl)
end Go.Proofs.Ytnnhkkocdgegfaa
