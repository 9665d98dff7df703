/-
  SpecKeeps in the abstract machine.
-/
import Derived.Test.YtnnhkkocdgegfaaSpAC
set_option linter.all false
set_option linter.unusedVariables false
set_option linter.unusedSimpArgs false
set_option linter.unusedSectionVars false
namespace Go.Proofs.Ytnnhkkocdgegfaa
open Go Go.VM

theorem fold_step {l : List Ch} {j : Nat} {f : Ch} (h : l[j]? = some f) (d : Ct) : (l.take (j + 1)).foldl stepC d = stepC ((l.take j).foldl stepC d) f := by
  rw [List.take_add_one, h, List.foldl_append]; rfl
set_option maxRecDepth 20000 in
set_option maxHeartbeats 8000000 in
theorem keeps_law (ps : List PV) (h : HasArgs [TPd, .sl 7 TCh] ps) : ∃ H', EE env (.fn 6) (ps.map .pv) [] = some (.pv (.bool true), H') := by
  obtain ⟨p1, _, rfl, h1, p2, _, rfl, h2, rfl⟩ := h
  obtain ⟨p, x, rfl, hs⟩ := arg_pd h1
  obtain ⟨y, l, rfl, hl⟩ := arg_chs h2
  have hlm := hl
  have hpm := hs.2.1
  rw [maxLen_eq] at hlm hpm
  refine law_end (EE_has (fn_has rfl ?_))
  refine seq_on [(1, .pv (.sl y l.length (flat chv l))), (2, .ptr 0 0)] [.pcells (pdc p x)] (by (refine Has.intro ⟨rfl, ?_, rfl⟩; (repeat (first | exact trivial | refine ⟨rfl, ?_⟩)))) (fun r => ?_)
  refine seq_on [(1, .pv (.sl y l.length (flat chv l))), (2, .ptr 0 0)] [.pcells (pdc p x)] ?_ (fun r => ?_)
  · refine callPK_has first_ok ?_
    (refine Has.intro ⟨rfl, ?_, rfl⟩; (repeat (first | exact trivial | refine ⟨rfl, ?_⟩)))
  refine seq_if [(4, .pv (.bool true))] True [(1, .pv (.sl y l.length (flat chv l))), (2, .ptr 0 0)] True [.pcells (pdc p x)] ?_ (fun h r => Has.intro rfl) (fun _ r => ?_)
  · obtain ⟨n1, g1, l1⟩ := great_ok x p hs
    refine hgetK_has (.pcells (pdc p x)) rfl ?_
    refine secK_has (v := pdc p x) rfl (of_decide_eq_true rfl) ?_
    refine callPK_has g1 ?_
    refine boolK_dec (fun h4 => ?_) (fun h4 => ?_)
    · exact Has.intro (.inl ⟨rfl, ⟨rfl, trivial⟩, rfl, trivial⟩)
    refine boolK_dec (fun h5 => ?_) (fun h5 => ?_)
    · exact Has.intro (.inl ⟨rfl, ⟨rfl, trivial⟩, rfl, trivial⟩)
    · exact Has.intro (.inr ⟨rfl, ⟨rfl, rfl, trivial⟩, rfl, trivial⟩)
  have hsq := rz_small (l := l) hs
  have hr1 := resize_ok x y p l hs hl
  have herr := @rzP_err p l
  have hok (q : Pd) := @rzP_ok p q l
  generalize rzP p l = w at *
  obtain ⟨e, q⟩ := w
  refine seq_st (σ := Ext) (fun _ => [(1, .pv (.sl y l.length (flat chv l))), (2, .ptr 0 0), (5, .ptr 1 0), (6, .pv (.int .i64 e))]) (fun z => [.pcells (pdc p x), .pcells (pdc q z)]) (fun _ => True) ?_ (fun z _ r => ?_)
  · refine hgetK_has (.pcells (pdc p x)) rfl ?_
    refine secK_has (v := pdc p x) rfl (of_decide_eq_true rfl) ?_
    refine callPK_has' (hr1.mono fun v hv => ?_)
    obtain ⟨z, rfl⟩ := hv
    refine hgetK_has _ rfl ?_
    refine needK_has rfl ?_
    refine eqK_has_eq (pdc q z) rfl ?_
    exact Has.intro ⟨rfl, z, trivial, ⟨rfl, rfl, rfl, rfl, trivial⟩, rfl⟩
  refine seq_if [(4, .pv (.bool true))] True [(1, .pv (.sl y l.length (flat chv l))), (2, .ptr 0 0), (5, .ptr 1 0)] (e = 0) [.pcells (pdc p x), .pcells (pdc q z)] ?_ (fun h r => Has.intro rfl) (fun he r => ?_)
  · refine boolK_bne (fun he => ?_) (fun he => ?_)
    · have hq : q = pz := herr he
      subst hq
      refine hgetK_has (.pcells (pdc pz z)) rfl ?_
      refine getK_has rfl ?_
      refine boolK_beq_t rfl ?_
      exact Has.intro (.inl ⟨rfl, ⟨rfl, trivial⟩, rfl, trivial⟩)
    · exact Has.intro (.inr ⟨rfl, ⟨rfl, rfl, rfl, trivial⟩, rfl, he⟩)
  obtain ⟨hp, hne, hq, hcl, M, hM, hqM⟩ := hok q (by rw [he])
  subst hqM
  have hN := rzF_names hM
  have hMl := names_len hN
  have hall := rzF_all (fun i c hc => (hp.2.2.2.2.1 i c hc).1) rfl hM
  clear hok herr hr1
  refine seq_st (σ := Heap) (fun _ => [(1, .pv (.sl y l.length (flat chv l))), (2, .ptr 0 0), (5, .ptr 1 0)]) (fun s => s) (fun s => hget s 0 = .pcells (pdc p x) ∧ hget s 1 = .pcells (pdc (wl p M) z)) ?_ (fun G ⟨k0, k1⟩ r => ?_)
  · refine hgetK_has (.pcells (pdc (wl p M) z)) rfl ?_
    refine secK_has (v := pdc (wl p M) z) rfl (of_decide_eq_true rfl) ?_
    refine callSK_has' ((pod_ok _ (wl p M) hsq [.pcells (pdc p x), .pcells (pdc (wl p M) z)] (.inl ⟨z, rfl⟩)).mono fun y' hy => ?_)
    obtain ⟨v, G⟩ := y'
    obtain ⟨rfl, hK⟩ := hy
    have k0 : hget G 0 = .pcells (pdc p x) := hK.2 _ _ rfl ((by intro h; cases h)) ((fun _ _ h => by cases h))
    have k1 : hget G 1 = .pcells (pdc (wl p M) z) := hK.2 _ _ rfl ((by intro h; cases h)) ((fun _ _ h => by cases h))
    dsimp only at k0 k1 ⊢
    clear hK
    rw [show decide (podP (wl p M)) = true from decide_eq_true hq]
    refine hgetK_has _ k1 ?_
    refine secK_has (v := pdc (wl p M) z) rfl (of_decide_eq_true rfl) ?_
    refine callSK_has' ((class_ok _ (wl p M) hsq.2.1 G (.inl ⟨z, rfl⟩)).mono fun y' hy => ?_)
    obtain ⟨v, G2⟩ := y'
    obtain ⟨rfl, hK⟩ := hy
    have j0 := hK.2 _ _ k0 ((by intro h; cases h)) ((fun _ _ h => by cases h))
    have j1 := hK.2 _ _ k1 ((by intro h; cases h)) ((fun _ _ h => by cases h))
    dsimp only at j0 j1 ⊢
    refine hgetK_has _ j0 ?_
    refine secK_has (v := pdc p x) rfl (of_decide_eq_true rfl) ?_
    refine callSK_has' ((class_ok _ p hs.2.1 G2 (.inl ⟨x, rfl⟩)).mono fun y' hy => ?_)
    obtain ⟨v, G3⟩ := y'
    obtain ⟨rfl, hK⟩ := hy
    have i0 := hK.2 _ _ j0 ((by intro h; cases h)) ((fun _ _ h => by cases h))
    have i1 := hK.2 _ _ j1 ((by intro h; cases h)) ((fun _ _ h => by cases h))
    dsimp only at i0 i1 ⊢
    refine boolK_bne_f hcl ?_
    refine hgetK_has _ i1 ?_
    refine getK_has rfl ?_
    refine hgetK_has _ i0 ?_
    refine getK_has rfl ?_
    refine boolK_has_eq (c := false) ((str_bne p.name p.name).trans (decide_eq_false (fun h => h rfl))) ?_
    refine hgetK_has _ i1 ?_
    refine getK_has rfl ?_
    refine hgetK_has _ i0 ?_
    refine getK_has rfl ?_
    refine boolK_bne_f rfl ?_
    refine hgetK_has _ i1 ?_
    refine getK_has rfl ?_
    refine hgetK_has _ i0 ?_
    refine getK_has rfl ?_
    refine boolK_bne_f rfl ?_
    refine hgetK_has _ i1 ?_
    refine getK_has rfl ?_
    refine hgetK_has _ i0 ?_
    refine getK_has rfl ?_
    refine boolK_bne_f (show ((M.length : Nat) : Int) = p.l.length by rw [hMl]) ?_
    refine sameK_has (by rw [k0, j0]) (by rw [k0]; rfl) ?_
    exact Has.intro ⟨rfl, G3, ⟨i0, i1⟩, ⟨rfl, rfl, rfl, trivial⟩, rfl⟩
  refine hgetK_has _ k1 ?_
  refine getK_has (v := .sl z M.length (flat ct M)) rfl ?_
  refine loopK_has ?_
  refine iterE_loop (σ := Nat × Heap) (fun s => M.length - s.1) (fun s => [(1, .pv (.sl y l.length (flat chv l))), (2, .ptr 0 0), (75, .pv (.sl z M.length (flat ct M))), (76, .pv (.int .i64 M.length)), (77, .pv (.int .i64 s.1))]) (fun s => s.2)
    (fun s => s.1 ≤ M.length ∧ hget s.2 0 = .pcells (pdc p x)) (fun ⟨i, G⟩ ⟨hi, k0⟩ r => ?_) (0, G) ⟨Nat.zero_le _, k0⟩ ⟨rfl, rfl, rfl, rfl, rfl, trivial⟩ rfl
  dsimp only at hi k0 ⊢
  refine boolK_dec (fun hc => ?_) (fun hc => ?_)
  rotate_left
  · exact Has.intro (Has.intro rfl)
  have hlt : i < M.length := by omega
  obtain ⟨c, hcg⟩ : ∃ c, M[i]? = some c := ⟨_, List.getElem?_eq_getElem hlt⟩
  obtain ⟨d, hdg⟩ : ∃ d, p.l[i]? = some d := ⟨_, List.getElem?_eq_getElem (by omega)⟩
  have hcd := hall i d hdg
  rw [hcg] at hcd
  injection hcd with hcd
  obtain ⟨g1, g2⟩ := flat_get ct_len hcg
  obtain ⟨f1, f2⟩ := flat_get ct_len hdg
  refine needK_has (by (first | rfl | (simp; done) | (simp; omega))) ?_
  refine secK_has g1 g2 ?_
  refine hgetK_last ?_
  refine needK_has rfl ?_
  refine eqK_has_eq (ct c) rfl ?_
  have k8 := hget_hset_same (H := G ++ [HObj.pcells ([PV.str ⟨#[]⟩, PV.int IntKind.i64 0, PV.int IntKind.i64 0, PV.int IntKind.i64 0, PV.int IntKind.i64 0, PV.int IntKind.i64 0, PV.int IntKind.i64 0, PV.bool false, PV.bool false, PV.bool false])]) (id := G.length) (.pcells (ct c)) (by simp)
  have k0 := keep2 (.pcells ([PV.str ⟨#[]⟩, PV.int IntKind.i64 0, PV.int IntKind.i64 0, PV.int IntKind.i64 0, PV.int IntKind.i64 0, PV.int IntKind.i64 0, PV.int IntKind.i64 0, PV.bool false, PV.bool false, PV.bool false])) (.pcells (ct c)) k0 ((by intro h; cases h))
  generalize hset (G ++ [HObj.pcells ([PV.str ⟨#[]⟩, PV.int IntKind.i64 0, PV.int IntKind.i64 0, PV.int IntKind.i64 0, PV.int IntKind.i64 0, PV.int IntKind.i64 0, PV.int IntKind.i64 0, PV.bool false, PV.bool false, PV.bool false])]) G.length (.pcells (ct c)) = G1 at *
  generalize G.length = n8 at *
  refine hgetK_has _ k0 ?_
  refine getK_has rfl ?_
  refine needK_has (by simp; omega) ?_
  refine secK_has f1 f2 ?_
  refine hgetK_last ?_
  refine needK_has rfl ?_
  refine eqK_has_eq (ct d) rfl ?_
  have q8 := hget_lt k8 ((by intro h; cases h))
  have q0 := hget_lt k0 ((by intro h; cases h))
  have k9 := hget_hset_same (H := G1 ++ [HObj.pcells ([PV.str ⟨#[]⟩, PV.int IntKind.i64 0, PV.int IntKind.i64 0, PV.int IntKind.i64 0, PV.int IntKind.i64 0, PV.int IntKind.i64 0, PV.int IntKind.i64 0, PV.bool false, PV.bool false, PV.bool false])]) (id := G1.length) (.pcells (ct d)) (by simp)
  have k0 := keep2 (.pcells ([PV.str ⟨#[]⟩, PV.int IntKind.i64 0, PV.int IntKind.i64 0, PV.int IntKind.i64 0, PV.int IntKind.i64 0, PV.int IntKind.i64 0, PV.int IntKind.i64 0, PV.bool false, PV.bool false, PV.bool false])) (.pcells (ct d)) k0 ((by intro h; cases h))
  have k8 := keep2 (.pcells ([PV.str ⟨#[]⟩, PV.int IntKind.i64 0, PV.int IntKind.i64 0, PV.int IntKind.i64 0, PV.int IntKind.i64 0, PV.int IntKind.i64 0, PV.int IntKind.i64 0, PV.bool false, PV.bool false, PV.bool false])) (.pcells (ct d)) k8 ((by intro h; cases h))
  generalize hset (G1 ++ [HObj.pcells ([PV.str ⟨#[]⟩, PV.int IntKind.i64 0, PV.int IntKind.i64 0, PV.int IntKind.i64 0, PV.int IntKind.i64 0, PV.int IntKind.i64 0, PV.int IntKind.i64 0, PV.bool false, PV.bool false, PV.bool false])]) G1.length (.pcells (ct d)) = G2 at *
  generalize G1.length = n9 at *
  refine loopK_has ?_
  refine iterE_loop (σ := Nat × Heap) (fun s => l.length - s.1) (fun s => [(1, .pv (.sl y l.length (flat chv l))), (2, .ptr 0 0), (8, .ptr n8 0), (9, .ptr n9 0), (75, .pv (.sl z M.length (flat ct M))), (76, .pv (.int .i64 M.length)), (77, .pv (.int .i64 i)), (87, .pv (.sl y l.length (flat chv l))), (88, .pv (.int .i64 l.length)), (89, .pv (.int .i64 s.1))]) (fun s => s.2)
    (fun s => s.1 ≤ l.length ∧ hget s.2 0 = .pcells (pdc p x) ∧ hget s.2 n8 = .pcells (ct c) ∧ hget s.2 n9 = .pcells (ct ((l.take s.1).foldl stepC d))) (fun ⟨j, G⟩ ⟨hj, k0, k8, k9⟩ r => ?_) (0, G2) ⟨Nat.zero_le _, k0, k8, k9⟩ ⟨rfl, rfl, rfl, rfl, rfl, rfl, rfl, rfl, rfl, rfl, trivial⟩ rfl
  dsimp only at hj k0 k8 k9 ⊢
  refine boolK_dec (fun hcj => ?_) (fun hcj => ?_)
  · have hltj : j < l.length := by omega
    obtain ⟨f, hfg⟩ : ∃ f, l[j]? = some f := ⟨_, List.getElem?_eq_getElem hltj⟩
    obtain ⟨a1, a2⟩ := flat_get chv_len hfg
    have hfs := fold_step hfg d
    refine needK_has (by (first | rfl | (simp; done) | (simp; omega))) ?_
    refine secK_has a1 a2 ?_
    refine hgetK_last ?_
    refine needK_has rfl ?_
    refine eqK_has_eq (chv f) rfl ?_
    have q9 := hget_lt k9 ((by intro h; cases h))
    have k11 := hget_hset_same (H := G ++ [HObj.pcells ([PV.str ⟨#[]⟩, PV.int IntKind.i64 0, PV.int IntKind.i64 0, PV.int IntKind.i64 0, PV.int IntKind.i64 0, PV.int IntKind.i64 0, PV.int IntKind.i64 0])]) (id := G.length) (.pcells (chv f)) (by simp)
    have k0 := keep2 (.pcells ([PV.str ⟨#[]⟩, PV.int IntKind.i64 0, PV.int IntKind.i64 0, PV.int IntKind.i64 0, PV.int IntKind.i64 0, PV.int IntKind.i64 0, PV.int IntKind.i64 0])) (.pcells (chv f)) k0 ((by intro h; cases h))
    have k8 := keep2 (.pcells ([PV.str ⟨#[]⟩, PV.int IntKind.i64 0, PV.int IntKind.i64 0, PV.int IntKind.i64 0, PV.int IntKind.i64 0, PV.int IntKind.i64 0, PV.int IntKind.i64 0])) (.pcells (chv f)) k8 ((by intro h; cases h))
    have k9 := keep2 (.pcells ([PV.str ⟨#[]⟩, PV.int IntKind.i64 0, PV.int IntKind.i64 0, PV.int IntKind.i64 0, PV.int IntKind.i64 0, PV.int IntKind.i64 0, PV.int IntKind.i64 0])) (.pcells (chv f)) k9 ((by intro h; cases h))
    generalize hset (G ++ [HObj.pcells ([PV.str ⟨#[]⟩, PV.int IntKind.i64 0, PV.int IntKind.i64 0, PV.int IntKind.i64 0, PV.int IntKind.i64 0, PV.int IntKind.i64 0, PV.int IntKind.i64 0])]) G.length (.pcells (chv f)) = G4 at *
    generalize G.length = n11 at *
    generalize (l.take j).foldl stepC d = D at *
    refine hgetK_has _ k11 ?_
    refine getK_has rfl ?_
    refine hgetK_has _ k9 ?_
    refine getK_has rfl ?_
    refine boolK_has_eq (c := decide (f.name = D.name)) (str_beq _ _) ?_
    by_cases hn : f.name = D.name
    · rw [decide_eq_true hn]
      have hst : stepC D f = giveC D f := by unfold stepC; rw [if_pos hn]
      rw [hst] at hfs
      refine hgetK_has _ k11 ?_
      refine secK_has (v := vc f.rq) rfl (of_decide_eq_true rfl) ?_
      refine hgetK_has _ k11 ?_
      refine secK_has (v := vc f.lm) rfl (of_decide_eq_true rfl) ?_
      refine hgetK_has _ k9 ?_
      refine needK_has rfl ?_
      refine eqK_has_eq (ct ⟨D.name, f.rq, D.lm, D.r0, D.r1, D.r2⟩) rfl ?_
      have j9 := hget_hset_same (.pcells (ct ⟨D.name, f.rq, D.lm, D.r0, D.r1, D.r2⟩)) (hget_lt k9 ((by intro h; cases h)))
      have j11 := (hget_hset_ne G4 (i := n9) (.pcells (ct ⟨D.name, f.rq, D.lm, D.r0, D.r1, D.r2⟩)) (by omega)).trans k11
      refine hgetK_has _ j9 ?_
      refine needK_has rfl ?_
      refine eqK_has_eq (ct (giveC D f)) rfl ?_
      refine sameK_has (by rw [k11, j11]) (by rw [k11]; rfl) ?_
      refine eqK_has_eq _ (i64_succ (by omega)) ?_
      have f0 (o : Nat) (ho : o ≠ n9) : hget (hset (hset G4 n9 (.pcells (ct ⟨D.name, f.rq, D.lm, D.r0, D.r1, D.r2⟩))) n9 (.pcells (ct (giveC D f)))) o = hget G4 o := (hget_hset_ne _ _ ho).trans (hget_hset_ne _ _ ho)
      refine Has.intro ⟨(j + 1, _), ⟨hltj, (f0 _ (by omega)).trans k0, (f0 _ (by omega)).trans k8, ?_⟩, (by dsimp only; omega), ⟨rfl, rfl, rfl, rfl, rfl, rfl, rfl, rfl, rfl, rfl, trivial⟩, rfl⟩
      dsimp only
      rw [hfs]
      exact hget_hset_same _ (hget_lt j9 ((by intro h; cases h)))
    · rw [decide_eq_false hn]
      have hst : stepC D f = D := by unfold stepC; rw [if_neg hn]
      rw [hst] at hfs
      refine eqK_has_eq _ (i64_succ (by omega)) ?_
      refine Has.intro ⟨(j + 1, G4), ⟨hltj, k0, k8, ?_⟩, (by dsimp only; omega), ⟨rfl, rfl, rfl, rfl, rfl, rfl, rfl, rfl, rfl, rfl, trivial⟩, rfl⟩
      dsimp only
      rw [hfs]
      exact k9
  · have : j = l.length := by omega
    subst this
    rw [List.take_of_length_le (Nat.le_refl _), ← hcd] at k9
    refine Has.intro ?_
    refine hgetK_has _ k8 ?_
    refine secK_has (v := ct c) rfl (of_decide_eq_true rfl) ?_
    refine hgetK_has _ k9 ?_
    refine secK_has (v := ct c) rfl (of_decide_eq_true rfl) ?_
    refine bindK_has (ct_eq c c) ?_
    refine boolK_has_eq (c := false) (by rw [decide_eq_true rfl]; rfl) ?_
    refine eqK_has_eq _ (i64_succ (by omega)) ?_
    exact Has.intro ⟨(i + 1, G), ⟨hlt, k0⟩, (by dsimp only; omega), ⟨rfl, rfl, rfl, rfl, rfl, trivial⟩, rfl⟩
end Go.Proofs.Ytnnhkkocdgegfaa
