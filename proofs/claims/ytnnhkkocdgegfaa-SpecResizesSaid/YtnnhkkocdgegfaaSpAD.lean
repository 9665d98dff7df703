/-
  SpecResizes and SpecAgain in the abstract machine.
-/
import Derived.Test.YtnnhkkocdgegfaaSpAC
set_option linter.all false
set_option linter.unusedVariables false
set_option linter.unusedSimpArgs false
set_option linter.unusedSectionVars false
namespace Go.Proofs.Ytnnhkkocdgegfaa
open Go Go.VM

set_option maxRecDepth 20000 in
set_option maxHeartbeats 8000000 in
theorem resizes_law (ps : List PV) (h : HasArgs [TPd, .sl 7 TCh] ps) : ∃ H', EE env (.fn 5) (ps.map .pv) [] = some (.pv (.bool true), H') := by
  obtain ⟨p1, _, rfl, h1, p2, _, rfl, h2, rfl⟩ := h
  obtain ⟨p, x, rfl, hs⟩ := arg_pd h1
  obtain ⟨y, l, rfl, hl⟩ := arg_chs h2
  refine law_end (EE_has (fn_has rfl ?_))
  refine seq_on [(1, .pv (.sl y l.length (flat chv l))), (2, .ptr 0 0)] [.pcells (pdc p x)] (by (refine Has.intro ⟨rfl, ?_, rfl⟩; (repeat (first | exact trivial | refine ⟨rfl, ?_⟩)))) (fun r => ?_)
  refine seq_on [(1, .pv (.sl y l.length (flat chv l))), (2, .ptr 0 0)] [.pcells (pdc p x)] ?_ (fun r => ?_)
  · refine callPK_has first_ok ?_
    (refine Has.intro ⟨rfl, ?_, rfl⟩; (repeat (first | exact trivial | refine ⟨rfl, ?_⟩)))
  refine seq_if [(4, .pv (.bool true))] True [(1, .pv (.sl y l.length (flat chv l))), (2, .ptr 0 0)] True [.pcells (pdc p x)] ?_ (fun h r => Has.intro rfl) (fun _ r => ?_)
  · obtain ⟨n1, g1, l1⟩ := great_ok x p hs
    refine hgetK_has (.pcells (pdc p x)) rfl ?_
    refine secK_has (v := pdc p x) rfl (of_decide_eq_true rfl) ?_
    refine callPK_has g1 ?_
    refine boolK_dec (fun h4 => ?_) (fun h4 => ?_)
    · exact Has.intro (.inl ⟨rfl, ⟨rfl, trivial⟩, rfl, trivial⟩)
    refine boolK_dec (fun h5 => ?_) (fun h5 => ?_)
    · exact Has.intro (.inl ⟨rfl, ⟨rfl, trivial⟩, rfl, trivial⟩)
    · exact Has.intro (.inr ⟨rfl, ⟨rfl, rfl, trivial⟩, rfl, trivial⟩)
  have hsq := rz_small (l := l) hs
  have hr1 := resize_ok x y p l hs hl
  have hr2 := rresize_ok x y p l hs hl
  generalize rzP p l = w at *
  obtain ⟨e, q⟩ := w
  refine hgetK_has (.pcells (pdc p x)) rfl ?_
  refine secK_has (v := pdc p x) rfl (of_decide_eq_true rfl) ?_
  refine callPK_has' (hr1.mono fun v hv => ?_)
  obtain ⟨z, rfl⟩ := hv
  refine hgetK_has _ rfl ?_
  refine needK_has rfl ?_
  refine eqK_has_eq (pdc q z) rfl ?_
  refine hgetK_has (.pcells (pdc p x)) rfl ?_
  refine secK_has (v := pdc p x) rfl (of_decide_eq_true rfl) ?_
  refine callPK_has' (hr2.mono fun v hv => ?_)
  obtain ⟨z2, rfl⟩ := hv
  refine hgetK_has _ rfl ?_
  refine needK_has rfl ?_
  refine eqK_has_eq (pdc q z2) rfl ?_
  refine boolK_beq_t rfl ?_
  refine hgetK_has (.pcells (pdc q z)) rfl ?_
  refine secK_has (v := pdc q z) rfl (of_decide_eq_true rfl) ?_
  refine hgetK_has (.pcells (pdc q z2)) rfl ?_
  refine secK_has (v := pdc q z2) rfl (of_decide_eq_true rfl) ?_
  refine callPK_dec_t (rsame_ok z z2 q q hsq.2.1) ⟨rfl, rfl, rfl, rfl⟩ ?_
  exact Has.intro rfl
set_option maxRecDepth 20000 in
set_option maxHeartbeats 8000000 in
theorem again_law (ps : List PV) (h : HasArgs [TPd, .sl 7 TCh] ps) : ∃ H', EE env (.fn 7) (ps.map .pv) [] = some (.pv (.bool true), H') := by
  obtain ⟨p1, _, rfl, h1, p2, _, rfl, h2, rfl⟩ := h
  obtain ⟨p, x, rfl, hs⟩ := arg_pd h1
  obtain ⟨y, l, rfl, hl⟩ := arg_chs h2
  refine law_end (EE_has (fn_has rfl ?_))
  refine seq_on [(1, .pv (.sl y l.length (flat chv l))), (2, .ptr 0 0)] [.pcells (pdc p x)] (by (refine Has.intro ⟨rfl, ?_, rfl⟩; (repeat (first | exact trivial | refine ⟨rfl, ?_⟩)))) (fun r => ?_)
  refine seq_on [(1, .pv (.sl y l.length (flat chv l))), (2, .ptr 0 0)] [.pcells (pdc p x)] ?_ (fun r => ?_)
  · refine callPK_has first_ok ?_
    (refine Has.intro ⟨rfl, ?_, rfl⟩; (repeat (first | exact trivial | refine ⟨rfl, ?_⟩)))
  refine seq_if [(4, .pv (.bool true))] True [(1, .pv (.sl y l.length (flat chv l))), (2, .ptr 0 0)] (p.l.length ≤ 51) [.pcells (pdc p x)] ?_ (fun h r => Has.intro rfl) (fun hpl r => ?_)
  · obtain ⟨n1, g1, l1⟩ := great_ok x p hs
    refine hgetK_has (.pcells (pdc p x)) rfl ?_
    refine secK_has (v := pdc p x) rfl (of_decide_eq_true rfl) ?_
    refine callPK_has g1 ?_
    refine boolK_dec (fun h4 => ?_) (fun h4 => ?_)
    · exact Has.intro (.inl ⟨rfl, ⟨rfl, trivial⟩, rfl, trivial⟩)
    refine boolK_dec (fun h5 => ?_) (fun h5 => ?_)
    · exact Has.intro (.inl ⟨rfl, ⟨rfl, trivial⟩, rfl, trivial⟩)
    · exact Has.intro (.inr ⟨rfl, ⟨rfl, rfl, trivial⟩, rfl, l1 (by omega)⟩)
  have hsq := rz_small (l := l) hs
  have hr1 := resize_ok x y p l hs hl
  refine seq_st (σ := Heap) (fun _ => [(2, .ptr 0 0)]) (fun s => s) (fun s => hget s 0 = .pcells (pdc p x)) ?_ (fun G k0 r => ?_)
  · refine hgetK_has (.pcells (pdc p x)) rfl ?_
    refine secK_has (v := pdc p x) rfl (of_decide_eq_true rfl) ?_
    refine callPK_has' (hr1.mono fun v hv => ?_)
    obtain ⟨z, rfl⟩ := hv
    refine hgetK_has _ rfl ?_
    refine needK_has rfl ?_
    refine eqK_has_eq (pdc (rzP p l).2 z) rfl ?_
    refine boolK_beq (fun he => ?_) (fun he => ?_)
    rotate_left
    · exact Has.intro ⟨rfl, _, rfl, ⟨rfl, trivial⟩, rfl⟩
    have hz : rzP p l = (0, (rzP p l).2) := by rw [← he]
    have hag := rzP_again hz
    obtain ⟨_, _, hq, _, _⟩ := rzP_ok hz
    have hl6 := hq.2.2.2.1.2
    generalize (rzP p l).2 = q at *
    refine hgetK_has (.pcells (pdc q z)) rfl ?_
    refine secK_has (v := pdc q z) rfl (of_decide_eq_true rfl) ?_
    refine callPK_has' ((rsz (x := z) (y := y) hsq hl rfl hag).mono fun v hv => ?_)
    obtain ⟨z2, rfl⟩ := hv
    refine hgetK_has _ rfl ?_
    refine needK_has rfl ?_
    refine eqK_has_eq (pdc q z2) rfl ?_
    refine boolK_bne_f rfl ?_
    refine hgetK_has (.pcells (pdc q z)) rfl ?_
    refine secK_has (v := pdc q z) rfl (of_decide_eq_true rfl) ?_
    refine hgetK_has (.pcells (pdc q z2)) rfl ?_
    refine secK_has (v := pdc q z2) rfl (of_decide_eq_true rfl) ?_
    refine callPK_dec_t (same_ok z z2 q q hsq.2.1) ⟨rfl, rfl, rfl, rfl⟩ ?_
    refine hgetK_has (.pcells (pdc q z)) rfl ?_
    refine secK_has (v := pdc q z) rfl (of_decide_eq_true rfl) ?_
    refine hgetK_has (.pcells (pdc q z2)) rfl ?_
    refine secK_has (v := pdc q z2) rfl (of_decide_eq_true rfl) ?_
    have hre := restarts_ok z z2 q q (by omega) (by omega)
    rw [sel_self hq] at hre
    refine callPK_has hre ?_
    refine boolK_dec_f (by decide) ?_
    exact Has.intro ⟨rfl, _, rfl, ⟨rfl, trivial⟩, rfl⟩
  refine hgetK_has _ k0 ?_
  refine secK_has (v := pdc p x) rfl (of_decide_eq_true rfl) ?_
  refine callSK_has' ((pod_ok _ p hs G (.inl ⟨x, rfl⟩)).mono fun y' hy => ?_)
  obtain ⟨v, G1⟩ := y'
  obtain ⟨rfl, hK⟩ := hy
  have k0 := hK.2 _ _ k0 ((by intro h; cases h)) ((fun _ _ h => by cases h))
  dsimp only at k0 ⊢
  by_cases hp : podP p
  rotate_left
  · rw [show decide (podP p) = false from decide_eq_false hp]
    exact Has.intro rfl
  rw [show decide (podP p) = true from decide_eq_true hp]
  refine hgetK_has _ k0 ?_
  refine getK_has rfl ?_
  refine loopK_has ?_
  refine iterE_loop (σ := Nat × AV × Heap) (fun s => p.l.length - s.1) (fun s => [(2, .ptr 0 0), (9, s.2.1), (57, .pv (.sl x p.l.length (flat ct p.l))), (58, .pv (.int .i64 p.l.length)), (59, .pv (.int .i64 s.1))]) (fun s => s.2.2)
    (fun s => s.1 ≤ p.l.length ∧ AppV s.2.2 s.2.1 .nil 7 s.1 (flat chv ((p.l.map ownC).take s.1)) ∧ hget s.2.2 0 = .pcells (pdc p x)) (fun ⟨i, v, G⟩ ⟨hi, hA, k0⟩ r => ?_) (0, _, G1) ⟨Nat.zero_le _, AppV.new rfl, k0⟩ ⟨rfl, rfl, rfl, rfl, rfl, trivial⟩ rfl
  dsimp only at hi hA k0 ⊢
  refine boolK_dec (fun hc => ?_) (fun hc => ?_)
  · have hlt : i < p.l.length := by omega
    obtain ⟨c, hcg⟩ : ∃ c, p.l[i]? = some c := ⟨_, List.getElem?_eq_getElem hlt⟩
    obtain ⟨g1, g2⟩ := flat_get ct_len hcg
    have hmt := map_take (f := ownC) hcg
    refine needK_has (by (first | rfl | (simp; done) | (simp; omega))) ?_
    refine secK_has g1 g2 ?_
    refine hgetK_last ?_
    refine needK_has rfl ?_
    refine eqK_has_eq (ct c) rfl ?_
    have k7 := hget_hset_same (H := G ++ [HObj.pcells ([PV.str ⟨#[]⟩, PV.int IntKind.i64 0, PV.int IntKind.i64 0, PV.int IntKind.i64 0, PV.int IntKind.i64 0, PV.int IntKind.i64 0, PV.int IntKind.i64 0, PV.bool false, PV.bool false, PV.bool false])]) (id := G.length) (.pcells (ct c)) (by simp)
    have k0 := keep2 (.pcells ([PV.str ⟨#[]⟩, PV.int IntKind.i64 0, PV.int IntKind.i64 0, PV.int IntKind.i64 0, PV.int IntKind.i64 0, PV.int IntKind.i64 0, PV.int IntKind.i64 0, PV.bool false, PV.bool false, PV.bool false])) (.pcells (ct c)) k0 ((by intro h; cases h))
    have hA := AppV_put (AppV_grow hA [HObj.pcells ([PV.str ⟨#[]⟩, PV.int IntKind.i64 0, PV.int IntKind.i64 0, PV.int IntKind.i64 0, PV.int IntKind.i64 0, PV.int IntKind.i64 0, PV.int IntKind.i64 0, PV.bool false, PV.bool false, PV.bool false])]) (.pcells (ct c)) (hget_append_same G _) ((fun _ _ h => by cases h))
    generalize hset (G ++ [HObj.pcells ([PV.str ⟨#[]⟩, PV.int IntKind.i64 0, PV.int IntKind.i64 0, PV.int IntKind.i64 0, PV.int IntKind.i64 0, PV.int IntKind.i64 0, PV.int IntKind.i64 0, PV.bool false, PV.bool false, PV.bool false])]) G.length (.pcells (ct c)) = G2 at *
    rcases AppV.formsE hA with ⟨hz, rfl⟩ | ⟨t, rfl⟩
    all_goals
     refine hgetK_has _ k7 ?_
     refine getK_has rfl ?_
     refine hgetK_has _ k7 ?_
     refine secK_has (v := vc c.rq) rfl (of_decide_eq_true rfl) ?_
     refine hgetK_has _ k7 ?_
     refine secK_has (v := vc c.lm) rfl (of_decide_eq_true rfl) ?_
     refine app_has (m := 1) (new := chv (ownC c)) hA rfl (by show (i + 1) * 64 ≤ 140737488355328; omega) (fun v' G7 hv' hfr ht => ?_)
     have k0 := Fr.obj hA hfr k0 ((by intro h; cases h)) ((fun _ _ h => by cases h))
     obtain ⟨tv, rfl⟩ := AppV.formE hv'
     refine eqK_has_eq _ (i64_succ (by omega)) ?_
     refine Has.intro ⟨(i + 1, _, G7), ⟨hlt, ?_, k0⟩, (by dsimp only; omega), ⟨rfl, rfl, rfl, rfl, rfl, trivial⟩, rfl⟩
     dsimp only
     rw [hmt, ← flat_snoc]
     exact hv'
  · have : i = p.l.length := by omega
    subst this
    have h1 := hp.2.2.2.1.1
    rw [List.take_of_length_le (by simp)] at hA
    have hoa := own_again hp
    refine Has.intro ?_
    rcases AppV.formsE hA with ⟨hz, rfl⟩ | ⟨t, rfl⟩
    · omega
    refine hgetK_has _ k0 ?_
    refine secK_has (v := pdc p x) rfl (of_decide_eq_true rfl) ?_
    refine callPK_has' ((rsz (x := x) (y := .nn) (n := p.l.length) hs (by rw [List.length_map]; exact hs.2.1) (List.length_map _) hoa).mono fun v hv => ?_)
    obtain ⟨z, rfl⟩ := hv
    refine hgetK_last ?_
    refine needK_has rfl ?_
    refine eqK_has_eq (pdc p z) rfl ?_
    refine boolK_beq_t rfl ?_
    refine hgetK_has _ (keep2 (.pcells ([PV.str ⟨#[]⟩, PV.int IntKind.i64 0, PV.int IntKind.i64 0, PV.sl Ext.nil 0 []])) (.pcells (pdc p z)) k0 ((by intro h; cases h))) ?_
    refine secK_has (v := pdc p x) rfl (of_decide_eq_true rfl) ?_
    refine hgetK_set ?_
    refine secK_has (v := pdc p z) rfl (of_decide_eq_true rfl) ?_
    refine callPK_dec_t (same_ok x z p p hs.2.1) ⟨rfl, rfl, rfl, rfl⟩ ?_
    exact Has.intro rfl
end Go.Proofs.Ytnnhkkocdgegfaa
