/-
  What restarts: the document's.
-/
import Derived.Test.YtnnhkkocdgegfaaSpU
set_option linter.all false
set_option linter.unusedVariables false
set_option linter.unusedSimpArgs false
set_option linter.unusedSectionVars false
namespace Go.Proofs.Ytnnhkkocdgegfaa
open Go Go.VM

set_option maxRecDepth 20000 in
set_option maxHeartbeats 4000000 in
theorem rrestarts_ok (x y : Ext) (a b : Pd) (hl : a.l.length ≤ 1000) (hlb : b.l.length ≤ 1000) : EP (EE env) 28 [.agg (pdc a x), .agg (pdc b y)] = some (psl .nil (sel b.l a.l).length (flat s1 (sel b.l a.l))) := by
  obtain ⟨e, he⟩ : ∃ e, psl .nil a.l.length (flat b3 (a.l.map (chg b.l))) = .sl e a.l.length (flat b3 (a.l.map (chg b.l))) := ⟨_, rfl⟩
  refine Has.eq (EP_has ?_)
  refine hgetK_has _ rfl ?_
  refine secK_has (v := pdc a x) rfl (of_decide_eq_true rfl) ?_
  refine hgetK_has _ rfl ?_
  refine secK_has (v := pdc b y) rfl (of_decide_eq_true rfl) ?_
  refine callPK_has ((rchanged_ok x y a b hl hlb).trans (congrArg some he)) ?_
  refine loopK_has ?_
  refine iterE_loop (σ := Nat × AV × Heap) (fun s => a.l.length - s.1) (fun s => [(2, .ptr 0 0), (5, s.2.1), (11, .pv (.sl e a.l.length (flat b3 (a.l.map (chg b.l))))), (12, .pv (.int .i64 a.l.length)), (13, .pv (.int .i64 s.1))]) (fun s => s.2.2)
    (fun s => s.1 ≤ a.l.length ∧ AppV s.2.2 s.2.1 .nil 1 (sel b.l (a.l.take s.1)).length (flat s1 (sel b.l (a.l.take s.1))) ∧ hget s.2.2 0 = .pcells (pdc a x)) (fun ⟨i, v, G⟩ ⟨hi, hA, k0⟩ r => ?_) (0, _, _) ⟨Nat.zero_le _, AppV.new rfl, rfl⟩ ⟨rfl, rfl, rfl, rfl, rfl, trivial⟩ rfl
  dsimp only at hi hA k0 ⊢
  refine boolK_dec (fun hc => ?_) (fun hc => ?_)
  · have hlt : i < a.l.length := by omega
    obtain ⟨c, hcg⟩ : ∃ c, a.l[i]? = some c := ⟨_, List.getElem?_eq_getElem hlt⟩
    have hqg : (a.l.map (chg b.l))[i]? = some (chg b.l c) := by rw [List.getElem?_map, hcg]; rfl
    obtain ⟨g1, g2⟩ := flat_get b3_len hqg
    obtain ⟨m1, m2⟩ := flat_get ct_len hcg
    have hsl := sel_len b.l a.l i
    refine needK_has (by (first | rfl | (simp; done) | (simp; omega))) ?_
    refine secK_has g1 g2 ?_
    refine hgetK_last ?_
    refine needK_has rfl ?_
    refine eqK_has_eq (b3 (chg b.l c)) rfl ?_
    have k7 := hget_hset_same (H := G ++ [HObj.pcells ([PV.bool false, PV.bool false, PV.bool false])]) (id := G.length) (.pcells (b3 (chg b.l c))) (by simp)
    have k0 := keep2 (.pcells ([PV.bool false, PV.bool false, PV.bool false])) (.pcells (b3 (chg b.l c))) k0 ((by intro h; cases h))
    have hA := AppV_put (AppV_grow hA [HObj.pcells ([PV.bool false, PV.bool false, PV.bool false])]) (.pcells (b3 (chg b.l c))) (hget_append_same G _) ((fun _ _ h => by cases h))
    generalize hset (G ++ [HObj.pcells ([PV.bool false, PV.bool false, PV.bool false])]) G.length (.pcells (b3 (chg b.l c))) = G1 at *
    generalize G.length = n7 at *
    refine hgetK_has _ k0 ?_
    refine getK_has rfl ?_
    refine needK_has (by (first | rfl | (simp; done) | (simp; omega))) ?_
    refine secK_has m1 m2 ?_
    refine hgetK_last ?_
    refine needK_has rfl ?_
    refine eqK_has_eq (ct c) rfl ?_
    have k8 := hget_hset_same (H := G1 ++ [HObj.pcells ([PV.str ⟨#[]⟩, PV.int IntKind.i64 0, PV.int IntKind.i64 0, PV.int IntKind.i64 0, PV.int IntKind.i64 0, PV.int IntKind.i64 0, PV.int IntKind.i64 0, PV.bool false, PV.bool false, PV.bool false])]) (id := G1.length) (.pcells (ct c)) (by simp)
    have k0 := keep2 (.pcells ([PV.str ⟨#[]⟩, PV.int IntKind.i64 0, PV.int IntKind.i64 0, PV.int IntKind.i64 0, PV.int IntKind.i64 0, PV.int IntKind.i64 0, PV.int IntKind.i64 0, PV.bool false, PV.bool false, PV.bool false])) (.pcells (ct c)) k0 ((by intro h; cases h))
    have k7 := keep2 (.pcells ([PV.str ⟨#[]⟩, PV.int IntKind.i64 0, PV.int IntKind.i64 0, PV.int IntKind.i64 0, PV.int IntKind.i64 0, PV.int IntKind.i64 0, PV.int IntKind.i64 0, PV.bool false, PV.bool false, PV.bool false])) (.pcells (ct c)) k7 ((by intro h; cases h))
    have hA := AppV_put (AppV_grow hA [HObj.pcells ([PV.str ⟨#[]⟩, PV.int IntKind.i64 0, PV.int IntKind.i64 0, PV.int IntKind.i64 0, PV.int IntKind.i64 0, PV.int IntKind.i64 0, PV.int IntKind.i64 0, PV.bool false, PV.bool false, PV.bool false])]) (.pcells (ct c)) (hget_append_same G1 _) ((fun _ _ h => by cases h))
    generalize hset (G1 ++ [HObj.pcells ([PV.str ⟨#[]⟩, PV.int IntKind.i64 0, PV.int IntKind.i64 0, PV.int IntKind.i64 0, PV.int IntKind.i64 0, PV.int IntKind.i64 0, PV.int IntKind.i64 0, PV.bool false, PV.bool false, PV.bool false])]) G1.length (.pcells (ct c)) = G2 at *
    generalize G1.length = n8 at *
    clear g1 g2 hqg
    have hrs : rst b.l c = (((chg b.l c).x && c.r0) || ((chg b.l c).y && c.r1) || ((chg b.l c).z && c.r2)) := rfl
    generalize chg b.l c = q at *
    obtain ⟨u0, u1, u2⟩ := q
    have k8 : hget G2 n8 = .pcells [sv c.name, .int .i64 c.rq.c, .int .i64 c.rq.m, .int .i64 c.rq.h, .int .i64 c.lm.c, .int .i64 c.lm.m, .int .i64 c.lm.h, .bool c.r0, .bool c.r1, .bool c.r2] := k8
    have hnx := @sel_t b.l a.l i c hcg
    have hny := @sel_f b.l a.l i c hcg
    generalize c.r0 = w0 at *
    generalize c.r1 = w1 at *
    generalize c.r2 = w2 at *
    dsimp only at hrs
    refine needK_has rfl ?_
    refine hgetK_has _ k7 ?_
    refine getK_has (v := .bool u0) rfl ?_
    cases u0
    · refine needK_has rfl ?_
      refine hgetK_has _ k7 ?_
      refine getK_has (v := .bool u1) rfl ?_
      cases u1
      · refine needK_has rfl ?_
        refine hgetK_has _ k7 ?_
        refine getK_has (v := .bool u2) rfl ?_
        cases u2
        · refine eqK_has_eq _ (i64_succ (by omega)) ?_
          refine Has.intro ⟨(i + 1, v, G2), ⟨hlt, ?_, k0⟩, (by dsimp only; omega), ⟨rfl, rfl, rfl, rfl, rfl, trivial⟩, rfl⟩
          dsimp only
          rw [hny (by rw [hrs]; simp)]
          exact hA
        · refine needK_has rfl ?_
          refine hgetK_has _ k8 ?_
          refine getK_has (v := .bool w2) rfl ?_
          cases w2
          · refine eqK_has_eq _ (i64_succ (by omega)) ?_
            refine Has.intro ⟨(i + 1, v, G2), ⟨hlt, ?_, k0⟩, (by dsimp only; omega), ⟨rfl, rfl, rfl, rfl, rfl, trivial⟩, rfl⟩
            dsimp only
            rw [hny (by rw [hrs]; simp)]
            exact hA
          · have hA2 := hA
            rcases AppV.formsE hA with ⟨hz, rfl⟩ | ⟨t, rfl⟩
            all_goals
              refine hgetK_has _ k8 ?_
              refine getK_has (v := sv c.name) rfl ?_
              refine app_has (m := 1) (new := s1 c.name) hA2 rfl (by show ((sel b.l (a.l.take i)).length + 1) * 16 ≤ 140737488355328; omega) (fun v' G7 hv' hfr ht => ?_)
              have k0 := Fr.obj hA2 hfr k0 ((by intro h; cases h)) ((fun _ _ h => by cases h))
              obtain ⟨tv, rfl⟩ := AppV.formE hv'
              refine eqK_has_eq _ (i64_succ (by omega)) ?_
              refine Has.intro ⟨(i + 1, _, G7), ⟨hlt, ?_, k0⟩, (by dsimp only; omega), ⟨rfl, rfl, rfl, rfl, rfl, trivial⟩, rfl⟩
              dsimp only
              rw [hnx (by rw [hrs]; simp), ← flat_snoc, List.length_append]
              exact hv'
      · refine needK_has rfl ?_
        refine hgetK_has _ k8 ?_
        refine getK_has (v := .bool w1) rfl ?_
        cases w1
        · refine needK_has rfl ?_
          refine hgetK_has _ k7 ?_
          refine getK_has (v := .bool u2) rfl ?_
          cases u2
          · refine eqK_has_eq _ (i64_succ (by omega)) ?_
            refine Has.intro ⟨(i + 1, v, G2), ⟨hlt, ?_, k0⟩, (by dsimp only; omega), ⟨rfl, rfl, rfl, rfl, rfl, trivial⟩, rfl⟩
            dsimp only
            rw [hny (by rw [hrs]; simp)]
            exact hA
          · refine needK_has rfl ?_
            refine hgetK_has _ k8 ?_
            refine getK_has (v := .bool w2) rfl ?_
            cases w2
            · refine eqK_has_eq _ (i64_succ (by omega)) ?_
              refine Has.intro ⟨(i + 1, v, G2), ⟨hlt, ?_, k0⟩, (by dsimp only; omega), ⟨rfl, rfl, rfl, rfl, rfl, trivial⟩, rfl⟩
              dsimp only
              rw [hny (by rw [hrs]; simp)]
              exact hA
            · have hA2 := hA
              rcases AppV.formsE hA with ⟨hz, rfl⟩ | ⟨t, rfl⟩
              all_goals
                refine hgetK_has _ k8 ?_
                refine getK_has (v := sv c.name) rfl ?_
                refine app_has (m := 1) (new := s1 c.name) hA2 rfl (by show ((sel b.l (a.l.take i)).length + 1) * 16 ≤ 140737488355328; omega) (fun v' G7 hv' hfr ht => ?_)
                have k0 := Fr.obj hA2 hfr k0 ((by intro h; cases h)) ((fun _ _ h => by cases h))
                obtain ⟨tv, rfl⟩ := AppV.formE hv'
                refine eqK_has_eq _ (i64_succ (by omega)) ?_
                refine Has.intro ⟨(i + 1, _, G7), ⟨hlt, ?_, k0⟩, (by dsimp only; omega), ⟨rfl, rfl, rfl, rfl, rfl, trivial⟩, rfl⟩
                dsimp only
                rw [hnx (by rw [hrs]; simp), ← flat_snoc, List.length_append]
                exact hv'
        · have hA2 := hA
          rcases AppV.formsE hA with ⟨hz, rfl⟩ | ⟨t, rfl⟩
          all_goals
            refine hgetK_has _ k8 ?_
            refine getK_has (v := sv c.name) rfl ?_
            refine app_has (m := 1) (new := s1 c.name) hA2 rfl (by show ((sel b.l (a.l.take i)).length + 1) * 16 ≤ 140737488355328; omega) (fun v' G7 hv' hfr ht => ?_)
            have k0 := Fr.obj hA2 hfr k0 ((by intro h; cases h)) ((fun _ _ h => by cases h))
            obtain ⟨tv, rfl⟩ := AppV.formE hv'
            refine eqK_has_eq _ (i64_succ (by omega)) ?_
            refine Has.intro ⟨(i + 1, _, G7), ⟨hlt, ?_, k0⟩, (by dsimp only; omega), ⟨rfl, rfl, rfl, rfl, rfl, trivial⟩, rfl⟩
            dsimp only
            rw [hnx (by rw [hrs]; simp), ← flat_snoc, List.length_append]
            exact hv'
    · refine needK_has rfl ?_
      refine hgetK_has _ k8 ?_
      refine getK_has (v := .bool w0) rfl ?_
      cases w0
      · refine needK_has rfl ?_
        refine hgetK_has _ k7 ?_
        refine getK_has (v := .bool u1) rfl ?_
        cases u1
        · refine needK_has rfl ?_
          refine hgetK_has _ k7 ?_
          refine getK_has (v := .bool u2) rfl ?_
          cases u2
          · refine eqK_has_eq _ (i64_succ (by omega)) ?_
            refine Has.intro ⟨(i + 1, v, G2), ⟨hlt, ?_, k0⟩, (by dsimp only; omega), ⟨rfl, rfl, rfl, rfl, rfl, trivial⟩, rfl⟩
            dsimp only
            rw [hny (by rw [hrs]; simp)]
            exact hA
          · refine needK_has rfl ?_
            refine hgetK_has _ k8 ?_
            refine getK_has (v := .bool w2) rfl ?_
            cases w2
            · refine eqK_has_eq _ (i64_succ (by omega)) ?_
              refine Has.intro ⟨(i + 1, v, G2), ⟨hlt, ?_, k0⟩, (by dsimp only; omega), ⟨rfl, rfl, rfl, rfl, rfl, trivial⟩, rfl⟩
              dsimp only
              rw [hny (by rw [hrs]; simp)]
              exact hA
            · have hA2 := hA
              rcases AppV.formsE hA with ⟨hz, rfl⟩ | ⟨t, rfl⟩
              all_goals
                refine hgetK_has _ k8 ?_
                refine getK_has (v := sv c.name) rfl ?_
                refine app_has (m := 1) (new := s1 c.name) hA2 rfl (by show ((sel b.l (a.l.take i)).length + 1) * 16 ≤ 140737488355328; omega) (fun v' G7 hv' hfr ht => ?_)
                have k0 := Fr.obj hA2 hfr k0 ((by intro h; cases h)) ((fun _ _ h => by cases h))
                obtain ⟨tv, rfl⟩ := AppV.formE hv'
                refine eqK_has_eq _ (i64_succ (by omega)) ?_
                refine Has.intro ⟨(i + 1, _, G7), ⟨hlt, ?_, k0⟩, (by dsimp only; omega), ⟨rfl, rfl, rfl, rfl, rfl, trivial⟩, rfl⟩
                dsimp only
                rw [hnx (by rw [hrs]; simp), ← flat_snoc, List.length_append]
                exact hv'
        · refine needK_has rfl ?_
          refine hgetK_has _ k8 ?_
          refine getK_has (v := .bool w1) rfl ?_
          cases w1
          · refine needK_has rfl ?_
            refine hgetK_has _ k7 ?_
            refine getK_has (v := .bool u2) rfl ?_
            cases u2
            · refine eqK_has_eq _ (i64_succ (by omega)) ?_
              refine Has.intro ⟨(i + 1, v, G2), ⟨hlt, ?_, k0⟩, (by dsimp only; omega), ⟨rfl, rfl, rfl, rfl, rfl, trivial⟩, rfl⟩
              dsimp only
              rw [hny (by rw [hrs]; simp)]
              exact hA
            · refine needK_has rfl ?_
              refine hgetK_has _ k8 ?_
              refine getK_has (v := .bool w2) rfl ?_
              cases w2
              · refine eqK_has_eq _ (i64_succ (by omega)) ?_
                refine Has.intro ⟨(i + 1, v, G2), ⟨hlt, ?_, k0⟩, (by dsimp only; omega), ⟨rfl, rfl, rfl, rfl, rfl, trivial⟩, rfl⟩
                dsimp only
                rw [hny (by rw [hrs]; simp)]
                exact hA
              · have hA2 := hA
                rcases AppV.formsE hA with ⟨hz, rfl⟩ | ⟨t, rfl⟩
                all_goals
                  refine hgetK_has _ k8 ?_
                  refine getK_has (v := sv c.name) rfl ?_
                  refine app_has (m := 1) (new := s1 c.name) hA2 rfl (by show ((sel b.l (a.l.take i)).length + 1) * 16 ≤ 140737488355328; omega) (fun v' G7 hv' hfr ht => ?_)
                  have k0 := Fr.obj hA2 hfr k0 ((by intro h; cases h)) ((fun _ _ h => by cases h))
                  obtain ⟨tv, rfl⟩ := AppV.formE hv'
                  refine eqK_has_eq _ (i64_succ (by omega)) ?_
                  refine Has.intro ⟨(i + 1, _, G7), ⟨hlt, ?_, k0⟩, (by dsimp only; omega), ⟨rfl, rfl, rfl, rfl, rfl, trivial⟩, rfl⟩
                  dsimp only
                  rw [hnx (by rw [hrs]; simp), ← flat_snoc, List.length_append]
                  exact hv'
          · have hA2 := hA
            rcases AppV.formsE hA with ⟨hz, rfl⟩ | ⟨t, rfl⟩
            all_goals
              refine hgetK_has _ k8 ?_
              refine getK_has (v := sv c.name) rfl ?_
              refine app_has (m := 1) (new := s1 c.name) hA2 rfl (by show ((sel b.l (a.l.take i)).length + 1) * 16 ≤ 140737488355328; omega) (fun v' G7 hv' hfr ht => ?_)
              have k0 := Fr.obj hA2 hfr k0 ((by intro h; cases h)) ((fun _ _ h => by cases h))
              obtain ⟨tv, rfl⟩ := AppV.formE hv'
              refine eqK_has_eq _ (i64_succ (by omega)) ?_
              refine Has.intro ⟨(i + 1, _, G7), ⟨hlt, ?_, k0⟩, (by dsimp only; omega), ⟨rfl, rfl, rfl, rfl, rfl, trivial⟩, rfl⟩
              dsimp only
              rw [hnx (by rw [hrs]; simp), ← flat_snoc, List.length_append]
              exact hv'
      · have hA2 := hA
        rcases AppV.formsE hA with ⟨hz, rfl⟩ | ⟨t, rfl⟩
        all_goals
          refine hgetK_has _ k8 ?_
          refine getK_has (v := sv c.name) rfl ?_
          refine app_has (m := 1) (new := s1 c.name) hA2 rfl (by show ((sel b.l (a.l.take i)).length + 1) * 16 ≤ 140737488355328; omega) (fun v' G7 hv' hfr ht => ?_)
          have k0 := Fr.obj hA2 hfr k0 ((by intro h; cases h)) ((fun _ _ h => by cases h))
          obtain ⟨tv, rfl⟩ := AppV.formE hv'
          refine eqK_has_eq _ (i64_succ (by omega)) ?_
          refine Has.intro ⟨(i + 1, _, G7), ⟨hlt, ?_, k0⟩, (by dsimp only; omega), ⟨rfl, rfl, rfl, rfl, rfl, trivial⟩, rfl⟩
          dsimp only
          rw [hnx (by rw [hrs]; simp), ← flat_snoc, List.length_append]
          exact hv'
  · have : i = a.l.length := by omega
    subst this
    rw [List.take_of_length_le (Nat.le_refl _)] at hA
    have ho := AppV.out hA
    rcases AppV.formsE hA with ⟨hz, rfl⟩ | ⟨t, rfl⟩
    · exact Has.intro (Has.intro (Has.of_eq ho rfl))
    · exact Has.intro (Has.intro (Has.of_eq ho rfl))
end Go.Proofs.Ytnnhkkocdgegfaa
