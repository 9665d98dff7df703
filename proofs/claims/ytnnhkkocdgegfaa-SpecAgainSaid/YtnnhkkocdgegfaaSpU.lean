/-
  What restarts: the program's, and the document's.
-/
import Derived.Test.YtnnhkkocdgegfaaSpT
set_option linter.all false
set_option linter.unusedVariables false
set_option linter.unusedSimpArgs false
set_option linter.unusedSectionVars false
namespace Go.Proofs.Ytnnhkkocdgegfaa
open Go Go.VM

theorem AppV.formsE {es : Nat} {G : Heap} {v : AV} {n : Nat} {cs : List PV} (h : AppV G v .nil es n cs) : (n = 0 ∧ v = .pv (.sl .nil 0 [])) ∨ (∃ t, v = .tsl t n cs) := by
  rcases h with ⟨h1, h2, h3, h4⟩ | ⟨h1, h2, t, h3, h4⟩
  · exact .inl ⟨h1, h3⟩
  · exact .inr ⟨t, h3⟩
theorem AppV.formE {es : Nat} {G : Heap} {v : AV} {n : Nat} {cs : List PV} (h : AppV G v .nil es (n + 1) cs) : ∃ t, v = .tsl t (n + 1) cs := by
  rcases AppV.formsE h with ⟨h, _⟩ | h
  · exact absurd h (Nat.succ_ne_zero n)
  · exact h
def s1 (n : List UInt8) : List PV := [sv n]
theorem s1_len (n : List UInt8) : (s1 n).length = 1 := rfl
/-- Does a container restart? -/
def rst (b : List Ct) (c : Ct) : Bool := ((chg b c).x && c.r0) || ((chg b c).y && c.r1) || ((chg b c).z && c.r2)
/-- The names of those that restart. -/
def sel (b l : List Ct) : List (List UInt8) := (l.filter (rst b)).map Ct.name
theorem sel_t {b l : List Ct} {i : Nat} {c : Ct} (h : l[i]? = some c) (hr : rst b c = true) : sel b (l.take (i + 1)) = sel b (l.take i) ++ [c.name] := by
  unfold sel; rw [List.take_add_one, h]; simp [hr]
theorem sel_f {b l : List Ct} {i : Nat} {c : Ct} (h : l[i]? = some c) (hr : rst b c = false) : sel b (l.take (i + 1)) = sel b (l.take i) := by
  unfold sel; rw [List.take_add_one, h]; simp [hr]
theorem sel_len (b l : List Ct) (i : Nat) : (sel b (l.take i)).length ≤ i := by
  unfold sel; rw [List.length_map]
  exact Nat.le_trans (List.length_filter_le _ _) (by simp; omega)
theorem at7 (i j : Nat) : addO (addO (mulE ((i : Nat) : Int).toNat 10) 7) (mulE j 1) = i * 10 + (7 + j) := by
  rw [addO_eq, addO_eq, mulE_eq, mulE_eq, Int.toNat_natCast]; omega
theorem at0 (i : Nat) : addO (mulE ((i : Nat) : Int).toNat 10) 0 = i * 10 + 0 := by
  rw [addO_eq, mulE_eq, Int.toNat_natCast]
set_option maxRecDepth 20000 in
set_option maxHeartbeats 4000000 in
theorem restarts_ok (x y : Ext) (a b : Pd) (hl : a.l.length ≤ 1000) (hlb : b.l.length ≤ 1000) : EP (EE env) 27 [.agg (pdc a x), .agg (pdc b y)] = some (psl .nil (sel b.l a.l).length (flat s1 (sel b.l a.l))) := by
  refine Has.eq (EP_has ?_)
  refine hgetK_has _ rfl ?_
  refine secK_has (v := pdc a x) rfl (of_decide_eq_true rfl) ?_
  refine hgetK_has _ rfl ?_
  refine secK_has (v := pdc b y) rfl (of_decide_eq_true rfl) ?_
  refine callPK_has (changed_ok x y a b hl hlb) ?_
  refine loopK_has ?_
  refine iterE_loop (σ := Nat × AV × Heap) (fun s => a.l.length - s.1) (fun s => [(2, .ptr 0 0), (5, s.2.1), (12, .pv (.sl .nn a.l.length (flat b3 (a.l.map (chg b.l))))), (13, .pv (.int .i64 a.l.length)), (14, .pv (.int .i64 s.1))]) (fun s => s.2.2)
    (fun s => s.1 ≤ a.l.length ∧ AppV s.2.2 s.2.1 .nil 1 (sel b.l (a.l.take s.1)).length (flat s1 (sel b.l (a.l.take s.1))) ∧ hget s.2.2 0 = .pcells (pdc a x)) (fun ⟨i, v, G⟩ ⟨hi, hA, k0⟩ r => ?_) (0, _, _) ⟨Nat.zero_le _, AppV.new rfl, rfl⟩ ⟨rfl, rfl, rfl, rfl, rfl, trivial⟩ rfl
  dsimp only at hi hA k0 ⊢
  refine boolK_dec (fun hc => ?_) (fun hc => ?_)
  · have hlt : i < a.l.length := by omega
    obtain ⟨c, hcg⟩ : ∃ c, a.l[i]? = some c := ⟨_, List.getElem?_eq_getElem hlt⟩
    have hqg : (a.l.map (chg b.l))[i]? = some (chg b.l c) := by rw [List.getElem?_map, hcg]; rfl
    obtain ⟨g1, g2⟩ := flat_get b3_len hqg
    have c7 := flat_cell (j := 7) ct_len hcg (by decide)
    have c8 := flat_cell (j := 8) ct_len hcg (by decide)
    have c9 := flat_cell (j := 9) ct_len hcg (by decide)
    have c0 := flat_cell (j := 0) ct_len hcg (by decide)
    have hsl := sel_len b.l a.l i
    refine needK_has (by (first | rfl | (simp; done) | (simp; omega))) ?_
    refine secK_has g1 g2 ?_
    refine hgetK_last ?_
    refine needK_has rfl ?_
    refine eqK_has_eq (b3 (chg b.l c)) rfl ?_
    have k7 := hget_hset_same (H := G ++ [HObj.pcells ([PV.bool false, PV.bool false, PV.bool false])]) (id := G.length) (.pcells (b3 (chg b.l c))) (by simp)
    have k0 := keep2 (.pcells ([PV.bool false, PV.bool false, PV.bool false])) (.pcells (b3 (chg b.l c))) k0 ((by intro h; cases h))
    have hA := AppV_put (AppV_grow hA [HObj.pcells ([PV.bool false, PV.bool false, PV.bool false])]) (.pcells (b3 (chg b.l c))) (hget_append_same G _) ((fun _ _ h => by cases h))
    generalize hset (G ++ [HObj.pcells ([PV.bool false, PV.bool false, PV.bool false])]) G.length (.pcells (b3 (chg b.l c))) = G1 at *
    generalize G.length = n7 at *
    refine hgetK_has _ k7 ?_
    refine secK_has (v := b3 (chg b.l c)) rfl (of_decide_eq_true rfl) ?_
    clear k7 g1 g2 hqg
    have hrs : rst b.l c = (((chg b.l c).x && c.r0) || ((chg b.l c).y && c.r1) || ((chg b.l c).z && c.r2)) := rfl
    generalize chg b.l c = q at *
    obtain ⟨u0, u1, u2⟩ := q
    have c7 : (flat ct a.l)[i * 10 + 7]? = some (.bool c.r0) := c7
    have c8 : (flat ct a.l)[i * 10 + 8]? = some (.bool c.r1) := c8
    have c9 : (flat ct a.l)[i * 10 + 9]? = some (.bool c.r2) := c9
    have c0 : (flat ct a.l)[i * 10 + 0]? = some (sv c.name) := c0
    have hnx := @sel_t b.l a.l i c hcg
    have hny := @sel_f b.l a.l i c hcg
    generalize c.r0 = w0 at *
    generalize c.r1 = w1 at *
    generalize c.r2 = w2 at *
    dsimp only at hrs
    refine loopK_has ?_
    refine iterE_loop (σ := Nat) (fun s => 3 - s) (fun s => [(2, .ptr 0 0), (5, v), (6, .pv (.int .i64 i)), (12, .pv (.sl .nn a.l.length (flat b3 (a.l.map (chg b.l))))), (13, .pv (.int .i64 a.l.length)), (14, .pv (.int .i64 i)), (19, .pv (.agg (b3 ⟨u0, u1, u2⟩))), (20, .pv (.int .i64 s))]) (fun _ => G1)
      (fun s => s ≤ 3 ∧ (0 < s → (u0 && w0) = false) ∧ (1 < s → (u1 && w1) = false) ∧ (2 < s → (u2 && w2) = false)) (fun j ⟨hj, f0, f1, f2⟩ r => ?_) 0 ⟨Nat.zero_le _, (by omega), (by omega), (by omega)⟩ ⟨rfl, rfl, rfl, rfl, rfl, rfl, rfl, rfl, trivial⟩ rfl
    refine boolK_dec (fun hcj => ?_) (fun hcj => ?_)
    · have h3 : j = 0 ∨ j = 1 ∨ j = 2 := by omega
      rcases h3 with rfl | rfl | rfl
      · refine needK_has rfl ?_
        refine getK_has (v := .bool u0) rfl ?_
        cases u0
        · refine eqK_has_eq _ (i64_succ (by omega)) ?_
          exact Has.intro ⟨1, ⟨(by decide), (fun _ => rfl), (by omega), (by omega)⟩, (by decide), ⟨rfl, rfl, rfl, rfl, rfl, rfl, rfl, rfl, trivial⟩, rfl⟩
        · refine hgetK_has _ k0 ?_
          refine getK_has rfl ?_
          refine needK_has (by (first | rfl | (simp; done) | (simp; omega))) ?_
          refine needK_has rfl ?_
          refine getK_has (v := .bool w0) (by rw [at7]; exact c7) ?_
          cases w0
          · refine eqK_has_eq _ (i64_succ (by omega)) ?_
            exact Has.intro ⟨1, ⟨(by decide), (fun _ => rfl), (by omega), (by omega)⟩, (by decide), ⟨rfl, rfl, rfl, rfl, rfl, rfl, rfl, rfl, trivial⟩, rfl⟩
          · have hA2 := hA
            rcases AppV.formsE hA with ⟨hz, rfl⟩ | ⟨t, rfl⟩
            all_goals
              refine hgetK_has _ k0 ?_
              refine getK_has rfl ?_
              refine needK_has (by (first | rfl | (simp; done) | (simp; omega))) ?_
              refine getK_has (v := sv c.name) (by rw [at0]; exact c0) ?_
              refine app_has (m := 1) (new := s1 c.name) hA2 rfl (by show ((sel b.l (a.l.take i)).length + 1) * 16 ≤ 140737488355328; omega) (fun v' G7 hv' hfr ht => ?_)
              have k0 := Fr.obj hA2 hfr k0 ((by intro h; cases h)) ((fun _ _ h => by cases h))
              obtain ⟨tv, rfl⟩ := AppV.formE hv'
              refine Has.intro ?_
              refine eqK_has_eq _ (i64_succ (by omega)) ?_
              refine Has.intro ⟨(i + 1, _, G7), ⟨hlt, ?_, k0⟩, (by dsimp only; omega), ⟨rfl, rfl, rfl, rfl, rfl, trivial⟩, rfl⟩
              dsimp only
              rw [hnx (by rw [hrs]; simp), ← flat_snoc, List.length_append]
              exact hv'
      · refine needK_has rfl ?_
        refine getK_has (v := .bool u1) rfl ?_
        cases u1
        · refine eqK_has_eq _ (i64_succ (by omega)) ?_
          exact Has.intro ⟨2, ⟨(by decide), (fun _ => f0 (by decide)), (fun _ => rfl), (by omega)⟩, (by decide), ⟨rfl, rfl, rfl, rfl, rfl, rfl, rfl, rfl, trivial⟩, rfl⟩
        · refine hgetK_has _ k0 ?_
          refine getK_has rfl ?_
          refine needK_has (by (first | rfl | (simp; done) | (simp; omega))) ?_
          refine needK_has rfl ?_
          refine getK_has (v := .bool w1) (by rw [at7]; exact c8) ?_
          cases w1
          · refine eqK_has_eq _ (i64_succ (by omega)) ?_
            exact Has.intro ⟨2, ⟨(by decide), (fun _ => f0 (by decide)), (fun _ => rfl), (by omega)⟩, (by decide), ⟨rfl, rfl, rfl, rfl, rfl, rfl, rfl, rfl, trivial⟩, rfl⟩
          · have hA2 := hA
            rcases AppV.formsE hA with ⟨hz, rfl⟩ | ⟨t, rfl⟩
            all_goals
              refine hgetK_has _ k0 ?_
              refine getK_has rfl ?_
              refine needK_has (by (first | rfl | (simp; done) | (simp; omega))) ?_
              refine getK_has (v := sv c.name) (by rw [at0]; exact c0) ?_
              refine app_has (m := 1) (new := s1 c.name) hA2 rfl (by show ((sel b.l (a.l.take i)).length + 1) * 16 ≤ 140737488355328; omega) (fun v' G7 hv' hfr ht => ?_)
              have k0 := Fr.obj hA2 hfr k0 ((by intro h; cases h)) ((fun _ _ h => by cases h))
              obtain ⟨tv, rfl⟩ := AppV.formE hv'
              refine Has.intro ?_
              refine eqK_has_eq _ (i64_succ (by omega)) ?_
              refine Has.intro ⟨(i + 1, _, G7), ⟨hlt, ?_, k0⟩, (by dsimp only; omega), ⟨rfl, rfl, rfl, rfl, rfl, trivial⟩, rfl⟩
              dsimp only
              rw [hnx (by rw [hrs]; simp), ← flat_snoc, List.length_append]
              exact hv'
      · refine needK_has rfl ?_
        refine getK_has (v := .bool u2) rfl ?_
        cases u2
        · refine eqK_has_eq _ (i64_succ (by omega)) ?_
          exact Has.intro ⟨3, ⟨(by decide), (fun _ => f0 (by decide)), (fun _ => f1 (by decide)), (fun _ => rfl)⟩, (by decide), ⟨rfl, rfl, rfl, rfl, rfl, rfl, rfl, rfl, trivial⟩, rfl⟩
        · refine hgetK_has _ k0 ?_
          refine getK_has rfl ?_
          refine needK_has (by (first | rfl | (simp; done) | (simp; omega))) ?_
          refine needK_has rfl ?_
          refine getK_has (v := .bool w2) (by rw [at7]; exact c9) ?_
          cases w2
          · refine eqK_has_eq _ (i64_succ (by omega)) ?_
            exact Has.intro ⟨3, ⟨(by decide), (fun _ => f0 (by decide)), (fun _ => f1 (by decide)), (fun _ => rfl)⟩, (by decide), ⟨rfl, rfl, rfl, rfl, rfl, rfl, rfl, rfl, trivial⟩, rfl⟩
          · have hA2 := hA
            rcases AppV.formsE hA with ⟨hz, rfl⟩ | ⟨t, rfl⟩
            all_goals
              refine hgetK_has _ k0 ?_
              refine getK_has rfl ?_
              refine needK_has (by (first | rfl | (simp; done) | (simp; omega))) ?_
              refine getK_has (v := sv c.name) (by rw [at0]; exact c0) ?_
              refine app_has (m := 1) (new := s1 c.name) hA2 rfl (by show ((sel b.l (a.l.take i)).length + 1) * 16 ≤ 140737488355328; omega) (fun v' G7 hv' hfr ht => ?_)
              have k0 := Fr.obj hA2 hfr k0 ((by intro h; cases h)) ((fun _ _ h => by cases h))
              obtain ⟨tv, rfl⟩ := AppV.formE hv'
              refine Has.intro ?_
              refine eqK_has_eq _ (i64_succ (by omega)) ?_
              refine Has.intro ⟨(i + 1, _, G7), ⟨hlt, ?_, k0⟩, (by dsimp only; omega), ⟨rfl, rfl, rfl, rfl, rfl, trivial⟩, rfl⟩
              dsimp only
              rw [hnx (by rw [hrs]; simp), ← flat_snoc, List.length_append]
              exact hv'
    · have : j = 3 := by omega
      subst this
      refine Has.intro ?_
      refine eqK_has_eq _ (i64_succ (by omega)) ?_
      refine Has.intro ⟨(i + 1, v, G1), ⟨hlt, ?_, k0⟩, (by dsimp only; omega), ⟨rfl, rfl, rfl, rfl, rfl, trivial⟩, rfl⟩
      dsimp only
      rw [hny (by rw [hrs, f0 (by decide), f1 (by decide), f2 (by decide)]; rfl)]
      exact hA
  · have : i = a.l.length := by omega
    subst this
    rw [List.take_of_length_le (Nat.le_refl _)] at hA
    have ho := AppV.out hA
    rcases AppV.formsE hA with ⟨hz, rfl⟩ | ⟨t, rfl⟩
    · exact Has.intro (Has.intro (Has.of_eq ho rfl))
    · exact Has.intro (Has.intro (Has.of_eq ho rfl))
end Go.Proofs.Ytnnhkkocdgegfaa
