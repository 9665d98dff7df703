/-
  Blocks: All, Rows.
-/
import Derived.Test.YtkkpkoekbmgabaaBsM
set_option linter.all false
set_option linter.unusedVariables false
set_option linter.unusedSimpArgs false
set_option linter.unusedSectionVars false
namespace Go.Proofs.Ytkkpkoekbmgabaa
open Go Go.VM
variable {H : Heap} {p m : Nat} {zs : List Zn} {L : List Rw}

theorem okeys_get {L : List Rw} {i : Nat} {r : Rw} (h : L[i]? = some r) : (((L.flatMap fun r => oc r.1).map AV.pv).drop (i * 3)).take 3 = (oc r.1).map .pv := by
  induction L generalizing i with
  | nil => cases h
  | cons a L ih =>
    cases i with
    | zero => simp at h; subst h; simp [oc]
    | succ i =>
      have := ih (i := i) (by simpa using h)
      have e : (((a :: L).flatMap fun r => oc r.1).map AV.pv).drop ((i + 1) * 3) = ((L.flatMap fun r => oc r.1).map AV.pv).drop (i * 3) := by
        rw [show (i + 1) * 3 = 3 + i * 3 by omega, ← List.drop_drop]
        rfl
      rw [e]; exact this
theorem okeys_len (L : List Rw) : ((L.flatMap fun r => oc r.1).map AV.pv).length = L.length * 3 := by
  induction L with
  | nil => rfl
  | cons a L ih => rw [List.flatMap_cons, List.map_append, List.length_append, ih, List.length_cons]; simp [oc]; omega
theorem mkkeys_ok : EE env (.fn 42) [.map m] H = some (.fn 47 [] [.ptr H.length 0], H ++ [.cells [.map m]]) := by
  refine Has.eq (EE_has ?_)
  exact Has.intro rfl
theorem all1_ok {q lid q3 q5 most : Nat} {R0 : Regs} (hq : hget H q = .cells [.map m]) (hM : MapOf H m L) (hL : L.length ≤ 100000) (hs : Sorted L) (hR3 : R0 3 = .ptr q3 0) (hR5 : R0 5 = .ptr q5 0) (hl : hget H lid = gor R0 .ready) (hq3 : hget H q3 = .pcells [iv most]) (hq5 : hget H q5 = .pcells [.sl .nil 0 []]) :
    Has (EE env (.fn 40) [.yield lid, .ptr q 0] H) fun y => Kp [lid, q5] H y.2 ∧ (hget y.2 lid = gor R0 .ready ∨ hget y.2 lid = gor R0 (.done (.exit 0))) ∧ ∃ v, hget y.2 q5 = bx v ∧ AppV y.2 v .nil 11 (min most L.length) (rcs (L.take most)) := by
  have hne : q5 ≠ lid := fun e => by rw [e, hl] at hq5; cases hq5
  have hqm : q ≠ q5 := fun e => by rw [e, hq5] at hq; cases hq
  refine EE_has ?_
  refine hgetK_has _ hq ?_
  refine callSK_has mkkeys_ok ?_
  have k0 : Kp [] H (H ++ [HObj.cells [.map m]]) := (Kp.refl _ _).app _
  have hso := sorted_ok (hget_append_same H (.cells [.map m])) (hM.kp k0 (by simp)) hL hs
  refine callSK_has' (hso.mono fun y hy => ?_)
  obtain ⟨S, B⟩ := y
  obtain ⟨k1, k2, k3⟩ := hy
  dsimp only at k1 k2 k3 ⊢
  have kB := k0.step k1
  have lB := kB.get hl (by intro h; cases h) (by simp)
  have cB := kB.get hq3 (by intro h; cases h) (by simp)
  have dB := kB.get hq5 (by intro h; cases h) (by simp)
  have qB := kB.get hq (by intro h; cases h) (by simp)
  have mB := hM.kp kB (by simp)
  have h35 : q3 ≠ q5 := fun e => by rw [e, hq5] at hq3; cases hq3
  have hmq : m ≠ q5 := fun e => by obtain ⟨_, _, hm, _⟩ := hM; rw [e, hq5] at hm; cases hm
  by_cases h0 : L = []
  · have hS := k2 h0
    subst hS h0
    refine loopK_has ?_
    refine iterE_upK 0 (fun i => [(9, .pv (iv i)), (8, .pv (iv 0))]) (fun _ h => h = B) (fun i hi => by omega) (fun r h hh => ?_) (by (repeat (first | exact trivial | refine ⟨rfl, ?_⟩))) rfl
    subst hh
    refine boolK_dec_f (by decide) ?_
    refine Has.intro (Has.intro ?_)
    refine ⟨kB.more (by simp), .inl lB, .pv (.sl .nil 0 []), dB, ?_⟩
    simp [rcs]
    exact AppV.new rfl
  · obtain ⟨bid, b1, rfl, b2⟩ := k3 h0
    have hbq : bid ≠ q5 := fun e => by rw [e, dB] at b2; cases b2
    refine loopK_has ?_
    refine iterE_upK L.length (fun i => [(9, .pv (iv i)), (8, .pv (iv L.length)), (7, .gs bid L.length), (0, .yield lid), (1, .ptr q 0)])
      (fun i J => i ≤ most ∧ Kp [q5] B J ∧ ∃ v, hget J q5 = bx v ∧ AppV J v .nil 11 i (rcs (L.take i)) ∧ ∀ t, tokOf v = some t → B.length ≤ t) (fun i hi r J hJ => ?_) (fun r J hJ => ?_) (by (repeat (first | exact trivial | refine ⟨rfl, ?_⟩))) ⟨Nat.zero_le _, Kp.refl _ _, .pv (.sl .nil 0 []), dB, AppV.new rfl, fun t h => by cases h⟩
    · obtain ⟨j1, j2, v, j3, j4, j5⟩ := hJ
      obtain ⟨clk, E, hm, hst, hpm⟩ := mB.kp j2 (by simpa using hmq)
      obtain ⟨f, hf, hlk⟩ := look_row hs.keys hpm L[i].1
      have hbJ := j2.get b2 (by intro h; cases h) (by simpa using hbq)
      refine boolK_dec_t (by omega) ?_
      refine needK_has (by simp; omega) ?_
      refine hgetK_has _ hbJ ?_
      refine needK_has (Nat.beq_refl _) ?_
      refine secK_has (v := (oc L[i].1).map .pv) (okeys_get (List.getElem?_eq_getElem hi)) (by rw [okeys_len]; show i * 3 + 3 ≤ _; omega) ?_
      have x1 : Kp [] J (hset (J ++ [HObj.pcells (oc ⟨[], [], 0⟩)]) J.length (.pcells (oc L[i].1))) := ((Kp.refl _ _).app _).set _ _ (.inr (Nat.le_refl _))
      have x2 : Kp [q5] B (hset (J ++ [HObj.pcells (oc ⟨[], [], 0⟩)]) J.length (.pcells (oc L[i].1))) := j2.step x1
      refine hgetK_last ?_
      refine needK_has rfl ?_
      refine eqK_has ?_
      refine hgetK_set ?_
      refine secK_has (v := oc L[i].1) rfl (Nat.le_refl _) ?_
      refine hgetK_has _ (x2.get qB (by intro h; cases h) (by simpa using hqm)) ?_
      refine hgetK_set ?_
      refine secK_has (v := oc L[i].1) rfl (Nat.le_refl _) ?_
      refine hgetK_has _ (x1.get hm (by intro h; cases h) (by simp)) ?_
      refine bindK_has hf ?_
      rw [hlk]
      have hv1 : AppV (hset (J ++ [HObj.pcells (oc ⟨[], [], 0⟩)]) J.length (.pcells (oc L[i].1))) v .nil 11 i (rcs (L.take i)) := j4.keep (v := .pv .nilp) ⟨x1.1, fun a ha _ => x1.2 a ha (by simp)⟩ (by
        rcases j4 with ⟨_, _, rfl, _⟩ | ⟨_, _, t, rfl, _⟩
        · exact .inl rfl
        · exact .inr (by intro h; cases h))
      have hx5 := x1.get j3 (bx_ne j4).2 (by simp)
      have hxl := x2.get lB (by intro h; cases h) (by simpa using Ne.symm hne)
      have hy := yield_row (most := most) hR3 hR5 hxl (x2.get cB (by intro h; cases h) (by simpa using h35)) hx5 hv1 (by omega) L[i]
      rw [show heldF L L[i].1 = L[i].2 from heldF_mem hs.keys (List.getElem_mem hi)]
      refine callSK_has' (hy.mono fun y hy => ?_)
      obtain ⟨w, y2⟩ := y
      have htk : ∀ y : Heap, ∀ l, Kp l (hset (J ++ [HObj.pcells (oc ⟨[], [], 0⟩)]) J.length (.pcells (oc L[i].1))) y → (∀ t ∈ l, t = q5 ∨ t = lid ∨ B.length ≤ t) → Kp [lid, q5] B y := fun y l hk hl =>
        (x2.more (l' := [lid, q5]) (by simp)).trans hk fun t ht => by
          rcases hl t ht with rfl | rfl | h
          · exact .inl (by simp)
          · exact .inl (by simp)
          · exact .inr h
      have hJb : hget (hset (J ++ [HObj.pcells (oc ⟨[], [], 0⟩)]) J.length (.pcells (oc L[i].1))) J.length = .pcells (oc L[i].1) := hget_hset_same _ (by simp)
      have some : (readObj (hget (hset (J ++ [HObj.pcells (oc ⟨[], [], 0⟩)]) J.length (.pcells (oc L[i].1))) J.length) 0 (some 3)).isSome = true := by rw [hJb]; rfl
      rcases hy with ⟨y1, rfl, y3, y4⟩ | ⟨y1, rfl, y3, v', y4, y5, y6⟩
      · dsimp only at y3 y4 ⊢
        have him : i = most := by omega
        refine sameK_has rfl some ?_
        refine Has.intro (Has.intro ?_)
        refine ⟨(kB.more (by simp)).trans (htk _ _ y3 fun t ht => .inr (.inl (by simpa using ht))) (fun t ht => .inl ht), .inr y4, v, y3.get hx5 (bx_ne j4).2 (by simpa using hne), ?_⟩
        rw [← him, show min i L.length = i by omega]
        rcases hv1 with h1 | ⟨h1, h2, t, rfl, h4⟩
        · exact .inl h1
        · exact .inr ⟨h1, h2, t, rfl, y3.get h4 (by intro h; cases h) (by
            intro h
            rw [List.mem_singleton.1 h, hxl] at h4
            cases h4)⟩
      · dsimp only at y3 y4 y5 y6 ⊢
        refine sameK_has rfl some ?_
        refine eqK_has_eq ((i + 1 : Nat) : Int) (i64_succ (by omega)) ?_
        refine Has.intro ⟨by (repeat (first | exact trivial | refine ⟨rfl, ?_⟩)), by omega, x2.trans y3 fun t ht => ?_, v', y4, ?_, fun t ht => ?_⟩
        · rcases List.mem_cons.1 ht with rfl | ht
          · exact .inl (by simp)
          · exact .inr (j5 t (by simpa using ht))
        · have : rcs (L.take (i + 1)) = rcs (L.take i) ++ rc L[i] := by
            have e : L.take (i + 1) = L.take i ++ [L[i]] := by rw [List.take_add_one, List.getElem?_eq_getElem hi]; rfl
            rw [e]
            unfold rcs
            rw [List.flatMap_append]
            simp only [List.flatMap_cons, List.flatMap_nil, List.append_nil]
          rw [this]; exact y5
        · rcases y6 with h | ⟨t', h, h2⟩
          · exact j5 t (by rw [← h, ht])
          · rw [ht] at h; injection h with h
            rw [h]; exact Nat.le_trans x2.1 h2
    · obtain ⟨j1, j2, v, j3, j4, j5⟩ := hJ
      refine boolK_dec_f (by omega) ?_
      refine Has.intro (Has.intro ?_)
      refine ⟨(kB.more (by simp)).trans (j2.more (l' := [lid, q5]) (by simp)) (fun t ht => .inl ht), .inl (j2.get lB (by intro h; cases h) (by simpa using Ne.symm hne)), v, j3, ?_⟩
      rw [show min most L.length = L.length by omega]
      rw [List.take_of_length_le (Nat.le_refl _)] at j4
      rw [List.take_of_length_le j1]
      exact j4
end Go.Proofs.Ytkkpkoekbmgabaa
