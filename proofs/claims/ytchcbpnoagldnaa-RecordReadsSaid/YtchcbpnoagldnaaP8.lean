/-
  Part 8 of the functions and the law.
  The document's reader: a hold.
  The document's reader: a state; where it stops ahead of the end.
  The document's reader: a state is read as the program reads it.
  RecordReads in the abstract machine.
-/
import Derived.Test.YtchcbpnoagldnaaP7
set_option linter.all false
set_option linter.unusedVariables false
set_option linter.unusedSimpArgs false
set_option linter.unusedSectionVars false
namespace Go.Proofs.Ytchcbpnoagldnaa
open Go Go.VM

abbrev LOOP2 : VCode := c21.at [1, 1, 1, 1, 1, 1, 1, 0]
abbrev BODY2 : VCode := LOOP2.at [1, 0, 0, 1, 0, 0]
def Ld (a2 : AV) (p : Nat) (a5 a6 a14 : AV) : List (Nat × AV) := [(2, a2), (4, .ptr p 0), (5, a5), (6, a6), (14, a14)]
def ho (a b : List UInt8) (k : Int) (sp : List Int) : HObj := .pcells (hoc ⟨⟨a, b, k⟩, sp⟩)
set_option maxHeartbeats 4000000 in
/-- A hold is read; what comes of it goes on. -/
theorem hfill_ok {p : Nat} {r : RS} {H : Heap} (h : SD H p r) (a2 a5 a6 a14 : AV) (r0 : Regs) {Q : Res → Prop} (k : Ex → Regs → Heap → Option Res)
    (hb : ∀ (G : Heap) (r1 : Regs), CS p H.length H G (gH r).2 (.pcells (hoc (gH r).1)) →
      Has (evK env (EE env) (BODY2.at [1, 1, 1, 1, 1]) Res (setL r1 (((15, .ptr H.length 0) :: Ld a2 p a5 a6 a14))) G k) Q) :
    Has (evK env (EE env) BODY2 Res (setL r0 (Ld a2 p a5 a6 a14)) H k) Q := by
  have hl := h.lt
  have hgH : gH r = (⟨⟨(gT 16 r).1, (gT 16 (gT 16 r).2).1, (gN 1 (gT 16 (gT 16 r).2).2).1⟩, (gI (gN 1 (gT 16 (gT 16 r).2).2).2 8).1⟩, (gI (gN 1 (gT 16 (gT 16 r).2).2).2 8).2) := rfl
  rw [hgH] at hb
  clear hgH
  refine seq_st (σ := Heap) (fun _ => (((15, .ptr H.length 0) :: Ld a2 p a5 a6 a14))) (fun G => G) (fun G => CS p H.length H G r (ho [] [] 0 z8)) ?_ (fun G hG r0 => ?_)
  · exact Has.intro ⟨rfl, _, ⟨h.app _, hget_append_same H _, KR.app p H _⟩, (⟨rfl, rfl, rfl, rfl, rfl, rfl, trivial⟩), rfl⟩
  refine seq_st (σ := Heap) (fun _ => (((15, .ptr H.length 0) :: Ld a2 p a5 a6 a14))) (fun G => G) (fun G => CS p H.length H G (gT 16 r).2 (ho (gT 16 r).1 [] 0 z8)) ?_ (fun G hG r0 => ?_)
  · refine callSK_has' ((stxt_rd hG.1).mono fun z hz => ?_)
    have h2 := hG.call ((by intro h; cases h)) hl (Nat.le_refl _) hz
    obtain ⟨v, G2⟩ := z
    obtain ⟨rfl, _, _⟩ := hz
    refine hgetK_has _ h2.2.1 ?_
    refine needK_has rfl ?_
    refine eqK_has_eq (hoc ⟨⟨(gT 16 r).1, [], 0⟩, z8⟩) rfl ?_
    exact Has.intro ⟨rfl, _, h2.put ((by intro h; cases h)) hl (Nat.le_refl _) _, (⟨rfl, rfl, rfl, rfl, rfl, rfl, trivial⟩), rfl⟩
  generalize gT 16 r = ga at *
  refine seq_st (σ := Heap) (fun _ => (((15, .ptr H.length 0) :: Ld a2 p a5 a6 a14))) (fun G => G) (fun G => CS p H.length H G (gT 16 ga.2).2 (ho ga.1 (gT 16 ga.2).1 0 z8)) ?_ (fun G hG r0 => ?_)
  · refine callSK_has' ((stxt_rd hG.1).mono fun z hz => ?_)
    have h2 := hG.call ((by intro h; cases h)) hl (Nat.le_refl _) hz
    obtain ⟨v, G2⟩ := z
    obtain ⟨rfl, _, _⟩ := hz
    refine hgetK_has _ h2.2.1 ?_
    refine needK_has rfl ?_
    refine eqK_has_eq (hoc ⟨⟨ga.1, (gT 16 ga.2).1, 0⟩, z8⟩) rfl ?_
    exact Has.intro ⟨rfl, _, h2.put ((by intro h; cases h)) hl (Nat.le_refl _) _, (⟨rfl, rfl, rfl, rfl, rfl, rfl, trivial⟩), rfl⟩
  generalize gT 16 ga.2 = gb at *
  refine seq_st (σ := Heap) (fun _ => (((15, .ptr H.length 0) :: Ld a2 p a5 a6 a14))) (fun G => G) (fun G => CS p H.length H G (gN 1 gb.2).2 (ho ga.1 gb.1 (gN 1 gb.2).1 z8)) ?_ (fun G hG r0 => ?_)
  · have := gN_le 1 gb.2
    refine callSK_has' ((snum_rd hG.1 1 (by decide)).mono fun z hz => ?_)
    have h2 := hG.call ((by intro h; cases h)) hl (Nat.le_refl _) hz
    obtain ⟨v, G2⟩ := z
    obtain ⟨rfl, _, _⟩ := hz
    refine eqK_has_eq ((gN 1 gb.2).1 : Int) (wrap_i64 (by omega) (by omega)) ?_
    refine hgetK_has _ h2.2.1 ?_
    refine needK_has rfl ?_
    refine eqK_has_eq (hoc ⟨⟨ga.1, gb.1, (gN 1 gb.2).1⟩, z8⟩) rfl ?_
    exact Has.intro ⟨rfl, _, h2.put ((by intro h; cases h)) hl (Nat.le_refl _) _, (⟨rfl, rfl, rfl, rfl, rfl, rfl, trivial⟩), rfl⟩
  generalize gN 1 gb.2 = gk at *
  refine seq_st (σ := Heap) (fun _ => (((15, .ptr H.length 0) :: Ld a2 p a5 a6 a14))) (fun G => G) (fun G => CS p H.length H G (gI gk.2 8).2 (ho ga.1 gb.1 gk.1 (gI gk.2 8).1)) ?_ (fun G hG r0 => hb G r0 hG)
  refine loopK_has ?_
  refine iterE_loop (σ := Nat × Heap) (fun t => 8 - t.1) (fun t => (16, .pv (.int .i64 (t.1 : Int))) :: (((15, .ptr H.length 0) :: Ld a2 p a5 a6 a14))) (fun t => t.2)
    (fun t => t.1 ≤ 8 ∧ CS p H.length H t.2 (gI gk.2 t.1).2 (ho ga.1 gb.1 gk.1 (gI gk.2 t.1).1))
    (fun ⟨j, G⟩ ⟨hj, hG⟩ r' => ?_) (0, G) ⟨Nat.zero_le _, hG⟩ ⟨rfl, rfl, rfl, rfl, rfl, rfl, rfl, trivial⟩ rfl
  dsimp only at hj hG ⊢
  refine boolK_dec (fun hc2 => ?_) (fun hc2 => ?_)
  · have := gN_le 1073741824 (gI gk.2 j).2
    refine callSK_has' ((snum_rd hG.1 1073741824 (by decide)).mono fun z hz => ?_)
    have h2 := hG.call ((by intro h; cases h)) hl (Nat.le_refl _) hz
    obtain ⟨v, G2⟩ := z
    obtain ⟨rfl, _, _⟩ := hz
    dsimp only at h2 ⊢
    refine eqK_has_eq ((gN 1073741824 (gI gk.2 j).2).1 : Int) (wrap_i64 (by omega) (by omega)) ?_
    refine needK_has (by (first | rfl | (simp; done) | (simp; omega))) ?_
    refine hgetK_has _ h2.2.1 ?_
    refine needK_has (hoc_idx (gI_len gk.2 j) (by omega)) ?_
    refine eqK_has_eq _ (hoc_set _ _ _ _) ?_
    refine eqK_has_eq _ (i64_succ (by omega)) ?_
    exact Has.intro ⟨(j + 1, _), ⟨by omega, h2.put ((by intro h; cases h)) hl (Nat.le_refl _) _⟩, (by dsimp only; omega), ⟨rfl, rfl, rfl, rfl, rfl, rfl, rfl, trivial⟩, rfl⟩
  · have hj8 : j = 8 := by omega
    subst hj8
    refine Has.intro ?_
    exact Has.intro ⟨rfl, G, hG, (⟨rfl, rfl, rfl, rfl, rfl, rfl, trivial⟩), rfl⟩
theorem gH_eight (r : RS) : (gH r).1.sp.length = 8 := gI_len _ 8
set_option maxHeartbeats 4000000 in
theorem hold_s {p q5 : Nat} {r : RS} {H : Heap} (hr : SD H p r) (hq5 : q5 ≠ p) (gn : Int) (v w : AV) (k5 : hget H q5 = sobj gn v w) (n : Nat) (E : List PV) (hv : AppV H v .nil 10 n E) (i : Nat) (hi : i ≤ 400) (F : List PV) (hw : AppV H w .nil 11 i F)
    (hd : tokOf v = none ∨ tokOf v ≠ tokOf w) (hgw : TokGe (p + 1) w) (a2 a6 a14 : AV) (r0 : Regs) :
    Has (evK env (EE env) BODY2 Res (setL r0 (Ld a2 p (.ptr q5 0) a6 a14)) H (blockK 5 doneK)) (fun x => x.1 = .normal ∧ Agr x.2.1 (Ld a2 p (.ptr q5 0) a6 a14) ∧
      ∃ w', SD x.2.2 p (gH r).2 ∧ hget x.2.2 q5 = sobj gn v w' ∧ AppV x.2.2 v .nil 10 n E ∧ AppV x.2.2 w' .nil 11 (i + 1) (F ++ hoc (gH r).1) ∧ (tokOf v = none ∨ tokOf v ≠ tokOf w') ∧ TokGe (p + 1) w' ∧ (∀ j o, j ≠ p → j ≠ q5 → hget H j = .pcells o → hget x.2.2 j = .pcells o)) := by
  have hpl := hr.lt
  refine hfill_ok hr _ _ _ _ r0 _ (fun G r1 hG => ?_)
  obtain ⟨hr1, k15, K⟩ := hG
  have hql := hget_lt k5 sobj_ne.1
  replace k5 := K.obj hq5 k5 sobj_ne.1
  replace hv := AppV.krn hv K hr
  replace hw := AppV.krn hw K hr
  have keep : ∀ j o, j ≠ p → hget H j = .pcells o → hget G j = .pcells o := fun j o hj ho => K.obj hj ho ((by intro h; cases h))
  have h8 := gH_eight r
  generalize gH r = gh at *
  obtain ⟨⟨o, sp⟩, r8⟩ := gh
  dsimp only at h8 hr1 k15 ⊢
  obtain ⟨x0, x1, x2, x3, x4, x5, x6, x7, rfl⟩ := eight h8
  rcases formsG hv with ⟨hz, hcs, hve⟩ | ⟨hz, t, hve⟩
  all_goals
    rcases formsG hw with ⟨hz2, hcs2, hwe⟩ | ⟨hz2, t2, hwe⟩
  all_goals
    have k5l := k5
    have hwl := hw
    rw [hve, hwe] at k5l
    rw [hwe] at hwl
    refine hgetK_has _ k5l ?_
    first
      | refine getK_has rfl ?_
      | skip
    refine hgetK_has _ k15 ?_
    refine secK_has (v := hoc ⟨o, [x0, x1, x2, x3, x4, x5, x6, x7]⟩) rfl (of_decide_eq_true rfl) ?_
    refine app_has (m := 1) (new := hoc ⟨o, [x0, x1, x2, x3, x4, x5, x6, x7]⟩) hwl rfl (by show (i + 1) * 104 ≤ 140737488355328; omega) (fun w2 G2 hw2 hf ht => ?_)
    rw [← hwe] at hf ht
    obtain ⟨hv2, hd2⟩ := app_other hv hd hf ht
    have k5' := Fr.obj hw hf k5 sobj_ne.1 sobj_ne.2
    have hr' := hr1.fr hf hgw (Nat.lt_succ_self p)
    have hgw' := hgw.app (Nat.succ_le_of_lt hr1.lt) ht
    rcases formsG hw2 with ⟨hz3, _⟩ | ⟨hz3, t3, rfl⟩
    · omega
    have k5'l := k5'
    rw [hve, hwe] at k5'l
    refine hgetK_has _ k5'l ?_
    refine Has.intro ⟨rfl, ⟨rfl, rfl, rfl, rfl, rfl, trivial⟩, .tsl t3 (i + 1) (F ++ hoc ⟨o, [x0, x1, x2, x3, x4, x5, x6, x7]⟩), hr'.set _ hq5, ?_, AppV_put hv2 _ k5' sobj_ne.2, AppV_put hw2 _ k5' sobj_ne.2, hd2, hgw', fun j ob hj hj5 ho => ?_⟩
    · rw [hve]; exact hget_hset_same _ (hget_lt k5' sobj_ne.1)
    · exact (hget_hset_ne _ _ hj5).trans (Fr.obj hw hf (keep j ob hj ho) ((by intro h; cases h)) ((fun _ _ h => by cases h)))
end Go.Proofs.Ytchcbpnoagldnaa

namespace Go.Proofs.Ytchcbpnoagldnaa
open Go Go.VM

def kE (b : List UInt8) : Nat × RS := gN 16 (gN 1099511627776 (b, 0)).2
def kH (b : List UInt8) (i : Nat) : Nat × RS := gN 192 (gEs (kE b).2 i).2
theorem gSt_eq (b : List UInt8) : gSt b = (⟨(gN 1099511627776 (b, 0)).1, (gEs (kE b).2 (kE b).1).1, (gHs (kH b (kE b).1).2 (kH b (kE b).1).1).1⟩, (gHs (kH b (kE b).1).2 (kH b (kE b).1).1).2) := rfl
theorem gst_stop (b : List UInt8) (i j : Nat) (hi : i ≤ (kE b).1) (h1 : i = (kE b).1 ∨ (gEs (kE b).2 i).2.2 ≠ 0) (hj : j ≤ (kH b i).1) (h2 : j = (kH b i).1 ∨ (gHs (kH b i).2 j).2.2 ≠ 0) :
    (gSt b).2 = (gHs (kH b i).2 j).2 ∧ ((gHs (kH b i).2 j).2.2 = 0 → (gSt b).1 = ⟨(gN 1099511627776 (b, 0)).1, (gEs (kE b).2 i).1, (gHs (kH b i).2 j).1⟩) := by
  rw [gSt_eq]
  by_cases he : (gEs (kE b).2 i).2.2 = 0
  · have hik : i = (kE b).1 := by
      rcases h1 with h | h
      · exact h
      · exact absurd he h
    rw [← hik]
    rcases h2 with h2 | h2
    · rw [← h2]
      exact ⟨rfl, fun _ => rfl⟩
    · obtain ⟨d, hd⟩ := Nat.le.dest hj
      refine ⟨?_, fun h => absurd h h2⟩
      rw [← hd]
      exact gHs_stop h2 d
  · obtain ⟨d, hd⟩ := Nat.le.dest hi
    have hE : (gEs (kE b).2 (kE b).1).2 = (gEs (kE b).2 i).2 := by
      conv => lhs; rw [← hd]
      exact gEs_stop he d
    have hK : kH b (kE b).1 = kH b i := by unfold kH; rw [hE]
    have hM : kH b i = (0, (gEs (kE b).2 i).2) := gN_err he 192
    have hj0 : j = 0 := by rw [hM] at hj; exact Nat.le_zero.1 hj
    subst hj0
    rw [hK, hM]
    refine ⟨rfl, fun h => absurd h he⟩
theorem getS_of (b : List UInt8) (r : RS) (s : St) (h1 : (gSt b).2 = r) (h2 : r.2 = 0 → (gSt b).1 = s) :
    getS b = if T.rEnd r.1 r.2 ≠ 0 then (s0, T.rEnd r.1 r.2) else if rightP s then (s, 0) else (s0, 11) := by
  unfold getS
  rw [h1]
  by_cases he : T.rEnd r.1 r.2 = 0
  · have hr : r.2 = 0 := by
      unfold T.rEnd at he
      split at he
      · cases he
      · exact he
    rw [h2 hr]
  · rw [if_pos he, if_pos he]
def Lg (a6 : AV) : List (Nat × AV) := [(2, .ptr 0 0), (4, .ptr 1 0), (5, .ptr 2 0), (6, a6)]
set_option maxHeartbeats 4000000 in
theorem loop1_ok (gn : Int) (g : RS) (k : Nat) (hk : k ≤ 16) {H : Heap} (hr : SD H 1 g) (k0 : hget H 0 = .pcells ([.int .i64 0, .sl .nil 0 [], .sl .nil 0 []])) (k2 : hget H 2 = sobj gn ((.pv (.sl .nil 0 []))) ((.pv (.sl .nil 0 [])))) (r0 : Regs) :
    Has (evK env (EE env) LOOP1 Res (setL r0 (Lg (.pv (.int .i64 (k : Int))))) H doneK) (fun x => x.1 = .normal ∧ ∃ t : Nat × AV × Heap, (t.1 ≤ k ∧ (t.1 = k ∨ (gEs g t.1).2.2 ≠ 0) ∧ SD t.2.2 1 (gEs g t.1).2 ∧ hget t.2.2 0 = .pcells ([.int .i64 0, .sl .nil 0 [], .sl .nil 0 []]) ∧ hget t.2.2 2 = sobj gn t.2.1 ((.pv (.sl .nil 0 []))) ∧ AppV t.2.2 t.2.1 .nil 10 t.1 (flat en (gEs g t.1).1))
      ∧ Agr x.2.1 [(2, .ptr 0 0), (4, .ptr 1 0), (5, .ptr 2 0)] ∧ x.2.2 = t.2.2) := by
  refine loopK_has ?_
  refine iterE_loop (σ := Nat × AV × Heap) (fun t => k - t.1) (fun t => La (.ptr 0 0) 1 (.ptr 2 0) (.pv (.int .i64 (k : Int))) (.pv (.int .i64 (t.1 : Int)))) (fun t => t.2.2)
    (fun t => t.1 ≤ k ∧ SD t.2.2 1 (gEs g t.1).2 ∧ hget t.2.2 0 = .pcells ([.int .i64 0, .sl .nil 0 [], .sl .nil 0 []]) ∧ hget t.2.2 2 = sobj gn t.2.1 ((.pv (.sl .nil 0 []))) ∧ AppV t.2.2 t.2.1 .nil 10 t.1 (flat en (gEs g t.1).1) ∧ TokGe 2 t.2.1)
    (fun ⟨i, v, G⟩ ⟨hi, hr, k0, k2, hv, hg⟩ r' => ?_) (0, ((.pv (.sl .nil 0 []))), H) ⟨Nat.zero_le _, hr, k0, k2, AppV.new rfl, fun t e => by cases e⟩ ⟨rfl, rfl, rfl, rfl, rfl, trivial⟩ rfl
  dsimp only at hi hr k0 k2 hv hg ⊢
  show Has (evK env (EE env) (LOOP1.at [1, 0, 0]) Res (setL r' (La (.ptr 0 0) 1 (.ptr 2 0) (.pv (.int .i64 (k : Int))) (.pv (.int .i64 (i : Int))))) G doneK) _
  refine seq_join (fun e r h => h = G ∧ Agr r (La (.ptr 0 0) 1 (.ptr 2 0) (.pv (.int .i64 (k : Int))) (.pv (.int .i64 (i : Int)))) ∧ ((e = .normal ∧ i < k) ∨ (e = .exit 0 ∧ (i = k ∨ (gEs g i).2.2 ≠ 0)))) ?_ (fun e r h hj => ?_)
  · refine boolK_dec (fun hc => ?_) (fun hc => ?_)
    · refine hgetK_has _ hr.1 ?_
      refine getK_has rfl ?_
      refine boolK_beq (fun h1 => ?_) (fun h1 => ?_)
      · exact Has.intro ⟨rfl, ⟨rfl, rfl, rfl, rfl, rfl, trivial⟩, .inl ⟨rfl, by omega⟩⟩
      · exact Has.intro ⟨rfl, ⟨rfl, rfl, rfl, rfl, rfl, trivial⟩, .inr ⟨rfl, .inr h1⟩⟩
    · exact Has.intro ⟨rfl, ⟨rfl, rfl, rfl, rfl, rfl, trivial⟩, .inr ⟨rfl, .inl (by omega)⟩⟩
  obtain ⟨rfl, hA, hj⟩ := hj
  rw [← hA.eq]
  rcases hj with ⟨rfl, hlt⟩ | ⟨rfl, hge⟩
  · show Has (evK env (EE env) (LOOP1.at [1, 0, 0, 1]) Res _ _ doneK) _
    refine seq_st (σ := AV × Heap) (fun _ => La (.ptr 0 0) 1 (.ptr 2 0) (.pv (.int .i64 (k : Int))) (.pv (.int .i64 (i : Int)))) (fun t => t.2)
      (fun t => SD t.2 1 (gEs g (i + 1)).2 ∧ hget t.2 0 = .pcells ([.int .i64 0, .sl .nil 0 [], .sl .nil 0 []]) ∧ hget t.2 2 = sobj gn t.1 ((.pv (.sl .nil 0 []))) ∧ AppV t.2 t.1 .nil 10 (i + 1) (flat en (gEs g (i + 1)).1) ∧ TokGe 2 t.1) ?_ (fun ⟨v', G'⟩ ⟨hr', k0', k2', hv', hg'⟩ r => ?_)
    · refine (ent_s hr (by decide) gn v k2 i (by omega) _ hv hg _ _ _ r).mono (fun x hx => ?_)
      obtain ⟨h1, h2, vx', h3, h4, h5, h6, h7⟩ := hx
      refine ⟨h1, (vx', x.2.2), ⟨h3, h7 0 _ (by decide) (by decide) k0, h4, ?_, h6⟩, h2, rfl⟩
      show AppV _ _ _ _ _ (flat en ((gEs g i).1 ++ [_]))
      rw [← flat_snoc]; exact h5
    · refine eqK_has_eq _ (i64_succ (by omega)) ?_
      exact Has.intro ⟨(i + 1, v', G'), ⟨hlt, hr', k0', k2', hv', hg'⟩, by dsimp only; omega, ⟨rfl, rfl, rfl, rfl, rfl, trivial⟩, rfl⟩
  · refine Has.intro ?_
    exact Has.intro ⟨rfl, (i, v, h), ⟨hi, hge, hr, k0, k2, hv⟩, ⟨rfl, rfl, rfl, trivial⟩, rfl⟩
set_option maxHeartbeats 4000000 in
theorem loop2_ok (gn : Int) (g : RS) (k : Nat) (hk : k ≤ 192) {H : Heap} (hr : SD H 1 g) (k0 : hget H 0 = .pcells ([.int .i64 0, .sl .nil 0 [], .sl .nil 0 []])) (v : AV) (n : Nat) (E : List PV) (hv : AppV H v .nil 10 n E) (k2 : hget H 2 = sobj gn v ((.pv (.sl .nil 0 [])))) (r0 : Regs) :
    Has (evK env (EE env) LOOP2 Res (setL r0 (Lg (.pv (.int .i64 (k : Int))))) H doneK) (fun x => x.1 = .normal ∧ ∃ t : Nat × AV × Heap, (t.1 ≤ k ∧ (t.1 = k ∨ (gHs g t.1).2.2 ≠ 0) ∧ SD t.2.2 1 (gHs g t.1).2 ∧ hget t.2.2 0 = .pcells ([.int .i64 0, .sl .nil 0 [], .sl .nil 0 []]) ∧ hget t.2.2 2 = sobj gn v t.2.1 ∧ AppV t.2.2 v .nil 10 n E ∧ AppV t.2.2 t.2.1 .nil 11 t.1 (flat hoc (gHs g t.1).1))
      ∧ Agr x.2.1 [(2, .ptr 0 0), (4, .ptr 1 0), (5, .ptr 2 0)] ∧ x.2.2 = t.2.2) := by
  refine loopK_has ?_
  refine iterE_loop (σ := Nat × AV × Heap) (fun t => k - t.1) (fun t => Ld (.ptr 0 0) 1 (.ptr 2 0) (.pv (.int .i64 (k : Int))) (.pv (.int .i64 (t.1 : Int)))) (fun t => t.2.2)
    (fun t => t.1 ≤ k ∧ SD t.2.2 1 (gHs g t.1).2 ∧ hget t.2.2 0 = .pcells ([.int .i64 0, .sl .nil 0 [], .sl .nil 0 []]) ∧ hget t.2.2 2 = sobj gn v t.2.1 ∧ AppV t.2.2 v .nil 10 n E ∧ AppV t.2.2 t.2.1 .nil 11 t.1 (flat hoc (gHs g t.1).1) ∧ (tokOf v = none ∨ tokOf v ≠ tokOf t.2.1) ∧ TokGe 2 t.2.1)
    (fun ⟨i, w, G⟩ ⟨hi, hr, k0, k2, hv, hw, hd, hg⟩ r' => ?_) (0, ((.pv (.sl .nil 0 []))), H) ⟨Nat.zero_le _, hr, k0, k2, hv, AppV.new rfl, ?_, fun t e => by cases e⟩ ⟨rfl, rfl, rfl, rfl, rfl, trivial⟩ rfl
  rotate_left
  · cases hh : tokOf v with
    | none => exact .inl rfl
    | some t => exact .inr (by intro e; cases e)
  dsimp only at hi hr k0 k2 hv hw hd hg ⊢
  show Has (evK env (EE env) (LOOP2.at [1, 0, 0]) Res (setL r' (Ld (.ptr 0 0) 1 (.ptr 2 0) (.pv (.int .i64 (k : Int))) (.pv (.int .i64 (i : Int))))) G doneK) _
  refine seq_join (fun e r h => h = G ∧ Agr r (Ld (.ptr 0 0) 1 (.ptr 2 0) (.pv (.int .i64 (k : Int))) (.pv (.int .i64 (i : Int)))) ∧ ((e = .normal ∧ i < k) ∨ (e = .exit 4 ∧ (i = k ∨ (gHs g i).2.2 ≠ 0)))) ?_ (fun e r h hj => ?_)
  · refine boolK_dec (fun hc => ?_) (fun hc => ?_)
    · refine hgetK_has _ hr.1 ?_
      refine getK_has rfl ?_
      refine boolK_beq (fun h1 => ?_) (fun h1 => ?_)
      · exact Has.intro ⟨rfl, ⟨rfl, rfl, rfl, rfl, rfl, trivial⟩, .inl ⟨rfl, by omega⟩⟩
      · exact Has.intro ⟨rfl, ⟨rfl, rfl, rfl, rfl, rfl, trivial⟩, .inr ⟨rfl, .inr h1⟩⟩
    · exact Has.intro ⟨rfl, ⟨rfl, rfl, rfl, rfl, rfl, trivial⟩, .inr ⟨rfl, .inl (by omega)⟩⟩
  obtain ⟨rfl, hA, hj⟩ := hj
  rw [← hA.eq]
  rcases hj with ⟨rfl, hlt⟩ | ⟨rfl, hge⟩
  · show Has (evK env (EE env) (LOOP2.at [1, 0, 0, 1]) Res _ _ doneK) _
    refine seq_st (σ := AV × Heap) (fun _ => Ld (.ptr 0 0) 1 (.ptr 2 0) (.pv (.int .i64 (k : Int))) (.pv (.int .i64 (i : Int)))) (fun t => t.2)
      (fun t => SD t.2 1 (gHs g (i + 1)).2 ∧ hget t.2 0 = .pcells ([.int .i64 0, .sl .nil 0 [], .sl .nil 0 []]) ∧ hget t.2 2 = sobj gn v t.1 ∧ AppV t.2 v .nil 10 n E ∧ AppV t.2 t.1 .nil 11 (i + 1) (flat hoc (gHs g (i + 1)).1) ∧ (tokOf v = none ∨ tokOf v ≠ tokOf t.1) ∧ TokGe 2 t.1) ?_ (fun ⟨w', G'⟩ ⟨hr', k0', k2', hv', hw', hd', hg'⟩ r => ?_)
    · refine (hold_s hr (by decide) gn v w k2 n E hv i (by omega) _ hw hd hg _ _ _ r).mono (fun x hx => ?_)
      obtain ⟨h1, h2, w', h3, h4, h5, h6, h7, h8, h9⟩ := hx
      refine ⟨h1, (w', x.2.2), ⟨h3, h9 0 _ (by decide) (by decide) k0, h4, h5, ?_, h7, h8⟩, h2, rfl⟩
      show AppV _ _ _ _ _ (flat hoc ((gHs g i).1 ++ [_]))
      rw [← flat_snoc]; exact h6
    · refine eqK_has_eq _ (i64_succ (by omega)) ?_
      exact Has.intro ⟨(i + 1, w', G'), ⟨hlt, hr', k0', k2', hv', hw', hd', hg'⟩, by dsimp only; omega, ⟨rfl, rfl, rfl, rfl, rfl, trivial⟩, rfl⟩
  · refine Has.intro ?_
    exact Has.intro ⟨rfl, (i, w, h), ⟨hi, hge, hr, k0, k2, hv, hw⟩, ⟨rfl, rfl, rfl, trivial⟩, rfl⟩
end Go.Proofs.Ytchcbpnoagldnaa

namespace Go.Proofs.Ytchcbpnoagldnaa
open Go Go.VM

theorem AppV.put1 {H : Heap} {r : RS} {v : AV} {e : Ext} {es n : Nat} {cs : List PV} (h : AppV H v e es n cs) (hr : SD H 1 r) (o : HObj) : AppV (hset H 1 o) v e es n cs := AppV_put h o hr.1 (fun _ _ h => by cases h)
theorem sfail_no {H : Heap} {p : Nat} {r : RS} (h : SD H p r) (err : Int) (he : r.2 ≠ 0) : EE env (.fn 62) [.ptr p 0, .pv (.int .i64 err)] H = some (.pv (.tup []), H) := by
  refine Has.eq (EE_has ?_)
  refine hgetK_has _ h.1 ?_
  refine getK_has rfl ?_
  refine boolK_beq_f he ?_
  exact Has.intro rfl
set_option maxHeartbeats 8000000 in
theorem rget_ok' (b : List UInt8) (hb : b.length ≤ 1000000) : ∃ x1 x2, EP (EE env) 21 [sv b] = some (.tup [.agg (stc (getS b).1 x1 x2), .int .i64 (getS b).2]) := by
  have main : Has (EP (EE env) 21 [sv b]) (fun u => ∃ x1 x2, u = .tup [.agg (stc (getS b).1 x1 x2), .int .i64 (getS b).2]) := by
    refine EP_has (fn_has rfl ?_)
    refine seq_on [(0, .pv (sv b)), (2, .ptr 0 0)] [.pcells ([.int .i64 0, .sl .nil 0 [], .sl .nil 0 []])] (Has.intro ⟨rfl, ⟨rfl, rfl, trivial⟩, rfl⟩) (fun r => ?_)
    refine seq_on [(2, .ptr 0 0), (4, .ptr 1 0)] [.pcells ([.int .i64 0, .sl .nil 0 [], .sl .nil 0 []]), so (b, 0)] (Has.intro ⟨rfl, ⟨rfl, rfl, trivial⟩, rfl⟩) (fun r => ?_)
    refine seq_on ([(2, .ptr 0 0), (4, .ptr 1 0), (5, .ptr 2 0)]) [.pcells ([.int .i64 0, .sl .nil 0 [], .sl .nil 0 []]), so (b, 0), .pcells ([.int .i64 0, .sl .nil 0 [], .sl .nil 0 []])] (Has.intro ⟨rfl, ⟨rfl, rfl, rfl, trivial⟩, rfl⟩) (fun r => ?_)
    have hr : SD [.pcells ([.int .i64 0, .sl .nil 0 [], .sl .nil 0 []]), so (b, 0), .pcells ([.int .i64 0, .sl .nil 0 [], .sl .nil 0 []])] 1 (b, 0) := ⟨rfl, hb⟩
    have c1 := gN_le 1099511627776 (b, 0)
    refine seq_st (σ := Heap) (fun _ => ([(2, .ptr 0 0), (4, .ptr 1 0), (5, .ptr 2 0)])) (fun G => G) (fun G => SD G 1 (gN 1099511627776 (b, 0)).2 ∧ hget G 0 = .pcells ([.int .i64 0, .sl .nil 0 [], .sl .nil 0 []]) ∧ hget G 2 = sobj (gN 1099511627776 (b, 0)).1 ((.pv (.sl .nil 0 []))) ((.pv (.sl .nil 0 [])))) ?_ (fun G ⟨hr, k0, k2⟩ r => ?_)
    · refine callSK_has' ((snum_rd hr 1099511627776 (by decide)).mono fun z hz => ?_)
      obtain ⟨u, G2⟩ := z
      obtain ⟨rfl, h1, hk⟩ := hz
      dsimp only at h1 hk ⊢
      refine eqK_has_eq ((gN 1099511627776 (b, 0)).1 : Int) (wrap_i64 (by omega) (by omega)) ?_
      have k2 : hget G2 2 = .pcells ([.int .i64 0, .sl .nil 0 [], .sl .nil 0 []]) := hk.obj (by decide) rfl ((by intro h; cases h))
      refine hgetK_has _ k2 ?_
      refine needK_has rfl ?_
      refine eqK_has_eq [.int .i64 (gN 1099511627776 (b, 0)).1, .sl .nil 0 [], .sl .nil 0 []] rfl ?_
      exact Has.intro ⟨rfl, _, ⟨h1.set _ (by decide), (hget_hset_ne _ _ (by decide)).trans (hk.obj (by decide) rfl ((by intro h; cases h))), hget_hset_same _ (hget_lt k2 ((by intro h; cases h)))⟩, ⟨rfl, rfl, rfl, trivial⟩, rfl⟩
    have hgE := gst_stop b
    have hgEs := gEs_small (kE b).2 (by have : (gN 1099511627776 (b, 0)).2.1.length ≤ b.length := gN_short 1099511627776 (b, 0); have := gN_short 16 (gN 1099511627776 (b, 0)).2; show (gN 16 (gN 1099511627776 (b, 0)).2).2.1.length ≤ _; omega)
    have hk16 := gN_le 16 (gN 1099511627776 (b, 0)).2
    refine seq_st (σ := Heap) (fun _ => Lg (.pv (.int .i64 ((kE b).1 : Nat)))) (fun G => G) (fun G => SD G 1 (kE b).2 ∧ hget G 0 = .pcells ([.int .i64 0, .sl .nil 0 [], .sl .nil 0 []]) ∧ hget G 2 = sobj (gN 1099511627776 (b, 0)).1 ((.pv (.sl .nil 0 []))) ((.pv (.sl .nil 0 [])))) ?_ (fun G ⟨hr, k0, k2⟩ r => ?_)
    · refine callSK_has' ((snum_rd hr 16 (by decide)).mono fun z hz => ?_)
      obtain ⟨u, G2⟩ := z
      obtain ⟨rfl, h1, hk⟩ := hz
      dsimp only at h1 hk ⊢
      refine eqK_has_eq ((kE b).1 : Int) (wrap_i64 (by omega) (by omega)) ?_
      exact Has.intro ⟨rfl, _, ⟨h1, hk.obj (by decide) k0 ((by intro h; cases h)), hk.obj (by decide) k2 sobj_ne.1⟩, ⟨rfl, rfl, rfl, rfl, trivial⟩, rfl⟩
    have hk16 : (kE b).1 ≤ 16 := by unfold kE; exact gN_le 16 _
    refine seq_st _ _ _ (loop1_ok (gN 1099511627776 (b, 0)).1 (kE b).2 (kE b).1 hk16 hr k0 k2 r) (fun ⟨i, v, G⟩ ⟨hi, hi2, hr, k0, k2, hv⟩ r => ?_)
    dsimp only at hi hi2 hr k0 k2 hv ⊢
    have hk192 : (kH b i).1 ≤ 192 := gN_le 192 _
    refine seq_st (σ := Heap) (fun _ => Lg (.pv (.int .i64 ((kH b i).1 : Nat)))) (fun G => G) (fun G => SD G 1 (kH b i).2 ∧ hget G 0 = .pcells ([.int .i64 0, .sl .nil 0 [], .sl .nil 0 []]) ∧ hget G 2 = sobj (gN 1099511627776 (b, 0)).1 v ((.pv (.sl .nil 0 []))) ∧ AppV G v .nil 10 i (flat en (gEs (kE b).2 i).1)) ?_ (fun G ⟨hr, k0, k2, hv⟩ r => ?_)
    · refine callSK_has' ((snum_rd hr 192 (by decide)).mono fun z hz => ?_)
      obtain ⟨u, G2⟩ := z
      obtain ⟨rfl, h1, hk⟩ := hz
      dsimp only at h1 hk ⊢
      refine eqK_has_eq ((kH b i).1 : Int) (wrap_i64 (by unfold kH at *; omega) (by unfold kH at *; omega)) ?_
      exact Has.intro ⟨rfl, _, ⟨h1, hk.obj (by decide) k0 ((by intro h; cases h)), hk.obj (by decide) k2 sobj_ne.1, AppV.krn hv hk hr⟩, ⟨rfl, rfl, rfl, rfl, trivial⟩, rfl⟩
    refine seq_st _ _ _ (loop2_ok (gN 1099511627776 (b, 0)).1 (kH b i).2 (kH b i).1 hk192 hr k0 v i _ hv k2 r) (fun ⟨j, w, G⟩ ⟨hj, hj2, hr, k0, k2, hv, hw⟩ r => ?_)
    dsimp only at hj hj2 hr k0 k2 hv hw ⊢
    obtain ⟨e1, e2⟩ := hgE i j hi hi2 hj hj2
    have hEl := gEs_len (kE b).2 i
    have hHl := gHs_len (kH b i).2 j
    have hH8 := gHs_eight (kH b i).2 j
    have hEs := hgEs i
    rw [getS_of b _ _ e1 e2]
    clear e1 e2 hgE hgEs
    generalize (gN 1099511627776 (b, 0)).1 = gn at *
    generalize (gEs (kE b).2 i).1 = E at *
    generalize hgh : gHs (kH b i).2 j = gh at *
    obtain ⟨Hs, r9⟩ := gh
    dsimp only at hr hw hHl hH8 ⊢
    have hsm : smallS ⟨gn, E, Hs⟩ := ⟨by show E.length ≤ maxLen; rw [hEl]; exact ml (by omega), by show Hs.length ≤ maxLen; rw [hHl]; exact ml (by omega), hEs, hH8⟩
    obtain ⟨rb, re⟩ := r9
    refine seq_st (σ := Heap × List UInt8) (fun _ => ([(2, .ptr 0 0), (4, .ptr 1 0), (5, .ptr 2 0)])) (fun t => t.1) (fun t => hget t.1 1 = so (t.2, T.rEnd rb re) ∧ hget t.1 0 = .pcells ([.int .i64 0, .sl .nil 0 [], .sl .nil 0 []]) ∧ hget t.1 2 = sobj gn v w ∧ AppV t.1 v .nil 10 i (flat en E) ∧ AppV t.1 w .nil 11 j (flat hoc Hs)) ?_ (fun ⟨G, bs⟩ ⟨k1, k0, k2, hv, hw⟩ r => ?_)
    · refine hgetK_has _ hr.1 ?_
      refine getK_has rfl ?_
      refine boolK_sne (b := []) (fun h1 => ?_) (fun h1 => ?_)
      · by_cases he : re = 0
        · subst he
          refine callSK_has (sfail hr 13 (by decide)) ?_
          have he : T.rEnd rb 0 = 13 := by unfold T.rEnd; rw [if_pos ⟨rfl, h1⟩]
          rw [he]
          exact Has.intro ⟨rfl, (hset G 1 (so ([], 13)), []), ⟨hget_hset_same _ hr.lt, (hget_hset_ne _ _ (by decide)).trans k0, (hget_hset_ne _ _ (by decide)).trans k2, AppV.put1 hv hr _, AppV.put1 hw hr _⟩, ⟨rfl, rfl, rfl, trivial⟩, rfl⟩
        · refine callSK_has (sfail_no hr 13 he) ?_
          have he : T.rEnd rb re = re := by unfold T.rEnd; rw [if_neg (fun h => he h.1)]
          rw [he]
          exact Has.intro ⟨rfl, (G, rb), ⟨hr.1, k0, k2, hv, hw⟩, ⟨rfl, rfl, rfl, trivial⟩, rfl⟩
      · have he : T.rEnd rb re = re := by unfold T.rEnd; rw [if_neg (fun h => h.2 h1)]
        rw [he]
        exact Has.intro ⟨rfl, (G, rb), ⟨hr.1, k0, k2, hv, hw⟩, ⟨rfl, rfl, rfl, trivial⟩, rfl⟩
    generalize T.rEnd rb re = er at *
    clear hr
    have h0l := hget_lt k0 ((by intro h; cases h))
    refine seq_if2 [(2, .ptr 0 0), (3, .pv (.int .i64 er))] G (er ≠ 0) ([(2, .ptr 0 0), (4, .ptr 1 0), (5, .ptr 2 0)]) (er = 0) G ?_ (fun he r => ?_) (fun he r => ?_)
    · refine hgetK_has _ k1 ?_
      refine getK_has rfl ?_
      refine boolK_bne (fun he => ?_) (fun he => ?_)
      · refine hgetK_has _ k1 ?_
        refine getK_has rfl ?_
        refine hgetK_has _ k0 ?_
        refine needK_has rfl ?_
        refine eqK_has_eq ([.int .i64 0, .sl .nil 0 [], .sl .nil 0 []]) rfl ?_
        have hse : hset G 0 (.pcells ([.int .i64 0, .sl .nil 0 [], .sl .nil 0 []])) = G := hset_self k0
        refine sameK_has (by first | rfl | rw [hse]) (by first | rfl | (rw [k1]; rfl)) ?_
        exact Has.intro (.inl ⟨rfl, ⟨rfl, rfl, trivial⟩, hse, he⟩)
      · exact Has.intro (.inr ⟨rfl, ⟨rfl, rfl, rfl, trivial⟩, rfl, he⟩)
    · rw [if_pos he]
      refine hgetK_has _ k0 ?_
      refine secK_has (v := ([.int .i64 0, .sl .nil 0 [], .sl .nil 0 []])) rfl (of_decide_eq_true rfl) ?_
      exact Has.intro (Has.intro ⟨.nil, .nil, rfl⟩)
    rw [if_neg (fun h => h he)]
    rcases formsG hv with ⟨hz, hcs, hve⟩ | ⟨hz, t, hve⟩
    all_goals
      rcases formsG hw with ⟨hz2, hcs2, hwe⟩ | ⟨hz2, t2, hwe⟩
    all_goals
      rw [hve, hwe] at k2
      first
        | rw [← hEl] at k2
        | skip
      first
        | rw [← hHl] at k2
        | skip
      refine hgetK_has _ k2 ?_
      first
        | refine secK_has (v := [.int .i64 gn, .sl .nil 0 [], .sl .nil 0 []]) rfl (of_decide_eq_true rfl) ?_
        | skip
      have hzl : E.length = i := hEl
      have hzl2 : Hs.length = j := hHl
      first
        | (have hE0 : E = [] := List.eq_nil_of_length_eq_zero (by omega)
           subst hE0)
        | skip
      first
        | (have hH0 : Hs = [] := List.eq_nil_of_length_eq_zero (by omega)
           subst hH0)
        | skip
      first
        | refine callPK_dec (rright_ok' ⟨gn, [], []⟩ .nil .nil hsm) (fun hR => ?_) (fun hR => ?_)
        | refine callPK_dec (rright_ok' ⟨gn, [], Hs⟩ .nil .nn hsm) (fun hR => ?_) (fun hR => ?_)
        | refine callPK_dec (rright_ok' ⟨gn, E, []⟩ .nn .nil hsm) (fun hR => ?_) (fun hR => ?_)
        | refine callPK_dec (rright_ok' ⟨gn, E, Hs⟩ .nn .nn hsm) (fun hR => ?_) (fun hR => ?_)
    all_goals first
      | (rw [if_pos hR]
         refine hgetK_has _ k2 ?_
         first
           | refine secK_has (v := [.int .i64 gn, .sl .nil 0 [], .sl .nil 0 []]) rfl (of_decide_eq_true rfl) ?_
           | skip
         refine hgetK_has _ k0 ?_
         first
           | (refine needK_has rfl ?_
              refine eqK_has_eq [.int .i64 gn, .sl .nil 0 [], .sl .nil 0 []] rfl ?_)
           | skip
         refine hgetK_has _ (hget_hset_same _ h0l) ?_
         first
           | refine secK_has (v := [.int .i64 gn, .sl .nil 0 [], .sl .nil 0 []]) rfl (of_decide_eq_true rfl) ?_
           | skip
         first
           | exact Has.intro (Has.intro ⟨.nil, .nil, rfl⟩)
           | exact Has.intro (Has.intro ⟨.nil, .nn, rfl⟩)
           | exact Has.intro (Has.intro ⟨.nn, .nil, rfl⟩)
           | exact Has.intro (Has.intro ⟨.nn, .nn, rfl⟩))
      | (rw [if_neg hR]
         refine hgetK_has _ k0 ?_
         refine needK_has rfl ?_
         refine eqK_has_eq ([.int .i64 0, .sl .nil 0 [], .sl .nil 0 []]) rfl ?_
         refine hgetK_has _ (hget_hset_same _ h0l) ?_
         refine secK_has (v := ([.int .i64 0, .sl .nil 0 [], .sl .nil 0 []])) rfl (of_decide_eq_true rfl) ?_
         exact Has.intro (Has.intro ⟨.nil, .nil, rfl⟩))
  obtain ⟨u, h1, x', y', h2⟩ := main
  exact ⟨x', y', by rw [h1, h2]⟩
end Go.Proofs.Ytchcbpnoagldnaa

namespace Go.Proofs.Ytchcbpnoagldnaa
open Go Go.VM

theorem sameS_refl (s : St) : sameS s s := by
  refine ⟨rfl, ⟨rfl, fun j c d hc hd => ?_⟩, rfl⟩
  rw [hc] at hd
  injection hd with hd
  subst hd
  exact ⟨⟨rfl, rfl, rfl, rfl⟩, ⟨rfl, rfl, rfl, rfl⟩, rfl, rfl⟩
set_option maxHeartbeats 8000000 in
theorem reads_law (ps : List PV) (h : HasArgs [.sl 1 (.int .u8)] ps) : ∃ H', EE env (.fn 4) (ps.map .pv) [] = some (.pv (.bool true), H') := by
  obtain ⟨p2, _, rfl, h2, rfl⟩ := h
  obtain ⟨xb, b, rfl, hbm, hxb⟩ := arg_bytes h2
  refine law_end (EE_has (fn_has rfl ?_))
  refine seq_on [(0, .pv (.sl xb b.length (bc b)))] [] (Has.intro ⟨rfl, ⟨rfl, trivial⟩, rfl⟩) (fun r => ?_)
  refine seq_on [(0, .pv (.sl xb b.length (bc b)))] [] ?_ (fun r => ?_)
  · refine callPK_has first_ok ?_
    exact Has.intro ⟨rfl, ⟨rfl, trivial⟩, rfl⟩
  refine seq_if [(2, .pv (.bool true))] True [(0, .pv (.sl xb b.length (bc b)))] (b.length ≤ 5000) [] ?_ (fun _ r => ?_) (fun q1 r => ?_)
  · refine boolK_dec (fun q1 => ?_) (fun q1 => ?_)
    · exact Has.intro (.inl ⟨rfl, ⟨rfl, trivial⟩, rfl, trivial⟩)
    · exact Has.intro (.inr ⟨rfl, ⟨rfl, trivial⟩, rfl, by omega⟩)
  · exact Has.intro rfl
  obtain ⟨x1, x2, hg⟩ := get_ok' xb b (by rcases hxb with h | h; exact .inl h; exact .inr (.inl h)) (by omega)
  obtain ⟨y1, y2, hf⟩ := rget_ok' b (by omega)
  have hsm := getS_small (b := b) (by omega)
  generalize getS b = g at *
  obtain ⟨s, e⟩ := g
  dsimp only at hsm hg hf
  refine seq_on [(0, .pv (.sl xb b.length (bc b))), (3, .ptr 0 0), (4, .pv (.int .i64 e))] [.pcells (stc s x1 x2)] ?_ (fun r => ?_)
  · refine callPK_has hg ?_
    refine hgetK_has _ rfl ?_
    refine needK_has rfl ?_
    refine eqK_has_eq (stc s x1 x2) rfl ?_
    exact Has.intro ⟨rfl, ⟨rfl, rfl, rfl, trivial⟩, rfl⟩
  refine seq_on [(3, .ptr 0 0), (4, .pv (.int .i64 e)), (5, .ptr 1 0), (6, .pv (.int .i64 e))] [.pcells (stc s x1 x2), .pcells (stc s y1 y2)] ?_ (fun r => ?_)
  · refine needK_has (by rw [T.bc_len]; exact Nat.beq_refl _) ?_
    refine bindK_has (bc_str _) ?_
    refine callPK_has hf ?_
    refine hgetK_has _ rfl ?_
    refine needK_has rfl ?_
    refine eqK_has_eq (stc s y1 y2) rfl ?_
    exact Has.intro ⟨rfl, ⟨rfl, rfl, rfl, rfl, trivial⟩, rfl⟩
  refine seq_on [(2, .pv (.bool true))] [.pcells (stc s x1 x2), .pcells (stc s y1 y2)] ?_ (fun r => ?_)
  · refine boolK_beq_t rfl ?_
    refine hgetK_has _ rfl ?_
    refine secK_has (v := stc s x1 x2) rfl (of_decide_eq_true rfl) ?_
    refine hgetK_has _ rfl ?_
    refine secK_has (v := stc s y1 y2) rfl (of_decide_eq_true rfl) ?_
    refine callPK_dec_t (rsameS_ok s s x1 x2 y1 y2 hsm hsm) (sameS_refl s) ?_
    exact Has.intro ⟨rfl, ⟨rfl, trivial⟩, rfl⟩
  exact Has.intro rfl
end Go.Proofs.Ytchcbpnoagldnaa
