/-
  Blocks: BlocksHold's last test, of one zone and kind.
-/
import Derived.Test.YtkkpkoekbmgabaaBsV
set_option linter.all false
set_option linter.unusedVariables false
set_option linter.unusedSimpArgs false
set_option linter.unusedSectionVars false
namespace Go.Proofs.Ytkkpkoekbmgabaa
open Go Go.VM
variable {H : Heap} {p m : Nat} {zs : List Zn} {L : List Rw}

theorem hold_cell {J : Heap} {r : Regs} {q i k n : Nat} {cs : List PV} (hT : Ts J p zs m L) (hq : hget J q = .pcells cs) (hi : i < 8) (hk : k < 2) (hg : cs[k * 8 + i]? = some (iv (used L i (k : Int)))) (hr1 : Agr r [(15, .pv (iv k)), (98, .pv (iv k)), (14, .pv (iv i)), (95, .pv (iv i)), (94, .pv (iv n)), (9, .ptr q 0), (5, .ptr p 0)]) :
    Has (evK env (EE env) (c3.at [1, 1, 1, 1, 1, 1, 1, 1, 0, 1, 0, 0, 1, 1, 0, 0, 1, 1, 0, 0, 1, 1, 0, 0, 1, 0]) Res r J doneK) fun y => y.1 = .normal ∧ Agr y.2.1 [(135, .pv (.bool false)), (98, .pv (iv k)), (14, .pv (iv i)), (95, .pv (iv i)), (94, .pv (iv n)), (9, .ptr q 0), (5, .ptr p 0)] ∧ Kp [] J y.2.2 := by
  rw [← hr1.eq]
  clear hr1
  have hF := hT.fair
  have hf := hT.z.fit
  have e8 : addO (addO 0 (mulE ((k : Int)).toNat 8)) (mulE ((i : Int)).toNat 1) = k * 8 + i := by rw [addO_eq, addO_eq, mulE_eq, mulE_eq, Int.toNat_natCast, Int.toNat_natCast]; omega
  rw [← e8] at hg
  have hr := hF.room i (k : Int)
  have hp0 := used_pos hF.pos i (k : Int)
  have hrb := room_bound hf i (k : Int)
  have hfr : used L i (k : Int) + freeF zs L i k = roomF zs i k := by
    unfold freeF
    rw [Int.toNat_natCast]
    split
    · rename_i h0
      have := used_zero hF h0 (by omega)
      rw [Int.toNat_natCast] at this
      omega
    · omega
  obtain ⟨u, hu⟩ : ∃ u, u = used L i (k : Int) := ⟨_, rfl⟩
  rw [← hu] at hg hr hp0 hfr
  obtain ⟨J1, g1, g2⟩ := room_ok hT.z (i : Int) (k : Int)
  have hT1 := hT.kp' g2 (by simp) (by simp)
  have hq1 := g2.get hq (by intro h; cases h) (by simp)
  obtain ⟨J2, g3, g4⟩ := hT1.free (i : Int) (k : Int)
  have hT2 := hT1.kp' g4 (by simp) (by simp)
  have hq2 := g4.get hq1 (by intro h; cases h) (by simp)
  obtain ⟨J3, g5, g6⟩ := room_ok hT2.z (i : Int) (k : Int)
  generalize roomF zs i k = rm at *
  generalize freeF zs L i k = fr at *
  refine needK_has (by simp; omega) ?_
  refine needK_has (by simp; omega) ?_
  refine hgetK_has _ hq ?_
  refine getK_has hg ?_
  refine boolK_dec_f (by omega) ?_
  refine needK_has (by simp; omega) ?_
  refine needK_has (by simp; omega) ?_
  refine hgetK_has _ hq ?_
  refine getK_has hg ?_
  refine callSK_has g1 ?_
  refine boolK_dec_f (by omega) ?_
  refine needK_has (by simp; omega) ?_
  refine needK_has (by simp; omega) ?_
  refine hgetK_has _ hq1 ?_
  refine getK_has hg ?_
  refine callSK_has g3 ?_
  refine eqK_has_eq rm (by rw [hfr]; exact wrap_i64 (by omega) (by omega)) ?_
  refine callSK_has g5 ?_
  refine boolK_bne_f rfl ?_
  have hq3 := g6.get hq2 (by intro h; cases h) (by simp)
  have same : ∀ {A B : Heap}, hget A q = .pcells cs → hget B q = .pcells cs → readObj (hget A q) (addO (addO 0 (mulE ((k : Int)).toNat 8)) (mulE ((i : Int)).toNat 1)) none = readObj (hget B q) (addO (addO 0 (mulE ((k : Int)).toNat 8)) (mulE ((i : Int)).toNat 1)) none := fun h1 h2 => by rw [h1, h2]
  have some : ∀ {A : Heap}, hget A q = .pcells cs → (readObj (hget A q) (addO (addO 0 (mulE ((k : Int)).toNat 8)) (mulE ((i : Int)).toNat 1)) none).isSome = true := fun h1 => by rw [h1]; simp only [readObj, hg]; rfl
  refine sameK_has (same hq hq1) (some hq) ?_
  refine sameK_has (by first | exact same hq1 hq2 | exact same hq1 hq3 | exact same hq2 hq3) (by first | exact some hq1 | exact some hq2) ?_
  refine sameK_has (by first | exact same hq1 hq2 | exact same hq1 hq3 | exact same hq2 hq3) (by first | exact some hq1 | exact some hq2) ?_
  exact Has.intro ⟨rfl, by (repeat (first | exact trivial | refine ⟨rfl, ?_⟩)), (g2.step g4).step g6⟩
theorem hold_round {J : Heap} {r : Regs} {q i k n : Nat} {cs : List PV} (hT : Ts J p zs m L) (hq : hget J q = .pcells cs) (hi : i < 8) (hk : k < 2) (hg : cs[k * 8 + i]? = some (iv (used L i (k : Int)))) (hr1 : Agr r [(98, .pv (iv k)), (14, .pv (iv i)), (95, .pv (iv i)), (94, .pv (iv n)), (9, .ptr q 0), (5, .ptr p 0)]) :
    Has (evK env (EE env) (c3.at [1, 1, 1, 1, 1, 1, 1, 1, 0, 1, 0, 0, 1, 1, 0, 0, 1, 1, 0, 0]) Res r J doneK) fun y => y.1 = .normal ∧ Agr y.2.1 [(98, .pv (iv ((k + 1 : Nat) : Int))), (14, .pv (iv i)), (95, .pv (iv i)), (94, .pv (iv n)), (9, .ptr q 0), (5, .ptr p 0)] ∧ Kp [] J y.2.2 := by
  rw [← hr1.eq]
  clear hr1
  change Has (evK env (EE env) (.seq (c3.at [1, 1, 1, 1, 1, 1, 1, 1, 0, 1, 0, 0, 1, 1, 0, 0, 1, 1, 0, 0, 0]) (.seq (c3.at [1, 1, 1, 1, 1, 1, 1, 1, 0, 1, 0, 0, 1, 1, 0, 0, 1, 1, 0, 0, 1, 0]) (.seq (c3.at [1, 1, 1, 1, 1, 1, 1, 1, 0, 1, 0, 0, 1, 1, 0, 0, 1, 1, 0, 0, 1, 1, 0]) (c3.at [1, 1, 1, 1, 1, 1, 1, 1, 0, 1, 0, 0, 1, 1, 0, 0, 1, 1, 0, 0, 1, 1, 1])))) Res _ J doneK) _
  refine seq_onK ((99, .pv (.bool true)) :: ([(98, .pv (iv k)), (14, .pv (iv i)), (95, .pv (iv i)), (94, .pv (iv n)), (9, .ptr q 0), (5, .ptr p 0)])) (fun J' => J' = J) ?_ (fun r J' hJ => ?_)
  · have hk' : (k : Int) < 2 := by omega
    refine boolK_dec_t hk' ?_
    exact Has.intro ⟨rfl, by (repeat (first | exact trivial | refine ⟨rfl, ?_⟩)), rfl⟩
  subst hJ
  refine seq_onK ([(98, .pv (iv k)), (14, .pv (iv i)), (95, .pv (iv i)), (94, .pv (iv n)), (9, .ptr q 0), (5, .ptr p 0)]) (fun J => J = J') ?_ (fun r J hJ => ?_)
  · exact Has.intro ⟨rfl, by (repeat (first | exact trivial | refine ⟨rfl, ?_⟩)), rfl⟩
  subst hJ
  refine seq_onK ([(98, .pv (iv k)), (14, .pv (iv i)), (95, .pv (iv i)), (94, .pv (iv n)), (9, .ptr q 0), (5, .ptr p 0)]) (fun J' => Kp [] J J') ?_ (fun r J' hJ => ?_)
  · change Has (evK env (EE env) (.seq (c3.at [1, 1, 1, 1, 1, 1, 1, 1, 0, 1, 0, 0, 1, 1, 0, 0, 1, 1, 0, 0, 1, 1, 0, 0, 0]) (.seq (c3.at [1, 1, 1, 1, 1, 1, 1, 1, 0, 1, 0, 0, 1, 1, 0, 0, 1, 1, 0, 0, 1, 1, 0, 0, 1, 0]) (c3.at [1, 1, 1, 1, 1, 1, 1, 1, 0, 1, 0, 0, 1, 1, 0, 0, 1, 1, 0, 0, 1, 1, 0, 0, 1, 1]))) Res _ _ (blockK 9 doneK)) _
    refine seq_onK ((15, .pv (iv k)) :: ([(98, .pv (iv k)), (14, .pv (iv i)), (95, .pv (iv i)), (94, .pv (iv n)), (9, .ptr q 0), (5, .ptr p 0)])) (fun J' => J' = J) ?_ (fun r J' hJ => ?_)
    · exact Has.intro ⟨rfl, by (repeat (first | exact trivial | refine ⟨rfl, ?_⟩)), rfl⟩
    subst hJ
    refine seq_onK ((135, .pv (.bool false)) :: ([(98, .pv (iv k)), (14, .pv (iv i)), (95, .pv (iv i)), (94, .pv (iv n)), (9, .ptr q 0), (5, .ptr p 0)])) (fun J => Kp [] J' J) ?_ (fun r J hJ => ?_)
    · exact hold_cell (n := n) hT hq hi hk hg (by (repeat (first | exact trivial | refine ⟨rfl, ?_⟩)))
    · exact Has.intro ⟨rfl, by (repeat (first | exact trivial | refine ⟨rfl, ?_⟩)), hJ⟩
  refine eqK_has_eq ((k + 1 : Nat) : Int) (i64_succ (by omega)) ?_
  exact Has.intro ⟨rfl, by (repeat (first | exact trivial | refine ⟨rfl, ?_⟩)), hJ⟩
end Go.Proofs.Ytkkpkoekbmgabaa
