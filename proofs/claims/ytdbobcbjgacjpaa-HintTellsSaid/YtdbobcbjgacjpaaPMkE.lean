/-
  The document's masks: of a set, its nodes, which is ahead, all of them in order.
-/
import Derived.Test.YtdbobcbjgacjpaaPMkD
set_option linter.all false
set_option linter.unusedVariables false
set_option linter.unusedSimpArgs false
set_option linter.unusedSectionVars false
namespace Go.Proofs.Ytdbobcbjgacjpaa
open Go Go.VM

theorem high_bit (u : Nat) (i : Nat) : 2 * (u >>> (i + 1)) + (if u.testBit i then 1 else 0) = u >>> i := by
  have e : u.testBit i = decide ((u >>> i) % 2 = 1) := by rw [Nat.testBit_eq_decide_div_mod_eq, ← Nat.shiftRight_eq_div_pow]
  rw [Nat.shiftRight_succ, e]
  by_cases h : (u >>> i) % 2 = 1
  · rw [if_pos (decide_eq_true h)]; omega
  · rw [if_neg (by rw [decide_eq_false h]; exact Bool.false_ne_true)]; omega
theorem shr8 {u : Nat} (h : u < 256) : u >>> 8 = 0 := by rw [Nat.shiftRight_eq_div_pow]; exact Nat.div_eq_of_lt h
theorem rmask_ok {u : Nat} (hu : u < 256) : EP (EE env) 32 [.agg (bset u)] = some (.int .i64 (u : Int)) := by
  refine Has.eq (EP_has ?_)
  refine loopK_has ?_
  refine iterE_up 8 (fun m => [(1, .ptr 0 0), (3, .pv (.int .i64 ((u >>> (8 - m) : Nat) : Int))), (4, .pv (.int .i64 (7 - (m : Int))))]) (fun _ => [.pcells (bset u)]) (fun m hm r => ?_) (fun r => ?_) ⟨rfl, ?_, rfl, trivial⟩ rfl
  · have hh := high_bit u (7 - m)
    rw [show 7 - m + 1 = 8 - m by omega] at hh
    have hle : u >>> (7 - m) ≤ u := Nat.shiftRight_le _ _
    have hle2 : u >>> (8 - m) ≤ u := Nat.shiftRight_le _ _
    have hn : (7 - (m : Int)).toNat = 7 - m := by omega
    have hm1 : 8 - (m + 1) = 7 - m := by omega
    refine boolK_dec_t (by omega) ?_
    refine eqK_has_eq ((2 * (u >>> (8 - m)) : Nat) : Int) ((wrap_i64 (by omega) (by omega)).trans (by omega)) ?_
    refine needK_has (by simp; omega) ?_
    refine hgetK_has _ rfl ?_
    refine getK_has (show (bset u)[addO 0 (7 - (m : Int)).toNat]? = some (.bool (u.testBit (7 - m))) by rw [hn]; exact tab_get _ (show 7 - m < 8 by omega)) ?_
    cases hb : u.testBit (7 - m) with
    | true =>
      rw [hb] at hh
      refine eqK_has_eq ((u >>> (7 - m) : Nat) : Int) ((wrap_i64 (by omega) (by omega)).trans (by simp at hh; omega)) ?_
      refine eqK_has_eq (7 - ((m + 1 : Nat) : Int)) ((wrap_i64 (by omega) (by omega)).trans (by omega)) ?_
      refine Has.intro ⟨⟨rfl, ?_, rfl, trivial⟩, rfl⟩
      rw [hm1]; rfl
    | false =>
      rw [hb] at hh
      refine eqK_has_eq (7 - ((m + 1 : Nat) : Int)) ((wrap_i64 (by omega) (by omega)).trans (by omega)) ?_
      refine Has.intro ⟨⟨rfl, ?_, rfl, trivial⟩, rfl⟩
      rw [hm1]
      show AV.pv (.int .i64 ((2 * (u >>> (8 - m)) : Nat) : Int)) = _
      have : 2 * (u >>> (8 - m)) = u >>> (7 - m) := by simp at hh; omega
      rw [this]
  · refine boolK_dec_f (by omega) ?_
    exact Has.intro (Has.intro (Has.intro rfl))
  · rw [Nat.sub_zero, shr8 hu]; rfl

/-- A list that is being built: its value, its heap. -/
def accV (t : Nat) (l : List Int) : AV := match l with
  | [] => .pv (.sl .nil 0 [])
  | a :: l => .tsl t (a :: l).length (ints (a :: l))
def accH (H : Heap) (l : List Int) : Heap := match l with
  | [] => H
  | a :: l => H ++ [.tok (a :: l).length 1]
def ndi (u i : Nat) : List Int := nl ((List.range i).filter fun j => u.testBit j)
theorem ndi_succ (u i : Nat) : ndi u (i + 1) = if u.testBit i then ndi u i ++ [(i : Int)] else ndi u i := by
  unfold ndi nl
  rw [List.range_succ, List.filter_append]
  by_cases h : u.testBit i
  · rw [if_pos h]; simp [h]
  · rw [if_neg h]; simp [h]
theorem ndi_len (u i : Nat) : (ndi u i).length ≤ i := by
  unfold ndi nl
  rw [List.length_map]
  exact Nat.le_trans (List.length_filter_le _ _) (by simp)
theorem rnodes_ok {u : Nat} : EP (EE env) 17 [.agg (bset u)] = some (slv (nl (nds u))) := by
  refine Has.eq (EP_has ?_)
  refine loopK_has ?_
  refine iterE_up 8 (fun i => [(1, .ptr 0 0), (3, accV 1 (ndi u i)), (4, .pv (.int .i64 i))]) (fun i => accH [.pcells (bset u)] (ndi u i)) (fun i hi r => ?_) (fun r => ?_) ⟨rfl, rfl, rfl, trivial⟩ rfl
  · have hs := ndi_succ u i
    have hl := ndi_len u i
    refine boolK_dec_t (by omega) ?_
    refine needK_has (by simp; omega) ?_
    generalize hL : ndi u i = L at *
    cases L with
    | nil =>
      refine hgetK_has _ rfl ?_
      refine getK_has (show (bset u)[i]? = some (.bool (u.testBit i)) from tab_get _ hi) ?_
      cases hb : u.testBit i with
      | true =>
        rw [hb, if_pos rfl] at hs
        refine boolK_has_false rfl ?_
        refine needK_has rfl ?_
        refine eqK_has_eq [.int .i64 (i : Int)] rfl ?_
        refine eqK_has_eq 1 rfl ?_
        refine eqK_has_eq _ (i64_succ (by omega)) ?_
        exact Has.intro ⟨⟨rfl, by rw [hs]; rfl, rfl, trivial⟩, by first | (rw [hs]; done) | (rw [hs]; rfl)⟩
      | false =>
        rw [hb] at hs
        simp only [Bool.false_eq_true, if_false] at hs
        refine eqK_has_eq _ (i64_succ (by omega)) ?_
        exact Has.intro ⟨⟨rfl, by rw [hs]; rfl, rfl, trivial⟩, by first | (rw [hs]; done) | (rw [hs]; rfl)⟩
    | cons a l =>
      refine hgetK_has _ rfl ?_
      refine getK_has (show (bset u)[i]? = some (.bool (u.testBit i)) from tab_get _ hi) ?_
      cases hb : u.testBit i with
      | true =>
        rw [hb, if_pos rfl] at hs
        refine hgetK_has _ rfl ?_
        refine needK_has (by rw [Bool.and_eq_true]; exact ⟨Nat.beq_refl _, rfl⟩) ?_
        refine needK_has (by
          rw [ints_len]
          simp only [Bool.and_eq_true]
          refine ⟨⟨Nat.ble_eq_true_of_le ?_, Nat.beq_refl _⟩, rfl⟩
          show ((a :: l).length + 1) * 8 ≤ 140737488355328; omega) ?_
        refine eqK_has_eq (ints ((a :: l) ++ [(i : Int)])) (ints_app _ _) ?_
        refine eqK_has_eq ((a :: l) ++ [(i : Int)]).length (by simp) ?_
        refine eqK_has_eq _ (i64_succ (by omega)) ?_
        exact Has.intro ⟨⟨rfl, by rw [hs]; rfl, rfl, trivial⟩, by first | (rw [hs]; done) | (rw [hs]; rfl)⟩
      | false =>
        rw [hb] at hs
        simp only [Bool.false_eq_true, if_false] at hs
        refine eqK_has_eq _ (i64_succ (by omega)) ?_
        exact Has.intro ⟨⟨rfl, by rw [hs]; rfl, rfl, trivial⟩, by first | (rw [hs]; done) | (rw [hs]; rfl)⟩
  · have e : ndi u 8 = nl (nds u) := rfl
    rw [e]
    refine boolK_dec_f (by omega) ?_
    generalize nl (nds u) = L
    cases L with
    | nil => exact Has.intro (Has.intro (Has.intro rfl))
    | cons a l => exact Has.intro (Has.intro (Has.intro rfl))

theorem slv_len (l : List Int) : lenOfS (.pv (slv l)) = some l.length := by cases l <;> rfl
theorem nl_len (l : List Nat) : (nl l).length = l.length := by simp [nl]
theorem rahead_ok (a b : Int) : EP (EE env) 29 [.int .i64 a, .int .i64 b] = some (.bool (decide (ahd (m8 a) (m8 b)))) := by
  have ha := m8_lt a
  have hb := m8_lt b
  have sl : ∀ l : List Nat, ∃ x, slv (nl l) = .sl x l.length (ints (nl l)) := fun l => by cases l with
    | nil => exact ⟨_, rfl⟩
    | cons a l => exact ⟨.unk, by show PV.sl .unk (nl (a :: l)).length _ = _; rw [nl_len]; rfl⟩
  obtain ⟨x, hx⟩ := sl (nds (m8 a))
  obtain ⟨y, hy⟩ := sl (nds (m8 b))
  refine Has.eq (EP_has ?_)
  refine callPK_has (rof_ok a) ?_
  refine callPK_has (rof_ok b) ?_
  refine hgetK_has _ rfl ?_
  refine needK_has rfl ?_
  refine eqK_has_eq (bset (m8 a)) rfl ?_
  refine hgetK_has _ rfl ?_
  refine needK_has rfl ?_
  refine eqK_has_eq (bset (m8 b)) rfl ?_
  refine hgetK_has _ rfl ?_
  refine secK_has (v := bset (m8 a)) (tab_sec _).1 (tab_sec _).2 ?_
  refine callPK_has (rnodes_ok.trans (by rw [hx])) ?_
  refine hgetK_has _ rfl ?_
  refine secK_has (v := bset (m8 b)) (tab_sec _).1 (tab_sec _).2 ?_
  refine callPK_has (rnodes_ok.trans (by rw [hy])) ?_
  have ca : cnt (m8 a) = (nds (m8 a)).length := rfl
  have cb : cnt (m8 b) = (nds (m8 b)).length := rfl
  refine boolK_dec (fun h => ?_) (fun h => ?_)
  · exact Has.intro (Has.intro (yes (by unfold ahd; omega)))
  · refine boolK_beq (fun h2 => ?_) (fun h2 => ?_)
    · refine hgetK_has _ rfl ?_
      refine secK_has (v := bset (m8 a)) (tab_sec _).1 (tab_sec _).2 ?_
      refine callPK_has (rmask_ok ha) ?_
      refine hgetK_has _ rfl ?_
      refine secK_has (v := bset (m8 b)) (tab_sec _).1 (tab_sec _).2 ?_
      refine callPK_has (rmask_ok hb) ?_
      refine boolK_dec (fun h3 => ?_) (fun h3 => ?_)
      · exact Has.intro (Has.intro (yes (by unfold ahd; omega)))
      · exact Has.intro (Has.intro (no (by unfold ahd; omega)))
    · exact Has.intro (Has.intro (no (by unfold ahd; omega)))
end Go.Proofs.Ytdbobcbjgacjpaa
