/-
  The document's list of all masks, in order.
-/
import Derived.Test.YtdbobcbjgacjpaaPMkG
set_option linter.all false
set_option linter.unusedVariables false
set_option linter.unusedSimpArgs false
set_option linter.unusedSectionVars false
namespace Go.Proofs.Ytdbobcbjgacjpaa
open Go Go.VM

/-- The place of a mask, seen from behind. -/
def pos (m : Nat) (l : List Nat) : Nat → Nat
  | 0 => 0
  | a + 1 => if ahd m (l.getD a 0) then pos m l a else a + 1
theorem pos_le (m : Nat) (l : List Nat) (a : Nat) : pos m l a ≤ a := by
  induction a with
  | zero => exact Nat.le_refl _
  | succ a ih => unfold pos; split <;> omega
def ins (m : Nat) (l : List Nat) : List Nat := l.take (pos m l l.length) ++ m :: l.drop (pos m l l.length)
/-- The masks up to m, in order. -/
def refM : Nat → List Nat
  | 0 => []
  | m + 1 => ins (m + 1) (refM m)
theorem refM_len (m : Nat) : (refM m).length = m := by
  induction m with
  | zero => rfl
  | succ m ih =>
    have hp := pos_le (m + 1) (refM m) (refM m).length
    show ((refM m).take _ ++ (m + 1) :: (refM m).drop _).length = _
    simp only [List.length_append, List.length_take, List.length_cons, List.length_drop]
    omega
theorem refM_mem (m : Nat) : ∀ x ∈ refM m, x ≤ m := by
  induction m with
  | zero => intro x h; cases h
  | succ m ih =>
    intro x h
    have h' : x ∈ (refM m).take (pos (m + 1) (refM m) (refM m).length) ++ (m + 1) :: (refM m).drop (pos (m + 1) (refM m) (refM m).length) := h
    rcases List.mem_append.1 h' with h1 | h1
    · have := ih x (List.mem_of_mem_take h1); omega
    · rcases List.mem_cons.1 h1 with h2 | h2
      · omega
      · have := ih x (List.mem_of_mem_drop h2); omega
theorem refM_all : ∀ n, n < 9 → refM (2 ^ n - 1) = msq n := by decide +kernel

/-- A value that is a list. -/
def LV (v : AV) (l : List Int) : Prop := (v = .pv (.sl .nil 0 []) ∧ l = []) ∨ (l ≠ [] ∧ ∃ t, v = .tsl t l.length (ints l))

theorem ints_take (l : List Int) (n : Nat) : (ints l).take n = ints (l.take n) := by simp [ints, List.map_take]
theorem ints_drop (l : List Int) (n : Nat) : (ints l).drop n = ints (l.drop n) := by simp [ints, List.map_drop]
theorem nl_take (l : List Nat) (n : Nat) : (nl l).take n = nl (l.take n) := by simp [nl, List.map_take]
theorem nl_drop (l : List Nat) (n : Nat) : (nl l).drop n = nl (l.drop n) := by simp [nl, List.map_drop]

theorem rmasks_ok (k : Nat) (hk : k ≤ 8) : EP (EE env) 23 [.int .i64 (k : Int)] = some (slv (nl (msq k))) := by
  have hpow : 2 ^ k ≤ 2 ^ 8 := Nat.pow_le_pow_right (by decide) hk
  have hpow1 : 1 ≤ 2 ^ k := Nat.pow_pos (by decide)
  have hall := refM_all k (by omega)
  refine Has.eq (EP_has ?_)
  refine loopK_has ?_
  refine iterE_up k (fun i => [(0, .pv (.int .i64 k)), (3, .pv (.int .i64 ((2 ^ i : Nat) : Int))), (4, .pv (.int .i64 i))]) (fun _ => []) (fun i hi r => ?_) (fun r => ?_) ⟨rfl, rfl, rfl, trivial⟩ rfl
  · have h1 : 2 ^ i ≤ 2 ^ 8 := Nat.pow_le_pow_right (by decide) (by omega)
    refine boolK_dec_t (by omega) ?_
    have h3 : IntKind.i64.wrap (((2 ^ i : Nat) : Int) * 2) = ((2 ^ (i + 1) : Nat) : Int) := by
      rw [Nat.pow_succ]
      generalize 2 ^ i = P at h1 ⊢
      rw [wrap_i64 (by omega) (by omega)]; omega
    refine eqK_has_eq _ h3 ?_
    refine eqK_has_eq _ (i64_succ (by omega)) ?_
    exact Has.intro ⟨⟨rfl, rfl, rfl, trivial⟩, rfl⟩
  refine boolK_dec_f (by omega) ?_
  refine Has.intro ?_
  refine loopK_has ?_
  refine iterE_loop (σ := Nat × AV × Heap) (fun s => 2 ^ k - s.1) (fun s => [(3, .pv (.int .i64 ((2 ^ k : Nat) : Int))), (5, s.2.1), (6, .pv (.int .i64 ((s.1 : Nat) : Int)))]) (fun s => s.2.2)
    (fun s => 1 ≤ s.1 ∧ s.1 ≤ 2 ^ k ∧ LV s.2.1 (nl (refM (s.1 - 1)))) (fun ⟨m, v, H⟩ ⟨hm1, hmk, hv⟩ r1 => ?_) (1, .pv (.sl .nil 0 []), []) ⟨Nat.le_refl _, hpow1, .inl ⟨rfl, rfl⟩⟩ ⟨rfl, rfl, rfl, trivial⟩ rfl
  dsimp only at hm1 hmk hv
  refine boolK_dec (fun hc => ?_) (fun hc => ?_)
  · have hlt : m < 2 ^ k := by
      have h' : ((m : Nat) : Int) < ((2 ^ k : Nat) : Int) := hc
      omega
    have hl := refM_len (m - 1)
    have hmem := refM_mem (m - 1)
    have hne : nl (refM (m + 1 - 1)) ≠ [] := fun h => by
      have := congrArg List.length h
      rw [nl_len, refM_len, List.length_nil] at this
      omega
    have hnext : refM m = ins m (refM (m - 1)) := by
      obtain ⟨j, rfl⟩ : ∃ j, m = j + 1 := ⟨m - 1, by omega⟩
      rfl
    generalize hL : refM (m - 1) = L at *
    rcases hv with ⟨rfl, hnil⟩ | ⟨_, t, rfl⟩
    · have hLn : L = [] := by
        cases L with
        | nil => rfl
        | cons a l => cases hnil
      subst hLn
      refine loopK_has ?_
      refine iterE_step ?_
      refine boolK_dec_f (by decide) ?_
      refine Has.intro ?_
      refine needK_has rfl ?_
      refine eqK_has_eq [] rfl ?_
      refine boolK_has_true rfl ?_
      refine needK_has rfl ?_
      refine eqK_has_eq [] rfl ?_
      refine boolK_has_true rfl ?_
      refine boolK_has_false rfl ?_
      refine needK_has rfl ?_
      refine eqK_has_eq (ints [(m : Int)]) rfl ?_
      refine eqK_has_eq 1 rfl ?_
      refine eqK_has_eq _ (i64_succ (by omega)) ?_
      refine Has.intro ⟨(m + 1, .tsl H.length 1 (ints [(m : Int)]), H ++ [.tok 1 1]), ⟨by simp only; omega, hlt, ?_⟩, by simp only; omega, ⟨rfl, rfl, rfl, trivial⟩, rfl⟩
      refine .inr ⟨hne, H.length, ?_⟩
      rw [Nat.add_sub_cancel, hnext]
      rfl
    · rw [nl_len]
      refine loopK_has ?_
      refine iterE_loop (fun a => a) (fun a => [(3, .pv (.int .i64 ((2 ^ k : Nat) : Int))), (5, .tsl t L.length (ints (nl L))), (6, .pv (.int .i64 ((m : Nat) : Int))), (7, .pv (.int .i64 ((a : Nat) : Int)))]) (fun _ => H)
        (fun a => a ≤ L.length ∧ pos m L a = pos m L L.length) (fun a ⟨ha, hp⟩ r2 => ?_) L.length ⟨Nat.le_refl _, rfl⟩ ⟨rfl, rfl, rfl, rfl, trivial⟩ rfl
      cases a with
      | zero =>
        have hp0 : pos m L L.length = 0 := hp.symm
        refine boolK_dec_f (by decide) ?_
        refine Has.intro ?_
        refine needK_has (by simp) ?_
        refine eqK_has_eq (ints (nl L)) (by
          show ((ints (nl L)).drop 0).take (L.length - 0) = _
          rw [List.drop_zero]; exact List.take_of_length_le (by rw [ints_len, nl_len]; omega)) ?_
        by_cases hL0 : L = []
        · subst hL0
          refine boolK_has_true rfl ?_
          refine needK_has rfl ?_
          refine eqK_has_eq [] rfl ?_
          refine boolK_has_true rfl ?_
          refine boolK_has_false rfl ?_
          refine needK_has rfl ?_
          refine eqK_has_eq (ints [(m : Int)]) rfl ?_
          refine eqK_has_eq 1 rfl ?_
          refine eqK_has_eq _ (i64_succ (by omega)) ?_
          refine Has.intro ⟨(m + 1, .tsl H.length 1 (ints [(m : Int)]), H ++ [.tok 1 1]), ⟨by simp only; omega, hlt, ?_⟩, by simp only; omega, ⟨rfl, rfl, rfl, trivial⟩, rfl⟩
          refine .inr ⟨hne, H.length, ?_⟩
          rw [Nat.add_sub_cancel, hnext]
          rfl
        · have hLp : 0 < L.length := List.length_pos_iff.2 hL0
          refine boolK_has_false (by
            show Nat.beq (L.length - 0) 0 = false
            rw [Nat.sub_zero]
            cases hh : Nat.beq L.length 0 with
            | false => rfl
            | true => have := Nat.eq_of_beq_eq_true hh; omega) ?_
          refine needK_has (by
            rw [ints_len, nl_len]
            simp only [Bool.and_eq_true]
            refine ⟨⟨Nat.ble_eq_true_of_le ?_, rfl⟩, Nat.beq_refl _⟩
            show (1 + (L.length - 0)) * 8 ≤ 140737488355328; omega) ?_
          refine eqK_has_eq (ints ((m : Int) :: nl L)) rfl ?_
          refine eqK_has_eq (1 + L.length) rfl ?_
          refine needK_has (by simp) ?_
          refine eqK_has_eq [] rfl ?_
          refine boolK_has_true rfl ?_
          refine boolK_has_false (by
            show Nat.beq (1 + L.length) 0 = false
            rw [Nat.add_comm]; rfl) ?_
          refine needK_has (by
            rw [ints_len]
            simp only [Bool.and_eq_true]
            refine ⟨⟨Nat.ble_eq_true_of_le ?_, rfl⟩, ?_⟩
            · show (0 + (1 + L.length)) * 8 ≤ 140737488355328; omega
            · rw [List.length_cons, nl_len, Nat.add_comm]; exact Nat.beq_refl _) ?_
          refine eqK_has_eq (ints ((m : Int) :: nl L)) rfl ?_
          refine eqK_has_eq (1 + L.length) (Nat.zero_add _) ?_
          refine eqK_has_eq _ (i64_succ (by omega)) ?_
          refine Has.intro ⟨(m + 1, .tsl (H ++ [HObj.tok (1 + L.length) 1]).length (1 + L.length) (ints ((m : Int) :: nl L)), (H ++ [.tok (1 + L.length) 1]) ++ [.tok (1 + L.length) 1]), ⟨by simp only; omega, hlt, .inr ⟨hne, (H ++ [HObj.tok (1 + L.length) 1]).length, ?_⟩⟩, by simp only; omega, ⟨rfl, rfl, rfl, trivial⟩, rfl⟩
          rw [Nat.add_sub_cancel, hnext]
          have e : nl (ins m L) = (m : Int) :: nl L := by
            unfold ins; rw [hp0]; rfl
          rw [e, List.length_cons, nl_len]
          show AV.tsl _ (1 + L.length) _ = _
          rw [Nat.add_comm 1 L.length]
      | succ a =>
        have ha' : a < L.length := ha
        obtain ⟨x, hx⟩ : ∃ x, L[a]? = some x := ⟨_, List.getElem?_eq_getElem ha'⟩
        have hxm := hmem x (List.mem_of_getElem? hx)
        have hgd : L.getD a 0 = x := by rw [List.getD_eq_getElem?_getD, hx]; rfl
        refine boolK_dec_t (by omega) ?_
        refine eqK_has_eq ((a : Nat) : Int) ((wrap_i64 (by omega) (by omega)).trans (by omega)) ?_
        refine needK_has (by simp; omega) ?_
        refine getK_has (ints_get (nl_get hx)) ?_
        refine callPK_dec ((rahead_ok _ _).trans (by rw [m8_nat (by omega), m8_nat (by omega)])) (fun had => ?_) (fun had => ?_)
        · refine eqK_has_eq ((a : Nat) : Int) ((wrap_i64 (by omega) (by omega)).trans (by omega)) ?_
          refine Has.intro ⟨a, ⟨by omega, ?_⟩, by omega, ⟨rfl, rfl, rfl, rfl, trivial⟩, rfl⟩
          rw [← hp]
          show _ = if ahd m (L.getD a 0) then pos m L a else a + 1
          rw [hgd, if_pos had]
        · have hpa : pos m L L.length = a + 1 := by
            rw [← hp]
            show (if ahd m (L.getD a 0) then pos m L a else a + 1) = _
            rw [hgd, if_neg had]
          have hins : nl (ins m L) = nl (L.take (a + 1)) ++ (m : Int) :: nl (L.drop (a + 1)) := by
            unfold ins; rw [hpa]; unfold nl; simp
          have hlt1 : (L.take (a + 1)).length = a + 1 := by rw [List.length_take]; omega
          have hld : (L.drop (a + 1)).length = L.length - (a + 1) := by rw [List.length_drop]
          refine Has.intro ?_
          refine needK_has (by simp; omega) ?_
          refine eqK_has_eq (ints (nl (L.drop (a + 1)))) (by
            show ((ints (nl L)).drop (a + 1)).take (L.length - (a + 1)) = _
            rw [ints_drop, nl_drop]; exact List.take_of_length_le (by rw [ints_len, nl_len, hld]; exact Nat.le_refl _)) ?_
          by_cases hend : a + 1 = L.length
          · have hdn : L.drop (a + 1) = [] := List.drop_of_length_le (by omega)
            rw [hdn] at hins hld ⊢
            refine boolK_has_true (by show Nat.beq (L.length - (a + 1)) 0 = true; rw [hend, Nat.sub_self]; rfl) ?_
            refine needK_has (by simp; omega) ?_
            refine eqK_has_eq (ints (nl (L.take (a + 1)))) (by
              show ((ints (nl L)).drop 0).take (a + 1 - 0) = _
              rw [List.drop_zero, ints_take, nl_take]; rfl) ?_
            refine boolK_has_false rfl ?_
            refine needK_has (by
              rw [ints_len, nl_len, hlt1]
              simp only [Bool.and_eq_true]
              refine ⟨⟨Nat.ble_eq_true_of_le ?_, rfl⟩, ?_⟩
              · show (0 + (a + 1 - 0)) * 8 ≤ 140737488355328; omega
              · exact Nat.beq_refl _) ?_
            refine eqK_has_eq (ints (nl (L.take (a + 1)))) rfl ?_
            refine eqK_has_eq (a + 1) (by show 0 + (a + 1 - 0) = _; omega) ?_
            refine hgetK_has _ (hget_append_same H _) ?_
            refine needK_has (by rw [Bool.and_eq_true]; exact ⟨Nat.beq_refl _, rfl⟩) ?_
            refine needK_has (by
              rw [ints_len, nl_len, hlt1]
              simp only [Bool.and_eq_true]
              refine ⟨⟨Nat.ble_eq_true_of_le ?_, Nat.beq_refl _⟩, rfl⟩
              show (a + 1 + 1) * 8 ≤ 140737488355328; omega) ?_
            refine eqK_has_eq (ints (nl (L.take (a + 1)) ++ [(m : Int)])) (ints_app _ _) ?_
            refine eqK_has_eq (a + 2) rfl ?_
            refine eqK_has_eq _ (i64_succ (by omega)) ?_
            refine Has.intro ⟨(m + 1, .tsl H.length (a + 2) (ints (nl (L.take (a + 1)) ++ [(m : Int)])), hset (H ++ [.tok (a + 1) 1]) H.length (.tok (a + 2) 1)), ⟨by simp only; omega, hlt, .inr ⟨hne, H.length, ?_⟩⟩, by simp only; omega, ⟨rfl, rfl, rfl, trivial⟩, rfl⟩
            rw [Nat.add_sub_cancel, hnext, hins]
            simp only [List.length_append, nl_len, hlt1]
            rfl
          · have hne0 : L.length - (a + 1) ≠ 0 := by omega
            refine boolK_has_false (by
              show Nat.beq (L.length - (a + 1)) 0 = false
              cases hh : Nat.beq (L.length - (a + 1)) 0 with
              | false => rfl
              | true => have := Nat.eq_of_beq_eq_true hh; omega) ?_
            refine needK_has (by
              rw [ints_len, nl_len, hld]
              simp only [Bool.and_eq_true]
              refine ⟨⟨Nat.ble_eq_true_of_le ?_, rfl⟩, Nat.beq_refl _⟩
              show (1 + (L.length - (a + 1))) * 8 ≤ 140737488355328; omega) ?_
            refine eqK_has_eq (ints ((m : Int) :: nl (L.drop (a + 1)))) rfl ?_
            refine eqK_has_eq (1 + (L.length - (a + 1))) rfl ?_
            refine needK_has (by simp; omega) ?_
            refine eqK_has_eq (ints (nl (L.take (a + 1)))) (by
              show ((ints (nl L)).drop 0).take (a + 1 - 0) = _
              rw [List.drop_zero, ints_take, nl_take]; rfl) ?_
            refine boolK_has_false rfl ?_
            refine needK_has (by
              rw [ints_len, nl_len, hlt1]
              simp only [Bool.and_eq_true]
              refine ⟨⟨Nat.ble_eq_true_of_le ?_, rfl⟩, ?_⟩
              · show (0 + (a + 1 - 0)) * 8 ≤ 140737488355328; omega
              · exact Nat.beq_refl _) ?_
            refine eqK_has_eq (ints (nl (L.take (a + 1)))) rfl ?_
            refine eqK_has_eq (a + 1) (by show 0 + (a + 1 - 0) = _; omega) ?_
            refine hgetK_has _ (hget_append_same (H ++ [.tok (1 + (L.length - (a + 1))) 1]) _) ?_
            refine needK_has (by rw [Bool.and_eq_true]; exact ⟨Nat.beq_refl _, rfl⟩) ?_
            refine needK_has (by
              rw [ints_len, ints_len, nl_len, hlt1]
              simp only [Bool.and_eq_true]
              refine ⟨⟨Nat.ble_eq_true_of_le ?_, Nat.beq_refl _⟩, ?_⟩
              · show (a + 1 + (1 + (L.length - (a + 1)))) * 8 ≤ 140737488355328; omega
              · rw [List.length_cons, nl_len, hld, Nat.add_comm]; exact Nat.beq_refl _) ?_
            refine eqK_has_eq (ints (nl (L.take (a + 1)) ++ (m : Int) :: nl (L.drop (a + 1)))) (by simp [ints]) ?_
            refine eqK_has_eq (L.length + 1) (by show a + 1 + (1 + (L.length - (a + 1))) = _; omega) ?_
            refine eqK_has_eq _ (i64_succ (by omega)) ?_
            refine Has.intro ⟨(m + 1, .tsl (H ++ [HObj.tok (1 + (L.length - (a + 1))) 1]).length (L.length + 1) (ints (nl (L.take (a + 1)) ++ (m : Int) :: nl (L.drop (a + 1)))), hset ((H ++ [.tok (1 + (L.length - (a + 1))) 1]) ++ [.tok (a + 1) 1]) (H ++ [HObj.tok (1 + (L.length - (a + 1))) 1]).length (.tok (L.length + 1) 1)), ⟨by simp only; omega, hlt, .inr ⟨hne, (H ++ [HObj.tok (1 + (L.length - (a + 1))) 1]).length, ?_⟩⟩, by simp only; omega, ⟨rfl, rfl, rfl, trivial⟩, rfl⟩
            rw [Nat.add_sub_cancel, hnext, hins]
            have e : (nl (L.take (a + 1)) ++ (m : Int) :: nl (L.drop (a + 1))).length = L.length + 1 := by
              simp only [List.length_append, List.length_cons, nl_len, hlt1, hld]; omega
            rw [e]
  · have he : m = 2 ^ k := by
      have h' : ¬ ((m : Nat) : Int) < ((2 ^ k : Nat) : Int) := hc
      omega
    subst he
    rw [hall] at hv
    generalize nl (msq k) = l at hv ⊢
    rcases hv with ⟨rfl, rfl⟩ | ⟨hl0, t, rfl⟩
    · exact Has.intro (Has.intro (Has.intro rfl))
    · cases l with
      | nil => exact absurd rfl hl0
      | cons a l => exact Has.intro (Has.intro (Has.intro rfl))
end Go.Proofs.Ytdbobcbjgacjpaa
