/-
  The first hints: the range.
-/
import Derived.Test.YtdbobcbjgacjpaaHnH
set_option linter.all false
set_option linter.unusedVariables false
set_option linter.unusedSimpArgs false
set_option linter.unusedSectionVars false
namespace Go.Proofs.Ytdbobcbjgacjpaa
open Go Go.VM

theorem nl_app (a b : List Nat) : nl (a ++ b) = nl a ++ nl b := by simp [nl]
theorem msq_len256 {n : Nat} (hn : n ≤ 8) : (msq n).length ≤ 255 := by
  rw [msq_len _ (by omega)]
  have : 2 ^ n ≤ 2 ^ 8 := Nat.pow_le_pow_right (by decide) hn
  omega
def pre0 (F N : Nat → Int) : List Nat := if en F N 0 then [0] else []
theorem hl_pre (F N : Nat → Int) (n : Nat) : hl F N n = pre0 F N ++ (msq n).filter fun x => decide (en F N x) := by
  unfold hl pre0
  rw [List.filter_cons]
  by_cases h : en F N 0
  · rw [if_pos (decide_eq_true h), if_pos h]; rfl
  · rw [if_neg (by rw [decide_eq_false h]; decide), if_neg h]; rfl
def hp (F N : Nat → Int) (n i : Nat) : List Nat := pre0 F N ++ ((msq n).take i).filter fun x => decide (en F N x)
theorem hp_succ {F N : Nat → Int} {n i x : Nat} (h : (msq n)[i]? = some x) : hp F N n (i + 1) = if en F N x then hp F N n i ++ [x] else hp F N n i := by
  unfold hp
  rw [List.take_add_one, h, List.filter_append, ← List.append_assoc]
  by_cases hx : en F N x
  · rw [if_pos hx]; simp [hx]
  · rw [if_neg hx]; simp [hx]
theorem hp_len {F N : Nat → Int} {n : Nat} (hn : n ≤ 8) (i : Nat) : (hp F N n i).length ≤ 256 := by
  unfold hp
  have h1 : (pre0 F N).length ≤ 1 := by unfold pre0; split <;> simp
  have h2 := List.length_filter_le (fun x => decide (en F N x)) ((msq n).take i)
  have h3 := msq_len256 hn
  rw [List.length_append]
  rw [List.length_take] at h2
  omega
theorem hp_take {F N : Nat → Int} {n i : Nat} : (hl F N n).take (hp F N n i).length = hp F N n i := by
  have : hl F N n = hp F N n i ++ ((msq n).drop i).filter fun x => decide (en F N x) := by
    rw [hl_pre]
    unfold hp
    rw [List.append_assoc, ← List.filter_append, List.take_append_drop]
  rw [this, List.take_left]

/-- The range over the masks, from a heap where the list holds what goes ahead. -/
theorem c_iter (z : Bool) (F N : Nat → Int) (n k : Nat) (hn : n ≤ 8) (hf : rt F N) (r : Regs) (hz : z = true → pre0 F N ≠ []) (hk : (pre0 F N).length ≤ k) (R0 : Regs) (hA : Agr R0 [(2, .ptr 4 0), (3, .ptr 6 0), (5, .ptr 9 0)]) :
    Has (EE env (.fn 30) [.yield (bif z then 12 else 11), .ptr (bif z then 11 else 10) 0] (HS z F N n k (cLo (cR r) .ready) (iLo R0 .ready) (nl (pre0 F N))))
      (fun y => ∃ r', y.2 = HS z F N n k (cLo (cR r) .ready) (iLo (ciR r') .ready) (nl ((hl F N n).take k)) ∨ y.2 = HS z F N n k (cLo (cR r) (.done (.exit 0))) (iLo (ciR r') (.done .ret)) (nl ((hl F N n).take k))) := by
  obtain ⟨r', hr⟩ : ∃ r', R0 = ciR r' := ⟨R0, hA.eq.symm⟩
  clear hA
  subst hr
  have hne : ∀ i, z = true → nl (hp F N n i) ≠ [] := fun i h e => hz h (by
    unfold hp nl at e
    rw [List.map_append] at e
    exact List.map_eq_nil_iff.1 (List.append_eq_nil_iff.1 e).1)
  refine (masks_iter (bif z then 12 else 11) (bif z then 11 else 10) n hn (fun i H => i ≤ (msq n).length ∧ (hp F N n i).length ≤ k ∧ H = HS z F N n k (cLo (cR r) .ready) (iLo (ciR r') .ready) (nl (hp F N n i)))
    (fun H => H = HS z F N n k (cLo (cR r) (.done (.exit 0))) (iLo (ciR r') (.done .ret)) (nl ((hl F N n).take k)))
    (fun i H ⟨_, _, h⟩ => by
      rw [h]
      cases z with
      | true => rfl
      | false => cases nl (hp F N n i) <;> rfl) (fun i H x ⟨h1, h2, h3⟩ hx => ?_) _ ⟨Nat.zero_le _, by unfold hp; simpa using hk, by unfold hp; simp⟩).mono fun y hy => ?_
  · subst h3
    have hl1 : (nl (hp F N n i)).length ≤ 1000 := by rw [nl_len]; have := hp_len (F := F) (N := N) hn i; omega
    have hsu := hp_succ (F := F) (N := N) hx
    have hlt := (List.getElem?_eq_some_iff.1 hx).1
    refine Has.of_eq (ci_yd z F N hf n k r r' x (msq_256 hn hx).2 _ hl1 (hne i)) ?_
    by_cases he : en F N x
    · rw [if_pos he] at hsu ⊢
      by_cases hu : (nl (hp F N n i)).length ≥ k
      · rw [if_pos hu]
        rw [nl_len] at hu
        have : k = (hp F N n i).length := by omega
        refine .inr ⟨rfl, ?_⟩
        show HS _ _ _ _ _ _ _ _ = _
        rw [this, hp_take, ← this]
      · rw [if_neg hu]
        rw [nl_len] at hu
        refine .inl ⟨rfl, hlt, by rw [hsu, List.length_append]; simp; omega, ?_⟩
        rw [hsu, nl_app]; rfl
    · rw [if_neg he] at hsu ⊢
      exact .inl ⟨rfl, hlt, by rw [hsu]; exact h2, by rw [hsu]⟩
  · refine ⟨r', ?_⟩
    rcases hy with ⟨_, h2, h3⟩ | h
    · refine .inl ?_
      have he : hp F N n (msq n).length = hl F N n := by
        rw [hl_pre]; unfold hp; rw [List.take_length]
      rw [h3, he]
      rw [he] at h2
      rw [List.take_of_length_le h2]
    · exact .inr h

/-- The range over the hints, in hints. -/
theorem h_iter (F N : Nat → Int) (n k : Nat) (hn : n ≤ 8) (hfit : fit F N (n : Int)) (r : Regs) :
    Has (EE env (.fn 24) [.yield 8, .ptr 7 0, .ptr 4 0, .ptr 6 0, .ptr 5 0] [.pcells (tab 16 (iv F)), .pcells (tab 2 (iv N)), .pcells [.int .i64 (k : Int)], .pcells [.sl .nil 0 []], .pcells (tab 16 (iv F)), .pcells [.int .i64 n], .pcells (tab 2 (iv N)), .pcells [.bool true], cLo (cR r) .ready])
      (fun y => ∃ st, (st = .ready ∨ st = .done (.exit 0)) ∧ ((∃ z o2, y.2 = HS z F N n k (cLo (cR r) st) o2 (nl ((hl F N n).take k)) ∧ (z = true → (hl F N n).take k ≠ [])) ∨ ((hl F N n).take k = [] ∧ y.2 = HC F N n k (.pcells [.sl .nil 0 []]) (cLo (cR r) st) []))) := by
  have hf := hfit.1
  have he := enough_ok F N 0 hf
  have hmk : ∀ (z : Bool) (H : Heap), (H = HC F N n k (cl 10 [0]) (cLo (cR r) .ready) [.tok 1 1] ∧ z = true) ∨ (H = HC F N n k (.pcells [.sl .nil 0 []]) (cLo (cR r) .ready) [] ∧ z = false) →
      EE env (.fn 25) [.pv (.int .i64 (n : Int))] H = some (.fn 30 [] [.ptr (bif z then 11 else 10) 0], H ++ [.pcells [.int .i64 (n : Int)]]) := by
    intro z H hh
    rcases hh with ⟨rfl, rfl⟩ | ⟨rfl, rfl⟩
    all_goals
      refine Has.eq (EE_has ?_)
      refine eqK_has_eq (n : Int) (by show (if (0 : Int) > n then (0 : Int) else n) = _; split <;> omega) ?_
      refine eqK_has_eq (n : Int) (by show (if (8 : Int) < n then (8 : Int) else n) = _; split <;> omega) ?_
      refine hgetK_has _ rfl ?_
      refine needK_has rfl ?_
      refine eqK_has_eq [.int .i64 (n : Int)] rfl ?_
      exact Has.intro rfl
  have hc0 := c_yd0 F N n k r 0
  refine EE_has ?_
  refine hgetK_has _ rfl ?_
  refine getK_has rfl ?_
  refine hgetK_has _ rfl ?_
  refine secK_has (v := tab 16 (iv F)) (tab_sec _).1 (tab_sec _).2 ?_
  refine hgetK_has _ rfl ?_
  refine secK_has (v := tab 2 (iv N)) (tab_sec _).1 (tab_sec _).2 ?_
  refine callPK_dec he (fun h => ?_) (fun h => ?_)
  · have hp0 : pre0 F N = [0] := by unfold pre0; rw [if_pos (show en F N 0 from h)]
    refine hgetK_has _ rfl ?_
    by_cases hk : k = 0
    · rw [if_pos hk] at hc0
      refine callSK_has hc0 ?_
      refine Has.intro ⟨_, .inr rfl, .inr ⟨?_, rfl⟩⟩
      rw [hk]; rfl
    · rw [if_neg hk] at hc0
      refine callSK_has hc0 ?_
      refine hgetK_has _ rfl ?_
      refine getK_has rfl ?_
      refine callSK_has (hmk true _ (.inl ⟨rfl, rfl⟩)) ?_
      have hci : ∀ R0 : Regs, Agr R0 [(2, .ptr 4 0), (3, .ptr 6 0), (5, .ptr 9 0)] → Has (EE env (.fn 30) [.yield 12, .ptr 11 0] (HC F N n k (cl 10 [0]) (cLo (cR r) .ready) [.tok 1 1] ++ [.pcells [.int .i64 (n : Int)]] ++ [iLo R0 .ready])) _ := fun R0 hA => by
        have := c_iter true F N n k hn hf r (fun _ => by rw [hp0]; simp) (by rw [hp0]; simp; omega) R0 hA
        rw [hp0] at this
        exact this
      have hne : (hl F N n).take k ≠ [] := by
        rw [hl_pre, hp0]
        cases k with
        | zero => exact absurd rfl hk
        | succ k => simp
      refine callSK_has' ((hci _ ⟨rfl, rfl, rfl, trivial⟩).mono fun y hy => ?_)
      obtain ⟨v, J⟩ := y
      obtain ⟨r', hy⟩ := hy
      dsimp only at hy ⊢
      rcases hy with h1 | h1
      · subst h1
        refine hgetK_has _ rfl ?_
        exact Has.intro ⟨_, .inl rfl, .inl ⟨true, _, rfl, fun _ => hne⟩⟩
      · subst h1
        refine hgetK_has _ rfl ?_
        exact Has.intro ⟨_, .inr rfl, .inl ⟨true, _, rfl, fun _ => hne⟩⟩
  · have hp0 : pre0 F N = [] := by unfold pre0; rw [if_neg (show ¬ en F N 0 from h)]
    refine hgetK_has _ rfl ?_
    refine getK_has rfl ?_
    refine callSK_has (hmk false _ (.inr ⟨rfl, rfl⟩)) ?_
    have hci : ∀ R0 : Regs, Agr R0 [(2, .ptr 4 0), (3, .ptr 6 0), (5, .ptr 9 0)] → Has (EE env (.fn 30) [.yield 11, .ptr 10 0] (HC F N n k (.pcells [.sl .nil 0 []]) (cLo (cR r) .ready) [] ++ [.pcells [.int .i64 (n : Int)]] ++ [iLo R0 .ready])) _ := fun R0 hA => by
      have := c_iter false F N n k hn hf r (fun h => nomatch h) (by rw [hp0]; simp) R0 hA
      rw [hp0] at this
      exact this
    refine callSK_has' ((hci _ ⟨rfl, rfl, rfl, trivial⟩).mono fun y hy => ?_)
    obtain ⟨v, J⟩ := y
    obtain ⟨r', hy⟩ := hy
    dsimp only at hy ⊢
    generalize hL : (hl F N n).take k = L at *
    rcases hy with h1 | h1
    · subst h1
      refine hgetK_has (iLo (ciR r') .ready) (by cases L <;> rfl) ?_
      refine Has.intro ⟨.ready, .inl rfl, .inl ⟨false, .dead, ?_, fun h => nomatch h⟩⟩
      cases L <;> rfl
    · subst h1
      refine hgetK_has (iLo (ciR r') (.done .ret)) (by cases L <;> rfl) ?_
      refine Has.intro ⟨.done (.exit 0), .inr rfl, .inl ⟨false, .dead, ?_, fun h => nomatch h⟩⟩
      cases L <;> rfl
end Go.Proofs.Ytdbobcbjgacjpaa
