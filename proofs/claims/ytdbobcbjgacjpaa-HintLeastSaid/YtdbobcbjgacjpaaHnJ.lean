/-
  The first hints, and all of the document's.
-/
import Derived.Test.YtdbobcbjgacjpaaHnI
set_option linter.all false
set_option linter.unusedVariables false
set_option linter.unusedSimpArgs false
set_option linter.unusedSectionVars false
namespace Go.Proofs.Ytdbobcbjgacjpaa
open Go Go.VM

def hs (F N : Nat → Int) (n : Int) (k : Nat) : List Nat := if fit F N n then (hl F N n.toNat).take k else []
theorem hs_out {F N : Nat → Int} {n k : Nat} {z : Bool} {o o2 : HObj} {l : List Int} (hz : z = true → l ≠ []) : ∃ c, hget (HS z F N n k o o2 l) 3 = c ∧ (l = [] ∧ c = .pcells [.sl .nil 0 []] ∨ l ≠ [] ∧ ∃ t, c = .cells [.tsl t l.length (ints l)]) := by
  cases z with
  | true =>
    cases l with
    | nil => exact absurd rfl (hz rfl)
    | cons a l => exact ⟨_, rfl, .inr ⟨by simp, _, rfl⟩⟩
  | false =>
    cases l with
    | nil => exact ⟨_, rfl, .inl ⟨rfl, rfl⟩⟩
    | cons a l => exact ⟨_, rfl, .inr ⟨by simp, _, rfl⟩⟩
theorem hints_ok (F N : Nat → Int) (n : Int) (k : Nat) : EP (EE env) 10 [.agg (tab 16 (iv F)), .int .i64 n, .agg (tab 2 (iv N)), .int .i64 (k : Int)] = some (slv (nl (hs F N n k))) := by
  refine Has.eq (EP_has ?_)
  refine hgetK_has _ rfl ?_
  refine secK_has (v := tab 16 (iv F)) (tab_sec _).1 (tab_sec _).2 ?_
  refine hgetK_has _ rfl ?_
  refine secK_has (v := tab 2 (iv N)) (tab_sec _).1 (tab_sec _).2 ?_
  refine callSK_has (hints_fn F N n _ _ _ _ (.pcells []) _ (.inl rfl)) ?_
  by_cases hfit : fit F N n
  · obtain ⟨m, rfl⟩ : ∃ m : Nat, n = m := ⟨n.toNat, by have := hfit.2.1; omega⟩
    have hm : m ≤ 8 := by have := hfit.2.2; omega
    have he : hs F N (m : Int) k = (hl F N m).take k := by unfold hs; rw [if_pos hfit]; rfl
    rw [he]
    have hw : ∀ R0 : Regs, Agr R0 [(7, .ptr 2 0), (9, .ptr 3 0)] →
        Has (EE env (.fn 24) [.yield 8, .ptr 7 0, .ptr 4 0, .ptr 6 0, .ptr 5 0] ([.pcells (tab 16 (iv F)), .pcells (tab 2 (iv N)), .pcells [.int .i64 (k : Int)], .pcells [.sl .nil 0 []]] ++ HintsH F N m ++ [cLo R0 .ready]))
          (fun y => ∃ r st, (st = .ready ∨ st = .done (.exit 0)) ∧ ((∃ z o2, y.2 = HS z F N m k (cLo (cR r) st) o2 (nl ((hl F N m).take k)) ∧ (z = true → (hl F N m).take k ≠ [])) ∨ ((hl F N m).take k = [] ∧ y.2 = HC F N m k (.pcells [.sl .nil 0 []]) (cLo (cR r) st) []))) := by
      intro R0 hA
      obtain ⟨r, hr⟩ : ∃ r, R0 = cR r := ⟨R0, hA.eq.symm⟩
      clear hA
      subst hr
      unfold HintsH
      rw [decide_eq_true hfit]
      exact (h_iter F N m k hm hfit r).mono fun y hy => ⟨r, hy⟩
    refine callSK_has' ((hw _ ⟨rfl, rfl, trivial⟩).mono fun y hy => ?_)
    obtain ⟨v, J⟩ := y
    obtain ⟨r, st, hst, hy⟩ := hy
    dsimp only at hy ⊢
    generalize hL : (hl F N m).take k = L at *
    rcases hy with ⟨z, o2, rfl, hz⟩ | ⟨rfl, rfl⟩
    · cases z with
      | true =>
        cases L with
        | nil => exact absurd rfl (hz rfl)
        | cons a L =>
          rcases hst with rfl | rfl
          all_goals
            refine hgetK_has _ rfl ?_
            refine hgetK_has _ rfl ?_
            exact Has.intro (Has.intro rfl)
      | false =>
        cases L with
        | nil =>
          rcases hst with rfl | rfl
          all_goals
            refine hgetK_has _ rfl ?_
            refine hgetK_has _ rfl ?_
            refine getK_has rfl ?_
            exact Has.intro (Has.intro rfl)
        | cons a L =>
          rcases hst with rfl | rfl
          all_goals
            refine hgetK_has _ rfl ?_
            refine hgetK_has _ rfl ?_
            exact Has.intro (Has.intro rfl)
    · rcases hst with rfl | rfl
      all_goals
        refine hgetK_has _ rfl ?_
        refine hgetK_has _ rfl ?_
        refine getK_has rfl ?_
        exact Has.intro (Has.intro rfl)
  · have he : hs F N n k = [] := by unfold hs; rw [if_neg hfit]
    rw [he]
    have hw : ∀ R0 : Regs,
        Has (EE env (.fn 24) [.yield 8, .ptr 7 0, .ptr 4 0, .ptr 6 0, .ptr 5 0] ([.pcells (tab 16 (iv F)), .pcells (tab 2 (iv N)), .pcells [.int .i64 (k : Int)], .pcells [.sl .nil 0 []]] ++ HintsH F N n ++ [cLo R0 .ready]))
          (fun y => y.2 = [.pcells (tab 16 (iv F)), .pcells (tab 2 (iv N)), .pcells [.int .i64 (k : Int)], .pcells [.sl .nil 0 []]] ++ HintsH F N n ++ [cLo R0 .ready, .cells [.yield 8]]) := by
      intro R0
      refine EE_has ?_
      refine hgetK_has _ rfl ?_
      refine getK_has (v := .bool false) (show some (PV.bool (decide (fit F N n))) = _ by rw [decide_eq_false hfit]) ?_
      exact Has.intro rfl
    refine callSK_has' ((hw _).mono fun y hy => ?_)
    obtain ⟨v, J⟩ := y
    dsimp only at hy ⊢
    subst hy
    refine hgetK_has _ rfl ?_
    refine hgetK_has _ rfl ?_
    refine getK_has rfl ?_
    exact Has.intro (Has.intro rfl)

/-! ### the document's -/
theorem hl_len {F N : Nat → Int} {n : Nat} (hn : n ≤ 8) : (hl F N n).length ≤ 256 := by
  unfold hl
  have h1 := List.length_filter_le (fun x => decide (en F N x)) (0 :: msq n)
  have h2 := msq_len256 hn
  rw [List.length_cons] at h1
  omega
def fl (F N : Nat → Int) (l : List Nat) (i : Nat) : List Nat := (l.take i).filter fun x => decide (en F N x)
theorem fl_succ {F N : Nat → Int} {l : List Nat} {i x : Nat} (h : l[i]? = some x) : fl F N l (i + 1) = if en F N x then fl F N l i ++ [x] else fl F N l i := by
  unfold fl
  rw [List.take_add_one, h, List.filter_append]
  by_cases hx : en F N x
  · rw [if_pos hx]; simp [hx]
  · rw [if_neg hx]; simp [hx]
theorem fl_len {F N : Nat → Int} {l : List Nat} {i : Nat} : (fl F N l i).length ≤ l.length := by
  unfold fl
  have h1 := List.length_filter_le (fun x => decide (en F N x)) (l.take i)
  rw [List.length_take] at h1
  omega
theorem rhints_ok (F N : Nat → Int) (n : Nat) (hn : n ≤ 8) (hf : rt F N) : EP (EE env) 16 [.agg (tab 16 (iv F)), .int .i64 (n : Int), .agg (tab 2 (iv N))] = some (slv (nl (hl F N n))) := by
  have hlen := msq_len256 hn
  have hm256 : ∀ (i x : Nat), (0 :: msq n)[i]? = some x → x < 256 := fun i x h => by
    cases i with
    | zero => simp at h; omega
    | succ i => exact (msq_256 hn (by simpa using h)).2
  have hfl : fl F N (0 :: msq n) (0 :: msq n).length = hl F N n := by unfold fl hl; rw [List.take_length]
  have hl0 : (0 :: msq n).length = 1 + (msq n).length := by rw [List.length_cons, Nat.add_comm]
  have hnl0 : ints (nl (0 :: msq n)) = .int .i64 0 :: ints (nl (msq n)) := rfl
  refine Has.eq (EP_has ?_)
  refine callPK_has (rmasks_ok n hn) ?_
  generalize hM : msq n = M at *
  have body : ∀ (M : List Nat), True := fun _ => trivial
  cases M with
  | nil =>
    refine boolK_has_true rfl ?_
    refine loopK_has ?_
    refine iterE_up 1 (fun i => [(3, .ptr 0 0), (5, .ptr 1 0), (7, accV 2 (nl (fl F N [0] i))), (13, .pv (.sl .exact 1 [.int .i64 0])), (14, .pv (.int .i64 1)), (15, .pv (.int .i64 i))]) (fun i => accH [.pcells (tab 16 (iv F)), .pcells (tab 2 (iv N))] (nl (fl F N [0] i))) (fun i hi r => ?_) (fun r => ?_) ⟨rfl, rfl, rfl, rfl, rfl, rfl, trivial⟩ rfl
    · obtain ⟨x, hx⟩ : ∃ x, ([0])[i]? = some x := ⟨_, List.getElem?_eq_getElem hi⟩
      have hsu := fl_succ (F := F) (N := N) hx
      have hfll : (nl (fl F N [0] i)).length ≤ 256 := by
        have h2 := fl_len (F := F) (N := N) (l := [0]) (i := i)
        rw [nl_len]
        simp only [List.length_cons, List.length_nil] at h2 hlen
        omega
      have hx256 := hm256 i x hx
      have he := renough_ok F N x hf
      have hof := rof_ok (x : Int)
      rw [m8_nat hx256] at hof
      refine boolK_dec_t (by omega) ?_
      refine needK_has (by simp; omega) ?_
      refine getK_has (v := .int .i64 (x : Int)) (ints_get (nl_get hx)) ?_
      generalize hL : fl F N ([0]) i = L at *
      cases L with
      | nil =>
        refine hgetK_has _ rfl ?_
        refine secK_has (v := tab 16 (iv F)) (tab_sec _).1 (tab_sec _).2 ?_
        refine callPK_has hof ?_
        refine hgetK_has _ rfl ?_
        refine secK_has (v := tab 2 (iv N)) (tab_sec _).1 (tab_sec _).2 ?_
        refine callPK_dec he (fun h => ?_) (fun h => ?_)
        · rw [if_pos h] at hsu
          refine boolK_has_false rfl ?_
          refine needK_has rfl ?_
          refine eqK_has_eq [.int .i64 (x : Int)] rfl ?_
          refine eqK_has_eq 1 rfl ?_
          refine eqK_has_eq _ (i64_succ (by omega)) ?_
          exact Has.intro ⟨⟨rfl, rfl, by rw [hsu]; rfl, rfl, rfl, rfl, trivial⟩, by first | (rw [hsu]; done) | (rw [hsu]; rfl)⟩
        · rw [if_neg h] at hsu
          refine eqK_has_eq _ (i64_succ (by omega)) ?_
          exact Has.intro ⟨⟨rfl, rfl, by rw [hsu]; rfl, rfl, rfl, rfl, trivial⟩, by first | (rw [hsu]; done) | (rw [hsu]; rfl)⟩
      | cons a l =>
        refine hgetK_has _ rfl ?_
        refine secK_has (v := tab 16 (iv F)) (tab_sec _).1 (tab_sec _).2 ?_
        refine callPK_has hof ?_
        refine hgetK_has _ rfl ?_
        refine secK_has (v := tab 2 (iv N)) (tab_sec _).1 (tab_sec _).2 ?_
        refine callPK_dec he (fun h => ?_) (fun h => ?_)
        · rw [if_pos h] at hsu
          refine hgetK_has _ rfl ?_
          refine needK_has (by rw [Bool.and_eq_true]; exact ⟨Nat.beq_refl _, rfl⟩) ?_
          refine needK_has (by
            rw [ints_len]
            simp only [Bool.and_eq_true]
            refine ⟨⟨Nat.ble_eq_true_of_le ?_, Nat.beq_refl _⟩, rfl⟩
            show ((nl (a :: l)).length + 1) * 8 ≤ 140737488355328; omega) ?_
          refine eqK_has_eq (ints (nl (a :: l) ++ [(x : Int)])) (ints_app _ _) ?_
          refine eqK_has_eq (nl (a :: l) ++ [(x : Int)]).length (by simp [nl]) ?_
          refine eqK_has_eq _ (i64_succ (by omega)) ?_
          exact Has.intro ⟨⟨rfl, rfl, by rw [hsu, nl_app]; rfl, rfl, rfl, rfl, trivial⟩, by first | (rw [hsu, nl_app]; done) | (rw [hsu, nl_app]; rfl)⟩
        · rw [if_neg h] at hsu
          refine eqK_has_eq _ (i64_succ (by omega)) ?_
          exact Has.intro ⟨⟨rfl, rfl, by rw [hsu]; rfl, rfl, rfl, rfl, trivial⟩, by first | (rw [hsu]; done) | (rw [hsu]; rfl)⟩
    · refine boolK_dec_f (by omega) ?_
      have hfl' : fl F N [0] 1 = hl F N n := hfl
      rw [hfl']
      generalize nl (hl F N n) = L
      cases L with
      | nil => exact Has.intro (Has.intro (Has.intro rfl))
      | cons a l => exact Has.intro (Has.intro (Has.intro rfl))
  | cons b M =>
    refine boolK_has_false rfl ?_
    refine needK_has (by
      have h1 : ((fun (n : Nat) => (n : Int)) b :: List.map (fun (n : Nat) => (n : Int)) M).length = (b :: M).length := by simp
      rw [ints_len, h1]
      simp only [Bool.and_eq_true]
      refine ⟨⟨Nat.ble_eq_true_of_le ?_, rfl⟩, Nat.beq_refl _⟩
      show (1 + (b :: M).length) * 8 ≤ 140737488355328; omega) ?_
    refine eqK_has_eq (ints (nl (0 :: b :: M))) rfl ?_
    refine eqK_has_eq (0 :: b :: M).length (by show 1 + ((fun (n : Nat) => (n : Int)) b :: List.map (fun (n : Nat) => (n : Int)) M).length = _; simp; omega) ?_
    refine loopK_has ?_
    refine iterE_up (0 :: b :: M).length (fun i => [(3, .ptr 0 0), (5, .ptr 1 0), (7, accV 3 (nl (fl F N (0 :: b :: M) i))), (13, .tsl 2 (0 :: b :: M).length (ints (nl (0 :: b :: M)))), (14, .pv (.int .i64 (0 :: b :: M).length)), (15, .pv (.int .i64 i))]) (fun i => accH [.pcells (tab 16 (iv F)), .pcells (tab 2 (iv N)), .tok (0 :: b :: M).length 1] (nl (fl F N (0 :: b :: M) i))) (fun i hi r => ?_) (fun r => ?_) ⟨rfl, rfl, rfl, rfl, rfl, rfl, trivial⟩ rfl
    · obtain ⟨x, hx⟩ : ∃ x, ((0 :: b :: M))[i]? = some x := ⟨_, List.getElem?_eq_getElem hi⟩
      have hsu := fl_succ (F := F) (N := N) hx
      have hfll : (nl (fl F N (0 :: b :: M) i)).length ≤ 256 := by
        have h2 := fl_len (F := F) (N := N) (l := (0 :: b :: M)) (i := i)
        rw [nl_len]
        simp only [List.length_cons, List.length_nil] at h2 hlen
        omega
      have hx256 := hm256 i x hx
      have he := renough_ok F N x hf
      have hof := rof_ok (x : Int)
      rw [m8_nat hx256] at hof
      refine boolK_dec_t (by omega) ?_
      refine needK_has (by have hi' := hi; simp only [List.length_cons] at hi'; simp; omega) ?_
      refine getK_has (v := .int .i64 (x : Int)) (ints_get (nl_get hx)) ?_
      generalize hL : fl F N ((0 :: b :: M)) i = L at *
      cases L with
      | nil =>
        refine hgetK_has _ rfl ?_
        refine secK_has (v := tab 16 (iv F)) (tab_sec _).1 (tab_sec _).2 ?_
        refine callPK_has hof ?_
        refine hgetK_has _ rfl ?_
        refine secK_has (v := tab 2 (iv N)) (tab_sec _).1 (tab_sec _).2 ?_
        refine callPK_dec he (fun h => ?_) (fun h => ?_)
        · rw [if_pos h] at hsu
          refine boolK_has_false rfl ?_
          refine needK_has rfl ?_
          refine eqK_has_eq [.int .i64 (x : Int)] rfl ?_
          refine eqK_has_eq 1 rfl ?_
          refine eqK_has_eq _ (i64_succ (by omega)) ?_
          exact Has.intro ⟨⟨rfl, rfl, by rw [hsu]; rfl, rfl, rfl, rfl, trivial⟩, by first | (rw [hsu]; done) | (rw [hsu]; rfl)⟩
        · rw [if_neg h] at hsu
          refine eqK_has_eq _ (i64_succ (by omega)) ?_
          exact Has.intro ⟨⟨rfl, rfl, by rw [hsu]; rfl, rfl, rfl, rfl, trivial⟩, by first | (rw [hsu]; done) | (rw [hsu]; rfl)⟩
      | cons a l =>
        refine hgetK_has _ rfl ?_
        refine secK_has (v := tab 16 (iv F)) (tab_sec _).1 (tab_sec _).2 ?_
        refine callPK_has hof ?_
        refine hgetK_has _ rfl ?_
        refine secK_has (v := tab 2 (iv N)) (tab_sec _).1 (tab_sec _).2 ?_
        refine callPK_dec he (fun h => ?_) (fun h => ?_)
        · rw [if_pos h] at hsu
          refine hgetK_has _ rfl ?_
          refine needK_has (by rw [Bool.and_eq_true]; exact ⟨Nat.beq_refl _, rfl⟩) ?_
          refine needK_has (by
            rw [ints_len]
            simp only [Bool.and_eq_true]
            refine ⟨⟨Nat.ble_eq_true_of_le ?_, Nat.beq_refl _⟩, rfl⟩
            show ((nl (a :: l)).length + 1) * 8 ≤ 140737488355328; omega) ?_
          refine eqK_has_eq (ints (nl (a :: l) ++ [(x : Int)])) (ints_app _ _) ?_
          refine eqK_has_eq (nl (a :: l) ++ [(x : Int)]).length (by simp [nl]) ?_
          refine eqK_has_eq _ (i64_succ (by omega)) ?_
          exact Has.intro ⟨⟨rfl, rfl, by rw [hsu, nl_app]; rfl, rfl, rfl, rfl, trivial⟩, by first | (rw [hsu, nl_app]; done) | (rw [hsu, nl_app]; rfl)⟩
        · rw [if_neg h] at hsu
          refine eqK_has_eq _ (i64_succ (by omega)) ?_
          exact Has.intro ⟨⟨rfl, rfl, by rw [hsu]; rfl, rfl, rfl, rfl, trivial⟩, by first | (rw [hsu]; done) | (rw [hsu]; rfl)⟩
    · refine boolK_dec_f (by omega) ?_
      have hfl' : fl F N (0 :: b :: M) (0 :: b :: M).length = hl F N n := hfl
      rw [hfl']
      generalize nl (hl F N n) = L
      cases L with
      | nil => exact Has.intro (Has.intro (Has.intro rfl))
      | cons a l => exact Has.intro (Has.intro (Has.intro rfl))
end Go.Proofs.Ytdbobcbjgacjpaa
