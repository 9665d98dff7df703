/-
  MaskParts in the abstract machine.
-/
import Derived.Test.YteflibnmicehcaaMkI
set_option linter.all false
set_option linter.unusedVariables false
set_option linter.unusedSimpArgs false
set_option linter.unusedSectionVars false
namespace Go.Proofs.Yteflibnmicehcaa
open Go Go.VM

theorem part1 : ∀ u, u < 256 → ∀ k, k < 8 → (u ||| 2 ^ k) &&& 2 ^ k ≠ 0 ∧ (u &&& (255 - 2 ^ k)) &&& 2 ^ k = 0 ∧ cnt (u ||| 2 ^ k) = cnt (u &&& (255 - 2 ^ k)) + 1 ∧
    (u &&& (255 - 2 ^ k)) &&& (255 - u) = 0 ∧ u &&& (255 - (u ||| 2 ^ k)) = 0 ∧ ((u ||| 2 ^ k = u) ↔ ¬ (u &&& (255 - 2 ^ k) = u)) ∧ ahd (u &&& (255 - 2 ^ k)) (u ||| 2 ^ k) := by decide +kernel
theorem part2 : ∀ u, u < 256 → ofL (nl (nds u)) = u := by decide +kernel

def ptBody : VCode := .block 1 (.ops [⟨some 65, none, .load1 (.t 9)⟩, ⟨some 66, none, .mov (.t 10)⟩, ⟨some 67, none, .buildSlice false 1 1 [.int .i64 0] [(0, 1, .t 66)]⟩, ⟨some 68, none, .append false false 1 8 (.t 65) (.t 67)⟩, ⟨none, none, .store1 (.t 9) (.t 68)⟩])
def ptLo (r : Regs) : HObj := .loop ⟨.ready, r, [64], .ops [⟨some 10, none, .mov (.t 64)⟩], ptBody⟩
def ptH (m : Int) (r : Regs) (l : List Int) : Heap := match l with
  | [] => [.pcells [.sl .nil 0 []], .pcells [.int .i64 m], ptLo r]
  | a :: l => [.cells [.tsl 3 (a :: l).length (ints (a :: l))], .pcells [.int .i64 m], ptLo r, .tok (a :: l).length 1]
theorem pt_yd (m x : Int) (r : Regs) (hA : Agr r [(9, .ptr 0 0)]) (l : List Int) (hl : l.length ≤ 1000) :
    EE env (.yield 2) [.pv (.int .i64 x)] (ptH m r l) = some (.pv (.bool true), ptH m r (l ++ [x])) := by
  obtain ⟨r0, hr0⟩ : ∃ r0, r = setL r0 [(9, .ptr 0 0)] := ⟨r, hA.eq.symm⟩
  clear hA
  subst hr0
  refine Has.eq (EE_has ?_)
  cases l with
  | nil =>
    refine hgetK_has _ rfl ?_
    refine hgetK_has _ rfl ?_
    refine hgetK_has _ rfl ?_
    refine getK_has rfl ?_
    refine boolK_has_false rfl ?_
    refine needK_has rfl ?_
    refine eqK_has_eq [.int .i64 x] rfl ?_
    refine eqK_has_eq 1 rfl ?_
    refine hgetK_has _ rfl ?_
    refine hgetK_has _ rfl ?_
    exact Has.intro rfl
  | cons a l =>
    refine hgetK_has _ rfl ?_
    refine hgetK_has _ rfl ?_
    refine hgetK_has _ rfl ?_
    refine hgetK_has _ rfl ?_
    refine needK_has (by rw [Bool.and_eq_true]; exact ⟨Nat.beq_refl _, rfl⟩) ?_
    refine needK_has (by
      rw [ints_len]
      simp only [Bool.and_eq_true]
      refine ⟨⟨Nat.ble_eq_true_of_le ?_, Nat.beq_refl _⟩, rfl⟩
      show ((a :: l).length + 1) * 8 ≤ 140737488355328; omega) ?_
    refine eqK_has_eq (ints ((a :: l) ++ [x])) (ints_app _ _) ?_
    refine eqK_has_eq ((a :: l) ++ [x]).length (by simp) ?_
    refine hgetK_has _ rfl ?_
    refine hgetK_has _ rfl ?_
    exact Has.intro rfl

theorem arg_u8 {p : PV} (h : HasTy (.int .u8) [p]) : ∃ n : Nat, p = .int .u8 (n : Int) ∧ n < 256 := by
  obtain ⟨n, h1, h2⟩ := h
  injection h1 with h1
  have hn : 0 ≤ n ∧ n ≤ 255 := by
    simp only [Lit.wf, IntKind.min, IntKind.max, IntKind.bits, IntKind.signed, Bool.and_eq_true] at h2
    simp at h2
    omega
  refine ⟨n.toNat, ?_, by omega⟩
  rw [h1]
  congr 1
  omega

theorem parts_ok (ps : List PV) (h : HasArgs [.int .u8, .int .u8] ps) : ∃ H', EE env (.fn 6) (ps.map .pv) [] = some (.pv (.bool true), H') := by
  obtain ⟨p1, _, rfl, h1, p2, _, rfl, h2, rfl⟩ := h
  obtain ⟨u, rfl, hu⟩ := arg_u8 h1
  obtain ⟨q, rfl, hq⟩ := arg_u8 h2
  clear h1 h2
  have hk : q % 8 < 8 := Nat.mod_lt _ (by decide)
  have hbit : bitOf ((q % 8 : Nat) : Int) = 2 ^ (q % 8) := by unfold bitOf; rw [if_pos (by omega)]; rfl
  generalize hkk : q % 8 = k at *
  obtain ⟨f1, f2, f3, f4, f5, f6, f7⟩ := part1 u hu k hk
  have hp : 2 ^ k < 256 := by have : 2 ^ k ≤ 2 ^ 7 := Nat.pow_le_pow_right (by decide) (by omega); omega
  have hW : u ||| 2 ^ k < 256 := or_lt8 hu hp
  have hO : u &&& (255 - 2 ^ k) < 256 := and_lt8 _ hu
  have hcnt := cnt_le _ hu
  have hcl : cnt u = (nds u).length := rfl
  have hwith : EP (EE env) 18 [.int .i64 (u : Int), .int .i64 (k : Int)] = some (.int .i64 ((u ||| 2 ^ k : Nat) : Int)) := (with_ok _ _).trans (by rw [m8_nat hu, hbit])
  have hwithout : EP (EE env) 19 [.int .i64 (u : Int), .int .i64 (k : Int)] = some (.int .i64 ((u &&& (255 - 2 ^ k) : Nat) : Int)) := (without_ok _ _).trans (by rw [m8_nat hu, hbit])
  generalize u ||| 2 ^ k = W at *
  generalize u &&& (255 - 2 ^ k) = O at *
  have key : ∀ R0 : Regs, Agr R0 [(9, .ptr 0 0)] → Has (EE env (.fn 29) [.yield 2, .ptr 1 0] (ptH u R0 [])) (fun x => x.2 = ptH u R0 (nl (nds u))) := by
    intro R0 hA
    have hn := nodes_iter 2 1 (u : Int) (fun i H => i ≤ (nds u).length ∧ H = ptH u R0 (nl ((nds u).take i))) (fun _ => False) (fun i H x ⟨h2, h3⟩ hx => by
      rw [m8_nat hu] at hx
      have hlt := (List.getElem?_eq_some_iff.1 hx).1
      subst h3
      refine Has.of_eq (pt_yd (u : Int) x R0 hA _ (by rw [nl_len, List.length_take]; omega)) (.inl ⟨rfl, hlt, ?_⟩)
      rw [nl_take_succ hx]) (ptH u R0 []) ⟨Nat.zero_le _, rfl⟩ rfl
    rw [m8_nat hu] at hn
    refine hn.mono fun x hx => ?_
    rcases hx with ⟨_, h3⟩ | h
    · rw [h3, hcl, List.take_length]
    · exact h.elim
  refine law_end (EE_has ?_)
  refine callPK_has first_ok ?_
  refine eqK_has_eq (u : Int) (i64_small (by omega)) ?_
  refine needK_has rfl ?_
  refine eqK_has_eq (k : Int) (by rw [← hkk]; rfl) ?_
  refine eqK_has_eq (k : Int) (i64_small (by omega)) ?_
  refine callPK_has hwith ?_
  refine callPK_has hwithout ?_
  refine callPK_dec_t (has_ok _ _) (by rw [m8_nat hW, hbit]; exact f1) ?_
  refine callPK_dec_f (has_ok _ _) (by rw [m8_nat hO, hbit]; exact fun h => h f2) ?_
  refine callPK_has ((count_ok _).trans (by rw [m8_nat hW])) ?_
  refine callPK_has ((count_ok _).trans (by rw [m8_nat hO])) ?_
  have hcO := cnt_le _ hO
  refine eqK_has_eq ((cnt O + 1 : Nat) : Int) (i64_succ (by omega)) ?_
  refine boolK_bne_f (by rw [f3]) ?_
  refine callPK_dec_t (under_ok _ _) (by rw [m8_nat hO, m8_nat hu]; exact f4) ?_
  refine callPK_dec_t (under_ok _ _) (by rw [m8_nat hu, m8_nat hW]; exact f5) ?_
  refine boolK_has_eq (c := decide (W = u)) (by rw [Bool.eq_iff_iff]; simp; omega) ?_
  refine boolK_has_eq (c := decide (O = u)) (by rw [Bool.eq_iff_iff]; simp; omega) ?_
  refine boolK_has_false (by
    by_cases h : W = u
    · rw [decide_eq_true h, decide_eq_false (f6.1 h)]; rfl
    · rw [decide_eq_false h, decide_eq_true (Decidable.not_not.1 fun hh => h (f6.2 hh))]; rfl) ?_
  refine callSK_has (show EE env (.fn 26) [.pv (.int .i64 (u : Int))] [.pcells [.sl .nil 0 []]] = some (.fn 29 [] [.ptr 1 0], [.pcells [.sl .nil 0 []], .pcells [.int .i64 (u : Int)]]) from EE_intro rfl) ?_
  refine callSK_has' ((key _ ⟨rfl, trivial⟩).mono fun x hx => ?_)
  obtain ⟨w, J⟩ := x
  dsimp only at hx ⊢
  subst hx
  have hof : ∀ y, EP (EE env) 9 [.sl y (nl (nds u)).length (ints (nl (nds u)))] = some (.int .i64 (u : Int)) := fun y => (of_ok y _ (by rw [nl_len, maxLen_eq]; omega)).trans (by rw [part2 u hu])
  have hlen : ((nl (nds u)).length : Int) = (cnt u : Int) := by rw [nl_len]; rfl
  have hcount : EP (EE env) 20 [.int .i64 (u : Int)] = some (.int .i64 (cnt u : Int)) := (count_ok _).trans (by rw [m8_nat hu])
  have hahead : EP (EE env) 22 [.int .i64 (O : Int), .int .i64 (W : Int)] = some (.bool true) := (ahead_ok _ _).trans (by rw [m8_nat hO, m8_nat hW, decide_eq_true f7])
  generalize nl (nds u) = l at *
  have tail : ∀ R0, hget (ptH u R0 l) 2 = ptLo R0 := fun R0 => by cases l <;> rfl
  refine hgetK_has _ (tail _) ?_
  cases l with
  | nil =>
    refine hgetK_has _ rfl ?_
    refine getK_has rfl ?_
    refine callPK_has (hof _) ?_
    refine boolK_has_true (by simp) ?_
    refine hgetK_has _ rfl ?_
    refine getK_has rfl ?_
    refine callPK_has hcount ?_
    refine boolK_has_true (by rw [beq_iff_eq]; exact hlen) ?_
    refine boolK_beq (fun _ => Has.intro rfl) (fun _ => ?_)
    refine callPK_has hahead ?_
    exact Has.intro rfl
  | cons a l =>
    refine hgetK_has _ rfl ?_
    refine callPK_has (hof _) ?_
    refine boolK_has_true (by simp) ?_
    refine hgetK_has _ rfl ?_
    refine callPK_has hcount ?_
    refine boolK_has_true (by rw [beq_iff_eq]; exact hlen) ?_
    refine boolK_beq (fun _ => Has.intro rfl) (fun _ => ?_)
    refine callPK_has hahead ?_
    exact Has.intro rfl
end Go.Proofs.Yteflibnmicehcaa
