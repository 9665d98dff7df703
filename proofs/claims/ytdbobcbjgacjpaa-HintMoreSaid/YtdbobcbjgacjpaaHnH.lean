/-
  The first hints.
-/
import Derived.Test.YtdbobcbjgacjpaaHnG
set_option linter.all false
set_option linter.unusedVariables false
set_option linter.unusedSimpArgs false
set_option linter.unusedSectionVars false
namespace Go.Proofs.Ytdbobcbjgacjpaa
open Go Go.VM

def hl (F N : Nat → Int) (n : Nat) : List Nat := (0 :: msq n).filter fun x => decide (en F N x)
def cBody : VCode := .block 1 (.seq (.seq (.ops [⟨some 20, none, .load1 (.t 9)⟩, ⟨some 21, none, .lenS (.t 20)⟩, ⟨some 22, none, .load1 (.t 7)⟩, ⟨some 23, none, .bin .num .geq (.t 21) (.t 22)⟩])
  (.cond (.t 23) (.exit 0) .skip)) (.ops [⟨some 24, none, .load1 (.t 9)⟩, ⟨some 25, none, .mov (.t 11)⟩, ⟨some 26, none, .buildSlice false 1 1 [.int .i64 0] [(0, 1, .t 25)]⟩, ⟨some 27, none, .append false false 1 8 (.t 24) (.t 26)⟩, ⟨none, none, .store1 (.t 9) (.t 27)⟩]))
def cLo (r : Regs) (st : LState) : HObj := .loop ⟨st, r, [19], .ops [⟨some 11, none, .mov (.t 19)⟩], cBody⟩
def cR (r : Regs) : Regs := setL r [(7, .ptr 2 0), (9, .ptr 3 0)]
def cl (t : Nat) (l : List Int) : HObj := match l with
  | [] => .pcells [.sl .nil 0 []]
  | a :: l => .cells [.tsl t (a :: l).length (ints (a :: l))]
def HC (F N : Nat → Int) (n : Int) (k : Nat) (c o : HObj) (rest : Heap) : Heap :=
  .pcells (tab 16 (iv F)) :: .pcells (tab 2 (iv N)) :: .pcells [.int .i64 (k : Int)] :: c :: .pcells (tab 16 (iv F)) :: .pcells [.int .i64 n] :: .pcells (tab 2 (iv N)) :: .pcells [.bool true] :: o :: .cells [.yield 8] :: rest
def HS (z : Bool) (F N : Nat → Int) (n : Int) (k : Nat) (o o2 : HObj) (l : List Int) : Heap := match z with
  | true => HC F N n k (cl 10 l) o [.tok l.length 1, .pcells [.int .i64 n], o2]
  | false => match l with
    | [] => HC F N n k (.pcells [.sl .nil 0 []]) o [.pcells [.int .i64 n], o2]
    | a :: l => HC F N n k (.cells [.tsl 12 (a :: l).length (ints (a :: l))]) o [.pcells [.int .i64 n], o2, .tok (a :: l).length 1]

theorem c_yd (z : Bool) (F N : Nat → Int) (n : Int) (k : Nat) (r : Regs) (o2 : HObj) (x : Int) (l : List Int) (hl : l.length ≤ 1000) (hz : z = true → l ≠ []) :
    EE env (.yield 8) [.pv (.int .i64 x)] (HS z F N n k (cLo (cR r) .ready) o2 l) =
      some (if l.length ≥ k then (.pv (.bool false), HS z F N n k (cLo (cR r) (.done (.exit 0))) o2 l) else (.pv (.bool true), HS z F N n k (cLo (cR r) .ready) o2 (l ++ [x]))) := by
  have hk : ((l.length : Int) ≥ (k : Int)) ↔ l.length ≥ k := by omega
  refine Has.eq (EE_has ?_)
  cases z with
  | true =>
    cases l with
    | nil => exact absurd rfl (hz rfl)
    | cons a l =>
      refine hgetK_has _ rfl ?_
      refine hgetK_has _ rfl ?_
      refine hgetK_has _ rfl ?_
      refine hgetK_has _ rfl ?_
      refine getK_has rfl ?_
      refine boolK_dec (fun h => ?_) (fun h => ?_)
      · refine hgetK_has _ rfl ?_
        refine Has.intro ?_
        exact (if_pos (hk.1 h)).symm
      · refine hgetK_has _ rfl ?_
        refine hgetK_has _ rfl ?_
        refine needK_has (by rw [Bool.and_eq_true]; exact ⟨Nat.beq_refl _, rfl⟩) ?_
        refine needK_has (by
          have h1 : (ints (a :: l)).length = (a :: l).length := by simp [ints]
          rw [h1]
          simp only [Bool.and_eq_true]
          refine ⟨⟨Nat.ble_eq_true_of_le ?_, ?_⟩, rfl⟩
          · show ((a :: l).length + 1) * 8 ≤ 140737488355328; omega
          · exact Nat.beq_refl _) ?_
        refine eqK_has_eq (ints ((a :: l) ++ [x])) (ints_app _ _) ?_
        refine eqK_has_eq ((a :: l) ++ [x]).length (by simp) ?_
        refine hgetK_has _ rfl ?_
        refine hgetK_has _ rfl ?_
        refine Has.intro ?_
        exact (if_neg (fun hh => h (hk.2 hh))).symm
  | false =>
    cases l with
    | nil =>
      refine hgetK_has _ rfl ?_
      refine hgetK_has _ rfl ?_
      refine hgetK_has _ rfl ?_
      refine getK_has rfl ?_
      refine hgetK_has _ rfl ?_
      refine getK_has rfl ?_
      refine boolK_dec (fun h => ?_) (fun h => ?_)
      · refine hgetK_has _ rfl ?_
        refine Has.intro ?_
        exact (if_pos (hk.1 h)).symm
      · refine hgetK_has _ rfl ?_
        refine getK_has rfl ?_
        refine boolK_has_false rfl ?_
        refine needK_has rfl ?_
        refine eqK_has_eq [.int .i64 x] rfl ?_
        refine eqK_has_eq 1 rfl ?_
        refine hgetK_has _ rfl ?_
        refine hgetK_has _ rfl ?_
        refine Has.intro ?_
        exact (if_neg (fun hh => h (hk.2 hh))).symm
    | cons a l =>
      refine hgetK_has _ rfl ?_
      refine hgetK_has _ rfl ?_
      refine hgetK_has _ rfl ?_
      refine hgetK_has _ rfl ?_
      refine getK_has rfl ?_
      refine boolK_dec (fun h => ?_) (fun h => ?_)
      · refine hgetK_has _ rfl ?_
        refine Has.intro ?_
        exact (if_pos (hk.1 h)).symm
      · refine hgetK_has _ rfl ?_
        refine hgetK_has _ rfl ?_
        refine needK_has (by rw [Bool.and_eq_true]; exact ⟨Nat.beq_refl _, rfl⟩) ?_
        refine needK_has (by
          have h1 : (ints (a :: l)).length = (a :: l).length := by simp [ints]
          rw [h1]
          simp only [Bool.and_eq_true]
          refine ⟨⟨Nat.ble_eq_true_of_le ?_, ?_⟩, rfl⟩
          · show ((a :: l).length + 1) * 8 ≤ 140737488355328; omega
          · exact Nat.beq_refl _) ?_
        refine eqK_has_eq (ints ((a :: l) ++ [x])) (ints_app _ _) ?_
        refine eqK_has_eq ((a :: l) ++ [x]).length (by simp) ?_
        refine hgetK_has _ rfl ?_
        refine hgetK_has _ rfl ?_
        refine Has.intro ?_
        exact (if_neg (fun hh => h (hk.2 hh))).symm
/-- The first yield, ahead of the masks. -/
theorem c_yd0 (F N : Nat → Int) (n : Int) (k : Nat) (r : Regs) (x : Int) :
    EE env (.yield 8) [.pv (.int .i64 x)] (HC F N n k (.pcells [.sl .nil 0 []]) (cLo (cR r) .ready) []) =
      some (if k = 0 then (.pv (.bool false), HC F N n k (.pcells [.sl .nil 0 []]) (cLo (cR r) (.done (.exit 0))) []) else (.pv (.bool true), HC F N n k (cl 10 [x]) (cLo (cR r) .ready) [.tok 1 1])) := by
  refine Has.eq (EE_has ?_)
  refine hgetK_has _ rfl ?_
  refine hgetK_has _ rfl ?_
  refine hgetK_has _ rfl ?_
  refine getK_has rfl ?_
  refine hgetK_has _ rfl ?_
  refine getK_has rfl ?_
  refine boolK_dec (fun h => ?_) (fun h => ?_)
  · refine hgetK_has _ rfl ?_
    refine Has.intro ?_
    exact (if_pos (by omega)).symm
  · refine hgetK_has _ rfl ?_
    refine getK_has rfl ?_
    refine boolK_has_false rfl ?_
    refine needK_has rfl ?_
    refine eqK_has_eq [.int .i64 x] rfl ?_
    refine eqK_has_eq 1 rfl ?_
    refine hgetK_has _ rfl ?_
    refine hgetK_has _ rfl ?_
    refine Has.intro ?_
    exact (if_neg (by omega)).symm

def ciR (r : Regs) : Regs := setL r [(2, .ptr 4 0), (3, .ptr 6 0), (5, .ptr 9 0)]
theorem ci_yd (z : Bool) (F N : Nat → Int) (hf : rt F N) (n : Int) (k : Nat) (r r' : Regs) (x : Nat) (hx : x < 256) (l : List Int) (hl : l.length ≤ 1000) (hz : z = true → l ≠ []) :
    EE env (.yield (bif z then 12 else 11)) [.pv (.int .i64 (x : Int))] (HS z F N n k (cLo (cR r) .ready) (iLo (ciR r') .ready) l) =
      some (if en F N x then (if l.length ≥ k then (.pv (.bool false), HS z F N n k (cLo (cR r) (.done (.exit 0))) (iLo (ciR r') (.done .ret)) l) else (.pv (.bool true), HS z F N n k (cLo (cR r) .ready) (iLo (ciR r') .ready) (l ++ [(x : Int)])))
        else (.pv (.bool true), HS z F N n k (cLo (cR r) .ready) (iLo (ciR r') .ready) l)) := by
  have he := enough_ok F N (x : Int) hf
  rw [m8_nat hx] at he
  have hw := c_yd z F N n k r (iLo (ciR r') .busy) (x : Int) l hl hz
  refine Has.eq (EE_has ?_)
  cases z with
  | true =>
    refine hgetK_has _ rfl ?_
    refine hgetK_has _ rfl ?_
    refine hgetK_has _ rfl ?_
    refine secK_has (v := tab 16 (iv F)) (tab_sec _).1 (tab_sec _).2 ?_
    refine hgetK_has _ rfl ?_
    refine secK_has (v := tab 2 (iv N)) (tab_sec _).1 (tab_sec _).2 ?_
    refine callPK_dec he (fun h => ?_) (fun h => ?_)
    · rw [if_pos h]
      refine hgetK_has _ rfl ?_
      by_cases hu : l.length ≥ k
      · rw [if_pos hu] at hw ⊢
        refine callSK_has hw ?_
        refine hgetK_has _ rfl ?_
        exact Has.intro rfl
      · rw [if_neg hu] at hw ⊢
        refine callSK_has hw ?_
        refine hgetK_has _ rfl ?_
        exact Has.intro rfl
    · rw [if_neg h]
      refine hgetK_has _ rfl ?_
      exact Has.intro rfl
  | false =>
    cases l with
    | nil =>
      refine hgetK_has _ rfl ?_
      refine hgetK_has _ rfl ?_
      refine hgetK_has _ rfl ?_
      refine secK_has (v := tab 16 (iv F)) (tab_sec _).1 (tab_sec _).2 ?_
      refine hgetK_has _ rfl ?_
      refine secK_has (v := tab 2 (iv N)) (tab_sec _).1 (tab_sec _).2 ?_
      refine callPK_dec he (fun h => ?_) (fun h => ?_)
      · rw [if_pos h]
        refine hgetK_has _ rfl ?_
        by_cases hu : ([] : List Int).length ≥ k
        · rw [if_pos hu] at hw ⊢
          refine callSK_has hw ?_
          refine hgetK_has _ rfl ?_
          exact Has.intro rfl
        · rw [if_neg hu] at hw ⊢
          refine callSK_has hw ?_
          refine hgetK_has _ rfl ?_
          exact Has.intro rfl
      · rw [if_neg h]
        refine hgetK_has _ rfl ?_
        exact Has.intro rfl
    | cons a l =>
      refine hgetK_has _ rfl ?_
      refine hgetK_has _ rfl ?_
      refine hgetK_has _ rfl ?_
      refine secK_has (v := tab 16 (iv F)) (tab_sec _).1 (tab_sec _).2 ?_
      refine hgetK_has _ rfl ?_
      refine secK_has (v := tab 2 (iv N)) (tab_sec _).1 (tab_sec _).2 ?_
      refine callPK_dec he (fun h => ?_) (fun h => ?_)
      · rw [if_pos h]
        refine hgetK_has _ rfl ?_
        by_cases hu : (a :: l).length ≥ k
        · rw [if_pos hu] at hw ⊢
          refine callSK_has hw ?_
          refine hgetK_has _ rfl ?_
          exact Has.intro rfl
        · rw [if_neg hu] at hw ⊢
          refine callSK_has hw ?_
          refine hgetK_has _ rfl ?_
          exact Has.intro rfl
      · rw [if_neg h]
        refine hgetK_has _ rfl ?_
        exact Has.intro rfl
end Go.Proofs.Ytdbobcbjgacjpaa
