/-
  Ranging over the nodes of a mask.
-/
import Derived.Test.YtdbobcbjgacjpaaPMkA
set_option linter.all false
set_option linter.unusedVariables false
set_option linter.unusedSimpArgs false
set_option linter.unusedSectionVars false
namespace Go.Proofs.Ytdbobcbjgacjpaa
open Go Go.VM

def ints (l : List Int) : List PV := l.map fun n => .int .i64 n
/-- A list that was built by appending. -/
def slv (l : List Int) : PV := match l with
  | [] => .sl .nil 0 []
  | a :: l => .sl .unk (a :: l).length (ints (a :: l))

/-- The body of a range that collects. -/
def colBody (v q : Nat) : VCode := .block 1 (.seq (.seq (.ops [⟨some q, none, .load1 (.t 5)⟩, ⟨some (q + 1), none, .lenS (.t q)⟩, ⟨some (q + 2), none, .load1 (.t 3)⟩, ⟨some (q + 3), none, .bin .num .geq (.t (q + 1)) (.t (q + 2))⟩])
  (.cond (.t (q + 3)) (.exit 0) .skip)) (.ops [⟨some (q + 4), none, .load1 (.t 5)⟩, ⟨some (q + 5), none, .mov (.t v)⟩, ⟨some (q + 6), none, .buildSlice false 1 1 [.int .i64 0] [(0, 1, .t (q + 5))]⟩, ⟨some (q + 7), none, .append false false 1 8 (.t (q + 4)) (.t (q + 6))⟩, ⟨none, none, .store1 (.t 5) (.t (q + 7))⟩]))
def lo (v q p : Nat) (r : Regs) (st : LState) : HObj := .loop ⟨st, r, [p], .ops [⟨some v, none, .mov (.t p)⟩], colBody v q⟩
def HM (most n : Int) (o : HObj) (l : List Int) : Heap := match l with
  | [] => [.pcells [.int .i64 most], .pcells [.sl .nil 0 []], .pcells [.int .i64 n], o]
  | a :: l => [.pcells [.int .i64 most], .cells [.tsl 4 (a :: l).length (ints (a :: l))], .pcells [.int .i64 n], o, .tok (a :: l).length 1]

theorem ints_app (l : List Int) (x : Int) : ints l ++ [PV.int .i64 x] = ints (l ++ [x]) := by simp [ints]
theorem yd {v q p : Nat} (hc : (v = 7 ∧ q = 14 ∧ p = 13) ∨ (v = 6 ∧ q = 10 ∧ p = 9)) (most n x : Int) (r : Regs) (hA : Agr r [(3, .ptr 0 0), (5, .ptr 1 0)]) (l : List Int) (hl : l.length ≤ 1000) :
    EE env (.yield 3) [.pv (.int .i64 x)] (HM most n (lo v q p r .ready) l) = some (if (l.length : Int) ≥ most then (.pv (.bool false), HM most n (lo v q p r (.done (.exit 0))) l) else (.pv (.bool true), HM most n (lo v q p r .ready) (l ++ [x]))) := by
  obtain ⟨r0, hr0⟩ : ∃ r0, r = setL r0 [(3, .ptr 0 0), (5, .ptr 1 0)] := ⟨r, hA.eq.symm⟩
  clear hA
  subst hr0
  refine Has.eq (EE_has ?_)
  rcases hc with ⟨rfl, rfl, rfl⟩ | ⟨rfl, rfl, rfl⟩
  all_goals
    cases l with
    | nil =>
      refine hgetK_has _ rfl ?_
      refine hgetK_has _ rfl ?_
      refine hgetK_has _ rfl ?_
      refine getK_has rfl ?_
      refine hgetK_has _ rfl ?_
      refine getK_has rfl ?_
      refine boolK_dec (fun h => ?_) (fun h => ?_)
      · refine hgetK_has _ rfl ?_
        refine Has.intro ?_
        exact (if_pos h).symm
      · refine hgetK_has _ rfl ?_
        refine getK_has rfl ?_
        refine boolK_has_false rfl ?_
        refine needK_has rfl ?_
        refine eqK_has_eq [.int .i64 x] rfl ?_
        refine eqK_has_eq 1 rfl ?_
        refine hgetK_has _ rfl ?_
        refine hgetK_has _ rfl ?_
        refine Has.intro ?_
        exact (if_neg h).symm
    | cons a l =>
      refine hgetK_has _ rfl ?_
      refine hgetK_has _ rfl ?_
      refine hgetK_has _ rfl ?_
      refine hgetK_has _ rfl ?_
      refine getK_has rfl ?_
      refine boolK_dec (fun h => ?_) (fun h => ?_)
      · refine hgetK_has _ rfl ?_
        refine Has.intro ?_
        exact (if_pos h).symm
      · refine hgetK_has _ rfl ?_
        refine hgetK_has _ rfl ?_
        refine needK_has (by rw [Bool.and_eq_true]; exact ⟨Nat.beq_refl _, rfl⟩) ?_
        refine needK_has (by
          have h1 : (ints (a :: l)).length = (a :: l).length := by simp [ints]
          rw [h1]
          simp only [Bool.and_eq_true]
          refine ⟨⟨Nat.ble_eq_true_of_le ?_, ?_⟩, rfl⟩
          · show ((a :: l).length + 1) * 8 ≤ 140737488355328; omega
          · exact Nat.beq_refl _) ?_
        refine eqK_has_eq (ints ((a :: l) ++ [x])) (ints_app _ _) ?_
        refine eqK_has_eq ((a :: l) ++ [x]).length (by simp) ?_
        refine hgetK_has _ rfl ?_
        refine hgetK_has _ rfl ?_
        refine Has.intro ?_
        exact (if_neg h).symm

/-- Ranging over a mask's nodes. -/
theorem nodes_iter (y c : Nat) (m : Int) (P : Nat → Heap → Prop) (S : Heap → Prop)
    (hy : ∀ i H x, P i H → (nds (m8 m))[i]? = some x → Has (EE env (.yield y) [.pv (.int .i64 (x : Int))] H) (fun r => (r.1 = .pv (.bool true) ∧ P (i + 1) r.2) ∨ (r.1 = .pv (.bool false) ∧ S r.2)))
    (H : Heap) (h0 : P 0 H) (hc : hget H c = .pcells [.int .i64 m]) :
    Has (EE env (.fn 26) [.yield y, .ptr c 0] H) (fun r => P (cnt (m8 m)) r.2 ∨ S r.2) := by
  have hm := m8_lt m
  refine EE_has ?_
  refine hgetK_has _ hc ?_
  refine getK_has rfl ?_
  refine eqK_has_eq _ (m8_conv m) ?_
  refine loopK_has ?_
  refine iterE_loop (σ := Nat × Nat × Heap) (fun s => (nds s.2.1).length) (fun s => [(0, .yield y), (3, .pv (.int .u8 ((s.2.1 : Nat) : Int)))]) (fun s => s.2.2)
    (fun s => P s.1 s.2.2 ∧ s.2.1 < 256 ∧ nds s.2.1 = (nds (m8 m)).drop s.1 ∧ s.1 ≤ cnt (m8 m)) (fun ⟨i, u, J⟩ ⟨hP, hu, hd, hic⟩ r => ?_) (0, m8 m, H) ⟨h0, hm, rfl, Nat.zero_le _⟩ ⟨rfl, rfl, trivial⟩ rfl
  dsimp only at hP hu hd hic
  refine boolK_bne (fun h => ?_) (fun h => ?_)
  · have hu0 : u ≠ 0 := by
      have h' : ((u : Nat) : Int) ≠ 0 := h
      omega
    have hs := nds_step u hu hu0
    have hx : (nds (m8 m))[i]? = some (lst u) := by
      have : ((nds (m8 m)).drop i)[0]? = some (lst u) := by rw [← hd, hs]; rfl
      rwa [List.getElem?_drop, Nat.add_zero] at this
    refine eqK_has_eq ((u : Nat) : Int) (i64_small (by omega)) ?_
    refine callPK_has ((least_ok (u : Int)).trans (by rw [m8_nat hu])) ?_
    refine callSK_has' ((hy i J (lst u) hP hx).mono fun r' hr => ?_)
    obtain ⟨w, J'⟩ := r'
    dsimp only at hr ⊢
    rcases hr with ⟨rfl, hp⟩ | ⟨rfl, hS⟩
    · refine eqK_has_eq _ (u8_pred hu hu0) ?_
      refine eqK_has_eq _ (u8_and hu (by omega)) ?_
      refine Has.intro ⟨(i + 1, u &&& (u - 1), J'), ⟨hp, and_lt8 _ hu, ?_, (List.getElem?_eq_some_iff.1 hx).1⟩, by simp only; rw [hs]; simp, ⟨rfl, rfl, trivial⟩, rfl⟩
      simp only
      rw [← List.drop_drop, ← hd, hs]; rfl
    · exact Has.intro (Has.intro (.inr hS))
  · have hu0 : u = 0 := by
      have h' : ((u : Nat) : Int) = 0 := h
      omega
    subst hu0
    refine Has.intro (Has.intro (.inl ?_))
    have hi : cnt (m8 m) ≤ i := by
      rw [nds_zero] at hd
      have := congrArg List.length hd
      rw [List.length_drop, List.length_nil] at this
      unfold cnt; omega
    have he : i = cnt (m8 m) := by omega
    subst he
    exact hP

def nl (l : List Nat) : List Int := l.map fun (n : Nat) => (n : Int)
theorem nl_take_succ {l : List Nat} {i x : Nat} (h : l[i]? = some x) : nl (l.take (i + 1)) = nl (l.take i) ++ [(x : Int)] := by
  unfold nl; rw [List.take_add_one, h]; simp
end Go.Proofs.Ytdbobcbjgacjpaa
