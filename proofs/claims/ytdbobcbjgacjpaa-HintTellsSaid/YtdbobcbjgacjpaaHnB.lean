/-
  What is enough.
-/
import Derived.Test.YtdbobcbjgacjpaaHnA
set_option linter.all false
set_option linter.unusedVariables false
set_option linter.unusedSimpArgs false
set_option linter.unusedSectionVars false
namespace Go.Proofs.Ytdbobcbjgacjpaa
open Go Go.VM

/-- What is free on nodes. -/
def sm (f : Nat → Int) (l : List Nat) : Int := l.foldl (fun s x => s + f x) 0
theorem sm_succ {f : Nat → Int} {l : List Nat} {i x : Nat} (h : l[i]? = some x) : sm f (l.take (i + 1)) = sm f (l.take i) + f x := by
  unfold sm; rw [List.take_add_one, h]; simp
theorem nds_small {u i x : Nat} (h : (nds u)[i]? = some x) : x < 8 := by
  have := List.mem_of_getElem? h
  unfold nds at this
  exact List.mem_range.1 (List.mem_filter.1 this).1
theorem sm_bd {f : Nat → Int} (hf : ∀ i, i < 8 → cb (f i)) {u : Nat} : ∀ i, 0 ≤ sm f ((nds u).take i) ∧ sm f ((nds u).take i) ≤ i * 1073741824 := by
  intro i
  induction i with
  | zero => simp [sm]
  | succ i ih =>
    cases hx : (nds u)[i]? with
    | none =>
      rw [List.take_of_length_le (by have := List.getElem?_eq_none_iff.1 hx; omega)] at *
      exact ⟨ih.1, by omega⟩
    | some x =>
      rw [sm_succ hx]
      have := hf x (nds_small hx)
      unfold cb at this
      omega
def row (F : Nat → Int) (k : Nat) : Nat → Int := fun i => F (8 * k + i)
/-- Enough on a set. -/
def en (F N : Nat → Int) (u : Nat) : Prop := ∀ k, k < 2 → N k ≤ sm (row F k) (nds u)
instance (F N : Nat → Int) (u : Nat) : Decidable (en F N u) := by unfold en; infer_instance

def enBody : VCode := .block 3 (.ops [⟨some 19, none, .load1 (.t 9)⟩, ⟨some 20, none, .mov (.t 10)⟩, ⟨some 21, none, .idxAddrA 8 1 (.t 8) (.t 20)⟩, ⟨some 22, none, .load1 (.t 21)⟩, ⟨some 23, none, .bin .num .add (.t 19) (.t 22)⟩, ⟨none, none, .store1 (.t 9) (.t 23)⟩])
def enLo (r : Regs) : HObj := .loop ⟨.ready, r, [18], .ops [⟨some 10, none, .mov (.t 18)⟩], enBody⟩
/-- Heaps: k rounds are over. -/
def enD (F : Nat → Int) (m : Int) (u : Nat) : Nat → Heap
  | 0 => []
  | k + 1 => enD F m u k ++ [.pcells (tab 8 (iv (row F k))), .pcells [.int .i64 (sm (row F k) (nds u))], .pcells [.int .i64 m], .dead]
def enH (F N : Nat → Int) (m : Int) (u k : Nat) (s : Int) (o : HObj) : Heap := J2 F N ++ (enD F m u k ++ [.pcells (tab 8 (iv (row F k))), .pcells [.int .i64 s], .pcells [.int .i64 m], o])
def enB (k : Nat) : Nat := 2 + 4 * k

theorem en_yd (F N : Nat → Int) (m : Int) (u k : Nat) (hk : k = 0 ∨ k = 1) (r : Regs) (hA : Agr r [(8, .ptr (enB k) 0), (9, .ptr (enB k + 1) 0)]) (s : Int) (x : Nat) (hx : x < 8)
    (hs : IntKind.i64.wrap (s + row F k x) = s + row F k x) :
    EE env (.yield (enB k + 3)) [.pv (.int .i64 (x : Int))] (enH F N m u k s (enLo r)) = some (.pv (.bool true), enH F N m u k (s + row F k x) (enLo r)) := by
  obtain ⟨r0, hr0⟩ : ∃ r0, r = setL r0 [(8, .ptr (enB k) 0), (9, .ptr (enB k + 1) 0)] := ⟨r, hA.eq.symm⟩
  clear hA
  subst hr0
  refine Has.eq (EE_has ?_)
  rcases hk with rfl | rfl
  all_goals
    refine hgetK_has _ rfl ?_
    refine hgetK_has _ rfl ?_
    refine hgetK_has _ rfl ?_
    refine getK_has rfl ?_
    refine needK_has (by simp; omega) ?_
    refine hgetK_has _ rfl ?_
    refine getK_has (tab_get _ hx) ?_
    refine eqK_has_eq _ hs ?_
    refine hgetK_has _ rfl ?_
    refine needK_has rfl ?_
    refine eqK_has_eq [.int .i64 (s + row F _ x)] rfl ?_
    refine hgetK_has _ rfl ?_
    exact Has.intro rfl

theorem enough_ok (F N : Nat → Int) (m : Int) (hf : rt F N) : EP (EE env) 22 [.agg (tab 16 (iv F)), .int .i64 m, .agg (tab 2 (iv N))] = some (.bool (decide (en F N (m8 m)))) := by
  refine Has.eq (EP_has ?_)
  refine hgetK_has _ rfl ?_
  refine secK_has (v := tab 16 (iv F)) (tab_sec _).1 (tab_sec _).2 ?_
  refine loopK_has ?_
  refine iterE_loop (σ := Nat) (fun k => 2 - k) (fun k => [(1, .pv (.int .i64 m)), (5, .ptr 1 0), (11, .pv (.agg (tab 16 (iv F)))), (12, .pv (.int .i64 ((k : Nat) : Int)))]) (fun k => J2 F N ++ enD F m (m8 m) k)
    (fun k => k ≤ 2 ∧ ∀ k', k' < k → N k' ≤ sm (row F k') (nds (m8 m))) (fun k ⟨hk, hr⟩ r => ?_) 0 ⟨by omega, fun k' h => absurd h (by omega)⟩ ⟨rfl, rfl, rfl, rfl, trivial⟩ rfl
  rcases (show k = 0 ∨ k = 1 ∨ k = 2 by omega) with rfl | rfl | rfl
  · have key : ∀ R0 : Regs, Agr R0 [(8, .ptr (enB 0) 0), (9, .ptr (enB 0 + 1) 0)] → Has (EE env (.fn 26) [.yield (enB 0 + 3), .ptr (enB 0 + 2) 0] (enH F N m (m8 m) 0 0 (enLo R0)))
        (fun x => x.2 = enH F N m (m8 m) 0 (sm (row F 0) (nds (m8 m))) (enLo R0)) := by
      intro R0 hA
      refine (nodes_iter (enB 0 + 3) (enB 0 + 2) m (fun i H => i ≤ cnt (m8 m) ∧ H = enH F N m (m8 m) 0 (sm (row F 0) ((nds (m8 m)).take i)) (enLo R0)) (fun _ => False) (fun i H x ⟨h2, h3⟩ hx => ?_) _ ⟨Nat.zero_le _, rfl⟩ rfl).mono fun x hx => ?_
      · have hlt := (List.getElem?_eq_some_iff.1 hx).1
        have hcl := cnt_le _ (m8_lt m)
        subst h3
        have hb := sm_bd (hf 0 (by omega)).1 (u := m8 m) i
        have hx8 := nds_small hx
        have hc := (hf 0 (by omega)).1 x hx8
        unfold cb at hc
        refine Has.of_eq (en_yd F N m (m8 m) 0 (by omega) R0 hA _ x hx8 (wrap_i64 (by unfold row; omega) (by unfold row; omega))) (.inl ⟨rfl, hlt, ?_⟩)
        rw [sm_succ hx]
      · rcases hx with ⟨_, h3⟩ | h
        · rw [h3]; unfold cnt; rw [List.take_length]
        · exact h.elim
    refine boolK_dec_t (by omega) ?_
    refine needK_has rfl ?_
    refine secK_has (idx28 (k := 0) (by omega) F).1 (idx28 (k := 0) (by omega) F).2 ?_
    refine hgetK_has _ rfl ?_
    refine needK_has (by rw [tab_len]; rfl) ?_
    refine eqK_has_eq (tab 8 (iv (row F 0))) rfl ?_
    refine hgetK_has _ rfl ?_
    refine needK_has rfl ?_
    refine eqK_has_eq [.int .i64 0] rfl ?_
    refine callSK_has (show EE env (.fn 20) [.pv (.int .i64 m)] (J2 F N ++ (enD F m (m8 m) 0 ++ [.pcells (tab 8 (iv (row F 0))), .pcells [.int .i64 0]])) = some (.fn 26 [] [.ptr (enB 0 + 2) 0], J2 F N ++ (enD F m (m8 m) 0 ++ [.pcells (tab 8 (iv (row F 0))), .pcells [.int .i64 0], .pcells [.int .i64 m]])) from EE_intro rfl) ?_
    refine callSK_has' ((key _ ⟨rfl, rfl, trivial⟩).mono fun x hx => ?_)
    obtain ⟨w, J⟩ := x
    dsimp only at hx ⊢
    subst hx
    refine hgetK_has _ rfl ?_
    refine hgetK_has _ rfl ?_
    refine getK_has rfl ?_
    refine needK_has rfl ?_
    refine hgetK_has _ rfl ?_
    refine getK_has rfl ?_
    refine boolK_dec (fun h => ?_) (fun h => ?_)
    · exact Has.intro (Has.intro (Has.intro (no fun he => by have h' : sm (row F 0) (nds (m8 m)) < N 0 := h; have := he 0 (by omega); omega)))
    · refine eqK_has_eq _ (i64_succ (by omega)) ?_
      refine Has.intro ⟨0 + 1, ⟨by omega, fun k' hk' => ?_⟩, by omega, ⟨rfl, rfl, rfl, rfl, trivial⟩, rfl⟩
      rcases Nat.lt_or_ge k' 0 with h' | h'
      · exact hr k' h'
      · rw [show k' = 0 by omega]; have h1 : ¬ sm (row F 0) (nds (m8 m)) < N 0 := h; omega
  · have key : ∀ R0 : Regs, Agr R0 [(8, .ptr (enB 1) 0), (9, .ptr (enB 1 + 1) 0)] → Has (EE env (.fn 26) [.yield (enB 1 + 3), .ptr (enB 1 + 2) 0] (enH F N m (m8 m) 1 0 (enLo R0)))
        (fun x => x.2 = enH F N m (m8 m) 1 (sm (row F 1) (nds (m8 m))) (enLo R0)) := by
      intro R0 hA
      refine (nodes_iter (enB 1 + 3) (enB 1 + 2) m (fun i H => i ≤ cnt (m8 m) ∧ H = enH F N m (m8 m) 1 (sm (row F 1) ((nds (m8 m)).take i)) (enLo R0)) (fun _ => False) (fun i H x ⟨h2, h3⟩ hx => ?_) _ ⟨Nat.zero_le _, rfl⟩ rfl).mono fun x hx => ?_
      · have hlt := (List.getElem?_eq_some_iff.1 hx).1
        have hcl := cnt_le _ (m8_lt m)
        subst h3
        have hb := sm_bd (hf 1 (by omega)).1 (u := m8 m) i
        have hx8 := nds_small hx
        have hc := (hf 1 (by omega)).1 x hx8
        unfold cb at hc
        refine Has.of_eq (en_yd F N m (m8 m) 1 (by omega) R0 hA _ x hx8 (wrap_i64 (by unfold row; omega) (by unfold row; omega))) (.inl ⟨rfl, hlt, ?_⟩)
        rw [sm_succ hx]
      · rcases hx with ⟨_, h3⟩ | h
        · rw [h3]; unfold cnt; rw [List.take_length]
        · exact h.elim
    refine boolK_dec_t (by omega) ?_
    refine needK_has rfl ?_
    refine secK_has (idx28 (k := 1) (by omega) F).1 (idx28 (k := 1) (by omega) F).2 ?_
    refine hgetK_has _ rfl ?_
    refine needK_has (by rw [tab_len]; rfl) ?_
    refine eqK_has_eq (tab 8 (iv (row F 1))) rfl ?_
    refine hgetK_has _ rfl ?_
    refine needK_has rfl ?_
    refine eqK_has_eq [.int .i64 0] rfl ?_
    refine callSK_has (show EE env (.fn 20) [.pv (.int .i64 m)] (J2 F N ++ (enD F m (m8 m) 1 ++ [.pcells (tab 8 (iv (row F 1))), .pcells [.int .i64 0]])) = some (.fn 26 [] [.ptr (enB 1 + 2) 0], J2 F N ++ (enD F m (m8 m) 1 ++ [.pcells (tab 8 (iv (row F 1))), .pcells [.int .i64 0], .pcells [.int .i64 m]])) from EE_intro rfl) ?_
    refine callSK_has' ((key _ ⟨rfl, rfl, trivial⟩).mono fun x hx => ?_)
    obtain ⟨w, J⟩ := x
    dsimp only at hx ⊢
    subst hx
    refine hgetK_has _ rfl ?_
    refine hgetK_has _ rfl ?_
    refine getK_has rfl ?_
    refine needK_has rfl ?_
    refine hgetK_has _ rfl ?_
    refine getK_has rfl ?_
    refine boolK_dec (fun h => ?_) (fun h => ?_)
    · exact Has.intro (Has.intro (Has.intro (no fun he => by have h' : sm (row F 1) (nds (m8 m)) < N 1 := h; have := he 1 (by omega); omega)))
    · refine eqK_has_eq _ (i64_succ (by omega)) ?_
      refine Has.intro ⟨1 + 1, ⟨by omega, fun k' hk' => ?_⟩, by omega, ⟨rfl, rfl, rfl, rfl, trivial⟩, rfl⟩
      rcases Nat.lt_or_ge k' 1 with h' | h'
      · exact hr k' h'
      · rw [show k' = 1 by omega]; have h1 : ¬ sm (row F 1) (nds (m8 m)) < N 1 := h; omega
  · refine boolK_dec_f (by omega) ?_
    refine Has.intro (Has.intro (Has.intro (yes fun k hk => hr k hk)))
end Go.Proofs.Ytdbobcbjgacjpaa
