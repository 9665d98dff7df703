/-
  What is needed, spread.
-/
import Derived.Test.YtdbobcbjgacjpaaHnE
set_option linter.all false
set_option linter.unusedVariables false
set_option linter.unusedSimpArgs false
set_option linter.unusedSectionVars false
namespace Go.Proofs.Ytdbobcbjgacjpaa
open Go Go.VM

def stp (f : Nat → Int) (p : Int × (Nat → Int)) (x : Nat) : Int × (Nat → Int) := (p.1 - min p.1 (f x), fun j => if j = x then min p.1 (f x) else p.2 j)
def ovn (f : Nat → Int) (u : Nat) (need : Int) : Nat → Int × (Nat → Int)
  | 0 => (need, fun _ => 0)
  | i + 1 => if u.testBit i then stp f (ovn f u need i) i else ovn f u need i
def ovl (f : Nat → Int) (need : Int) (l : List Nat) : Int × (Nat → Int) := l.foldl (stp f) (need, fun _ => 0)
theorem ovl_ovn (f : Nat → Int) (u : Nat) (need : Int) : ovl f need (nds u) = ovn f u need 8 := by
  unfold nds
  have : ∀ n, ovl f need ((List.range n).filter fun i => u.testBit i) = ovn f u need n := by
    intro n
    induction n with
    | zero => rfl
    | succ n ih =>
      rw [List.range_succ, List.filter_append, ovn, ← ih]
      unfold ovl
      rw [List.foldl_append]
      cases h : u.testBit n <;> simp [h]
  exact this 8
theorem ovl_succ {f : Nat → Int} {need : Int} {l : List Nat} {i x : Nat} (h : l[i]? = some x) : ovl f need (l.take (i + 1)) = stp f (ovl f need (l.take i)) x := by
  unfold ovl; rw [List.take_add_one, h]; simp
theorem ovl_bd {f : Nat → Int} (hf : ∀ i, i < 8 → cb (f i)) {need : Int} (hn : cb need) (u : Nat) : ∀ i, cb (ovl f need ((nds u).take i)).1 := by
  intro i
  induction i with
  | zero => exact hn
  | succ i ih =>
    cases hx : (nds u)[i]? with
    | none =>
      rw [List.take_of_length_le (by have := List.getElem?_eq_none_iff.1 hx; omega)] at *
      exact ih
    | some x =>
      rw [ovl_succ hx]
      have := hf x (nds_small hx)
      unfold cb at this ih ⊢
      unfold stp
      dsimp only
      omega
theorem ovn_bd {f : Nat → Int} (hf : ∀ i, i < 8 → cb (f i)) {need : Int} (hn : cb need) (u : Nat) : ∀ i, i ≤ 8 → cb (ovn f u need i).1 := by
  intro i
  induction i with
  | zero => intro _; exact hn
  | succ i ih =>
    intro hi
    have h1 := ih (by omega)
    have h2 := hf i (by omega)
    unfold ovn
    split
    · unfold cb at h1 h2 ⊢
      unfold stp
      dsimp only
      omega
    · exact h1
/-- What a node gives. -/
def oz (f : Nat → Int) (u : Nat) (need : Int) (j : Nat) : Int := if u.testBit j then min (ovn f u need j).1 (f j) else 0
theorem ovn_snd (f : Nat → Int) (u : Nat) (need : Int) (i j : Nat) : (ovn f u need i).2 j = if j < i then oz f u need j else 0 := by
  induction i with
  | zero => rfl
  | succ i ih =>
    unfold ovn
    by_cases hb : u.testBit i = true
    · rw [if_pos hb]
      unfold stp
      dsimp only
      by_cases hj : j = i
      · subst hj
        rw [if_pos rfl, if_pos (Nat.lt_succ_self _)]
        unfold oz
        rw [if_pos hb]
      · rw [if_neg hj, ih]
        by_cases h : j < i
        · rw [if_pos h, if_pos (by omega)]
        · rw [if_neg h, if_neg (by omega)]
    · rw [if_neg hb, ih]
      by_cases h : j < i
      · rw [if_pos h, if_pos (by omega)]
      · rw [if_neg h]
        by_cases hj : j = i
        · subst hj
          rw [if_pos (Nat.lt_succ_self _)]
          unfold oz
          rw [if_neg hb]
        · rw [if_neg (by omega)]

/-! ### the document's -/
theorem rover_ok (f : Nat → Int) (u : Nat) (need : Int) (hf : ∀ i, i < 8 → cb (f i)) (hn : cb need) : EP (EE env) 14 [.agg (tab 8 (iv f)), .agg (bset u), .int .i64 need] = some (.agg (tab 8 (iv (ovn f u need 8).2))) := by
  refine Has.eq (EP_has ?_)
  refine loopK_has ?_
  refine iterE_up 8 (fun i => [(2, .pv (.int .i64 (ovn f u need i).1)), (3, .ptr 0 0), (4, .ptr 1 0), (6, .ptr 2 0), (7, .ptr 3 0), (8, .pv (.int .i64 i))]) (fun i => [.pcells (tab 8 (iv f)), .pcells (bset u), .pcells (tab 8 (iv fun _ => 0)), .pcells (tab 8 (iv (ovn f u need i).2))])
    (fun i hi r => ?_) (fun r => ?_) ⟨rfl, rfl, rfl, rfl, rfl, rfl, trivial⟩ rfl
  · have hb := ovn_bd hf hn u i (by omega)
    have hfi := hf i hi
    have hsnd := ovn_snd f u need i
    unfold cb at hb hfi
    refine boolK_dec_t (by omega) ?_
    refine needK_has (by simp; omega) ?_
    refine hgetK_has _ rfl ?_
    refine getK_has (v := .bool (u.testBit i)) (tab_get _ hi) ?_
    have hs : ovn f u need (i + 1) = if u.testBit i then stp f (ovn f u need i) i else ovn f u need i := rfl
    cases hbit : u.testBit i with
    | false =>
      rw [hbit] at hs
      simp only [Bool.false_eq_true, if_false] at hs
      refine eqK_has_eq _ (i64_succ (by omega)) ?_
      exact Has.intro ⟨⟨by rw [hs]; rfl, rfl, rfl, rfl, rfl, rfl, trivial⟩, by rw [hs]⟩
    | true =>
      rw [hbit, if_pos rfl] at hs
      generalize hp : ovn f u need i = p at *
      obtain ⟨q, g⟩ := p
      dsimp only at hb hsnd hs ⊢
      have hstp : stp f (q, g) i = (q - min q (f i), fun j => if j = i then min q (f i) else g j) := rfl
      rw [hstp] at hs
      refine boolK_dec (fun h => ?_) (fun h => ?_)
      · refine needK_has (by simp; omega) ?_
        refine hgetK_has _ rfl ?_
        refine getK_has (v := .int .i64 (f i)) (tab_get _ hi) ?_
        refine needK_has (by simp; omega) ?_
        refine hgetK_has _ rfl ?_
        refine needK_has (tab_blt _ hi) ?_
        refine eqK_has_eq (tab 8 (iv fun j => if j = i then f i else g j)) (by
          refine tab_set_eq (i := i) ?_ fun j _ hj => ?_
          · show PV.int .i64 (if i = i then f i else g i) = _
            rw [if_pos rfl]
          · show PV.int .i64 (g j) = .int .i64 (if j = i then f i else g j)
            rw [if_neg hj]) ?_
        refine needK_has (by simp; omega) ?_
        refine hgetK_has _ rfl ?_
        refine getK_has (v := .int .i64 (f i)) (tab_get _ hi) ?_
        refine boolK_dec (fun h' => ?_) (fun h' => ?_)
        · refine needK_has (by simp; omega) ?_
          refine hgetK_has _ rfl ?_
          refine needK_has (tab_blt _ hi) ?_
          have hm : min q (f i) = q := by omega
          refine eqK_has_eq (tab 8 (iv fun j => if j = i then min q (f i) else g j)) (by
            refine tab_set_eq (i := i) ?_ fun j _ hj => ?_
            · show PV.int .i64 (if i = i then min q (f i) else g i) = _
              rw [if_pos rfl, hm]
            · show PV.int .i64 (if j = i then f i else g j) = .int .i64 (if j = i then min q (f i) else g j)
              rw [if_neg hj, if_neg hj]) ?_
          refine needK_has (by simp; omega) ?_
          refine hgetK_has _ rfl ?_
          refine getK_has (v := .int .i64 (min q (f i))) ((tab_get _ hi).trans (by show some (PV.int .i64 (if i = i then min q (f i) else g i)) = _; rw [if_pos rfl])) ?_
          refine eqK_has_eq (q - min q (f i)) (wrap_i64 (by omega) (by omega)) ?_
          refine eqK_has_eq _ (i64_succ (by omega)) ?_
          exact Has.intro ⟨⟨by rw [hs]; rfl, rfl, rfl, rfl, rfl, rfl, trivial⟩, by rw [hs]; rfl⟩
        · have hm : min q (f i) = f i := by omega
          refine needK_has (by simp; omega) ?_
          refine hgetK_has _ rfl ?_
          refine getK_has (v := .int .i64 (min q (f i))) ((tab_get _ hi).trans (by show some (PV.int .i64 (if i = i then f i else g i)) = _; rw [if_pos rfl, hm])) ?_
          refine eqK_has_eq (q - min q (f i)) (wrap_i64 (by omega) (by omega)) ?_
          refine eqK_has_eq _ (i64_succ (by omega)) ?_
          exact Has.intro ⟨⟨by rw [hs]; rfl, rfl, rfl, rfl, rfl, rfl, trivial⟩, by rw [hs, hm]; rfl⟩
      · have hq : q = 0 := by omega
        have hm : min q (f i) = 0 := by omega
        have hg : (fun j => if j = i then (0 : Int) else g j) = g := by
          funext j
          by_cases hj : j = i
          · rw [if_pos hj, hsnd, if_neg (by omega)]
          · rw [if_neg hj]
        rw [hm, hg, Int.sub_zero] at hs
        refine eqK_has_eq _ (i64_succ (by omega)) ?_
        exact Has.intro ⟨⟨by rw [hs]; rfl, rfl, rfl, rfl, rfl, rfl, trivial⟩, by rw [hs]⟩
  · refine boolK_dec_f (by omega) ?_
    refine Has.intro ?_
    refine hgetK_has _ rfl ?_
    refine secK_has (v := tab 8 (iv (ovn f u need 8).2)) (tab_sec _).1 (tab_sec _).2 ?_
    refine hgetK_has _ rfl ?_
    refine needK_has (by rw [tab_len]; rfl) ?_
    refine eqK_has_eq (tab 8 (iv (ovn f u need 8).2)) rfl ?_
    refine hgetK_has _ rfl ?_
    refine secK_has (v := tab 8 (iv (ovn f u need 8).2)) (tab_sec _).1 (tab_sec _).2 ?_
    exact Has.intro (Has.intro rfl)
end Go.Proofs.Ytdbobcbjgacjpaa
