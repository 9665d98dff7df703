/-
  What must be answered ahead of everything else.
-/
import Derived.Test.YtnnhkkocdgegfaaSpY
set_option linter.all false
set_option linter.unusedVariables false
set_option linter.unusedSimpArgs false
set_option linter.unusedSectionVars false
namespace Go.Proofs.Ytnnhkkocdgegfaa
open Go Go.VM

def w1 : Vc := ⟨1000, 1073741824, 0⟩
def w2 : Vc := ⟨500, 2147483648, 0⟩
def c1 : Ct := ⟨[97], w1, w1, false, true, false⟩
def c2 : Ct := ⟨[97], w2, w2, false, true, false⟩
def p1 : Pd := ⟨[119, 101, 98], 0, 0, [c1]⟩
def p2 : Pd := ⟨[119, 101, 98], 0, 0, [c2]⟩
theorem pod1 (c : Ct) (h1 : cP c) (h2 : (sumV [c.rq]).isSome = true) (h3 : (sumV [c.lm]).isSome = true) : podP ⟨[119, 101, 98], 0, 0, [c]⟩ := by
  refine ⟨(show nameB [119, 101, 98] = true by decide), (show -1000 ≤ (0 : Int) ∧ (0 : Int) ≤ 1000 by decide), (show 0 ≤ (0 : Int) ∧ (0 : Int) ≤ 2 by decide), (show 1 ≤ 1 ∧ 1 ≤ 6 by decide), fun i d h => ?_, h2, h3⟩
  cases i with
  | zero =>
    injection h with h; subst h
    exact ⟨by unfold findI findF; rw [if_pos rfl], h1⟩
  | succ i => cases h
theorem p1_ok : podP p1 := pod1 c1 (by decide) (by decide) (by decide)
theorem p2_ok : podP p2 := pod1 c2 (by decide) (by decide) (by decide)
theorem rz1 : rzP p1 [⟨[97], w2, w2⟩] = (0, p2) := by
  unfold rzP
  rw [if_pos ⟨p1_ok, by intro h; cases h⟩]
  have e : rzF p1.l [] [⟨[97], w2, w2⟩] p1.l = (0, [c2]) := by rfl
  rw [e]
  unfold rzQ
  rw [if_neg (by decide), if_neg (fun h => h p2_ok), if_neg (by decide)]; rfl
theorem rz2 : rzP p1 [⟨[98], v0, v0⟩] = (21, pz) := by
  unfold rzP
  rw [if_pos ⟨p1_ok, by intro h; cases h⟩]
  have e : rzF p1.l [] [⟨[98], v0, v0⟩] p1.l = (21, []) := by rfl
  rw [e]; rfl
theorem rz3 : rzP p1 [⟨[97], w1, v0⟩] = (28, pz) := by
  unfold rzP
  rw [if_pos ⟨p1_ok, by intro h; cases h⟩]
  have e : rzF p1.l [] [⟨[97], w1, v0⟩] p1.l = (28, []) := by rfl
  rw [e]; rfl
theorem p1_small : small p1 := ⟨by decide, by decide, fun c hc => by cases hc with | head => decide | tail _ h => cases h⟩
theorem p2_small : small p2 := ⟨by decide, by decide, fun c hc => by cases hc with | head => decide | tail _ h => cases h⟩
theorem rsz {x y : Ext} {p : Pd} {l : List Ch} {n : Nat} (hs : small p) (hl : l.length ≤ maxLen) (hn : l.length = n) {e : Int} {q : Pd} (h : rzP p l = (e, q)) : Has (EP (EE env) 29 [.agg (pdc p x), .sl y n (flat chv l)]) (fun v => ∃ z, v = .tup [.agg (pdc q z), .int .i64 e]) := by
  subst hn
  have := resize_ok x y p l hs hl
  rw [h] at this; exact this
set_option maxRecDepth 20000 in
set_option maxHeartbeats 4000000 in
theorem first_ok : EP (EE env) 8 [] = some (.bool true) := by
  refine Has.eq (EP_has (fn_has rfl ?_))
  refine seq_on [] [] (by (refine Has.intro ⟨rfl, ?_, rfl⟩; (repeat (first | exact trivial | refine ⟨rfl, ?_⟩)))) (fun r => ?_)
  refine seq_on [(1, .ptr 0 0)] [.pcells (vc w1)] ?_ (fun r => ?_)
  · refine hgetK_last ?_
    refine needK_has rfl ?_
    refine eqK_has_eq (vc w1) rfl ?_
    (refine Has.intro ⟨rfl, ?_, rfl⟩; (repeat (first | exact trivial | refine ⟨rfl, ?_⟩)))
  refine seq_on [(1, .ptr 0 0), (2, .ptr 1 0)] [.pcells (vc w1), .pcells (pdc p1 .nnx)] ?_ (fun r => ?_)
  · refine hgetK_has (.pcells (vc w1)) rfl ?_
    refine secK_has (v := vc w1) rfl (of_decide_eq_true rfl) ?_
    refine hgetK_has (.pcells (vc w1)) rfl ?_
    refine secK_has (v := vc w1) rfl (of_decide_eq_true rfl) ?_
    refine hgetK_has _ rfl ?_
    refine needK_has rfl ?_
    refine eqK_has_eq (pdc p1 .nnx) rfl ?_
    (refine Has.intro ⟨rfl, ?_, rfl⟩; (repeat (first | exact trivial | refine ⟨rfl, ?_⟩)))
  refine seq_on [(1, .ptr 0 0), (2, .ptr 1 0), (3, .ptr 2 0)] [.pcells (vc w1), .pcells (pdc p1 .nnx), .pcells (vc w2)] ?_ (fun r => ?_)
  · refine hgetK_has _ rfl ?_
    refine needK_has rfl ?_
    refine eqK_has_eq (vc w2) rfl ?_
    (refine Has.intro ⟨rfl, ?_, rfl⟩; (repeat (first | exact trivial | refine ⟨rfl, ?_⟩)))
  refine seq_st (σ := Ext) (fun z => [(1, .ptr 0 0), (2, .ptr 1 0), (3, .ptr 2 0), (4, .ptr 3 0), (5, .pv (.int .i64 0))]) (fun z => [.pcells (vc w1), .pcells (pdc p1 .nnx), .pcells (vc w2), .pcells (pdc p2 z)]) (fun _ => True) ?_ (fun z _ r => ?_)
  · refine hgetK_has (.pcells (pdc p1 .nnx)) rfl ?_
    refine secK_has (v := pdc p1 .nnx) rfl (of_decide_eq_true rfl) ?_
    refine hgetK_has (.pcells (vc w2)) rfl ?_
    refine secK_has (v := vc w2) rfl (of_decide_eq_true rfl) ?_
    refine hgetK_has (.pcells (vc w2)) rfl ?_
    refine secK_has (v := vc w2) rfl (of_decide_eq_true rfl) ?_
    refine callPK_has' ((rsz (n := 1) (y := .nnx) p1_small (by decide) rfl rz1).mono fun v hv => ?_)
    obtain ⟨z, rfl⟩ := hv
    refine hgetK_last ?_
    refine needK_has rfl ?_
    refine eqK_has_eq (pdc p2 z) rfl ?_
    exact Has.intro ⟨rfl, z, trivial, ⟨rfl, rfl, rfl, rfl, rfl, trivial⟩, rfl⟩
  refine seq_st (σ := Ext) (fun _ => [(1, .ptr 0 0), (2, .ptr 1 0), (3, .ptr 2 0), (4, .ptr 3 0), (5, .pv (.int .i64 0)), (7, .pv (.int .i64 21))]) (fun y => [.pcells (vc w1), .pcells (pdc p1 .nnx), .pcells (vc w2), .pcells (pdc p2 z), .pcells (pdc pz y)]) (fun _ => True) ?_ (fun y _ r => ?_)
  · refine hgetK_has (.pcells (pdc p1 .nnx)) rfl ?_
    refine secK_has (v := pdc p1 .nnx) rfl (of_decide_eq_true rfl) ?_
    refine callPK_has' ((rsz (n := 1) (y := .nnx) p1_small (by decide) rfl rz2).mono fun v hv => ?_)
    obtain ⟨y, rfl⟩ := hv
    refine hgetK_last ?_
    refine needK_has rfl ?_
    refine eqK_has_eq (pdc pz y) rfl ?_
    exact Has.intro ⟨rfl, y, trivial, ⟨rfl, rfl, rfl, rfl, rfl, rfl, trivial⟩, rfl⟩
  refine seq_st (σ := Ext) (fun _ => [(1, .ptr 0 0), (2, .ptr 1 0), (3, .ptr 2 0), (4, .ptr 3 0), (5, .pv (.int .i64 0)), (7, .pv (.int .i64 21)), (9, .pv (.int .i64 28))]) (fun x => [.pcells (vc w1), .pcells (pdc p1 .nnx), .pcells (vc w2), .pcells (pdc p2 z), .pcells (pdc pz y), .pcells (pdc pz x)]) (fun _ => True) ?_ (fun x _ r => ?_)
  · refine hgetK_has (.pcells (pdc p1 .nnx)) rfl ?_
    refine secK_has (v := pdc p1 .nnx) rfl (of_decide_eq_true rfl) ?_
    refine hgetK_has (.pcells (vc w1)) rfl ?_
    refine secK_has (v := vc w1) rfl (of_decide_eq_true rfl) ?_
    refine callPK_has' ((rsz (n := 1) (y := .nnx) p1_small (by decide) rfl rz3).mono fun v hv => ?_)
    obtain ⟨y, rfl⟩ := hv
    refine hgetK_last ?_
    refine needK_has rfl ?_
    refine eqK_has_eq (pdc pz y) rfl ?_
    exact Has.intro ⟨rfl, y, trivial, ⟨rfl, rfl, rfl, rfl, rfl, rfl, rfl, trivial⟩, rfl⟩
  refine seq_on [(1, .ptr 0 0), (2, .ptr 1 0), (3, .ptr 2 0), (4, .ptr 3 0), (5, .pv (.int .i64 0)), (7, .pv (.int .i64 21)), (9, .pv (.int .i64 28)), (10, .pv (.sl .nn 1 [sv [97]]))] [.pcells (vc w1), .pcells (pdc p1 .nnx), .pcells (vc w2), .pcells (pdc p2 z), .pcells (pdc pz y), .pcells (pdc pz x)] ?_ (fun r => ?_)
  · refine hgetK_has (.pcells (pdc p1 .nnx)) rfl ?_
    refine secK_has (v := pdc p1 .nnx) rfl (of_decide_eq_true rfl) ?_
    refine hgetK_has (.pcells (pdc p2 z)) rfl ?_
    refine secK_has (v := pdc p2 z) rfl (of_decide_eq_true rfl) ?_
    refine callPK_has (restarts_ok .nnx z p1 p2 (by decide) (by decide)) ?_
    (refine Has.intro ⟨rfl, ?_, rfl⟩; (repeat (first | exact trivial | refine ⟨rfl, ?_⟩)))
  refine hgetK_has (.pcells (pdc p1 .nnx)) rfl ?_
  refine secK_has (v := pdc p1 .nnx) rfl (of_decide_eq_true rfl) ?_
  refine callSK_has' ((pod_ok _ p1 p1_small [.pcells (vc w1), .pcells (pdc p1 .nnx), .pcells (vc w2), .pcells (pdc p2 z), .pcells (pdc pz y), .pcells (pdc pz x)] (.inl ⟨.nnx, rfl⟩)).mono fun y hy => ?_)
  obtain ⟨v, G⟩ := y
  obtain ⟨rfl, hK⟩ := hy
  have k1 : hget G 1 = .pcells (pdc p1 .nnx) := hK.2 _ _ rfl ((by intro h; cases h)) ((fun _ _ h => by cases h))
  have k2 : hget G 2 = .pcells (vc w2) := hK.2 _ _ rfl ((by intro h; cases h)) ((fun _ _ h => by cases h))
  have k3 : hget G 3 = .pcells (pdc p2 z) := hK.2 _ _ rfl ((by intro h; cases h)) ((fun _ _ h => by cases h))
  dsimp only at k1 k2 k3 ⊢
  clear hK
  rw [show decide (podP p1) = true from decide_eq_true p1_ok]
  refine hgetK_has _ k1 ?_
  refine secK_has (v := pdc p1 .nnx) rfl (of_decide_eq_true rfl) ?_
  refine callSK_has' ((class_ok _ p1 p1_small.2.1 G (.inl ⟨.nnx, rfl⟩)).mono fun y hy => ?_)
  obtain ⟨v, G1⟩ := y
  obtain ⟨rfl, hK⟩ := hy
  have k1 := hK.2 _ _ k1 ((by intro h; cases h)) ((fun _ _ h => by cases h))
  have k2 := hK.2 _ _ k2 ((by intro h; cases h)) ((fun _ _ h => by cases h))
  have k3 := hK.2 _ _ k3 ((by intro h; cases h)) ((fun _ _ h => by cases h))
  dsimp only at k1 k2 k3 ⊢
  refine boolK_beq_t (by decide) ?_
  refine boolK_beq_t rfl ?_
  refine boolK_beq_t rfl ?_
  refine boolK_beq_t rfl ?_
  refine hgetK_has _ k3 ?_
  refine secK_has (v := pdc p2 z) rfl (of_decide_eq_true rfl) ?_
  refine callPK_has (req_ok z p2 (by decide)) ?_
  refine hgetK_has _ k2 ?_
  refine secK_has (v := vc w2) rfl (of_decide_eq_true rfl) ?_
  refine bindK_has (v := true) rfl ?_
  refine boolK_has_keep ?_
  refine boolK_beq_t rfl ?_
  refine needK_has rfl ?_
  refine getK_has rfl ?_
  refine boolK_has_true ((str_beq [97] [97]).trans (by decide)) ?_
  refine hgetK_has _ k1 ?_
  refine secK_has (v := pdc p1 .nnx) rfl (of_decide_eq_true rfl) ?_
  refine hgetK_has _ k1 ?_
  refine secK_has (v := pdc p1 .nnx) rfl (of_decide_eq_true rfl) ?_
  refine callPK_dec_t (same_ok .nnx .nnx p1 p1 (by decide)) ⟨rfl, rfl, rfl, rfl⟩ ?_
  refine hgetK_has _ k1 ?_
  refine secK_has (v := pdc p1 .nnx) rfl (of_decide_eq_true rfl) ?_
  refine hgetK_has _ k3 ?_
  refine secK_has (v := pdc p2 z) rfl (of_decide_eq_true rfl) ?_
  refine callPK_dec_f (same_ok .nnx z p1 p2 (by decide)) (fun h => by have := h.2.2.2; injection this with this; injection this with _ this; cases this) ?_
  refine callPK_has (name_ok [45, 97] (by decide)) ?_
  exact Has.intro (Has.intro rfl)
end Go.Proofs.Ytnnhkkocdgegfaa
