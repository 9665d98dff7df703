/-
  A step applied, by the document.
-/
import Derived.Test.YtaiomdfajdeacaaPlH
set_option linter.all false
set_option linter.unusedVariables false
set_option linter.unusedSimpArgs false
set_option linter.unusedSectionVars false
namespace Go.Proofs.Ytaiomdfajdeacaa
open Go Go.VM

def rpx (l : List Kn) : Ext := match l with
  | [] => .nnx
  | _ :: _ => .nn
theorem rpx_ok (l : List Kn) : okX (rpx l) l := by
  cases l with
  | nil => exact .inr (.inr rfl)
  | cons a l => exact .inr (.inl rfl)
def rapP (l : List Kn) (r : Kn × List Kn) : PV := .tup [.agg (kn r.1), .sl (rpx l) l.length (kns r.2)]
/-- The list, where the place of a step may be behind. -/
def upTo (l : List Kn) (s : Stp) (i : Nat) : List Kn := if 0 ≤ s.who ∧ s.who < i then l.set s.who.toNat (with_ (gt l s.who.toNat) s.f s.n) else l
theorem upTo_len (l : List Kn) (s : Stp) (i : Nat) : (upTo l s i).length = l.length := by unfold upTo; split <;> simp
set_option maxHeartbeats 1000000 in
theorem rapply_nil (pod : Kn) (x : Ext) (s : Stp) : EP (EE env) 15 [.agg (kn pod), .sl x 0 [], .agg (sc s)] = some (rapP [] (ap pod [] s)) := by
  refine Has.eq (EP_has (fn_has rfl ?_))
  refine seq_on [(1, .pv (.sl x 0 [])), (3, .ptr 0 0), (5, .ptr 1 0), (6, .ptr 2 0)] ([HObj.pcells (kn pod), .pcells (sc s), .pcells (kn z5)]) (Has.intro ⟨rfl, ⟨rfl, rfl, rfl, rfl, trivial⟩, rfl⟩) (fun r => ?_)
  refine seq_on [(3, .ptr 0 0), (5, .ptr 1 0), (6, .ptr 2 0), (8, .pv (.sl .nnx 0 []))] ([HObj.pcells (kn pod), .pcells (sc s), .pcells (kn z5)]) ?_ (fun r => ?_)
  · refine app_none ?_
    exact Has.intro ⟨rfl, ⟨rfl, rfl, rfl, rfl, trivial⟩, rfl⟩
  refine hgetK_has _ rfl ?_
  refine getK_has rfl ?_
  refine boolK_beq (fun hw => ?_) (fun hw => ?_)
  · refine hgetK_has _ rfl ?_
    refine secK_has (v := kn pod) rfl (Nat.le_refl _) ?_
    refine hgetK_has _ rfl ?_
    refine getK_has rfl ?_
    refine hgetK_has _ rfl ?_
    refine getK_has rfl ?_
    refine callPK_has (with_ok pod s.f s.n) ?_
    (repeat (first | refine hgetK_last ?_ | refine hgetK_set ?_ | refine hgetK_has _ rfl ?_ | refine needK_has rfl ?_ | refine getK_has rfl ?_ | refine secK_has rfl (by first | exact Nat.le_refl _ | decide) ?_ | refine eqK_has ?_))
    (refine Has.intro (Has.intro ?_))
    unfold ap
    rw [if_pos hw]; rfl
  · have e : ap pod [] s = (pod, []) := by
      unfold ap
      rw [if_neg hw, if_neg (fun h => by have := h.2; simp at this; omega)]
    rw [e]
    refine loopK_has ?_
    refine iterE_step ?_
    refine boolK_dec_f (by decide) ?_
    refine Has.intro ?_
    (repeat (first | refine hgetK_last ?_ | refine hgetK_set ?_ | refine hgetK_has _ rfl ?_ | refine needK_has rfl ?_ | refine getK_has rfl ?_ | refine secK_has rfl (by first | exact Nat.le_refl _ | decide) ?_ | refine eqK_has ?_))
    (refine Has.intro (Has.intro ?_))
    rfl
set_option maxHeartbeats 1000000 in
theorem rapply_cons (pod : Kn) (x : Ext) (l : List Kn) (h0 : l ≠ []) (hl : l.length ≤ 1000) (s : Stp) : EP (EE env) 15 [.agg (kn pod), .sl x l.length (kns l), .agg (sc s)] = some (.tup [.agg (kn (ap pod l s).1), .sl .nn l.length (kns (ap pod l s).2)]) := by
  refine Has.eq (EP_has (fn_has rfl ?_))
  refine seq_on [(1, .pv (.sl x l.length (kns l))), (3, .ptr 0 0), (5, .ptr 1 0), (6, .ptr 2 0)] ([HObj.pcells (kn pod), .pcells (sc s), .pcells (kn z5)]) (Has.intro ⟨rfl, ⟨rfl, rfl, rfl, rfl, trivial⟩, rfl⟩) (fun r => ?_)
  refine seq_on ([(3, .ptr 0 0), (5, .ptr 1 0), (6, .ptr 2 0), (8, .hs 5 3 0 l.length l.length)]) [HObj.pcells (kn pod), .pcells (sc s), .pcells (kn z5), .pcells (kns l)] ?_ (fun r => ?_)
  · refine app_plain rfl rfl (by rw [kns_len]) (fun h => h0 (List.eq_nil_of_length_eq_zero h)) (by show (0 + l.length) * 40 ≤ 140737488355328; omega) ?_
    refine Has.intro ⟨rfl, ⟨rfl, rfl, rfl, ?_, trivial⟩, rfl⟩
    show AV.hs 5 3 0 (0 + l.length) (0 + l.length) = _
    rw [Nat.zero_add]
  by_cases hw : s.who = -1
  · have e : ap pod l s = (with_ pod s.f s.n, l) := by unfold ap; rw [if_pos hw]
    rw [e]
    refine hgetK_has _ rfl ?_
    refine getK_has rfl ?_
    refine boolK_beq_t hw ?_
    refine hgetK_has _ rfl ?_
    refine secK_has (v := kn pod) rfl (Nat.le_refl _) ?_
    refine hgetK_has _ rfl ?_
    refine getK_has rfl ?_
    refine hgetK_has _ rfl ?_
    refine getK_has rfl ?_
    refine callPK_has (with_ok pod s.f s.n) ?_
    refine hgetK_has _ rfl ?_
    refine needK_has rfl ?_
    refine eqK_has_eq (kn (with_ pod s.f s.n)) rfl ?_
    refine hgetK_has _ rfl ?_
    refine secK_has (v := kn (with_ pod s.f s.n)) rfl (Nat.le_refl _) ?_
    refine Has.intro ?_
    exact Has.of_eq (out_hs rfl rfl) rfl
  have e : ap pod l s = (pod, upTo l s l.length) := by
    unfold ap upTo
    rw [if_neg hw]
    split <;> rfl
  rw [e]
  refine seq_on ([(3, .ptr 0 0), (5, .ptr 1 0), (6, .ptr 2 0), (8, .hs 5 3 0 l.length l.length)]) [HObj.pcells (kn pod), .pcells (sc s), .pcells (kn z5), .pcells (kns l)] ?_ (fun r => ?_)
  · refine hgetK_has _ rfl ?_
    refine getK_has rfl ?_
    refine boolK_beq_f hw ?_
    exact Has.intro ⟨rfl, ⟨rfl, rfl, rfl, rfl, trivial⟩, rfl⟩
  refine seq_on ([(3, .ptr 0 0), (5, .ptr 1 0), (6, .ptr 2 0), (8, .hs 5 3 0 l.length l.length)]) [HObj.pcells (kn pod), .pcells (sc s), .pcells (kn z5), .pcells (kns (upTo l s l.length))] ?_ (fun r => ?_)
  · refine loopK_has ?_
    refine iterE_up l.length (fun i => [(3, .ptr 0 0), (5, .ptr 1 0), (6, .ptr 2 0), (8, .hs 5 3 0 l.length l.length), (24, .pv (.int .i64 l.length)), (25, .pv (.int .i64 i))])
      (fun i => [HObj.pcells (kn pod), .pcells (sc s), .pcells (kn z5), .pcells (kns (upTo l s i))]) (fun i hi r => ?_) (fun r => ?_) ⟨rfl, rfl, rfl, rfl, rfl, rfl, trivial⟩ (by
        have : upTo l s 0 = l := by unfold upTo; rw [if_neg (by omega)]
        rw [this])
    · refine boolK_dec_t (by omega) ?_
      refine hgetK_has _ rfl ?_
      refine getK_has rfl ?_
      refine boolK_beq (fun hi2 => ?_) (fun hi2 => ?_)
      · have hu : upTo l s i = l := by unfold upTo; rw [if_neg (by omega)]
        have hw2 : s.who.toNat = i := by omega
        obtain ⟨k, hk⟩ : ∃ k, l[i]? = some k := ⟨_, List.getElem?_eq_getElem hi⟩
        obtain ⟨g1, g2⟩ := kns_get hk
        have hu2 : upTo l s (i + 1) = l.set i (with_ k s.f s.n) := by unfold upTo; rw [if_pos (by omega), hw2, gt_eq hk]
        rw [hu]
        refine needK_has (by (first | rfl | (simp; done) | (simp; omega))) ?_
        refine hgetK_has _ rfl ?_
        refine secK_has g1 g2 ?_
        refine hgetK_has _ rfl ?_
        refine getK_has rfl ?_
        refine hgetK_has _ rfl ?_
        refine getK_has rfl ?_
        refine callPK_has (with_ok k s.f s.n) ?_
        refine needK_has (by (first | rfl | (simp; done) | (simp; omega))) ?_
        refine hgetK_has _ rfl ?_
        refine needK_has (show (Nat.beq (kn (with_ k s.f s.n)).length 5 && Nat.ble (i * 5 + 5) (kns l).length) = true from by
            rw [show Nat.ble (i * 5 + 5) (kns l).length = true from Nat.ble_eq_true_of_le g2]; rfl) ?_
        refine eqK_has_eq (kns (upTo l s (i + 1))) (by rw [hu2]; exact kns_set _ hi) ?_
        refine eqK_has_eq _ (i64_succ (by omega)) ?_
        exact Has.intro ⟨⟨rfl, rfl, rfl, rfl, rfl, rfl, trivial⟩, rfl⟩
      · have hu : upTo l s (i + 1) = upTo l s i := by
          unfold upTo
          by_cases hh : 0 ≤ s.who ∧ s.who < (i : Int)
          · rw [if_pos hh, if_pos (by omega)]
          · rw [if_neg hh, if_neg (by omega)]
        refine eqK_has_eq _ (i64_succ (by omega)) ?_
        refine Has.intro ⟨⟨rfl, rfl, rfl, rfl, rfl, rfl, trivial⟩, ?_⟩
        rw [hu]
    · refine boolK_dec_f (by omega) ?_
      exact Has.intro (Has.intro ⟨rfl, ⟨rfl, rfl, rfl, rfl, trivial⟩, rfl⟩)
  have hlen := upTo_len l s l.length
  generalize upTo l s l.length = A at *
  refine hgetK_has _ rfl ?_
  refine secK_has (v := kn pod) rfl (Nat.le_refl _) ?_
  refine hgetK_has _ rfl ?_
  refine needK_has rfl ?_
  refine eqK_has_eq (kn pod) rfl ?_
  refine hgetK_has _ rfl ?_
  refine secK_has (v := kn pod) rfl (Nat.le_refl _) ?_
  refine Has.intro ?_
  exact Has.of_eq (out_hs rfl hlen) rfl
theorem rapply_ok (pod : Kn) (x : Ext) (l : List Kn) (hl : l.length ≤ 1000) (s : Stp) : EP (EE env) 15 [.agg (kn pod), .sl x l.length (kns l), .agg (sc s)] = some (rapP l (ap pod l s)) := by
  cases l with
  | nil => exact rapply_nil pod x s
  | cons a l => exact rapply_cons pod x (a :: l) (by simp) hl s
end Go.Proofs.Ytaiomdfajdeacaa
