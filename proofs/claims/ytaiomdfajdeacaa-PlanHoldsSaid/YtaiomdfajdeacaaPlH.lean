/-
  A copy of groups; a step applied, by the program and by the document.
-/
import Derived.Test.YtaiomdfajdeacaaPlG
set_option linter.all false
set_option linter.unusedVariables false
set_option linter.unusedSimpArgs false
set_option linter.unusedSectionVars false
namespace Go.Proofs.Ytaiomdfajdeacaa
open Go Go.VM

/-- A list that is given: nil, or not. -/
def okX (x : Ext) (l : List Kn) : Prop := (x = .nil ∧ l = []) ∨ x = .nn ∨ (x = .nnx)
/-- What a copy is. -/
def cpx (x : Ext) (l : List Kn) : Ext := match l, x with
  | [], .nil => .nil
  | [], _ => .nnx
  | _ :: _, _ => .nn
theorem cpx_ok (x : Ext) (l : List Kn) : okX (cpx x l) l := by
  unfold cpx
  split
  · exact .inl ⟨rfl, rfl⟩
  · exact .inr (.inr rfl)
  · exact .inr (.inl rfl)
/-- A copy that may be written: its value, its heap. -/
def cpV (x : Ext) (l : List Kn) : AV := match l with
  | [] => .pv (.sl (cpx x []) 0 [])
  | a :: l => .tsl 0 (a :: l).length (kns (a :: l))
def cpH (l : List Kn) : Heap := match l with
  | [] => []
  | a :: l => [.tok (a :: l).length 5]
theorem clone_ee (x : Ext) (l : List Kn) (hx : okX x l) (hl : l.length * 40 ≤ 140737488355328) : Has (EE env (.fn 30) [.pv (.sl x l.length (kns l))] []) (fun y => y.1 = cpV x l ∧ y.2 = cpH l) := by
  refine EE_has ?_
  cases l with
  | nil =>
    rcases hx with ⟨rfl, _⟩ | rfl | rfl
    · exact Has.intro ⟨rfl, rfl⟩
    all_goals
      refine app_none ?_
      exact Has.intro ⟨rfl, rfl⟩
  | cons a l =>
    rcases hx with ⟨_, h⟩ | rfl | rfl
    · cases h
    all_goals
      refine app_plain rfl rfl (by rw [kns_len]) (by simp) (by show (0 + (a :: l).length) * 40 ≤ 140737488355328; omega) ?_
      refine Has.intro ⟨?_, ?_⟩
      · show AV.tsl 0 (0 + (a :: l).length) ([] ++ kns (a :: l)) = _
        rw [Nat.zero_add]; rfl
      · show [HObj.tok (0 + (a :: l).length) 5] = _
        rw [Nat.zero_add]; rfl
theorem clone_ok (x : Ext) (l : List Kn) (hx : okX x l) (hl : l.length * 40 ≤ 140737488355328) : EP (EE env) 30 [.sl x l.length (kns l)] = some (.sl (cpx x l) l.length (kns l)) := by
  obtain ⟨⟨v, H⟩, h1, h2, h3⟩ := clone_ee x l hx hl
  show (EE env (.fn 30) [.pv (.sl x l.length (kns l))] []).bind _ = _
  rw [h1]
  dsimp only at h2 h3
  subst h2; subst h3
  cases l with
  | nil => rfl
  | cons a l => rfl

def apP (x : Ext) (l : List Kn) (r : Kn × List Kn) : PV := .tup [.agg (kn r.1), .sl (cpx x l) l.length (kns r.2)]
theorem ap_len (pod : Kn) (now : List Kn) (s : Stp) : (ap pod now s).2.length = now.length := by
  unfold ap; split; rfl; split; simp; rfl
theorem out_hs {H : Heap} {c : List PV} {L : List Kn} {n : Nat} (h : hget H 3 = .pcells (kns L)) (hn : L.length = n) : out H (.tup [.pv (.agg c), .hs 5 3 0 n n]) = some (.tup [.agg c, .sl .nn n (kns L)]) := by
  have e : out1 H (.hs 5 3 0 n n) = some (.sl .nn n (kns L)) := by
    unfold out1
    dsimp only
    rw [h]
    dsimp only
    rw [show Nat.ble (0 + n * 5) (kns L).length = true from Nat.ble_eq_true_of_le (by rw [kns_len, hn]; omega), List.drop_zero, List.take_of_length_le (by rw [kns_len, hn]; exact Nat.le_refl _)]
    rfl
  show ((match out2 H (.pv (.agg c)), (match out2 H (.hs 5 3 0 n n), outs H [] with | some p, some ps => some (p :: ps) | _, _ => none) with | some p, some ps => some (p :: ps) | _, _ => none) : Option (List PV)).map PV.tup = _
  rw [show out2 H (.hs 5 3 0 n n) = out1 H (.hs 5 3 0 n n) from rfl, e]
  rfl
set_option maxHeartbeats 1000000 in
theorem apply_nil (pod : Kn) (x : Ext) (hx : okX x []) (s : Stp) : EP (EE env) 14 [.agg (kn pod), .sl x 0 [], .agg (sc s)] = some (apP x [] (ap pod [] s)) := by
  have hc := clone_ee x [] hx (by simp)
  refine Has.eq (EP_has (fn_has rfl ?_))
  refine seq_on [(1, .pv (.sl x 0 [])), (3, .ptr 0 0), (5, .ptr 1 0), (6, .ptr 2 0)] ([HObj.pcells (kn pod), .pcells (sc s), .pcells (kn z5)]) (Has.intro ⟨rfl, ⟨rfl, rfl, rfl, rfl, trivial⟩, rfl⟩) (fun r => ?_)
  refine seq_on [(3, .ptr 0 0), (5, .ptr 1 0), (6, .ptr 2 0), (8, .pv (.sl (cpx x []) 0 []))] ([HObj.pcells (kn pod), .pcells (sc s), .pcells (kn z5)]) ?_ (fun r => ?_)
  · refine callSK_has' (hc.mono fun y hy => ?_)
    obtain ⟨v, H⟩ := y
    obtain ⟨e1, e2⟩ := hy
    dsimp only at e1 e2 ⊢
    subst e1; subst e2
    exact Has.intro ⟨rfl, ⟨rfl, rfl, rfl, rfl, trivial⟩, rfl⟩
  refine hgetK_has _ rfl ?_
  refine getK_has rfl ?_
  refine boolK_beq (fun hw => ?_) (fun hw => ?_)
  · refine hgetK_has _ rfl ?_
    refine secK_has (v := kn pod) rfl (Nat.le_refl _) ?_
    refine hgetK_has _ rfl ?_
    refine getK_has rfl ?_
    refine hgetK_has _ rfl ?_
    refine getK_has rfl ?_
    refine callPK_has (kwith_ok pod s.f s.n) ?_
    (repeat (first | refine hgetK_last ?_ | refine hgetK_set ?_ | refine hgetK_has _ rfl ?_ | refine needK_has rfl ?_ | refine getK_has rfl ?_ | refine secK_has rfl (by first | exact Nat.le_refl _ | decide) ?_ | refine eqK_has ?_))
    (refine Has.intro (Has.intro ?_))
    unfold ap
    rw [if_pos hw]; rfl
  · have e : ap pod [] s = (pod, []) := by
      unfold ap
      rw [if_neg hw, if_neg (fun h => by have := h.2; simp at this; omega)]
    rw [e]
    refine hgetK_has _ rfl ?_
    refine getK_has rfl ?_
    refine boolK_dec (fun h => ?_) (fun h => ?_)
    · refine hgetK_has _ rfl ?_
      refine getK_has rfl ?_
      refine boolK_dec_f (by omega) ?_
      (repeat (first | refine hgetK_last ?_ | refine hgetK_set ?_ | refine hgetK_has _ rfl ?_ | refine needK_has rfl ?_ | refine getK_has rfl ?_ | refine secK_has rfl (by first | exact Nat.le_refl _ | decide) ?_ | refine eqK_has ?_))
      (refine Has.intro (Has.intro ?_))
      rfl
    · (repeat (first | refine hgetK_last ?_ | refine hgetK_set ?_ | refine hgetK_has _ rfl ?_ | refine needK_has rfl ?_ | refine getK_has rfl ?_ | refine secK_has rfl (by first | exact Nat.le_refl _ | decide) ?_ | refine eqK_has ?_))
      (refine Has.intro (Has.intro ?_))
      rfl
set_option maxHeartbeats 1000000 in
theorem apply_cons (pod : Kn) (x : Ext) (l : List Kn) (hx : okX x l) (h0 : l ≠ []) (hl : l.length ≤ 1000) (s : Stp) : EP (EE env) 14 [.agg (kn pod), .sl x l.length (kns l), .agg (sc s)] = some (.tup [.agg (kn (ap pod l s).1), .sl .nn l.length (kns (ap pod l s).2)]) := by
  have hc := clone_ee x l hx (by omega)
  refine Has.eq (EP_has (fn_has rfl ?_))
  refine seq_on [(1, .pv (.sl x l.length (kns l))), (3, .ptr 0 0), (5, .ptr 1 0), (6, .ptr 2 0)] ([HObj.pcells (kn pod), .pcells (sc s), .pcells (kn z5)]) (Has.intro ⟨rfl, ⟨rfl, rfl, rfl, rfl, trivial⟩, rfl⟩) (fun r => ?_)
  refine seq_on ([(3, .ptr 0 0), (5, .ptr 1 0), (6, .ptr 2 0), (8, .hs 5 3 0 l.length l.length)]) [HObj.pcells (kn pod), .pcells (sc s), .pcells (kn z5), .pcells (kns l)] ?_ (fun r => ?_)
  · refine callSK_has' (hc.mono fun y hy => ?_)
    obtain ⟨v, H⟩ := y
    obtain ⟨e1, e2⟩ := hy
    dsimp only at e1 e2 ⊢
    subst e1; subst e2
    cases l with
    | nil => exact absurd rfl h0
    | cons a l =>
      refine needK_has (Nat.beq_refl _) ?_
      refine needK_has (kns_flat _) ?_
      exact Has.intro ⟨rfl, ⟨rfl, rfl, rfl, rfl, trivial⟩, rfl⟩
  refine seq_on ([(3, .ptr 0 0), (5, .ptr 1 0), (6, .ptr 2 0), (8, .hs 5 3 0 l.length l.length)]) [HObj.pcells (kn (ap pod l s).1), .pcells (sc s), .pcells (kn z5), .pcells (kns (ap pod l s).2)] ?_ (fun r => ?_)
  · refine hgetK_has _ rfl ?_
    refine getK_has rfl ?_
    refine boolK_beq (fun hw => ?_) (fun hw => ?_)
    · have e : ap pod l s = (with_ pod s.f s.n, l) := by unfold ap; rw [if_pos hw]
      rw [e]
      refine hgetK_has _ rfl ?_
      refine secK_has (v := kn pod) rfl (Nat.le_refl _) ?_
      refine hgetK_has _ rfl ?_
      refine getK_has rfl ?_
      refine hgetK_has _ rfl ?_
      refine getK_has rfl ?_
      refine callPK_has (kwith_ok pod s.f s.n) ?_
      refine hgetK_has _ rfl ?_
      refine needK_has rfl ?_
      refine eqK_has_eq (kn (with_ pod s.f s.n)) rfl ?_
      exact Has.intro ⟨rfl, ⟨rfl, rfl, rfl, rfl, trivial⟩, rfl⟩
    · refine hgetK_has _ rfl ?_
      refine getK_has rfl ?_
      refine boolK_dec (fun h1 => ?_) (fun h1 => ?_)
      · refine hgetK_has _ rfl ?_
        refine getK_has rfl ?_
        refine boolK_dec (fun h2 => ?_) (fun h2 => ?_)
        · have hlt : s.who.toNat < l.length := by omega
          obtain ⟨k, hk⟩ : ∃ k, l[s.who.toNat]? = some k := ⟨_, List.getElem?_eq_getElem hlt⟩
          obtain ⟨g1, g2⟩ := kns_get hk
          have e : ap pod l s = (pod, l.set s.who.toNat (with_ k s.f s.n)) := by unfold ap; rw [if_neg hw, if_pos ⟨h1, h2⟩, gt_eq hk]
          rw [e]
          refine hgetK_has _ rfl ?_
          refine getK_has rfl ?_
          refine hgetK_has _ rfl ?_
          refine getK_has rfl ?_
          refine needK_has (by simp; omega) ?_
          refine hgetK_has _ rfl ?_
          refine secK_has g1 g2 ?_
          refine hgetK_has _ rfl ?_
          refine getK_has rfl ?_
          refine hgetK_has _ rfl ?_
          refine getK_has rfl ?_
          refine callPK_has (kwith_ok k s.f s.n) ?_
          refine needK_has (by simp; omega) ?_
          refine hgetK_has _ rfl ?_
          refine needK_has (show (Nat.beq (kn (with_ k s.f s.n)).length 5 && Nat.ble (s.who.toNat * 5 + 5) (kns l).length) = true from by
            rw [show Nat.ble (s.who.toNat * 5 + 5) (kns l).length = true from Nat.ble_eq_true_of_le g2]; rfl) ?_
          refine eqK_has_eq (kns (l.set s.who.toNat (with_ k s.f s.n))) (kns_set _ hlt) ?_
          exact Has.intro ⟨rfl, ⟨rfl, rfl, rfl, rfl, trivial⟩, rfl⟩
        · have e : ap pod l s = (pod, l) := by unfold ap; rw [if_neg hw, if_neg (fun h => h2 h.2)]
          rw [e]
          exact Has.intro ⟨rfl, ⟨rfl, rfl, rfl, rfl, trivial⟩, rfl⟩
      · have e : ap pod l s = (pod, l) := by unfold ap; rw [if_neg hw, if_neg (fun h => h1 h.1)]
        rw [e]
        exact Has.intro ⟨rfl, ⟨rfl, rfl, rfl, rfl, trivial⟩, rfl⟩
  have hlen := ap_len pod l s
  generalize ap pod l s = A at *
  refine hgetK_has _ rfl ?_
  refine secK_has (v := kn A.1) rfl (Nat.le_refl _) ?_
  refine hgetK_has _ rfl ?_
  refine needK_has rfl ?_
  refine eqK_has_eq (kn A.1) rfl ?_
  refine hgetK_has _ rfl ?_
  refine secK_has (v := kn A.1) rfl (Nat.le_refl _) ?_
  refine Has.intro ?_
  exact Has.of_eq (out_hs rfl hlen) rfl
theorem apply_ok (pod : Kn) (x : Ext) (l : List Kn) (hx : okX x l) (hl : l.length ≤ 1000) (s : Stp) : EP (EE env) 14 [.agg (kn pod), .sl x l.length (kns l), .agg (sc s)] = some (apP x l (ap pod l s)) := by
  cases l with
  | nil => exact apply_nil pod x hx s
  | cons a l => exact apply_cons pod x (a :: l) hx (by simp) hl s
end Go.Proofs.Ytaiomdfajdeacaa
