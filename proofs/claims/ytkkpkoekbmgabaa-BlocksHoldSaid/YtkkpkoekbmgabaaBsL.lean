/-
  Blocks: a map's keys, in order.
-/
import Derived.Test.YtkkpkoekbmgabaaBsK
set_option linter.all false
set_option linter.unusedVariables false
set_option linter.unusedSimpArgs false
set_option linter.unusedSectionVars false
namespace Go.Proofs.Ytkkpkoekbmgabaa
open Go Go.VM
variable {H : Heap} {p m : Nat} {zs : List Zn} {L : List Rw}

def kc (v : Nat × PV × PV) : List PV := match v.2.1 with
  | .agg cs => cs
  | _ => []
theorem keys_walk {clk : Nat} {E : List (Nat × Rw)} {q q2 lid : Nat} {R0 : Regs} (hq : hget H q = .cells [.map m]) (hm : hget H m = .map clk (E.map ent)) (hst : Stamps clk (E.map ent)) (hE : E.length ≤ 100000)
    (hR : R0 2 = .ptr q2 0) (hl : hget H lid = gob R0) (hq2 : hget H q2 = .pcells [.sl .nil 0 []]) :
    Has (EE env (.fn 47) [.yield lid, .ptr q 0] H) fun y => Kp [q2] H y.2 ∧ (E = [] → hget y.2 q2 = .pcells [.sl .nil 0 []]) ∧
      (E ≠ [] → hget y.2 q2 = .cells [.gs (H.length + 3) E.length] ∧ hget y.2 (H.length + 3) = .bag 3 (canon (E.map fun e => oc e.2.1))) := by
  have hml := hget_lt hm (by intro h; cases h)
  have hql := hget_lt hq2 (by intro h; cases h)
  have hll := hget_lt hl (by intro h; cases h)
  have hne1 : m ≠ q2 := fun e => by rw [e, hq2] at hm; cases hm
  have hne2 : lid ≠ q2 := fun e => by rw [e, hq2] at hl; cases hl
  refine EE_has ?_
  refine hgetK_has _ hq ?_
  refine hgetK_has _ hm ?_
  refine rangeM_has (id := H.length) hst (fun _ => E.map ent) (fun _ _ h => h) (fun _ _ h _ => h) (fun vs => [(5, .ptr H.length 0), (0, .yield lid)])
    (fun vs h => Kp [q2] H h ∧ H.length < h.length ∧ (vs = [] → h.length = H.length + 1 ∧ hget h q2 = .pcells [.sl .nil 0 []]) ∧ (vs ≠ [] → hget h q2 = .cells [.gs (H.length + 3) vs.length] ∧ hget h (H.length + 3) = .bag 3 (canon (vs.map kc))))
    (fun vs => ⟨_, rfl⟩) (fun vs h hh => hh.1.get hm (by intro h; cases h) (by simpa using hne1)) (.exit 0) []
    (fun i => if i < H.length then some (if i = q2 then (if E = [] then .pcells [.sl .nil 0 []] else .cells [.gs (H.length + 3) E.length]) else hget H i) else if i = H.length + 3 ∧ E ≠ [] then some (.bag 3 (canon (E.map fun e => oc e.2.1))) else none) H.length ?_ ?_ (by (repeat (first | exact trivial | refine ⟨rfl, ?_⟩))) ?_ (hget_append_same _ _) ?_ ?_
  · intro vs x r h h1 h2 h3 h4 hh hit0
    obtain ⟨k1, k2, k3, k4⟩ := hh
    obtain ⟨e, heE, rfl⟩ := List.mem_map.1 h2
    have he := heE
    have hit := hget_hset_same (.iter (some m) clk (vs.map (·.1) ++ [(ent e).1]) clk) k2
    have hvl : vs.length ≤ 100000 := by have := nodup_len vs (E.map ent) h4 h1; rw [List.length_map] at this; omega
    have s1 : Kp [q2] H (hset h H.length (.iter (some m) clk (vs.map (·.1) ++ [(ent e).1]) clk)) := k1.set _ _ (.inr (Nat.le_refl _))
    have s2 : (hset h H.length (.iter (some m) clk (vs.map (·.1) ++ [(ent e).1]) clk)).length = h.length := hset_len ..
    have s3 : ∀ i, i ≠ H.length → hget (hset h H.length (.iter (some m) clk (vs.map (·.1) ++ [(ent e).1]) clk)) i = hget h i := fun i hi => hget_hset_ne _ _ hi
    obtain ⟨J, hJ⟩ : ∃ J, J = hset h H.length (.iter (some m) clk (vs.map (·.1) ++ [(ent e).1]) clk) := ⟨_, rfl⟩
    rw [← hJ] at hit s1 s2 s3 ⊢
    have hmp := s1.get hm (by intro h; cases h) (by simpa using hne1)
    (refine hgetK_has _ hit ?_; refine hgetK_has _ hmp ?_; refine needK_has (by rw [Nat.beq_refl, Nat.beq_refl]; rfl) ?_; refine bindK_has (List.getLast?_concat) ?_; refine bindK_has (find_stamp hst (List.mem_map.2 ⟨_, he, rfl⟩)) ?_)
    (repeat (first | refine hgetK_last ?_ | refine hgetK_set ?_ | refine hgetK_two1 ?_ | refine hgetK_two2 ?_ | refine hgetK_two3 ?_ | refine hgetK_two4 ?_ | refine hgetK_two5 ?_ | refine needK_has rfl ?_ | refine getK_has rfl ?_ | refine secK_has rfl (by first | exact Nat.le_refl _ | decide | exact Nat.le_of_ble_eq_true rfl) ?_ | refine eqK_has ?_))
    obtain ⟨G, hG⟩ : ∃ G, G = hset (J ++ [HObj.pcells (oc ⟨[], [], 0⟩)]) J.length (.pcells (oc e.2.1)) := ⟨_, rfl⟩
    have g1 : Kp [] J G := by rw [hG]; exact ((Kp.refl _ _).app _).set _ _ (.inr (Nat.le_refl _))
    have g2 : G.length = h.length + 1 := by rw [hG, hset_len, List.length_append, s2]; rfl
    have g3 : hget G lid = gob R0 := g1.get (s1.get hl (by intro h; cases h) (by simpa using hne2)) (by intro h; cases h) (by simp)
    have gH : Kp [q2] H G := s1.step g1
    cases vs with
    | nil =>
      obtain ⟨k5, k6⟩ := k3 rfl
      have g4 : hget G q2 = .pcells [.sl .nil 0 []] := g1.get ((s3 q2 (by omega)).trans k6) (by intro h; cases h) (by simp)
      have hy := yield_new hR g3 g4 e.2.1
      rw [hG] at hy g1 g2 gH
      refine callSK_has' (hy.mono fun y hy => ?_)
      obtain ⟨v, y2⟩ := y
      obtain ⟨rfl, y3, y4, y5⟩ := hy
      dsimp only at y3 y4 y5 ⊢
      refine Has.intro ⟨by (repeat (first | exact trivial | refine ⟨rfl, ?_⟩)), ⟨gH.trans y3 (by simp), ?_, fun h => by simp at h, fun _ => ⟨?_, ?_⟩⟩, ?_⟩
      · exact Nat.lt_of_lt_of_le (by rw [g2]; omega) y3.1
      · rw [y4, g2, k5]; rfl
      · rw [g2, k5] at y5
        exact y5
      · exact y3.get (g1.get hit (by intro h; cases h) (by simp)) (by intro h; cases h) (by simp; omega)
    | cons w vs =>
      obtain ⟨k5, k6⟩ := k4 (by simp)
      have hbl := hget_lt k6 (by intro h; cases h)
      have g4 := g1.get ((s3 q2 (by omega)).trans k5) (by intro h; cases h) (by simp)
      have g5 := g1.get ((s3 (H.length + 3) (by omega)).trans k6) (by intro h; cases h) (by simp)
      have hy := yield_more hR g3 g4 g5 (List.length_map _) (by omega) e.2.1
      rw [hG] at hy g1 g2 gH
      refine callSK_has' (hy.mono fun y hy => ?_)
      obtain ⟨v, y2⟩ := y
      obtain ⟨rfl, y3, y4, y5⟩ := hy
      dsimp only at y3 y4 y5 ⊢
      refine Has.intro ⟨by (repeat (first | exact trivial | refine ⟨rfl, ?_⟩)), ⟨gH.trans y3 (by simp), ?_, fun h => by simp at h, fun _ => ⟨?_, ?_⟩⟩, ?_⟩
      · exact Nat.lt_of_lt_of_le (by rw [g2]; omega) y3.1
      · rw [y4]; simp
      · rw [y5]; simp [kc, ent]
      · exact y3.get (g1.get hit (by intro h; cases h) (by simp)) (by intro h; cases h) (by simp; omega)
  · intro vs r h h1 hh
    obtain ⟨k1, k2, k3, k4⟩ := hh
    refine Has.intro ⟨rfl, trivial, fun i o hne ho => ?_, k1.1⟩
    have hE0 : vs = [] ↔ E = [] := by
      constructor
      · intro h; subst h; have := h1.length_eq; simp at this; exact List.eq_nil_of_length_eq_zero this.symm
      · intro h; subst h; have := h1.length_eq; simp at this; exact List.eq_nil_of_length_eq_zero (by simpa using this)
    split at ho
    · injection ho with ho
      subst ho
      split
      · rename_i hi he
        subst he
        split
        · rename_i h0; exact (k3 (hE0.2 h0)).2
        · rename_i h0
          rw [(k4 fun h => h0 (hE0.1 h)).1, h1.length_eq, List.length_map]
      · rename_i hi he
        exact k1.2 i hi (by simpa using he)
    · split at ho
      · rename_i h5
        injection ho with ho
        subst ho
        rw [h5.1, (k4 fun h => h5.2 (hE0.1 h)).2]
        congr 1
        have : E.map (fun e => oc e.2.1) = (E.map ent).map kc := by rw [List.map_map]; rfl
        rw [this]
        exact canon_eq (h1.map kc)
      · cases ho
  · exact ⟨(Kp.refl _ _).app _, by simp, fun _ => ⟨by simp, (hget_app _ hql).trans hq2⟩, fun h => absurd rfl h⟩
  · intro i hi hne
    rw [List.length_append, List.length_singleton] at hi
    exact ⟨_, if_pos (by omega)⟩
  · intro r H' hG hn
    have hb : ∀ i, i < H.length → i ≠ q2 → hget H' i = hget H i := fun i hi hne => hG i _ (by omega) (by rw [if_pos hi, if_neg hne])
    refine Has.intro ⟨⟨hn, fun i hi hne => hb i hi (by simpa using hne)⟩, fun h => ?_, fun h => ⟨?_, ?_⟩⟩
    · exact hG q2 _ (by omega) (by rw [if_pos hql, if_pos rfl, if_pos h])
    · exact hG q2 _ (by omega) (by rw [if_pos hql, if_pos rfl, if_neg h])
    · exact hG _ _ (by omega) (by rw [if_neg (by omega), if_pos ⟨rfl, h⟩])
theorem appseq_ok {clk : Nat} {E : List (Nat × Rw)} {q : Nat} (hq : hget H q = .cells [.map m]) (hm : hget H m = .map clk (E.map ent)) (hst : Stamps clk (E.map ent)) (hE : E.length ≤ 100000) :
    Has (EE env (.fn 51) [.pv (.sl .nil 0 []), .fn 47 [] [.ptr q 0]] H) fun y => Kp [] H y.2 ∧ (E = [] → y.1 = .pv (.sl .nil 0 [])) ∧ (E ≠ [] → ∃ bid, H.length ≤ bid ∧ y.1 = .gs bid E.length ∧ hget y.2 bid = .bag 3 (canon (E.map fun e => oc e.2.1))) := by
  refine EE_has ?_
  obtain ⟨R0, hR0⟩ : ∃ R0 : Regs, R0 = upd (upd (upd (initRegs [.pv (.sl .nil 0 []), .fn 47 [] [.ptr q 0]]) 2 (.ptr H.length 0)) 4 (.pv (.sl .nil 0 []))) 6 (.fn 47 [] [.ptr q 0]) := ⟨_, rfl⟩
  have hA : Kp [] H (H ++ [HObj.pcells [.sl .nil 0 []]] ++ [gob R0]) := ((Kp.refl _ _).app _).app _
  have h1 := keys_walk (q2 := H.length) (lid := (H ++ [HObj.pcells [.sl .nil 0 []]]).length) (R0 := R0) (hA.get hq (by intro h; cases h) (by simp)) (hA.get hm (by intro h; cases h) (by simp)) hst hE (by rw [hR0]; rfl) (hget_append_same _ _) (hget_two1 ..)
  rw [hR0] at h1
  refine callSK_has' (h1.mono fun y hy => ?_)
  obtain ⟨v, J⟩ := y
  obtain ⟨k1, k2, k3⟩ := hy
  rw [hR0] at hA
  have hne : (H ++ [HObj.pcells [.sl .nil 0 []]]).length ≠ H.length := by simp
  refine hgetK_has _ (k1.get (hget_append_same _ _) (by intro h; cases h) (by simp)) ?_
  dsimp only at k1 k2 k3 ⊢
  have kH : Kp [] H J := ⟨Nat.le_trans hA.1 k1.1, fun i hi _ => (k1.2 i (Nat.lt_of_lt_of_le hi hA.1) (by simp; omega)).trans (hA.2 i hi (by simp))⟩
  have kH2 : Kp [] H (hset J (H ++ [HObj.pcells [.sl .nil 0 []]]).length .dead) := kH.set _ _ (.inr (by simp))
  by_cases h0 : E = []
  · refine hgetK_has _ ((hget_hset_ne _ _ (Ne.symm hne)).trans (k2 h0)) ?_
    refine getK_has rfl ?_
    exact Has.intro ⟨kH2, fun _ => rfl, fun h => absurd h0 h⟩
  · obtain ⟨k4, k5⟩ := k3 h0
    refine hgetK_has _ ((hget_hset_ne _ _ (Ne.symm hne)).trans k4) ?_
    refine Has.intro ⟨kH2, fun h => absurd h h0, fun _ => ⟨_, ?_, rfl, ?_⟩⟩
    · rw [List.length_append, List.length_append]; omega
    · refine (hget_hset_ne _ _ ?_).trans k5
      rw [List.length_append, List.length_append]
      simp only [List.length_singleton]
      omega
/-- Rows in order. -/
def Sorted (L : List Rw) : Prop := L.Pairwise fun a b => owLt a.1 b.1
theorem ord_keys {L : List Rw} (hs : Sorted L) : OrdBy (EE env) 43 (L.map fun r => oc r.1) := by
  intro i j a b ha hb
  rw [List.getElem?_map, Option.map_eq_some_iff] at ha hb
  obtain ⟨r, hr, rfl⟩ := ha
  obtain ⟨s, hs2, rfl⟩ := hb
  refine ⟨_, cmp_o r.1 s.1, ?_⟩
  rw [cmpO_neg]
  obtain ⟨hi, hr⟩ := List.getElem?_eq_some_iff.1 hr
  obtain ⟨hj, hs2⟩ := List.getElem?_eq_some_iff.1 hs2
  have hp := List.pairwise_iff_getElem.1 hs
  rcases Nat.lt_trichotomy i j with h | h | h
  · exact ⟨fun _ => h, fun _ => by rw [← hr, ← hs2]; exact hp i j hi hj h⟩
  · subst h
    exact ⟨fun h => absurd h (by rw [← hr, ← hs2]; exact owLt_irr _), fun h => by omega⟩
  · exact ⟨fun h2 => absurd h2 (owLt_asym (by rw [← hr, ← hs2]; exact hp j i hj hi h)), fun h2 => by omega⟩
theorem Sorted.keys {L : List Rw} (hs : Sorted L) : Keys L := by
  unfold Keys
  unfold List.Nodup
  rw [List.pairwise_map]
  refine hs.imp ?_
  intro a b h e
  rw [e] at h
  exact owLt_irr _ h
/-- The keys, sorted. -/
theorem sorted_ok {q : Nat} (hq : hget H q = .cells [.map m]) (hM : MapOf H m L) (hL : L.length ≤ 100000) (hs : Sorted L) :
    Has (EE env (.fn 41) [.fn 47 [] [.ptr q 0], .pv (.fn 43 [] [])] H) fun y => Kp [] H y.2 ∧ (L = [] → y.1 = .pv (.sl .nil 0 [])) ∧ (L ≠ [] → ∃ bid, H.length ≤ bid ∧ y.1 = .gs bid L.length ∧ hget y.2 bid = .row L.length 3 ((L.flatMap fun r => oc r.1).map .pv)) := by
  obtain ⟨clk, E, hm, hst, hp⟩ := hM
  have hEl : E.length = L.length := by rw [← hp.length_eq, List.length_map]
  refine EE_has ?_
  have hcol : Has (EE env (.fn 45) [.fn 47 [] [.ptr q 0]] H) fun y => Kp [] H y.2 ∧ (E = [] → y.1 = .pv (.sl .nil 0 [])) ∧ (E ≠ [] → ∃ bid, H.length ≤ bid ∧ y.1 = .gs bid E.length ∧ hget y.2 bid = .bag 3 (canon (E.map fun e => oc e.2.1))) := by
    refine EE_has ?_
    refine callSK_has' ((appseq_ok hq hm hst (by omega)).mono fun y hy => ?_)
    obtain ⟨v, J⟩ := y
    obtain ⟨k1, k2, k3⟩ := hy
    dsimp only at k1 k2 k3 ⊢
    by_cases h0 : E = []
    · have hv := k2 h0
      subst hv
      exact Has.intro ⟨k1, fun _ => rfl, fun h => absurd h0 h⟩
    · obtain ⟨bid, k4, rfl, k5⟩ := k3 h0
      exact Has.intro ⟨k1, fun h => absurd h h0, fun _ => ⟨bid, k4, rfl, k5⟩⟩
  refine callSK_has' (hcol.mono fun y hy => ?_)
  obtain ⟨v, J⟩ := y
  obtain ⟨k1, k2, k3⟩ := hy
  dsimp only at k1 k2 k3 ⊢
  by_cases h0 : E = []
  · have hv := k2 h0
    subst hv
    have hL0 : L = [] := List.eq_nil_of_length_eq_zero (by rw [← hEl, h0]; rfl)
    have hsort : EE env (.fn 46) [.pv (.sl .nil 0 []), .pv (.fn 43 [] [])] J = some (undefV, J) := by
      refine Has.eq (EE_has ?_)
      refine bindK_has (v := (undefV, J)) rfl ?_
      exact Has.intro rfl
    refine callSK_has hsort ?_
    exact Has.intro ⟨k1, fun _ => rfl, fun h => absurd hL0 h⟩
  · obtain ⟨bid, k4, rfl, k5⟩ := k3 h0
    have hbl := hget_lt k5 (by intro h; cases h)
    have hL0 : L ≠ [] := fun h => h0 (List.eq_nil_of_length_eq_zero (by rw [hEl, h]; rfl))
    have hsort : EE env (.fn 46) [.gs bid E.length, .pv (.fn 43 [] [])] J = some (undefV, hset J bid (.row L.length 3 ((L.flatMap fun r => oc r.1).map .pv))) := by
      refine Has.eq (EE_has ?_)
      refine bindK_has (v := (undefV, hset J bid (.row L.length 3 ((L.flatMap fun r => oc r.1).map .pv)))) ?_ ?_
      · have hcp : (canon (E.map fun e => oc e.2.1)).Perm (L.map fun r => oc r.1) := (canon_perm _).trans (by
          have := hp.map fun r : Rw => oc r.1
          rwa [List.map_map] at this)
        have hf : flatPV (canon (E.map fun e => oc e.2.1)) = true := by
          unfold flatPV
          rw [List.all_eq_true]
          intro x hx
          obtain ⟨r, hr, rfl⟩ := List.mem_map.1 (hcp.subset hx)
          rfl
        have hcl : (canon (E.map fun e => oc e.2.1)).length = E.length := (canon_perm _).length_eq.trans (List.length_map _)
        simp only [primK, k5]
        rw [sortedK_intro hcp.symm (ord_keys hs), hf, hcl, show Nat.beq 3 3 = true from rfl, show Nat.beq E.length E.length = true from Nat.beq_refl _, show Nat.ble E.length 4611686018427387903 = true from Nat.ble_eq_true_of_le (by omega), hEl]
        rfl
      · exact Has.intro rfl
    refine callSK_has hsort ?_
    refine Has.intro ⟨k1.set _ _ (.inr k4), fun h => absurd h hL0, fun _ => ⟨bid, k4, ?_, hget_hset_same _ hbl⟩⟩
    rw [hEl]; rfl
end Go.Proofs.Ytkkpkoekbmgabaa
