/-
  Blocks: Release.
-/
import Derived.Test.YtkkpkoekbmgabaaBsF
set_option linter.all false
set_option linter.unusedVariables false
set_option linter.unusedSimpArgs false
set_option linter.unusedSectionVars false
namespace Go.Proofs.Ytkkpkoekbmgabaa
open Go Go.VM
variable {H : Heap} {p m : Nat} {zs : List Zn} {L : List Rw}

theorem del_test (o : Ow) (s : Sd) (q : Nat) (pod : List UInt8) (hq : hget H q = .pcells [sv pod]) : ∃ H', EE env (.fn 30) [.pv (.agg (oc o)), .pv (.agg (sc s)), .ptr q 0] H = some (.pv (.bool (decide (o.pod = pod))), H') ∧ Kp [] H H' := by
  refine Has.sh (EE_has ?_)
  have hk : ∀ a b, Kp [] H (H ++ [a] ++ [b]) := fun a b => ((Kp.refl _ _).app _).app _
  refine hgetK_two1 ?_
  refine getK_has rfl ?_
  refine hgetK_has _ ((hk _ _).get hq (by intro h; cases h) (by simp)) ?_
  refine getK_has rfl ?_
  refine boolK_seq (fun he => ?_) (fun he => ?_)
  · refine Has.intro ⟨?_, hk _ _⟩
    rw [decide_eq_true he]; rfl
  · refine Has.intro ⟨?_, hk _ _⟩
    rw [decide_eq_false he]; rfl
/-- Rows of other pods. -/
def others (L : List Rw) (pod : List UInt8) : List Rw := L.filter fun r => decide (r.1.pod ≠ pod)
open Classical in
/-- Is an entry still there, these being visited? -/
noncomputable def stays (pod : List UInt8) (vs : List (Nat × PV × PV)) (e : Nat × Rw) : Bool := decide (ent e ∈ vs → e.2.1.pod ≠ pod)
theorem stays_iff {pod : List UInt8} {vs : List (Nat × PV × PV)} {e : Nat × Rw} : stays pod vs e = true ↔ (ent e ∈ vs → e.2.1.pod ≠ pod) := by simp [stays]
theorem stamps_sub {clk : Nat} {E : List (Nat × Rw)} (h : Stamps clk (E.map ent)) (f : Nat × Rw → Bool) : Stamps clk ((E.filter f).map ent) :=
  ⟨((List.filter_sublist.map ent).map _).nodup h.1, fun x hx => h.2 x ((List.filter_sublist.map ent).subset hx)⟩
theorem stamp_inj {clk : Nat} {E : List (Nat × Rw)} (h : Stamps clk (E.map ent)) {a b : Nat × Rw} (ha : a ∈ E) (hb : b ∈ E) (hab : a.1 = b.1) : a = b := by
  have h1 := find_dec E ent h ha
  have h2 := find_dec E ent h hb
  rw [show (ent a).1 = (ent b).1 from hab, h2] at h1
  injection h1 with h1
  exact h1.symm
theorem ent_inj {clk : Nat} {E : List (Nat × Rw)} (h : Stamps clk (E.map ent)) {a b : Nat × Rw} (ha : a ∈ E) (hb : b ∈ E) (hab : ent a = ent b) : a = b := stamp_inj h ha hb (congrArg (·.1) hab)
theorem key_inj {E : List (Nat × Rw)} (h : Keys (E.map (·.2))) {a b : Nat × Rw} (ha : a ∈ E) (hb : b ∈ E) (hab : a.2.1 = b.2.1) : a = b := by
  unfold Keys at h
  rw [List.map_map] at h
  induction E with
  | nil => cases ha
  | cons x E ih =>
    rw [List.map_cons, List.nodup_cons] at h
    rcases List.mem_cons.1 ha with ha1 | ha1
    · rcases List.mem_cons.1 hb with hb1 | hb1
      · rw [ha1, hb1]
      · exact absurd (List.mem_map.2 ⟨b, hb1, by rw [← ha1]; exact hab.symm⟩) h.1
    · rcases List.mem_cons.1 hb with hb1 | hb1
      · exact absurd (List.mem_map.2 ⟨a, ha1, by rw [← hb1]; exact hab⟩) h.1
      · exact ih h.2 ha1 hb1
/-- All of a pod are taken away. -/
theorem delete_ok {clk : Nat} {E : List (Nat × Rw)} (hm : hget H m = .map clk (E.map ent)) (hst : Stamps clk (E.map ent)) (hk : Keys (E.map (·.2))) (q : Nat) (pod : List UInt8) (hq : hget H q = .pcells [sv pod]) :
    ∃ H', EE env (.fn 29) [.map m, .fn 30 [] [.ptr q 0]] H = some (.pv (.tup []), H') ∧ Kp [m] H H' ∧ hget H' m = .map clk ((E.filter fun e => decide (e.2.1.pod ≠ pod)).map ent) := by
  refine Has.sh (EE_has ?_)
  have hml : m < H.length := hget_lt hm (by intro h; cases h)
  have hqm : q ≠ m := fun e => by rw [e, hm] at hq; cases hq
  refine hgetK_has _ hm ?_
  refine rangeM_has (id := H.length) hst (fun vs => (E.filter (stays pod vs)).map ent) (fun vs e he => (List.filter_sublist.map ent).subset he) (fun vs e he hn => ?_) (fun vs => [(7, .ptr H.length 0), (0, .map m), (1, .fn 30 [] [.ptr q 0])])
    (fun vs h => Kp [m] H h ∧ H.length < h.length ∧ hget h m = .map clk ((E.filter (stays pod vs)).map ent)) (fun vs => ⟨_, rfl⟩) (fun vs h hh => hh.2.2) (.exit 0) [] (fun i => if i < H.length then some (if i = m then .map clk ((E.filter fun e => decide (e.2.1.pod ≠ pod)).map ent) else hget H i) else none) H.length ?_ ?_ (by (repeat (first | exact trivial | refine ⟨rfl, ?_⟩))) ?_ ?_ ?_ ?_
  · obtain ⟨a, ha, rfl⟩ := List.mem_map.1 he
    exact List.mem_map.2 ⟨a, List.mem_filter.2 ⟨ha, stays_iff.2 fun h => absurd h hn⟩, rfl⟩
  · intro vs x r h h1 h2 h3 h4 hh hit0
    obtain ⟨e, heE, rfl⟩ := List.mem_map.1 h2
    obtain ⟨k1, k2, k3⟩ := hh
    have hs1 : Kp [m] H (hset h H.length (.iter (some m) clk (vs.map (·.1) ++ [(ent e).1]) clk)) := k1.set _ _ (.inr (Nat.le_refl _))
    have hs2 : H.length < (hset h H.length (.iter (some m) clk (vs.map (·.1) ++ [(ent e).1]) clk)).length := by rw [hset_len]; exact k2
    have hs3 : hget (hset h H.length (.iter (some m) clk (vs.map (·.1) ++ [(ent e).1]) clk)) m = .map clk ((E.filter (stays pod vs)).map ent) := (hget_hset_ne _ _ (by omega)).trans k3
    have hit := hget_hset_same (.iter (some m) clk (vs.map (·.1) ++ [(ent e).1]) clk) k2
    obtain ⟨J, hJ⟩ : ∃ J, J = hset h H.length (.iter (some m) clk (vs.map (·.1) ++ [(ent e).1]) clk) := ⟨_, rfl⟩
    rw [← hJ] at hs1 hs2 hs3 hit ⊢
    have hstv := stamps_sub hst (stays pod vs)
    have hev : e ∈ E.filter (stays pod vs) := List.mem_filter.2 ⟨heE, stays_iff.2 fun h => absurd h h3⟩
    refine hgetK_has _ hit ?_
    refine hgetK_has _ hs3 ?_
    refine needK_has (by rw [Nat.beq_refl, Nat.beq_refl]; rfl) ?_
    refine bindK_has (List.getLast?_concat) ?_
    refine bindK_has (find_stamp hstv (x := ent e) (List.mem_map.2 ⟨_, hev, rfl⟩)) ?_
    (repeat (first | refine hgetK_last ?_ | refine hgetK_set ?_ | refine hgetK_two1 ?_ | refine hgetK_two2 ?_ | refine hgetK_two3 ?_ | refine hgetK_two4 ?_ | refine hgetK_two5 ?_ | refine needK_has rfl ?_ | refine getK_has rfl ?_ | refine secK_has rfl (by first | exact Nat.le_refl _ | decide | exact Nat.le_of_ble_eq_true rfl) ?_ | refine eqK_has ?_))
    have hJ2 : Kp [] J (hset (hset (J ++ [HObj.pcells (oc ⟨[], [], 0⟩)] ++ [HObj.pcells (sc s0)]) J.length (.pcells (oc e.2.1))) (J ++ [HObj.pcells (oc ⟨[], [], 0⟩)]).length (.pcells (sc e.2.2))) := ((((Kp.refl _ _).app _).app _).set _ _ (.inr (Nat.le_refl _))).set _ _ (.inr (by simp))
    have hJ2k : hget (hset (hset (J ++ [HObj.pcells (oc ⟨[], [], 0⟩)] ++ [HObj.pcells (sc s0)]) J.length (.pcells (oc e.2.1))) (J ++ [HObj.pcells (oc ⟨[], [], 0⟩)]).length (.pcells (sc e.2.2))) J.length = .pcells (oc e.2.1) := by rw [hset_two1, hset_two2, hget_two1]
    obtain ⟨J3, g1, g2⟩ := del_test e.2.1 e.2.2 q pod (hJ2.get ((hs1.get hq (by intro h; cases h) (by simpa using hqm))) (by intro h; cases h) (by simp))
    have hs4 := hs1.step (hJ2.step g2)
    have hs5 := (hJ2.step g2).get hs3 (by intro h; cases h) (by simp)
    have hJ3k := g2.get hJ2k (by intro h; cases h) (by simp)
    have hit3 := (hJ2.step g2).get hit (by intro h; cases h) (by simp)
    by_cases b1 : e.2.1.pod = pod
    · rw [decide_eq_true b1] at g1
      refine callSK_has g1 ?_
      refine hgetK_has _ hJ3k ?_
      refine secK_has (v := oc e.2.1) rfl (Nat.le_refl _) ?_
      refine hgetK_has _ hs5 ?_
      have hkv : Keys ((E.filter (stays pod vs)).map (·.2)) := ((List.filter_sublist.map _).map _).nodup hk
      obtain ⟨f, hf, hd, _⟩ := del_row hkv hs5 hstv (List.Perm.refl _) e.2.1
      refine bindK_has hf ?_
      refine Has.intro ⟨?_, ⟨hs4.set _ _ (.inl (by simp)), ?_, ?_⟩, ?_⟩
      · (repeat (first | exact trivial | refine ⟨rfl, ?_⟩))
      · rw [hset_len]; exact Nat.lt_of_lt_of_le hs2 (hJ2.step g2).1
      · refine (hget_hset_same _ (hget_lt hs5 (by intro h; cases h))).trans (hd.trans ?_)
        congr 2
        rw [List.filter_filter]
        refine List.filter_congr fun a ha => ?_
        rw [Bool.eq_iff_iff, Bool.and_eq_true, decide_eq_true_iff, stays_iff, stays_iff]
        constructor
        · rintro ⟨c1, c2⟩ c3
          rcases List.mem_append.1 c3 with c3 | c3
          · exact c2 c3
          · exact absurd (congrArg (·.2.1) (ent_inj hst ha heE (List.mem_singleton.1 c3))) c1
        · intro c
          refine ⟨fun c1 => ?_, fun c3 => c (List.mem_append_left _ c3)⟩
          obtain rfl := key_inj hk ha heE c1
          exact c (List.mem_append_right _ (List.mem_singleton.2 rfl)) b1
      · exact (hget_hset_ne _ _ (by omega)).trans hit3
    · rw [decide_eq_false b1] at g1
      refine callSK_has g1 ?_
      refine Has.intro ⟨?_, ⟨hs4, Nat.lt_of_lt_of_le hs2 (hJ2.step g2).1, ?_⟩, hit3⟩
      · (repeat (first | exact trivial | refine ⟨rfl, ?_⟩))
      · rw [hs5]
        congr 2
        refine List.filter_congr fun a ha => ?_
        rw [Bool.eq_iff_iff, stays_iff, stays_iff]
        constructor
        · intro c c3
          rcases List.mem_append.1 c3 with c3 | c3
          · exact c c3
          · rw [ent_inj hst ha heE (List.mem_singleton.1 c3)]; exact b1
        · exact fun c c3 => c (List.mem_append_left _ c3)
  · intro vs r h h1 hh
    refine Has.intro ⟨rfl, trivial, fun i o hne ho => ?_, hh.1.1⟩
    split at ho
    · injection ho with ho
      subst ho
      split
      · rename_i hi he
        subst he
        refine hh.2.2.trans ?_
        congr 2
        refine List.filter_congr fun e he => ?_
        rw [Bool.eq_iff_iff, stays_iff, decide_eq_true_iff]
        exact ⟨fun h => h (h1.symm.subset (List.mem_map.2 ⟨e, he, rfl⟩)), fun h _ => h⟩
      · rename_i hi he
        exact hh.1.2 i hi (by simpa using he)
    · cases ho
  · refine ⟨(Kp.refl _ _).app _, by simp, ?_⟩
    rw [hget_app _ hml, hm]
    congr 2
    exact (List.filter_eq_self.2 fun e he => stays_iff.2 fun h => by cases h).symm
  · exact hget_append_same _ _
  · intro i hi hne
    rw [List.length_append, List.length_singleton] at hi
    exact ⟨_, if_pos (by omega)⟩
  · intro r H' hG hn
    refine Has.intro ⟨rfl, ⟨hn, fun i hi hne => ?_⟩, ?_⟩
    · exact hG i _ (by omega) (by rw [if_pos hi, if_neg (by simpa using hne)])
    · exact hG m _ (by omega) (by rw [if_pos hml, if_pos rfl])
end Go.Proofs.Ytkkpkoekbmgabaa
