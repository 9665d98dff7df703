/-
  Blocks: Same.
-/
import Derived.Test.YtkkpkoekbmgabaaBsH
set_option linter.all false
set_option linter.unusedVariables false
set_option linter.unusedSimpArgs false
set_option linter.unusedSectionVars false
namespace Go.Proofs.Ytkkpkoekbmgabaa
open Go Go.VM
variable {H : Heap} {p m m' : Nat} {zs : List Zn} {L : List Rw}

def eqRows (A B : List Rw) : Prop := A.length = B.length ∧ ∀ r ∈ A, r ∈ B
instance (A B : List Rw) : Decidable (eqRows A B) := by unfold eqRows; infer_instance
theorem mequal_ok {clk clk' : Nat} {E E' : List (Nat × Rw)} (hm : hget H m = .map clk (E.map ent)) (hst : Stamps clk (E.map ent)) (hm' : hget H m' = .map clk' (E'.map ent)) (hk' : Keys (E'.map (·.2))) :
    ∃ H', EE env (.fn 36) [.map m, .map m'] H = some (.pv (.bool (decide (eqRows (E.map (·.2)) (E'.map (·.2))))), H') ∧ Kp [] H H' := by
  refine Has.sh (EE_has ?_)
  refine hgetK_has _ hm ?_
  refine hgetK_has _ hm' ?_
  refine boolK_bne (fun h1 => ?_) (fun h1 => ?_)
  · refine Has.intro ⟨?_, Kp.refl _ _⟩
    rw [decide_eq_false (fun h : eqRows _ _ => h1 (by have := h.1; rw [List.length_map, List.length_map] at this; rw [List.length_map, List.length_map, this]))]
    rfl
  refine hgetK_has _ hm ?_
  have hlen : E.length = E'.length := by rw [List.length_map, List.length_map] at h1; omega
  -- one entry
  have step : ∀ (V : List (Nat × Rw)) (x : Nat × Rw) (r : Regs) (h : Heap), x ∈ E → Kp [] H h → hget h m = .map clk (E.map ent) → hget h H.length = .iter (some m) clk ((V.map ent).map (·.1) ++ [(ent x).1]) clk →
      Has (evK env (EE env) (c36.at [1, 1, 0, 1, 0, 0]) Res (upd (setL r [(15, .ptr H.length 0), (0, .map m), (1, .map m')]) 16 (.pv (.tup [.bool true, (ent x).2.1, (ent x).2.2]))) h doneK) fun y =>
        (x.2 ∈ E'.map (·.2) → y.1 = .normal ∧ Agr y.2.1 [(15, .ptr H.length 0), (0, .map m), (1, .map m')] ∧ Kp [] h y.2.2) ∧ (x.2 ∉ E'.map (·.2) → y.1 = .ret ∧ Agr y.2.1 [(4, .pv (.bool false))] ∧ Kp [] h y.2.2) := by
    intro V x r h hx hk hmp hit
    have he := hx
    (refine hgetK_has _ hit ?_; refine hgetK_has _ hmp ?_; refine needK_has (by rw [Nat.beq_refl, Nat.beq_refl]; rfl) ?_; refine bindK_has (List.getLast?_concat) ?_; refine bindK_has (find_stamp hst (List.mem_map.2 ⟨_, he, rfl⟩)) ?_)
    (repeat (first | refine hgetK_last ?_ | refine hgetK_set ?_ | refine hgetK_two1 ?_ | refine hgetK_two2 ?_ | refine hgetK_two3 ?_ | refine hgetK_two4 ?_ | refine hgetK_two5 ?_ | refine needK_has rfl ?_ | refine getK_has rfl ?_ | refine secK_has rfl (by first | exact Nat.le_refl _ | decide | exact Nat.le_of_ble_eq_true rfl) ?_ | refine eqK_has ?_))
    obtain ⟨J2, hJ2e⟩ : ∃ J2, J2 = hset (hset (h ++ [HObj.pcells (oc ⟨[], [], 0⟩)] ++ [HObj.pcells (sc s0)]) h.length (.pcells (oc x.2.1))) (h ++ [HObj.pcells (oc ⟨[], [], 0⟩)]).length (.pcells (sc x.2.2)) := ⟨_, rfl⟩
    have hJ2 : Kp [] h J2 := by rw [hJ2e]; exact ((((Kp.refl _ _).app _).app _).set _ _ (.inr (Nat.le_refl _))).set _ _ (.inr (by simp))
    have hb : hget J2 (h ++ [HObj.pcells (oc ⟨[], [], 0⟩)]).length = .pcells (sc x.2.2) := by
      rw [hJ2e, hset_two1, hset_two2, show (h ++ [HObj.pcells (oc ⟨[], [], 0⟩)]).length = (h ++ [HObj.pcells (oc x.2.1)]).length by simp, hget_append_same]
    have hm2 : hget J2 m' = .map clk' (E'.map ent) := hJ2.get (hk.get hm' (by intro h; cases h) (by simp)) (by intro h; cases h) (by simp)
    rw [hJ2e] at hb hm2 hJ2
    refine hgetK_has _ hm2 ?_
    have hkA : ∀ a b, Kp [] h (hset (hset (hset (h ++ [HObj.pcells (oc ⟨[], [], 0⟩)] ++ [HObj.pcells (sc s0)]) h.length (.pcells (oc x.2.1))) (h ++ [HObj.pcells (oc ⟨[], [], 0⟩)]).length (.pcells (sc x.2.2)) ++ [a]) (hset (hset (h ++ [HObj.pcells (oc ⟨[], [], 0⟩)] ++ [HObj.pcells (sc s0)]) h.length (.pcells (oc x.2.1))) (h ++ [HObj.pcells (oc ⟨[], [], 0⟩)]).length (.pcells (sc x.2.2))).length b) := fun a b => (hJ2.app _).set _ _ (.inr hJ2.1)
    rcases find_row x.2.1 E' 0 with ⟨c1, c2⟩ | ⟨A, e, B, c1, c2, c3⟩
    · have hno : x.2 ∉ E'.map (·.2) := fun hin => by
        obtain ⟨e, he1, he2⟩ := List.mem_map.1 hin
        exact c1 e he1 (by rw [he2])
      refine bindK_has c2 ?_
      (repeat (first | refine hgetK_last ?_ | refine hgetK_set ?_ | refine hgetK_two1 ?_ | refine hgetK_two2 ?_ | refine hgetK_two3 ?_ | refine hgetK_two4 ?_ | refine hgetK_two5 ?_ | refine needK_has rfl ?_ | refine getK_has rfl ?_ | refine secK_has rfl (by first | exact Nat.le_refl _ | decide | exact Nat.le_of_ble_eq_true rfl) ?_ | refine eqK_has ?_))
      refine Has.intro ⟨fun h => absurd h hno, fun _ => ⟨rfl, by (repeat (first | exact trivial | refine ⟨rfl, ?_⟩)), hkA _ _⟩⟩
    · refine bindK_has c3 ?_
      (repeat (first | refine hgetK_last ?_ | refine hgetK_set ?_ | refine hgetK_two1 ?_ | refine hgetK_two2 ?_ | refine hgetK_two3 ?_ | refine hgetK_two4 ?_ | refine hgetK_two5 ?_ | refine needK_has rfl ?_ | refine getK_has rfl ?_ | refine secK_has rfl (by first | exact Nat.le_refl _ | decide | exact Nat.le_of_ble_eq_true rfl) ?_ | refine eqK_has ?_))
      have hbl := hget_lt hb (by intro h; cases h)
      have hb2 : ∀ a b, hget (hset (hset (hset (h ++ [HObj.pcells (oc ⟨[], [], 0⟩)] ++ [HObj.pcells (sc s0)]) h.length (.pcells (oc x.2.1))) (h ++ [HObj.pcells (oc ⟨[], [], 0⟩)]).length (.pcells (sc x.2.2)) ++ [a]) (hset (hset (h ++ [HObj.pcells (oc ⟨[], [], 0⟩)] ++ [HObj.pcells (sc s0)]) h.length (.pcells (oc x.2.1))) (h ++ [HObj.pcells (oc ⟨[], [], 0⟩)]).length (.pcells (sc x.2.2))).length b) (h ++ [HObj.pcells (oc ⟨[], [], 0⟩)]).length = .pcells (sc x.2.2) := fun a b =>
        (hget_hset_ne _ _ (Nat.ne_of_lt hbl)).trans ((hget_app _ hbl).trans hb)
      refine hgetK_has _ (hb2 _ _) ?_
      refine secK_has (v := sc x.2.2) rfl (Nat.le_refl _) ?_
      refine hgetK_set ?_
      refine secK_has (v := sc e.2.2) rfl (Nat.le_refl _) ?_
      refine bindK_has (sd_eq x.2.2 e.2.2) ?_
      have hmem : x.2.2 = e.2.2 ↔ x.2 ∈ E'.map (·.2) := by
        constructor
        · intro h
          refine List.mem_map.2 ⟨e, by rw [c1]; simp, ?_⟩
          exact Prod.ext c2 h.symm
        · intro h
          obtain ⟨e', he1, he2⟩ := List.mem_map.1 h
          have := key_inj hk' he1 (show e ∈ E' by rw [c1]; simp) (by rw [he2, c2])
          rw [← this, he2]
      by_cases hs : x.2.2 = e.2.2
      · rw [decide_eq_true hs]
        refine boolK_has_false rfl ?_
        exact Has.intro ⟨fun _ => ⟨rfl, by (repeat (first | exact trivial | refine ⟨rfl, ?_⟩)), hkA _ _⟩, fun h => absurd (hmem.1 hs) h⟩
      · rw [decide_eq_false hs]
        refine boolK_has_true rfl ?_
        exact Has.intro ⟨fun h => absurd (hmem.2 h) hs, fun _ => ⟨rfl, by (repeat (first | exact trivial | refine ⟨rfl, ?_⟩)), hkA _ _⟩⟩
  by_cases hq : eqRows (E.map (·.2)) (E'.map (·.2))
  · rw [decide_eq_true hq]
    refine rangeM_readT hm hst (fun V => [(0, .map m), (1, .map m')]) (fun _ => True) (.exit 0) [] ?_ ?_ (by (repeat (first | exact trivial | refine ⟨rfl, ?_⟩))) trivial ?_
    · intro V x r h hV he hn hnd _ hk hl hmp hit
      refine Has.mono (step V x r h he hk hmp hit) fun y hy => ?_
      have := hy.1 (hq.2 _ (List.mem_map.2 ⟨x, he, rfl⟩))
      rw [this.1]
      exact ⟨this.2.1, this.2.2, trivial⟩
    · intro V r h hV _ hk hmp
      exact Has.intro ⟨rfl, trivial, Kp.refl _ _⟩
    · intro r H' hk
      exact Has.intro ⟨rfl, hk⟩
  · rw [decide_eq_false hq]
    refine rangeM_readT hm hst (fun V => [(0, .map m), (1, .map m')]) (fun V => ∀ x ∈ V, x.2 ∈ E'.map (·.2)) .ret [(4, .pv (.bool false))] ?_ ?_ (by (repeat (first | exact trivial | refine ⟨rfl, ?_⟩))) (fun x hx => by cases hx) ?_
    · intro V x r h hV he hn hnd ho hk hl hmp hit
      refine Has.mono (step V x r h he hk hmp hit) fun y hy => ?_
      by_cases hx : x.2 ∈ E'.map (·.2)
      · have := hy.1 hx
        rw [this.1]
        refine ⟨this.2.1, this.2.2, fun y hy => ?_⟩
        rcases List.mem_append.1 hy with hy | hy
        · exact ho y hy
        · rw [List.mem_singleton.1 hy]; exact hx
      · have := hy.2 hx
        rw [this.1]
        exact ⟨rfl, this.2⟩
    · intro V r h hV ho hk hmp
      refine absurd ⟨by rw [List.length_map, List.length_map, hlen], fun r hr => ?_⟩ hq
      obtain ⟨x, hx, rfl⟩ := List.mem_map.1 hr
      exact ho x (hV.symm.subset hx)
    · intro r H' hk
      exact Has.intro ⟨rfl, hk⟩
theorem zn_eq (a b : Zn) : aggEq [.i, .i, .i, .i] (zc a) (zc b) = some (decide (a = b)) := by
  show some _ = some _
  congr 1
  rw [Bool.eq_iff_iff, decide_eq_true_iff]
  obtain ⟨a1, a2, a3, a4⟩ := a
  obtain ⟨b1, b2, b3, b4⟩ := b
  simp only [Bool.and_eq_true, beq_iff_eq, Zn.mk.injEq]
  constructor
  · rintro ⟨h1, h2, h3, h4, _⟩; exact ⟨h1, h2, h3, h4⟩
  · rintro ⟨h1, h2, h3, h4⟩; exact ⟨h1, h2, h3, h4, trivial⟩
theorem sequal_ok (x y : Ext) (a b : List Zn) (ha : a.length ≤ 1000000) : EP (EE env) 35 [.sl x a.length (zcs a), .sl y b.length (zcs b)] = some (.bool (decide (a = b))) := by
  refine Has.eq (EP_has ?_)
  refine boolK_bne (fun h1 => ?_) (fun h1 => ?_)
  · rw [decide_eq_false (fun h => h1 (by rw [h]))]
    exact Has.intro (Has.intro rfl)
  · have hl : a.length = b.length := by omega
    refine loopK_has ?_
    refine iterE_upK a.length (fun i => [(13, .pv (iv i)), (12, .pv (iv a.length)), (0, .pv (.sl x a.length (zcs a))), (1, .pv (.sl y b.length (zcs b)))]) (fun i h => h = [] ∧ ∀ j : Nat, j < i → a[j]? = b[j]?) (fun i hi r h hh => ?_) (fun r h hh => ?_) (by (repeat (first | exact trivial | refine ⟨rfl, ?_⟩))) ⟨rfl, fun j hj => by omega⟩
    · obtain ⟨rfl, hh⟩ := hh
      refine boolK_dec_t (by omega) ?_
      refine needK_has (by simp; omega) ?_
      refine secK_has (v := zc a[i]) (zcs_get (List.getElem?_eq_getElem hi)) (by rw [zcs_len]; show i * 4 + 4 ≤ _; omega) ?_
      refine needK_has (by simp; omega) ?_
      refine secK_has (v := zc (b[i]'(by omega))) (zcs_get (List.getElem?_eq_getElem (by omega))) (by rw [zcs_len]; show i * 4 + 4 ≤ _; omega) ?_
      refine bindK_has (zn_eq _ _) ?_
      by_cases he : a[i] = b[i]'(by omega)
      · rw [decide_eq_true he]
        refine boolK_has_false rfl ?_
        refine eqK_has_eq ((i + 1 : Nat) : Int) (i64_succ (by omega)) ?_
        refine Has.intro ⟨by (repeat (first | exact trivial | refine ⟨rfl, ?_⟩)), rfl, fun j hj => ?_⟩
        by_cases hji : j < i
        · exact hh j hji
        · obtain rfl : j = i := by omega
          rw [List.getElem?_eq_getElem hi, List.getElem?_eq_getElem (by omega), he]
      · rw [decide_eq_false he]
        refine boolK_has_true rfl ?_
        refine Has.intro (Has.intro (Has.intro ?_))
        rw [decide_eq_false (fun h => he (by subst h; rfl))]
    · obtain ⟨rfl, hh⟩ := hh
      refine boolK_dec_f (by omega) ?_
      refine Has.intro (Has.intro (Has.intro ?_))
      have : a = b := List.ext_getElem? fun j => by
        by_cases hj : j < a.length
        · exact hh j hj
        · rw [List.getElem?_eq_none (by omega), List.getElem?_eq_none (by omega)]
      rw [decide_eq_true this]
theorem eqRows_perm {A B A' B' : List Rw} (h1 : A.Perm A') (h2 : B.Perm B') : eqRows A B ↔ eqRows A' B' := by
  unfold eqRows
  rw [h1.length_eq, h2.length_eq]
  constructor
  · rintro ⟨a, b⟩; exact ⟨a, fun r hr => h2.subset (b r (h1.symm.subset hr))⟩
  · rintro ⟨a, b⟩; exact ⟨a, fun r hr => h2.symm.subset (b r (h1.subset hr))⟩
variable {p' : Nat} {zs' : List Zn} {L' : List Rw}
theorem same_ok (h : Tb H p zs m L) (h' : Tb H p' zs' m' L') : ∃ H', EE env (.fn 16) [.ptr p 0, .ptr p' 0] H = some (.pv (.bool (decide (zs = zs' ∧ eqRows L L'))), H') ∧ Kp [] H H' := by
  refine Has.sh (EE_has ?_)
  obtain ⟨x, hx⟩ := h.z.obj
  obtain ⟨x', hx'⟩ := h'.z.obj
  obtain ⟨clk, E, hm, hst, hpm⟩ := h.map
  obtain ⟨clk', E', hm', hst', hpm'⟩ := h'.map
  have hl := h.z.fit.2.2
  refine hgetK_has _ hx ?_
  refine hgetK_has _ hx' ?_
  refine callPK_dec (sequal_ok x x' zs zs' (by omega)) (fun hz => ?_) (fun hz => ?_)
  · refine hgetK_has _ hx ?_
    refine hgetK_has _ hx' ?_
    obtain ⟨J, g1, g2⟩ := mequal_ok hm hst hm' (h'.keys.perm hpm'.symm)
    refine callSK_has g1 ?_
    refine Has.intro ⟨?_, g2⟩
    have : decide (zs = zs' ∧ eqRows L L') = decide (eqRows (E.map (·.2)) (E'.map (·.2))) := by
      rw [Bool.eq_iff_iff, decide_eq_true_iff, decide_eq_true_iff, eqRows_perm hpm hpm']
      exact ⟨fun h => h.2, fun h => ⟨hz, h⟩⟩
    rw [this]; rfl
  · refine Has.intro ⟨?_, Kp.refl _ _⟩
    rw [decide_eq_false (fun h => hz h.1)]; rfl
end Go.Proofs.Ytkkpkoekbmgabaa
