/-
  HintLeast in the abstract machine.
-/
import Derived.Test.YtdbobcbjgacjpaaHnO
set_option linter.all false
set_option linter.unusedVariables false
set_option linter.unusedSimpArgs false
set_option linter.unusedSectionVars false
namespace Go.Proofs.Ytdbobcbjgacjpaa
open Go Go.VM

section
variable {R : Type} {Q : R → Prop} {G : List PV → Option R} {F N : Nat → Int} {nodes held mask most : Int}
theorem lF (h : Has (G (tab 16 (iv F))) Q) : Has (secK (caseC F N nodes held mask most) 0 16 G) Q := secK_has (v := tab 16 (iv F)) rfl (by show 16 ≤ 22; decide) h
theorem lN (h : Has (G (tab 2 (iv N))) Q) : Has (secK (caseC F N nodes held mask most) 19 2 G) Q := secK_has (v := tab 2 (iv N)) rfl (by show 21 ≤ 22; decide) h
theorem lR0 (h : Has (G (tab 8 (iv (row F 0)))) Q) : Has (secK (caseC F N nodes held mask most) 0 8 G) Q := secK_has (v := tab 8 (iv (row F 0))) rfl (by show 8 ≤ 22; decide) h
theorem lR1 (h : Has (G (tab 8 (iv (row F 1)))) Q) : Has (secK (caseC F N nodes held mask most) 8 8 G) Q := secK_has (v := tab 8 (iv (row F 1))) rfl (by show 16 ≤ 22; decide) h
end
theorem case_at {F N : Nat → Int} {nodes held mask most : Int} {i : Nat} (hi : i < 16) : (caseC F N nodes held mask most)[i]? = some (.int .i64 (F i)) := by
  unfold caseC
  rw [List.getElem?_append_left (by rw [tab_len]; exact hi)]
  exact tab_get _ hi
theorem pad_rt {F N : Nat → Int} (h : rt F N) {k : Nat} (hk : k < 2) : rt (pad8 (row F k)) (pad1 (N k)) := by
  obtain ⟨h1, h2⟩ := h k hk
  intro k' hk'
  have : k' = 0 ∨ k' = 1 := by omega
  rcases this with rfl | rfl
  · refine ⟨fun i hi => ?_, h2⟩
    unfold pad8
    rw [show Nat.blt (8 * 0 + i) 8 = true from Nat.ble_eq_true_of_le (by omega), Nat.mul_zero, Nat.zero_add]
    exact h1 i hi
  · refine ⟨fun i hi => ?_, by show cb 0; decide⟩
    unfold pad8
    rw [show Nat.blt (8 * 1 + i) 8 = false from by cases hb : Nat.blt (8 * 1 + i) 8 with
      | false => rfl
      | true => have := Nat.le_of_ble_eq_true hb; omega]
    show cb 0; decide
theorem sm_congr {f g : Nat → Int} {l : List Nat} (h : ∀ x ∈ l, f x = g x) : sm f l = sm g l := by
  have h1 := sm_mono (f := f) (g := g) (l := l) fun x hx => Int.le_of_eq (h x hx)
  have h2 := sm_mono (f := g) (g := f) (l := l) fun x hx => Int.le_of_eq (h x hx).symm
  omega
theorem sm_zero (l : List Nat) : sm (fun _ => 0) l = 0 := by
  unfold sm
  induction l with
  | nil => rfl
  | cons a l ih => exact ih
theorem pad_right {F N : Nat → Int} {m : Nat} (h : rt F N) (hm : m < 256) (he : en F N m) {k : Nat} (hk : k < 2) : Right (pad8 (row F k)) (pad1 (N k)) m := by
  refine ⟨pad_rt h hk, by omega, by omega, ?_⟩
  rw [m8_nat hm]
  intro k' hk'
  have : k' = 0 ∨ k' = 1 := by omega
  rcases this with rfl | rfl
  · refine Int.le_trans (he k hk) (Int.le_of_eq (sm_congr fun x hx => ?_))
    have hx8 : x < 8 := List.mem_range.1 (List.mem_filter.1 hx).1
    show row F k x = pad8 (row F k) (8 * 0 + x)
    unfold pad8
    rw [Nat.mul_zero, Nat.zero_add, show Nat.blt x 8 = true from Nat.ble_eq_true_of_le (by omega)]; rfl
  · refine Int.le_of_eq ?_
    rw [sm_congr (g := fun _ => 0) (fun x _ => ?_), sm_zero]; rfl
    show pad8 (row F k) (8 * 1 + x) = 0
    unfold pad8
    rw [show Nat.blt (8 * 1 + x) 8 = false from by cases hb : Nat.blt (8 * 1 + x) 8 with
      | false => rfl
      | true => have := Nat.le_of_ble_eq_true hb; omega]; rfl
theorem shr_i64 {a i : Nat} (hi : i < 64) : ((a : Nat) : Int).fdiv (2 ^ (min ((i : Nat) : Int).toNat IntKind.i64.bits)) = ((a >>> i : Nat) : Int) := by
  have e : min ((i : Nat) : Int).toNat IntKind.i64.bits = i := by show min i 64 = i; omega
  rw [e, Int.fdiv_eq_ediv_of_nonneg _ (Int.le_of_lt (Int.pow_pos (by decide))), Nat.shiftRight_eq_div_pow]
  simp
theorem and1_i64 : ∀ a : Nat, a < 256 → IntKind.i64.wrap ((BitVec.ofInt IntKind.i64.bits (a : Int) &&& BitVec.ofInt IntKind.i64.bits 1).toNat : Int) = ((a % 2 : Nat) : Int) := by decide +kernel
theorem off_i64 : ∀ m : Nat, m < 256 → ∀ i : Nat, i < 8 → IntKind.i64.wrap ((BitVec.ofInt IntKind.i64.bits (m : Int) &&& ~~~ BitVec.ofInt IntKind.i64.bits ((2 ^ i : Nat) : Int)).toNat : Int) = ((m &&& (255 - 2 ^ i) : Nat) : Int) := by decide +kernel
theorem bit_mod (m i : Nat) : m.testBit i = decide ((m >>> i) % 2 = 1) := by rw [Nat.testBit_eq_decide_div_mod_eq, ← Nat.shiftRight_eq_div_pow]

set_option maxRecDepth 4000 in
set_option maxHeartbeats 1000000 in
theorem least_ok' (ps : List PV) (h : HasArgs [TC] ps) : ∃ H', EE env (.fn 4) (ps.map .pv) [] = some (.pv (.bool true), H') := by
  obtain ⟨F, N, nodes, held, mask, most, rfl, _⟩ := arg_case h
  clear h
  have h7 := hint_ok F N nodes
  refine law_end (EE_has ?_)
  refine callPK_has first_ok ?_
  (refine hgetK_has (.pcells (caseC F N nodes held mask most)) rfl ?_)
  refine lF ?_
  (refine hgetK_has (.pcells (caseC F N nodes held mask most)) rfl ?_)
  refine getK_has rfl ?_
  (refine hgetK_has (.pcells (caseC F N nodes held mask most)) rfl ?_)
  refine lN ?_
  cases hW : wv F N nodes 0 with
  | none =>
    rw [hW] at h7
    refine callPK_has h7 ?_
    refine boolK_beq_t rfl ?_
    exact Has.intro rfl
  | some m =>
    rw [hW] at h7
    have h7' : EP (EE env) 7 [.agg (tab 16 (iv F)), .int .i64 nodes, .agg (tab 2 (iv N))] = some (.tup [.int .i64 (m : Int), .bool true]) := h7
    obtain ⟨kk, _, hkk, hfit, hmp, hen, _⟩ := wv_some hW
    have hp : 2 ^ kk ≤ 2 ^ 8 := Nat.pow_le_pow_right (by decide) hkk
    have hm : m < 256 := by omega
    have hrt := hfit.1
    have hl := fun i (hi : i < 8) (hb : m.testBit i = true) => least hW hi hb
    clear hW h7 hmp hp
    refine callPK_has h7' ?_
    (refine hgetK_has (.pcells (caseC F N nodes held mask most)) rfl ?_)
    refine lF ?_
    (refine hgetK_has (.pcells (caseC F N nodes held mask most)) rfl ?_)
    refine lN ?_
    refine callPK_dec_t (Enough_ok F N m) ⟨hrt, by omega, by omega, by rw [m8_nat hm]; exact hen⟩ ?_
    refine loopK_has ?_
    refine iterE_up 8 (fun i => [(1, .ptr 0 0), (3, .pv (.int .i64 m)), (35, .pv (.int .i64 i))]) (fun _ => [.pcells (caseC F N nodes held mask most)]) (fun i hi r => ?_) (fun r => ?_) ⟨rfl, rfl, rfl, trivial⟩ rfl
    · have hsh : m >>> i ≤ m := Nat.shiftRight_le _ _
      refine boolK_dec_t (by omega) ?_
      refine needK_has (by (first | rfl | (simp; done) | (simp; omega))) ?_
      refine eqK_has_eq _ (shr_i64 (by omega)) ?_
      refine eqK_has_eq _ (and1_i64 _ (by omega)) ?_
      have hb := bit_mod m i
      refine boolK_beq (fun h => ?_) (fun h => ?_)
      · rw [decide_eq_true (by omega)] at hb
        (refine hgetK_has (.pcells (caseC F N nodes held mask most)) rfl ?_)
        refine lF ?_
        refine needK_has (by (first | rfl | (simp; done) | (simp; omega))) ?_
        refine eqK_has_eq _ (shl1_64 (by omega)) ?_
        refine eqK_has_eq _ (off_i64 m hm i hi) ?_
        (refine hgetK_has (.pcells (caseC F N nodes held mask most)) rfl ?_)
        refine lN ?_
        have h1 := (bit_off m hm i hi hb).1
        refine callPK_dec_f (Enough_ok F N _) (fun h => ?_) ?_
        · have := h.2.2.2
          rw [m8_nat (by omega)] at this
          exact hl i hi hb this
        refine eqK_has_eq _ (i64_succ (by omega)) ?_
        exact Has.intro ⟨⟨rfl, rfl, rfl, trivial⟩, rfl⟩
      · refine eqK_has_eq _ (i64_succ (by omega)) ?_
        exact Has.intro ⟨⟨rfl, rfl, rfl, trivial⟩, rfl⟩
    refine boolK_dec_f (by omega) ?_
    refine Has.intro ?_
    refine loopK_has ?_
    have hov := fun k (hk : k < 2) => over_ok' (row F k) m (N k)
    have hR := fun k (hk : k < 2) => pad_right hrt hm hen hk
    have hO : ∀ k, k < 2 → ovO (row F k) m (N k) = (ovn (row F k) m (N k) 8).2 := fun k hk => by
      unfold ovO; rw [if_pos (hR k hk), m8_nat hm]
    refine iterE_up 2 (fun k => [(1, .ptr 0 0), (3, .pv (.int .i64 m)), (55, .pv (.int .i64 k))]) (fun k => .pcells (caseC F N nodes held mask most) :: (List.range k).map fun j => .pcells (tab 8 (iv (ovO (row F j) m (N j))))) (fun k hk r => ?_) (fun r => ?_) ⟨rfl, rfl, rfl, trivial⟩ rfl
    · have hf : ∀ i, i < 8 → cb (row F k i) := (hrt k hk).1
      have hn : cb (N k) := (hrt k hk).2
      have hs : N k ≤ sm (row F k) (nds m) := hen k hk
      have hcall := hov k hk
      rw [decide_eq_true (hR k hk)] at hcall
      have hOk := hO k hk
      refine boolK_dec_t (by omega) ?_
      generalize hOO : ovO (row F k) m (N k) = O at *
      have hget : ∀ i, i < 8 → O i = oz (row F k) m (N k) i := fun i hi => by rw [hOk, ovn_snd, if_pos hi]
      have hsum := osum_all hf hn hs
      have hk2 : k = 0 ∨ k = 1 := by omega
      rcases hk2 with rfl | rfl
      all_goals
        refine needK_has rfl ?_
        (refine hgetK_has (.pcells (caseC F N nodes held mask most)) rfl ?_)
        first | refine lR0 ?_ | refine lR1 ?_
        refine needK_has rfl ?_
        (refine hgetK_has (.pcells (caseC F N nodes held mask most)) rfl ?_)
        refine getK_has rfl ?_
        refine callPK_has hcall ?_
        refine hgetK_has _ rfl ?_
        refine needK_has rfl ?_
        refine eqK_has_eq (tab 8 (iv O)) rfl ?_
        refine hgetK_has _ rfl ?_
        refine secK_has (v := tab 8 (iv O)) (tab_sec _).1 (tab_sec _).2 ?_
        refine loopK_has ?_
      · refine iterE_up 8 (fun i => [(1, .ptr 0 0), (3, .pv (.int .i64 m)), (6, .pv (.int .i64 0)), (8, .pv (.bool true)), (9, .pv (.int .i64 (osum (row F 0) m (N 0) i))), (55, .pv (.int .i64 0)), (71, .pv (.agg (tab 8 (iv O)))), (72, .pv (.int .i64 i))]) (fun _ => [.pcells (caseC F N nodes held mask most), .pcells (tab 8 (iv O))]) (fun i hi r => ?_) (fun r => ?_) ⟨rfl, rfl, rfl, rfl, rfl, rfl, rfl, rfl, trivial⟩ rfl
        · have hz := oz_bd hf hn (u := m) hi
          have ho1 := osum_bd hf hn (u := m) (i + 1) (by omega)
          have hgi := hget i hi
          have hsh : m >>> i ≤ m := Nat.shiftRight_le _ _
          have hn2 := hn.2
          refine boolK_dec_t (by omega) ?_
          refine needK_has (by (first | rfl | (simp; done) | (simp; omega))) ?_
          refine getK_has (v := .int .i64 (O i)) (tab_get _ hi) ?_
          rw [hgi]
          refine boolK_dec_f (by omega) ?_
          refine needK_has rfl ?_
          refine needK_has (by (first | rfl | (simp; done) | (simp; omega))) ?_
          (refine hgetK_has (.pcells (caseC F N nodes held mask most)) rfl ?_)
          refine getK_has (v := .int .i64 (row F 0 i)) (by
            have e : addO (addO 0 (mulE 0 8)) (mulE i 1) = 0 + i := by show addO 0 i = 0 + i; unfold addO; cases Nat.beq i 0 <;> simp
            exact (congrArg (fun z => (caseC F N nodes held mask most)[z]?) e).trans ((case_at (by omega)).trans rfl)) ?_
          refine boolK_dec_f (by omega) ?_
          have hb := bit_mod m i
          refine boolK_dec (fun hpos => ?_) (fun hpos => ?_)
          · have := hz.2.2 hpos
            rw [this] at hb
            have hb' := of_decide_eq_true hb.symm
            refine needK_has (by (first | rfl | (simp; done) | (simp; omega))) ?_
            refine eqK_has_eq _ (shr_i64 (by omega)) ?_
            refine eqK_has_eq _ (and1_i64 _ (by omega)) ?_
            refine boolK_beq_f (by omega) ?_
            refine eqK_has_eq (osum (row F 0) m (N 0) (i + 1)) ((wrap_i64 (by show _ ≤ osum (row F 0) m (N 0) (i + 1); omega) (by show osum (row F 0) m (N 0) (i + 1) ≤ _; omega)).trans rfl) ?_
            refine eqK_has_eq _ (i64_succ (by omega)) ?_
            exact Has.intro ⟨⟨rfl, rfl, rfl, rfl, rfl, rfl, rfl, rfl, trivial⟩, rfl⟩
          · refine eqK_has_eq (osum (row F 0) m (N 0) (i + 1)) ((wrap_i64 (by show _ ≤ osum (row F 0) m (N 0) (i + 1); omega) (by show osum (row F 0) m (N 0) (i + 1) ≤ _; omega)).trans rfl) ?_
            refine eqK_has_eq _ (i64_succ (by omega)) ?_
            exact Has.intro ⟨⟨rfl, rfl, rfl, rfl, rfl, rfl, rfl, rfl, trivial⟩, rfl⟩
        refine boolK_dec_f (by omega) ?_
        refine Has.intro ?_
        rw [hsum]
        refine needK_has rfl ?_
        (refine hgetK_has (.pcells (caseC F N nodes held mask most)) rfl ?_)
        refine getK_has rfl ?_
        refine boolK_bne_f rfl ?_
        refine eqK_has_eq _ (i64_succ (i := 0) (by decide)) ?_
        refine Has.intro ⟨⟨rfl, rfl, rfl, trivial⟩, ?_⟩
        show _ = [_, HObj.pcells (tab 8 (iv (ovO (row F 0) m (N 0))))]
        rw [hOO]
      · refine iterE_up 8 (fun i => [(1, .ptr 0 0), (3, .pv (.int .i64 m)), (6, .pv (.int .i64 1)), (8, .pv (.bool true)), (9, .pv (.int .i64 (osum (row F 1) m (N 1) i))), (55, .pv (.int .i64 1)), (71, .pv (.agg (tab 8 (iv O)))), (72, .pv (.int .i64 i))]) (fun _ => [.pcells (caseC F N nodes held mask most), .pcells (tab 8 (iv (ovO (row F 0) m (N 0)))), .pcells (tab 8 (iv O))]) (fun i hi r => ?_) (fun r => ?_) ⟨rfl, rfl, rfl, rfl, rfl, rfl, rfl, rfl, trivial⟩ rfl
        · have hz := oz_bd hf hn (u := m) hi
          have ho1 := osum_bd hf hn (u := m) (i + 1) (by omega)
          have hgi := hget i hi
          have hsh : m >>> i ≤ m := Nat.shiftRight_le _ _
          have hn2 := hn.2
          refine boolK_dec_t (by omega) ?_
          refine needK_has (by (first | rfl | (simp; done) | (simp; omega))) ?_
          refine getK_has (v := .int .i64 (O i)) (tab_get _ hi) ?_
          rw [hgi]
          refine boolK_dec_f (by omega) ?_
          refine needK_has rfl ?_
          refine needK_has (by (first | rfl | (simp; done) | (simp; omega))) ?_
          (refine hgetK_has (.pcells (caseC F N nodes held mask most)) rfl ?_)
          refine getK_has (v := .int .i64 (row F 1 i)) (by
            have e : addO (addO 0 (mulE 1 8)) (mulE i 1) = 8 + i := by show addO 8 i = 8 + i; unfold addO; cases hb : Nat.beq i 0 with
              | true => have := Nat.eq_of_beq_eq_true hb; subst this; rfl
              | false => rfl
            exact (congrArg (fun z => (caseC F N nodes held mask most)[z]?) e).trans ((case_at (by omega)).trans rfl)) ?_
          refine boolK_dec_f (by omega) ?_
          have hb := bit_mod m i
          refine boolK_dec (fun hpos => ?_) (fun hpos => ?_)
          · have := hz.2.2 hpos
            rw [this] at hb
            have hb' := of_decide_eq_true hb.symm
            refine needK_has (by (first | rfl | (simp; done) | (simp; omega))) ?_
            refine eqK_has_eq _ (shr_i64 (by omega)) ?_
            refine eqK_has_eq _ (and1_i64 _ (by omega)) ?_
            refine boolK_beq_f (by omega) ?_
            refine eqK_has_eq (osum (row F 1) m (N 1) (i + 1)) ((wrap_i64 (by show _ ≤ osum (row F 1) m (N 1) (i + 1); omega) (by show osum (row F 1) m (N 1) (i + 1) ≤ _; omega)).trans rfl) ?_
            refine eqK_has_eq _ (i64_succ (by omega)) ?_
            exact Has.intro ⟨⟨rfl, rfl, rfl, rfl, rfl, rfl, rfl, rfl, trivial⟩, rfl⟩
          · refine eqK_has_eq (osum (row F 1) m (N 1) (i + 1)) ((wrap_i64 (by show _ ≤ osum (row F 1) m (N 1) (i + 1); omega) (by show osum (row F 1) m (N 1) (i + 1) ≤ _; omega)).trans rfl) ?_
            refine eqK_has_eq _ (i64_succ (by omega)) ?_
            exact Has.intro ⟨⟨rfl, rfl, rfl, rfl, rfl, rfl, rfl, rfl, trivial⟩, rfl⟩
        refine boolK_dec_f (by omega) ?_
        refine Has.intro ?_
        rw [hsum]
        refine needK_has rfl ?_
        (refine hgetK_has (.pcells (caseC F N nodes held mask most)) rfl ?_)
        refine getK_has rfl ?_
        refine boolK_bne_f rfl ?_
        refine eqK_has_eq _ (i64_succ (i := 1) (by decide)) ?_
        refine Has.intro ⟨⟨rfl, rfl, rfl, trivial⟩, ?_⟩
        show _ = [_, _, HObj.pcells (tab 8 (iv (ovO (row F 1) m (N 1))))]
        rw [hOO]
    refine boolK_dec_f (by omega) ?_
    refine Has.intro ?_
    exact Has.intro rfl
end Go.Proofs.Ytdbobcbjgacjpaa
