/-
  HintTells in the abstract machine: the walk.
-/
import Derived.Test.YtdbobcbjgacjpaaHnL
import Derived.Test.YtdbobcbjgacjpaaV8
set_option linter.all false
set_option linter.unusedVariables false
set_option linter.unusedSimpArgs false
set_option linter.unusedSectionVars false
namespace Go.Proofs.Ytdbobcbjgacjpaa
open Go Go.VM

section
variable {R : Type} {Q : R → Prop} {G : List PV → Option R} {F N : Nat → Int} {nodes held mask most : Int}
theorem ldF (h : Has (G (tab 16 (iv F))) Q) : Has (secK (caseC F N nodes held mask most) 0 16 G) Q := secK_has (v := tab 16 (iv F)) rfl (by show 16 ≤ 22; decide) h
theorem ldN (h : Has (G (tab 2 (iv N))) Q) : Has (secK (caseC F N nodes held mask most) 19 2 G) Q := secK_has (v := tab 2 (iv N)) rfl (by show 21 ≤ 22; decide) h
theorem ldR (h : Has (G (tab 8 (iv (row F 0)))) Q) : Has (secK (caseC F N nodes held mask most) 0 8 G) Q := secK_has (v := tab 8 (iv (row F 0))) rfl (by show 8 ≤ 22; decide) h
end

set_option maxRecDepth 4000 in
set_option maxHeartbeats 1000000 in
theorem tells_ok (ps : List PV) (h : HasArgs [TC] ps) : ∃ H', EE env (.fn 3) (ps.map .pv) [] = some (.pv (.bool true), H') := by
  obtain ⟨F, N, nodes, held, mask, most, rfl, _⟩ := arg_case h
  clear h
  have h7 := hint_ok F N nodes
  have h8 := with_ok F N nodes held
  have h9 := over_ok' (row F 0) mask (N 0)
  have hK : (max 0 (min most 300)).toNat ≤ 300 := by omega
  have hkmax := kmax most
  generalize (max 0 (min most 300)).toNat = K at *
  have h10 := hints_ok F N nodes K
  obtain ⟨x1, hx1⟩ := slv_sl (nl (hs F N nodes K))
  rw [hx1, nl_len] at h10
  have h11 := fits_ok F N
  have h11' := fits_ok (pad8 (row F 0)) (pad1 (N 0))
  have hof := rof_ok mask
  have hofh := rof_ok held
  have hz : ¬ Right (pad8 (row F 0)) (pad1 (N 0)) mask → ovO (row F 0) mask (N 0) = fun _ => 0 := fun h => by unfold ovO; rw [if_neg h]
  have hp : Right (pad8 (row F 0)) (pad1 (N 0)) mask → ovO (row F 0) mask (N 0) = (ovn (row F 0) (m8 mask) (N 0) 8).2 := fun h => by unfold ovO; rw [if_pos h]
  generalize ovO (row F 0) mask (N 0) = O at h9 hz hp
  generalize hb : decide (Right (pad8 (row F 0)) (pad1 (N 0)) mask) = b at h9
  generalize hW1 : wv F N nodes 0 = W1 at h7
  generalize hW2 : wv F N nodes held = W2 at h8
  generalize hL : hs F N nodes K = L at h10
  have h7' : EP (EE env) 7 [.agg (tab 16 (iv F)), .int .i64 nodes, .agg (tab 2 (iv N))] = some (.tup [.int .i64 ((W1.getD 0 : Nat) : Int), .bool W1.isSome]) := h7
  have h8' : EP (EE env) 8 [.agg (tab 16 (iv F)), .int .i64 nodes, .int .i64 held, .agg (tab 2 (iv N))] = some (.tup [.int .i64 ((W2.getD 0 : Nat) : Int), .bool W2.isSome]) := h8
  generalize hm1 : ((W1.getD 0 : Nat) : Int) = m1 at h7'
  generalize hk1 : W1.isSome = ok1 at h7'
  generalize hm2 : ((W2.getD 0 : Nat) : Int) = m2 at h8'
  generalize hk2 : W2.isSome = ok2 at h8'
  have hnone : ¬ fit F N nodes → W1 = none ∧ W2 = none ∧ L = [] := fun h => by
    refine ⟨hW1 ▸ ?_, hW2 ▸ ?_, hL ▸ ?_⟩
    · unfold wv; rw [if_neg (fun hh => h hh.1)]
    · unfold wv; rw [if_neg (fun hh => h hh.1)]
    · unfold hs; rw [if_neg h]
  refine law_end (EE_has (fn_has rfl ?_))
  refine seq_on [(1, .ptr 0 0)] [.pcells (caseC F N nodes held mask most)] (Has.intro ⟨rfl, ⟨rfl, trivial⟩, rfl⟩) (fun r => ?_)
  refine seq_on [(1, .ptr 0 0)] [.pcells (caseC F N nodes held mask most)] ?_ (fun r => ?_)
  · refine callPK_has first_ok ?_
    exact Has.intro ⟨rfl, ⟨rfl, trivial⟩, rfl⟩
  refine seq_on [(1, .ptr 0 0), (3, .pv (.int .i64 m1)), (4, .pv (.bool ok1))] [.pcells (caseC F N nodes held mask most)] ?_ (fun r => ?_)
  · (refine hgetK_has (.pcells (caseC F N nodes held mask most)) rfl ?_)
    refine ldF ?_
    (refine hgetK_has (.pcells (caseC F N nodes held mask most)) rfl ?_)
    refine getK_has rfl ?_
    (refine hgetK_has (.pcells (caseC F N nodes held mask most)) rfl ?_)
    refine ldN ?_
    refine callPK_has h7' ?_
    exact Has.intro ⟨rfl, ⟨rfl, rfl, rfl, trivial⟩, rfl⟩
  refine seq_on [(1, .ptr 0 0), (3, .pv (.int .i64 m1)), (4, .pv (.bool ok1)), (5, .pv (.int .i64 m2)), (6, .pv (.bool ok2))] [.pcells (caseC F N nodes held mask most)] ?_ (fun r => ?_)
  · (refine hgetK_has (.pcells (caseC F N nodes held mask most)) rfl ?_)
    refine ldF ?_
    (refine hgetK_has (.pcells (caseC F N nodes held mask most)) rfl ?_)
    refine getK_has rfl ?_
    (refine hgetK_has (.pcells (caseC F N nodes held mask most)) rfl ?_)
    refine getK_has rfl ?_
    (refine hgetK_has (.pcells (caseC F N nodes held mask most)) rfl ?_)
    refine ldN ?_
    refine callPK_has h8' ?_
    exact Has.intro ⟨rfl, ⟨rfl, rfl, rfl, rfl, rfl, trivial⟩, rfl⟩
  refine seq_on [(1, .ptr 0 0), (3, .pv (.int .i64 m1)), (4, .pv (.bool ok1)), (5, .pv (.int .i64 m2)), (6, .pv (.bool ok2)), (7, .ptr 1 0), (8, .pv (.bool b))] [.pcells (caseC F N nodes held mask most), .pcells (tab 8 (iv O))] ?_ (fun r => ?_)
  · refine needK_has rfl ?_
    (refine hgetK_has (.pcells (caseC F N nodes held mask most)) rfl ?_)
    refine ldR ?_
    (refine hgetK_has (.pcells (caseC F N nodes held mask most)) rfl ?_)
    refine getK_has rfl ?_
    refine needK_has rfl ?_
    (refine hgetK_has (.pcells (caseC F N nodes held mask most)) rfl ?_)
    refine getK_has rfl ?_
    refine callPK_has h9 ?_
    refine hgetK_has _ rfl ?_
    refine needK_has rfl ?_
    refine eqK_has_eq (tab 8 (iv O)) rfl ?_
    exact Has.intro ⟨rfl, ⟨rfl, rfl, rfl, rfl, rfl, rfl, rfl, trivial⟩, rfl⟩
  refine seq_on [(1, .ptr 0 0), (3, .pv (.int .i64 m1)), (4, .pv (.bool ok1)), (5, .pv (.int .i64 m2)), (6, .pv (.bool ok2)), (7, .ptr 1 0), (8, .pv (.bool b)), (9, .pv (.int .i64 ((K : Nat) : Int)))] [.pcells (caseC F N nodes held mask most), .pcells (tab 8 (iv O))] ?_ (fun r => ?_)
  · (refine hgetK_has (.pcells (caseC F N nodes held mask most)) rfl ?_)
    refine getK_has rfl ?_
    refine eqK_has_eq _ (kmin most) ?_
    refine eqK_has_eq _ hkmax ?_
    exact Has.intro ⟨rfl, ⟨rfl, rfl, rfl, rfl, rfl, rfl, rfl, rfl, trivial⟩, rfl⟩
  refine seq_on [(1, .ptr 0 0), (3, .pv (.int .i64 m1)), (4, .pv (.bool ok1)), (5, .pv (.int .i64 m2)), (6, .pv (.bool ok2)), (7, .ptr 1 0), (8, .pv (.bool b)), (9, .pv (.int .i64 ((K : Nat) : Int))), (10, .pv (.sl x1 L.length (ints (nl L))))] [.pcells (caseC F N nodes held mask most), .pcells (tab 8 (iv O))] ?_ (fun r => ?_)
  · (refine hgetK_has (.pcells (caseC F N nodes held mask most)) rfl ?_)
    refine ldF ?_
    (refine hgetK_has (.pcells (caseC F N nodes held mask most)) rfl ?_)
    refine getK_has rfl ?_
    (refine hgetK_has (.pcells (caseC F N nodes held mask most)) rfl ?_)
    refine ldN ?_
    refine callPK_has h10 ?_
    exact Has.intro ⟨rfl, ⟨rfl, rfl, rfl, rfl, rfl, rfl, rfl, rfl, rfl, trivial⟩, rfl⟩
  refine seq_on [(1, .ptr 0 0), (3, .pv (.int .i64 m1)), (4, .pv (.bool ok1)), (5, .pv (.int .i64 m2)), (6, .pv (.bool ok2)), (7, .ptr 1 0), (8, .pv (.bool b)), (9, .pv (.int .i64 ((K : Nat) : Int))), (10, .pv (.sl x1 L.length (ints (nl L)))), (11, .pv (.bool (decide (rt F N))))] [.pcells (caseC F N nodes held mask most), .pcells (tab 8 (iv O))] ?_ (fun r => ?_)
  · (refine hgetK_has (.pcells (caseC F N nodes held mask most)) rfl ?_)
    refine ldF ?_
    (refine hgetK_has (.pcells (caseC F N nodes held mask most)) rfl ?_)
    refine ldN ?_
    refine callPK_has h11 ?_
    exact Has.intro ⟨rfl, ⟨rfl, rfl, rfl, rfl, rfl, rfl, rfl, rfl, rfl, rfl, trivial⟩, rfl⟩
  refine seq_on [(1, .ptr 0 0), (3, .pv (.int .i64 m1)), (4, .pv (.bool ok1)), (5, .pv (.int .i64 m2)), (6, .pv (.bool ok2)), (9, .pv (.int .i64 ((K : Nat) : Int))), (10, .pv (.sl x1 L.length (ints (nl L)))), (11, .pv (.bool (decide (rt F N))))] [.pcells (caseC F N nodes held mask most), .pcells (tab 8 (iv O))] ?_ (fun r => ?_)
  · refine needK_has rfl ?_
    refine hgetK_has (.pcells (caseC F N nodes held mask most)) rfl ?_
    refine ldR ?_
    refine needK_has rfl ?_
    refine hgetK_has (.pcells (caseC F N nodes held mask most)) rfl ?_
    refine getK_has rfl ?_
    refine callPK_dec h11' (fun hone => ?_) (fun hone => ?_)
    focus
      refine hgetK_has (.pcells (caseC F N nodes held mask most)) rfl ?_
      refine getK_has rfl ?_
      refine boolK_dec (fun hm0 => ?_) (fun hm0 => ?_)
      focus
        have hR : ¬ Right (pad8 (row F 0)) (pad1 (N 0)) mask := fun hh => by have := hh.2.1; omega
        have hbf : b = false := by rw [← hb]; exact decide_eq_false hR
        subst hbf
        refine hgetK_has _ rfl ?_
        refine secK_has (v := tab 8 (iv O)) (tab_sec _).1 (tab_sec _).2 ?_
        refine bindK_has (v := true) (show aggEq _ (tab 8 (iv O)) (tab 8 (iv fun _ => 0)) = some true by rw [hz hR]; rfl) ?_
        refine boolK_has_false rfl ?_
      rotate_right
      focus
        refine hgetK_has (.pcells (caseC F N nodes held mask most)) rfl ?_
        refine getK_has rfl ?_
        refine boolK_dec (fun hm1 => ?_) (fun hm1 => ?_)
        focus
          have hR : ¬ Right (pad8 (row F 0)) (pad1 (N 0)) mask := fun hh => by have := hh.2.2.1; omega
          have hbf : b = false := by rw [← hb]; exact decide_eq_false hR
          subst hbf
          refine hgetK_has _ rfl ?_
          refine secK_has (v := tab 8 (iv O)) (tab_sec _).1 (tab_sec _).2 ?_
          refine bindK_has (v := true) (show aggEq _ (tab 8 (iv O)) (tab 8 (iv fun _ => 0)) = some true by rw [hz hR]; rfl) ?_
          refine boolK_has_false rfl ?_
        rotate_right
        focus
          refine needK_has rfl ?_
          refine hgetK_has (.pcells (caseC F N nodes held mask most)) rfl ?_
          refine ldR ?_
          refine hgetK_has (.pcells (caseC F N nodes held mask most)) rfl ?_
          refine getK_has rfl ?_
          refine callPK_has hof ?_
          refine needK_has rfl ?_
          refine hgetK_has (.pcells (caseC F N nodes held mask most)) rfl ?_
          refine getK_has rfl ?_
          refine callPK_dec (renough_ok (pad8 (row F 0)) (pad1 (N 0)) (m8 mask) hone) (fun hen => ?_) (fun hen => ?_)
          focus
            have hR : Right (pad8 (row F 0)) (pad1 (N 0)) mask := ⟨hone, by omega, by omega, hen⟩
            have hbt : b = true := by rw [← hb]; exact decide_eq_true hR
            subst hbt
            refine hgetK_has _ rfl ?_
            refine secK_has (v := tab 8 (iv O)) (tab_sec _).1 (tab_sec _).2 ?_
            refine needK_has rfl ?_
            refine hgetK_has (.pcells (caseC F N nodes held mask most)) rfl ?_
            refine ldR ?_
            refine hgetK_has (.pcells (caseC F N nodes held mask most)) rfl ?_
            refine getK_has rfl ?_
            refine callPK_has hof ?_
            refine needK_has rfl ?_
            refine hgetK_has (.pcells (caseC F N nodes held mask most)) rfl ?_
            refine getK_has rfl ?_
            refine callPK_has (rover_ok (row F 0) (m8 mask) (N 0) (pad8_row hone).1 (pad8_row hone).2) ?_
            refine bindK_has (v := true) ((aggEq8 _ _).trans (by rw [hp hR, decide_eq_true ((eq8_iff _ _).2 fun _ _ => rfl)])) ?_
            refine boolK_has_false rfl ?_
          rotate_right
          focus
            have hR : ¬ Right (pad8 (row F 0)) (pad1 (N 0)) mask := fun hh => hen hh.2.2.2
            have hbf : b = false := by rw [← hb]; exact decide_eq_false hR
            subst hbf
            refine hgetK_has _ rfl ?_
            refine secK_has (v := tab 8 (iv O)) (tab_sec _).1 (tab_sec _).2 ?_
            refine bindK_has (v := true) (show aggEq _ (tab 8 (iv O)) (tab 8 (iv fun _ => 0)) = some true by rw [hz hR]; rfl) ?_
            refine boolK_has_false rfl ?_
    rotate_right
    focus
      have hR : ¬ Right (pad8 (row F 0)) (pad1 (N 0)) mask := fun hh => hone hh.1
      have hbf : b = false := by rw [← hb]; exact decide_eq_false hR
      subst hbf
      refine hgetK_has _ rfl ?_
      refine secK_has (v := tab 8 (iv O)) (tab_sec _).1 (tab_sec _).2 ?_
      refine bindK_has (v := true) (show aggEq _ (tab 8 (iv O)) (tab 8 (iv fun _ => 0)) = some true by rw [hz hR]; rfl) ?_
      refine boolK_has_false rfl ?_
    all_goals exact Has.intro ⟨rfl, ⟨rfl, rfl, rfl, rfl, rfl, rfl, rfl, rfl, trivial⟩, rfl⟩
  refine seq_on [(1, .ptr 0 0), (3, .pv (.int .i64 m1)), (4, .pv (.bool ok1)), (5, .pv (.int .i64 m2)), (6, .pv (.bool ok2)), (9, .pv (.int .i64 ((K : Nat) : Int))), (10, .pv (.sl x1 L.length (ints (nl L)))), (11, .pv (.bool (decide (rt F N))))] [.pcells (caseC F N nodes held mask most), .pcells (tab 8 (iv O))] ?_ (fun r => ?_)
  · (refine hgetK_has (.pcells (caseC F N nodes held mask most)) rfl ?_)
    refine ldF ?_
    (refine hgetK_has (.pcells (caseC F N nodes held mask most)) rfl ?_)
    refine getK_has rfl ?_
    (refine hgetK_has (.pcells (caseC F N nodes held mask most)) rfl ?_)
    refine ldN ?_
    by_cases hrt : rt F N
    · rw [decide_eq_true hrt]
      refine callPK_dec (Enough_ok F N mask) (fun hE => ?_) (fun hE => ?_)
      focus
        refine hgetK_has (.pcells (caseC F N nodes held mask most)) rfl ?_
        refine getK_has rfl ?_
        refine boolK_dec_t hE.2.1 ?_
        refine hgetK_has (.pcells (caseC F N nodes held mask most)) rfl ?_
        refine getK_has rfl ?_
        refine boolK_dec_t hE.2.2.1 ?_
        refine hgetK_has (.pcells (caseC F N nodes held mask most)) rfl ?_
        refine ldF ?_
        refine hgetK_has (.pcells (caseC F N nodes held mask most)) rfl ?_
        refine getK_has rfl ?_
        refine callPK_has hof ?_
        refine hgetK_has (.pcells (caseC F N nodes held mask most)) rfl ?_
        refine ldN ?_
        refine callPK_dec_t (renough_ok F N (m8 mask) hrt) hE.2.2.2 ?_
        refine boolK_has_false rfl ?_
      rotate_right
      focus
        refine hgetK_has (.pcells (caseC F N nodes held mask most)) rfl ?_
        refine getK_has rfl ?_
        refine boolK_dec (fun hm0 => ?_) (fun hm0 => ?_)
        focus
          refine hgetK_has (.pcells (caseC F N nodes held mask most)) rfl ?_
          refine getK_has rfl ?_
          refine boolK_dec (fun hm1 => ?_) (fun hm1 => ?_)
          focus
            refine hgetK_has (.pcells (caseC F N nodes held mask most)) rfl ?_
            refine ldF ?_
            refine hgetK_has (.pcells (caseC F N nodes held mask most)) rfl ?_
            refine getK_has rfl ?_
            refine callPK_has hof ?_
            refine hgetK_has (.pcells (caseC F N nodes held mask most)) rfl ?_
            refine ldN ?_
            refine callPK_dec_f (renough_ok F N (m8 mask) hrt) (fun h => hE ⟨hrt, hm0, hm1, h⟩) ?_
        all_goals refine boolK_has_false rfl ?_
      all_goals exact Has.intro ⟨rfl, ⟨rfl, rfl, rfl, rfl, rfl, rfl, rfl, rfl, trivial⟩, rfl⟩
    · rw [decide_eq_false hrt]
      refine callPK_dec (Enough_ok F N mask) (fun hE => absurd hE.1 hrt) (fun hE => ?_)
      refine boolK_has_false rfl ?_
      exact Has.intro ⟨rfl, ⟨rfl, rfl, rfl, rfl, rfl, rfl, rfl, rfl, trivial⟩, rfl⟩
  by_cases hrt : rt F N
  · rw [decide_eq_true hrt]
    focus
      refine hgetK_has (.pcells (caseC F N nodes held mask most)) rfl ?_
      refine getK_has rfl ?_
      refine boolK_dec (fun hn0 => ?_) (fun hn0 => ?_)
      · obtain ⟨rfl, rfl, rfl⟩ := hnone (fun hh => by have := hh.2; omega)
        obtain rfl : m1 = 0 := hm1.symm
        obtain rfl : ok1 = false := hk1.symm
        obtain rfl : m2 = 0 := hm2.symm
        obtain rfl : ok2 = false := hk2.symm
        refine eqK_has_eq 0 rfl ?_
        refine eqK_has_eq 0 rfl ?_
        refine boolK_has_true rfl ?_
        exact Has.intro rfl
      refine hgetK_has (.pcells (caseC F N nodes held mask most)) rfl ?_
      refine getK_has rfl ?_
      refine boolK_dec (fun hn8 => ?_) (fun hn8 => ?_)
      · obtain ⟨rfl, rfl, rfl⟩ := hnone (fun hh => by have := hh.2; omega)
        obtain rfl : m1 = 0 := hm1.symm
        obtain rfl : ok1 = false := hk1.symm
        obtain rfl : m2 = 0 := hm2.symm
        obtain rfl : ok2 = false := hk2.symm
        refine eqK_has_eq 0 rfl ?_
        refine eqK_has_eq 0 rfl ?_
        refine boolK_has_true rfl ?_
        exact Has.intro rfl
      obtain ⟨n, rfl⟩ : ∃ n : Nat, nodes = n := ⟨nodes.toNat, by omega⟩
      have hn : n ≤ 8 := by omega
      have hfit : fit F N (n : Int) := ⟨hrt, by omega, by omega⟩
      have hHLl := hl_len (F := F) (N := N) hn
      have hHL256 : ∀ x ∈ hl F N n, x < 256 := fun x hx => by
        rcases List.mem_cons.1 (List.mem_filter.1 hx).1 with rfl | hx
        · decide
        · have h1 := msq_in n (by omega) x hx
          have : 2 ^ n ≤ 2 ^ 8 := Nat.pow_le_pow_right (by decide) hn
          omega
      have hrh := rhints_ok F N n hn hrt
      obtain ⟨x2, hx2⟩ := slv_sl (nl (hl F N n))
      rw [hx2, nl_len] at hrh
      rw [wv0 hfit] at hW1
      rw [wv_und hn held hfit] at hW2
      have hL' : L = (hl F N n).take K := by rw [← hL]; unfold hs; rw [if_pos hfit]; rfl
      clear hL
      generalize hl F N n = HL at *
      refine hgetK_has (.pcells (caseC F N _ held mask most)) rfl ?_
      refine ldF ?_
      refine hgetK_has (.pcells (caseC F N _ held mask most)) rfl ?_
      refine getK_has rfl ?_
      refine hgetK_has (.pcells (caseC F N _ held mask most)) rfl ?_
      refine ldN ?_
      refine callPK_has hrh ?_
      refine eqK_has_eq _ (min_len K HL.length) ?_
      refine boolK_bne_f (by rw [hL', List.length_take]) ?_
      have h0 : (W1 = none ∧ HL.length = 0) ∨ (∃ a, W1 = some a ∧ HL[0]? = some a ∧ 0 < HL.length) := by
        rw [← hW1]
        cases HL with
        | nil => exact .inl ⟨rfl, rfl⟩
        | cons a l => exact .inr ⟨a, rfl, rfl, by simp⟩
      rcases h0 with ⟨rfl, hl0⟩ | ⟨a, rfl, ha, hl0⟩
      focus
        obtain rfl : m1 = 0 := hm1.symm
        obtain rfl : ok1 = false := hk1.symm
        refine boolK_dec_f (by omega) ?_
        refine boolK_has_eq (c := false) rfl ?_
        refine boolK_bne_f rfl ?_
      rotate_right
      focus
        obtain rfl : m1 = (a : Int) := hm1.symm
        obtain rfl : ok1 = true := hk1.symm
        refine boolK_dec_t (by omega) ?_
        refine boolK_has_eq (c := false) rfl ?_
        refine needK_has (by simp; omega) ?_
        refine getK_has (v := .int .i64 (a : Int)) (ints_get (nl_get ha)) ?_
        refine boolK_bne_f rfl ?_
      all_goals
        have hLlen : L.length = min K HL.length := by rw [hL', List.length_take]
        refine loopK_has ?_
        refine iterE_up L.length (fun i => [(1, .ptr 0 0), (5, .pv (.int .i64 m2)), (6, .pv (.bool ok2)), (10, .pv (.sl x1 L.length (ints (nl L)))), (13, .pv (.sl x2 HL.length (ints (nl HL)))), (229, .pv (.int .i64 L.length)), (230, .pv (.int .i64 i))]) (fun _ => [.pcells (caseC F N n held mask most), .pcells (tab 8 (iv O))]) (fun i hi r => ?_) (fun r => ?_) ⟨rfl, rfl, rfl, rfl, rfl, rfl, rfl, trivial⟩ rfl
        · obtain ⟨x, hx⟩ : ∃ x, L[i]? = some x := ⟨_, List.getElem?_eq_getElem hi⟩
          have hx2 : HL[i]? = some x := by
            rw [hL', List.getElem?_take] at hx
            split at hx
            · exact hx
            · cases hx
          refine boolK_dec_t (by omega) ?_
          refine needK_has (by simp; omega) ?_
          refine getK_has (v := .int .i64 (x : Int)) (ints_get (nl_get hx)) ?_
          refine needK_has (by simp; omega) ?_
          refine getK_has (v := .int .i64 (x : Int)) (ints_get (nl_get hx2)) ?_
          refine boolK_bne_f rfl ?_
          refine eqK_has_eq _ (i64_succ (by omega)) ?_
          exact Has.intro ⟨⟨rfl, rfl, rfl, rfl, rfl, rfl, rfl, trivial⟩, rfl⟩
        refine boolK_dec_f (by omega) ?_
        refine Has.intro ?_
        refine loopK_has ?_
        refine iterE_up HL.length (fun i => [(1, .ptr 0 0), (5, .pv (.int .i64 m2)), (6, .pv (.bool ok2)), (15, .pv (.int .i64 ((((HL.take i).find? (und held)).getD 0 : Nat) : Int))), (16, .pv (.bool ((HL.take i).find? (und held)).isSome)), (243, .pv (.sl x2 HL.length (ints (nl HL)))), (244, .pv (.int .i64 HL.length)), (245, .pv (.int .i64 i))]) (fun _ => [.pcells (caseC F N n held mask most), .pcells (tab 8 (iv O))]) (fun i hi r => ?_) (fun r => ?_) ⟨rfl, rfl, rfl, rfl, rfl, rfl, rfl, rfl, trivial⟩ rfl
        · obtain ⟨x, hx⟩ : ∃ x, HL[i]? = some x := ⟨_, List.getElem?_eq_getElem hi⟩
          have hx256 := hHL256 x (List.mem_of_getElem? hx)
          have hofx := rof_ok (x : Int)
          rw [m8_nat hx256] at hofx
          have hfs : (HL.take (i + 1)).find? (und held) = ((HL.take i).find? (und held)).or (if und held x then some x else none) := by
            rw [List.take_add_one, hx, List.find?_append]
            cases hq : und held x <;> simp [hq]
          refine boolK_dec_t (by omega) ?_
          refine needK_has (by simp; omega) ?_
          refine getK_has (v := .int .i64 (x : Int)) (ints_get (nl_get hx)) ?_
          generalize hO : (HL.take i).find? (und held) = o at *
          refine hgetK_has (.pcells (caseC F N _ held mask most)) rfl ?_
          refine getK_has rfl ?_
          have hund : und held x = (decide (0 ≤ held ∧ held < 256) && undB (m8 held) x 8) := rfl
          generalize hD : decide (0 ≤ held ∧ held < 256) = D at hund
          refine boolK_dec (fun h0 => ?_) (fun h0 => ?_)
          focus
            refine hgetK_has (.pcells (caseC F N _ held mask most)) rfl ?_
            refine getK_has rfl ?_
            refine boolK_dec (fun h1 => ?_) (fun h1 => ?_)
            focus
              have hDv : D = true := by rw [← hD]; exact decide_eq_true ⟨h0, h1⟩
            rotate_right
            focus
              have hDv : D = false := by rw [← hD]; exact decide_eq_false (fun hh => h1 hh.2)
          rotate_right
          focus
            have hDv : D = false := by rw [← hD]; exact decide_eq_false (fun hh => h0 hh.1)
          all_goals
            refine hgetK_has (.pcells (caseC F N _ held mask most)) rfl ?_
            refine getK_has rfl ?_
            refine callPK_has hofh ?_
            refine loopK_has ?_
            refine iterE_up 8 (fun j => [(1, .ptr 0 0), (5, .pv (.int .i64 m2)), (6, .pv (.bool ok2)), (15, .pv (.int .i64 ((o.getD 0 : Nat) : Int))), (16, .pv (.bool o.isSome)), (18, .pv (.int .i64 (x : Int))), (19, .pv (.bool (D && undB (m8 held) x j))), (243, .pv (.sl x2 HL.length (ints (nl HL)))), (244, .pv (.int .i64 HL.length)), (245, .pv (.int .i64 i)), (259, .pv (.agg (bset (m8 held)))), (260, .pv (.int .i64 j))]) (fun _ => [.pcells (caseC F N n held mask most), .pcells (tab 8 (iv O))]) (fun j hj r => ?_) (fun r => ?_) ⟨rfl, rfl, rfl, rfl, rfl, rfl, by rw [hDv]; rfl, rfl, rfl, rfl, rfl, rfl, trivial⟩ rfl
            · have hnx : (D && undB (m8 held) x (j + 1)) = ((D && undB (m8 held) x j) && (!(m8 held).testBit j || x.testBit j)) := by
                show (D && (undB (m8 held) x j && _)) = _
                rw [Bool.and_assoc]
              refine boolK_dec_t (by omega) ?_
              refine needK_has (by simp; omega) ?_
              refine getK_has (v := .bool ((m8 held).testBit j)) (tab_get _ hj) ?_
              generalize hB : (D && undB (m8 held) x j) = B at hnx
              cases B with
              | false =>
                refine eqK_has_eq _ (i64_succ (by omega)) ?_
                exact Has.intro ⟨⟨rfl, rfl, rfl, rfl, rfl, rfl, by rw [hnx]; rfl, rfl, rfl, rfl, rfl, rfl, trivial⟩, rfl⟩
              | true =>
                cases hT : (m8 held).testBit j with
                | false =>
                  refine eqK_has_eq _ (i64_succ (by omega)) ?_
                  exact Has.intro ⟨⟨rfl, rfl, rfl, rfl, rfl, rfl, by rw [hnx, hT]; rfl, rfl, rfl, rfl, rfl, rfl, trivial⟩, rfl⟩
                | true =>
                  refine callPK_has hofx ?_
                  refine needK_has (by simp; omega) ?_
                  refine getK_has (v := .bool (x.testBit j)) (tab_get _ hj) ?_
                  refine eqK_has_eq _ (i64_succ (by omega)) ?_
                  exact Has.intro ⟨⟨rfl, rfl, rfl, rfl, rfl, rfl, by rw [hnx, hT]; rfl, rfl, rfl, rfl, rfl, rfl, trivial⟩, rfl⟩
            refine boolK_dec_f (by omega) ?_
            refine Has.intro ?_
            rw [← hund]
            cases hU : und held x with
            | false =>
              have e : (HL.take (i + 1)).find? (und held) = o := by rw [hfs, hU]; cases o <;> rfl
              refine eqK_has_eq _ (i64_succ (by omega)) ?_
              exact Has.intro ⟨⟨rfl, rfl, rfl, by rw [e]; rfl, by rw [e]; rfl, rfl, rfl, rfl, trivial⟩, rfl⟩
            | true =>
              cases o with
              | none =>
                have e : (HL.take (i + 1)).find? (und held) = some x := by rw [hfs, hU]; rfl
                refine eqK_has_eq _ (i64_succ (by omega)) ?_
                exact Has.intro ⟨⟨rfl, rfl, rfl, by rw [e]; rfl, by rw [e]; rfl, rfl, rfl, rfl, trivial⟩, rfl⟩
              | some y =>
                have e : (HL.take (i + 1)).find? (und held) = some y := by rw [hfs, hU]; rfl
                refine eqK_has_eq _ (i64_succ (by omega)) ?_
                exact Has.intro ⟨⟨rfl, rfl, rfl, by rw [e]; rfl, by rw [e]; rfl, rfl, rfl, rfl, trivial⟩, rfl⟩
        refine boolK_dec_f (by omega) ?_
        refine Has.intro ?_
        rw [List.take_length, hW2]
        rw [hm2, hk2]
        refine boolK_has_eq (c := true) (by cases ok2 <;> rfl) ?_
        refine boolK_beq_t rfl ?_
        exact Has.intro rfl
  · rw [decide_eq_false hrt]
    focus
      obtain ⟨rfl, rfl, rfl⟩ := hnone (fun hh => hrt hh.1)
      obtain rfl : m1 = 0 := hm1.symm
      obtain rfl : ok1 = false := hk1.symm
      obtain rfl : m2 = 0 := hm2.symm
      obtain rfl : ok2 = false := hk2.symm
      refine eqK_has_eq 0 rfl ?_
      refine eqK_has_eq 0 rfl ?_
      refine boolK_has_true rfl ?_
      exact Has.intro rfl
end Go.Proofs.Ytdbobcbjgacjpaa
