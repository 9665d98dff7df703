/-
  Part 6 of the functions and the law.
  The document's text of a number.
  The document's text of a number: through the code.
  The document's text of knobs; the law that weights, files and texts are the document's.
  The law that weights, files, right knobs and texts are the document's.
-/
import Derived.Test.YtmickbidffdklaaDoorP5
set_option linter.all false
set_option linter.unusedVariables false
set_option linter.unusedSimpArgs false
set_option linter.unusedSectionVars false
namespace Go.Proofs.YtmickbidffdklaaDoor
open Go Go.VM

theorem aggEq_ints {α : Type} (f g : α → Nat) : ∀ l : List α, aggEq (l.map fun _ => .i) (l.map fun j => .int .u64 ((f j : Nat) : Int)) (l.map fun j => .int .u64 ((g j : Nat) : Int)) = some (l.all fun j => f j == g j)
  | [] => rfl
  | a :: l => by
    simp only [List.map_cons, aggEq, aggEq_ints f g l, List.all_cons]
    show some (((f a : Nat) : Int) == ((g a : Nat) : Int) && _) = _
    congr 2
    rw [Bool.eq_iff_iff, beq_iff_eq, beq_iff_eq]; omega
theorem dgt_zero {m : Nat} (hm : m < 18446744073709551616) (h : ∀ j, j < 20 → dgt m j = dgt 0 j) : m = 0 := by
  have top : sh m 4 = 0 := sh_of_lt (by omega)
  have z : ∀ j, dgt 0 j = 0 := fun j => by unfold dgt sh; simp
  have h0 := h 0 (by decide)
  have h1 := h 1 (by decide)
  have h2 := h 2 (by decide)
  have h3 := h 3 (by decide)
  rw [z] at h0 h1 h2 h3
  have s0 := sh_succ m 0
  have s1 := sh_succ m 1
  have s2 := sh_succ m 2
  have s3 := sh_succ m 3
  rw [sh_zero] at s0
  unfold dgt at h0 h1 h2 h3
  rw [sh_zero] at h0
  simp only [Nat.zero_add, Nat.reduceAdd] at s0 s1 s2 s3
  omega
theorem dc_eq0 {m : Nat} (hm : m < 18446744073709551616) : aggEq [.i, .i, .i, .i, .i, .i, .i, .i, .i, .i, .i, .i, .i, .i, .i, .i, .i, .i, .i, .i] (dc m) (dc 0) = some (decide (m = 0)) := by
  have := aggEq_ints (dgt m) (dgt 0) (List.range 20)
  refine Eq.trans this ?_
  congr 1
  rw [Bool.eq_iff_iff, List.all_eq_true, decide_eq_true_iff]
  constructor
  · intro h
    refine dgt_zero hm fun j hj => ?_
    have := h j (List.mem_range.2 hj)
    simpa using this
  · intro h j _
    rw [h]; simp
theorem dz20 : ([PV.int IntKind.u64 0, PV.int IntKind.u64 0, PV.int IntKind.u64 0, PV.int IntKind.u64 0, PV.int IntKind.u64 0, PV.int IntKind.u64 0, PV.int IntKind.u64 0, PV.int IntKind.u64 0, PV.int IntKind.u64 0, PV.int IntKind.u64 0, PV.int IntKind.u64 0, PV.int IntKind.u64 0, PV.int IntKind.u64 0, PV.int IntKind.u64 0, PV.int IntKind.u64 0, PV.int IntKind.u64 0, PV.int IntKind.u64 0, PV.int IntKind.u64 0, PV.int IntKind.u64 0, PV.int IntKind.u64 0]) = dc 0 := dzero
/-- The last digits are the one's, the others the other one's. -/
def mixU (j : Nat) (f g : Nat → Nat) : Nat → Nat := fun i => if 20 - j ≤ i then f i else g i
theorem mixU_at {j : Nat} {f g : Nat → Nat} (hj : j < 20) : mixU j f g (19 - j) = g (19 - j) := if_neg (by omega)
theorem mixU_set {j : Nat} (f g : Nat → Nat) (hj : j < 20) : (tab 20 (dpv (mixU j f g))).set (19 - j) (.int .u64 ((f (19 - j) : Nat) : Int)) = tab 20 (dpv (mixU (j + 1) f g)) := by
  refine tab_set_eq ?_ fun i _ hi => ?_
  · show PV.int .u64 ((mixU (j + 1) f g (19 - j) : Nat) : Int) = _
    unfold mixU; rw [if_pos (by omega)]
  · show PV.int .u64 ((mixU j f g i : Nat) : Int) = .int .u64 ((mixU (j + 1) f g i : Nat) : Int)
    unfold mixU
    by_cases h : 20 - j ≤ i
    · rw [if_pos h, if_pos (by omega)]
    · rw [if_neg h, if_neg (by omega)]
theorem mixU_none (f g : Nat → Nat) : tab 20 (dpv (mixU 0 f g)) = tab 20 (dpv g) :=
  tab_congr fun j hj => by show PV.int .u64 ((mixU 0 f g j : Nat) : Int) = _; unfold mixU; rw [if_neg (by omega)]; rfl
theorem mixU_full (f g : Nat → Nat) : tab 20 (dpv (mixU 20 f g)) = tab 20 (dpv f) :=
  tab_congr fun j hj => by show PV.int .u64 ((mixU 20 f g j : Nat) : Int) = _; unfold mixU; rw [if_pos (by omega)]; rfl
/-- One step of a division by ten. -/
theorem div_step (m i : Nat) : (sh m (i + 1) % 10 * 65536 + dgt m i) / 10 = dgt (m / 10) i ∧ (sh m (i + 1) % 10 * 65536 + dgt m i) % 10 = sh m i % 10 ∧ sh m (i + 1) % 10 * 65536 + dgt m i < 655360 := by
  have h0 := sh_succ m i
  have hq : sh (m / 10) i = sh m i / 10 := by unfold sh; rw [Nat.div_div_eq_div_mul, Nat.div_div_eq_div_mul, Nat.mul_comm]
  unfold dgt
  rw [hq]
  generalize sh m i = X at *
  rw [h0]
  refine ⟨?_, ?_, ?_⟩ <;> omega
open Lib in
theorem dec_small {m : Nat} (h : m < 10) : decDigits m = [UInt8.ofNat (48 + m)] := decDigits_one h
open Lib in
theorem dec_big {m : Nat} (h : ¬ m < 10) : decDigits m = decDigits (m / 10) ++ [UInt8.ofNat (48 + m % 10)] := by rw [decDigits, dif_neg h]
/-- What is left to write, and what is written. -/
def txt (n m : Nat) (l : List UInt8) : Prop := (l = [] ∧ m = n) ∨ (l ≠ [] ∧ ((m = 0 ∧ l = Lib.decDigits n) ∨ (m ≠ 0 ∧ Lib.decDigits m ++ l = Lib.decDigits n)))
theorem txt_step {n m : Nat} {l : List UInt8} (h : txt n m l) (hc : l = [] ∨ m ≠ 0) : txt n (m / 10) (UInt8.ofNat (48 + m % 10) :: l) := by
  have key : Lib.decDigits m ++ l = Lib.decDigits n := by
    rcases h with ⟨rfl, rfl⟩ | ⟨h1, ⟨h2, h3⟩ | ⟨h2, h3⟩⟩
    · simp
    · rcases hc with hc | hc
      · exact absurd hc h1
      · exact absurd h2 hc
    · exact h3
  refine .inr ⟨by simp, ?_⟩
  by_cases hs : m < 10
  · refine .inl ⟨by omega, ?_⟩
    rw [dec_small hs] at key
    rw [show m % 10 = m by omega]
    exact key
  · refine .inr ⟨by omega, ?_⟩
    rw [dec_big hs] at key
    rw [← key]; simp
theorem txt_end {n m : Nat} {l : List UInt8} (h : txt n m l) (hc : ¬ (l = [] ∨ m ≠ 0)) : l = Lib.decDigits n := by
  rcases h with ⟨h1, _⟩ | ⟨_, ⟨_, h3⟩ | ⟨h2, _⟩⟩
  · exact absurd (.inl h1) hc
  · exact h3
  · exact absurd (.inr h2) hc
end Go.Proofs.YtmickbidffdklaaDoor

namespace Go.Proofs.YtmickbidffdklaaDoor
open Go Go.VM

theorem sv_nil (l : List UInt8) : ((⟨l.toArray⟩ : ByteArray).toList == (⟨#[]⟩ : ByteArray).toList) = decide (l = []) := str_beq l []
theorem u8_nat {n : Nat} (h : n < 256) : IntKind.u8.wrap (n : Int) = (n : Int) := by
  unfold IntKind.wrap; simp only [IntKind.bits, IntKind.signed, Bool.false_and]
  have : (n : Int) % 256 = n := Int.emod_eq_of_lt (by omega) (by omega)
  simpa using this
theorem dec_len {n : Nat} (hn : n < 18446744073709551616) : (Lib.decDigits n).length ≤ 20 := by rw [Lib.decDigits_length]; exact Lib.nDigits_le20 n hn
theorem txt_len {n m : Nat} {l : List UInt8} (hn : n < 18446744073709551616) (h : txt n m l) : l.length ≤ 20 := by
  have hd := dec_len hn
  rcases h with ⟨rfl, _⟩ | ⟨_, ⟨_, h3⟩ | ⟨_, h3⟩⟩
  · simp
  · rw [h3]; exact hd
  · rw [← h3, List.length_append] at hd; omega
set_option maxRecDepth 20000 in
set_option maxHeartbeats 4000000 in
theorem rtext1_ok (n : Nat) (hn : n < 18446744073709551616) : EP (EE env) 55 [.agg [.int .u64 0, .int .u64 (n : Int)]] = some (sv (Lib.decDigits n)) := by
  refine Has.eq (EP_has ?_)
  refine hgetK_has (.pcells [.int .u64 0, .int .u64 (n : Int)]) rfl ?_
  refine secK_has (v := [.int .u64 0, .int .u64 (n : Int)]) rfl (of_decide_eq_true rfl) ?_
  refine callPK_has (dof_ok n hn) ?_
  refine hgetK_last ?_
  refine needK_has (by rw [dc_len]; rfl) ?_
  refine eqK_has_eq (dc n) (by
    show ([PV.int IntKind.u64 0, PV.int IntKind.u64 0, PV.int IntKind.u64 0, PV.int IntKind.u64 0, PV.int IntKind.u64 0, PV.int IntKind.u64 0, PV.int IntKind.u64 0, PV.int IntKind.u64 0, PV.int IntKind.u64 0, PV.int IntKind.u64 0, PV.int IntKind.u64 0, PV.int IntKind.u64 0, PV.int IntKind.u64 0, PV.int IntKind.u64 0, PV.int IntKind.u64 0, PV.int IntKind.u64 0, PV.int IntKind.u64 0, PV.int IntKind.u64 0, PV.int IntKind.u64 0, PV.int IntKind.u64 0]).take 0 ++ dc n ++ ([PV.int IntKind.u64 0, PV.int IntKind.u64 0, PV.int IntKind.u64 0, PV.int IntKind.u64 0, PV.int IntKind.u64 0, PV.int IntKind.u64 0, PV.int IntKind.u64 0, PV.int IntKind.u64 0, PV.int IntKind.u64 0, PV.int IntKind.u64 0, PV.int IntKind.u64 0, PV.int IntKind.u64 0, PV.int IntKind.u64 0, PV.int IntKind.u64 0, PV.int IntKind.u64 0, PV.int IntKind.u64 0, PV.int IntKind.u64 0, PV.int IntKind.u64 0, PV.int IntKind.u64 0, PV.int IntKind.u64 0]).drop (0 + 20) = _
    rw [List.take_zero, List.nil_append]; simp) ?_
  refine loopK_has ?_
  refine iterE_loop (σ := Nat × List UInt8) (fun s => s.1 + (match s.2 with | [] => 1 | _ => 0)) (fun s => [(3, .ptr 1 0), (4, .pv (sv s.2))]) (fun s => [.pcells [.int .u64 0, .int .u64 (n : Int)], .pcells (dc s.1)])
    (fun s => txt n s.1 s.2 ∧ s.1 < 18446744073709551616) (fun ⟨m, l⟩ ⟨ht, hm⟩ r => ?_) (n, []) ⟨.inl ⟨rfl, rfl⟩, hn⟩ ⟨rfl, rfl, trivial⟩ rfl
  dsimp only at ht hm ⊢
  refine boolK_has_eq (c := decide (l = [])) (sv_nil l) ?_
  have h20 : sh m 20 = 0 := sh_of_lt (Nat.lt_of_lt_of_le hm (by decide))
  by_cases hc : l = [] ∨ m ≠ 0
  rotate_left
  · have hl : l ≠ [] := fun h => hc (.inl h)
    have h0 : m = 0 := Classical.byContradiction fun h => hc (.inr h)
    rw [decide_eq_false hl]
    refine hgetK_has _ rfl ?_
    refine secK_has (v := dc m) (tab_sec _).1 (tab_sec _).2 ?_
    refine bindK_has (dc_eq0 hm) ?_
    refine boolK_has_eq (c := false) (by rw [decide_eq_true h0]; rfl) ?_
    refine Has.intro (Has.intro (Has.intro ?_))
    rw [txt_end ht hc]; rfl
  by_cases hl : l = []
  all_goals first
    | (rw [decide_eq_true hl]; refine loopK_has ?_)
    | (rw [decide_eq_false hl]
       refine hgetK_has _ rfl ?_
       refine secK_has (v := dc m) (tab_sec _).1 (tab_sec _).2 ?_
       refine bindK_has (dc_eq0 hm) ?_
       refine boolK_has_eq (c := true) (by rw [decide_eq_false (hc.resolve_left hl)]; rfl) ?_
       refine loopK_has ?_)
  all_goals
    refine iterE_up 20 (fun j => [(3, .ptr 1 0), (4, .pv (sv l)), (5, .pv (.int .u64 ((sh m (20 - j) % 10 : Nat) : Int))), (6, .pv (.int .i64 (19 - (j : Int))))]) (fun j => [.pcells [.int .u64 0, .int .u64 (n : Int)], .pcells (tab 20 (dpv (mixU j (dgt (m / 10)) (dgt m))))]) (fun j hj r => ?_) (fun r => ?_) ⟨rfl, rfl, ?_, rfl, trivial⟩ ?_
    · have en : (19 - (j : Int)).toNat = 19 - j := by omega
      obtain ⟨d1, d2, d3⟩ := div_step m (19 - j)
      rw [show 19 - j + 1 = 20 - j by omega] at d1 d2 d3
      generalize hR : sh m (20 - j) % 10 = R at *
      have b2 : R * 65536 + dgt m (19 - j) < 18446744073709551616 := Nat.lt_of_lt_of_le d3 (by decide)
      have b1 : R * 65536 < 18446744073709551616 := Nat.lt_of_le_of_lt (Nat.le_add_right _ _) b2
      refine boolK_dec_t (by omega) ?_
      refine eqK_has_eq ((R * 65536 : Nat) : Int) (u64_nat (n := R * 65536) b1) ?_
      refine needK_has (by simp; omega) ?_
      refine hgetK_has _ rfl ?_
      refine getK_has (show (tab 20 (dpv (mixU j (dgt (m / 10)) (dgt m))))[addO 0 (19 - (j : Int)).toNat]? = some (.int .u64 ((dgt m (19 - j) : Nat) : Int)) by
        rw [en]
        refine (tab_get _ (show 19 - j < 20 by omega)).trans ?_
        show some (PV.int .u64 ((mixU j (dgt (m / 10)) (dgt m) (19 - j) : Nat) : Int)) = _
        rw [mixU_at hj]) ?_
      refine eqK_has_eq ((R * 65536 + dgt m (19 - j) : Nat) : Int) (u64_nat (n := R * 65536 + dgt m (19 - j)) b2) ?_
      refine needK_has rfl ?_
      refine eqK_has_eq ((dgt (m / 10) (19 - j) : Nat) : Int) ((u64_tdiv _ 10 b2).trans (by rw [d1])) ?_
      refine needK_has (by simp; omega) ?_
      refine hgetK_has _ rfl ?_
      refine needK_has (show Nat.blt (addO 0 (19 - (j : Int)).toNat) _ = true by rw [en]; exact tab_blt _ (show 19 - j < 20 by omega)) ?_
      refine eqK_has_eq (tab 20 (dpv (mixU (j + 1) (dgt (m / 10)) (dgt m)))) (show (tab 20 (dpv (mixU j (dgt (m / 10)) (dgt m)))).set (addO 0 (19 - (j : Int)).toNat) _ = _ by rw [en]; exact mixU_set _ _ hj) ?_
      refine needK_has rfl ?_
      refine eqK_has_eq ((sh m (20 - (j + 1)) % 10 : Nat) : Int) ((u64_tmod _ 10).trans (by rw [d2, show 20 - (j + 1) = 19 - j by omega])) ?_
      refine eqK_has_eq (19 - ((j + 1 : Nat) : Int)) (by rw [wrap_i64 (by omega) (by omega)]; omega) ?_
      exact Has.intro ⟨⟨rfl, rfl, rfl, rfl, trivial⟩, rfl⟩
    · refine boolK_dec_f (by omega) ?_
      refine Has.intro ?_
      rw [mixU_full]
      have hs : sh m (20 - 20) % 10 = m % 10 := by rw [Nat.sub_self, sh_zero]
      rw [hs]
      generalize hq : m % 10 = q at *
      have hq9 : q < 10 := by rw [← hq]; exact Nat.mod_lt _ (by decide)
      have c1 : 48 + q < 18446744073709551616 := by omega
      refine eqK_has_eq ((48 + q : Nat) : Int) (u64_nat (n := 48 + q) c1) ?_
      have c2 : 48 + q < 256 := by omega
      have hl20 := txt_len hn ht
      refine eqK_has_eq ((48 + q : Nat) : Int) (u8_nat c2) ?_
      refine needK_has rfl ?_
      refine bindK_has (v := [UInt8.ofNat (48 + q)]) rfl ?_
      refine needK_has (decide_eq_true (by rw [sv_size, sv_size]; show 1 + l.length ≤ 9223372036854775807; omega)) ?_
      refine eqK_has_eq _ (sv_app [UInt8.ofNat (48 + q)] l) ?_
      have hstep := txt_step ht hc
      rw [hq] at hstep
      refine Has.intro ⟨(m / 10, UInt8.ofNat (48 + q) :: l), ⟨hstep, Nat.lt_of_le_of_lt (Nat.div_le_self _ _) hm⟩, ?_, ⟨rfl, rfl, trivial⟩, rfl⟩
      dsimp only
      cases hl2 : l with
      | nil => dsimp only; omega
      | cons b l' =>
        have : m ≠ 0 := by
          rcases hc with hc | hc
          · rw [hl2] at hc; cases hc
          · exact hc
        dsimp only; omega
    · show AV.pv (.int .u64 0) = _
      rw [h20]; rfl
    · show [HObj.pcells _, .pcells _] = _
      rw [mixU_none]; rfl
end Go.Proofs.YtmickbidffdklaaDoor

namespace Go.Proofs.YtmickbidffdklaaDoor
open Go Go.VM

theorem u64_in {n : Int} (h : 0 ≤ n) (h' : n ≤ 9223372036854775807) : IntKind.u64.wrap n = n := by
  obtain ⟨m, rfl⟩ := Int.eq_ofNat_of_zero_le h
  exact u64_nat (by omega)
theorem itoa_neg' {n : Int} (h : n < 0) : Lib.itoa n = 45 :: Lib.decDigits ((-(n + 1)).toNat + 1) := by
  unfold Lib.itoa; rw [if_pos h]
  congr 2; omega
theorem itoa_pos' {n : Int} (h : ¬ n < 0) : Lib.itoa n = Lib.decDigits n.toNat := by
  unfold Lib.itoa; rw [if_neg h]
set_option maxRecDepth 20000 in
set_option maxHeartbeats 4000000 in
theorem rsigned_ok (n : Int) (hn : in64 n) : EP (EE env) 38 [.int .i64 n] = some (sv (Lib.itoa n)) := by
  obtain ⟨hn1, hn2⟩ := hn
  refine Has.eq (EP_has ?_)
  refine boolK_dec (fun h => ?_) (fun h => ?_)
  · obtain ⟨v, hv⟩ : ∃ v : Nat, (v : Int) = -(n + 1) := ⟨(-(n + 1)).toNat, by omega⟩
    have hvn : (-(n + 1)).toNat = v := by omega
    have e1 : (v + 1) / 18446744073709551616 = 0 := by omega
    have e2 : (v + 1) % 18446744073709551616 = v + 1 := by omega
    have hw := wide_ok (v + 1) (by omega)
    rw [e1, e2] at hw
    refine eqK_has_eq (n + 1) (wrap_i64 (by omega) (by omega)) ?_
    refine eqK_has_eq (v : Int) (by rw [wrap_i64 (by omega) (by omega)]; omega) ?_
    refine eqK_has_eq (v : Int) (u64_nat (by omega)) ?_
    refine callPK_has (dof_ok v (by omega)) ?_
    refine callPK_has ((congrArg (fun d => EP (EE env) 53 [.agg (dc v), .agg d]) dc_one).trans (plus_ok v 1)) ?_
    refine callPK_has hw ?_
    refine hgetK_has _ rfl ?_
    refine needK_has rfl ?_
    refine eqK_has_eq [.int .u64 0, .int .u64 ((v + 1 : Nat) : Int)] rfl ?_
    refine hgetK_has _ rfl ?_
    refine secK_has (v := [.int .u64 0, .int .u64 ((v + 1 : Nat) : Int)]) rfl (of_decide_eq_true rfl) ?_
    refine callPK_has (rtext1_ok (v + 1) (by omega)) ?_
    have hd := dec_len (n := v + 1) (by omega)
    refine needK_has (decide_eq_true (by rw [sv_size]; show 1 + (Lib.decDigits (v + 1)).length ≤ 9223372036854775807; omega)) ?_
    refine eqK_has_eq _ (sv_app [45] (Lib.decDigits (v + 1))) ?_
    rw [itoa_neg' h, hvn]
    exact Has.intro (Has.intro rfl)
  · obtain ⟨v, rfl⟩ := Int.eq_ofNat_of_zero_le (Int.not_lt.1 h)
    refine eqK_has_eq (v : Int) (u64_nat (by omega)) ?_
    refine callPK_has (rtext1_ok v (by omega)) ?_
    rw [itoa_pos' h]
    exact Has.intro (Has.intro rfl)
/-- The text of the first files. -/
def txF (k : Kn) : Nat → List UInt8
  | 0 => []
  | i + 1 => txF k i ++ ((if i = 0 then [] else [32]) ++ wordI (atI k i))
theorem txF_full (k : Kn) : txF k 5 = textL k := by
  unfold textL kl Lib.join
  simp [txF, atI, List.intercalate, List.intersperse]
theorem atI_in {k : Kn} (hk : kR k) (f : Int) : in64 (atI k f) := by
  obtain ⟨h0, h1, h2, h3, h4⟩ := hk
  unfold atI
  split
  · exact h0
  split
  · exact h1
  split
  · exact h2
  split
  · exact h3
  split
  · exact h4
  unfold in64; decide
theorem txF_len {k : Kn} (hk : kR k) : ∀ i, (txF k i).length ≤ 22 * i
  | 0 => by simp [txF]
  | i + 1 => by
    have h := txF_len hk i
    have hw := wordI_len (atI_in hk i)
    unfold txF
    rw [List.length_append, List.length_append]
    split <;> simp <;> omega
set_option maxRecDepth 20000 in
set_option maxHeartbeats 4000000 in
theorem rtext_ok (k : Kn) (hk : kR k) : EP (EE env) 24 [.agg (kn k)] = some (sv (textL k)) := by
  refine Has.eq (EP_has ?_)
  refine loopK_has ?_
  refine iterE_up 5 (fun i => [(1, .ptr 0 0), (3, .pv (sv (txF k i))), (4, .pv (.int .i64 i))]) (fun i => [.pcells (kn k)]) (fun i hi r => ?_) (fun r => ?_) ⟨rfl, rfl, rfl, trivial⟩ rfl
  · have hl := txF_len hk i
    have hw := wordI_len (atI_in hk i)
    refine boolK_dec_t (by omega) ?_
    refine hgetK_has _ rfl ?_
    refine secK_has (v := kn k) rfl (of_decide_eq_true rfl) ?_
    refine callPK_has (rat_ok k i) ?_
    by_cases h0 : i = 0
    · have hst : txF k (i + 1) = txF k i ++ wordI (atI k i) := by show txF k i ++ ((if i = 0 then [] else [32]) ++ wordI (atI k i)) = _; rw [if_pos h0]; rfl
      refine boolK_dec_f (by omega) ?_
      refine boolK_beq (fun hu => ?_) (fun hu => ?_)
      · have ew : wordI (atI k i) = [109, 97, 120] := by unfold wordI; rw [if_pos hu]
        rw [ew] at hst
        refine needK_has (decide_eq_true (by rw [sv_size]; show (txF k i).length + 3 ≤ 9223372036854775807; omega)) ?_
        refine eqK_has_eq _ (sv_app (txF k i) [109, 97, 120]) ?_
        refine eqK_has_eq _ (i64_succ (by omega)) ?_
        refine Has.intro ⟨⟨rfl, ?_, rfl, trivial⟩, rfl⟩
        rw [hst]; rfl
      · have ew : wordI (atI k i) = Lib.itoa (atI k i) := by unfold wordI; rw [if_neg hu]
        rw [ew] at hst hw
        refine callPK_has (rsigned_ok _ (atI_in hk i)) ?_
        refine needK_has (decide_eq_true (by rw [sv_size, sv_size]; show (txF k i).length + (Lib.itoa (atI k i)).length ≤ 9223372036854775807; omega)) ?_
        refine eqK_has_eq _ (sv_app (txF k i) (Lib.itoa (atI k i))) ?_
        refine eqK_has_eq _ (i64_succ (by omega)) ?_
        refine Has.intro ⟨⟨rfl, ?_, rfl, trivial⟩, rfl⟩
        rw [hst]; rfl
    · have hst : txF k (i + 1) = (txF k i ++ [32]) ++ wordI (atI k i) := by show txF k i ++ ((if i = 0 then [] else [32]) ++ wordI (atI k i)) = _; rw [if_neg h0, List.append_assoc]
      refine boolK_dec_t (by omega) ?_
      refine needK_has (decide_eq_true (by rw [sv_size]; show (txF k i).length + 1 ≤ 9223372036854775807; omega)) ?_
      refine eqK_has_eq _ (sv_app (txF k i) [32]) ?_
      refine boolK_beq (fun hu => ?_) (fun hu => ?_)
      · have ew : wordI (atI k i) = [109, 97, 120] := by unfold wordI; rw [if_pos hu]
        rw [ew] at hst
        refine needK_has (decide_eq_true (by rw [sv_size]; show (txF k i ++ [32]).length + 3 ≤ 9223372036854775807; rw [List.length_append]; simp; omega)) ?_
        refine eqK_has_eq _ (sv_app (txF k i ++ [32]) [109, 97, 120]) ?_
        refine eqK_has_eq _ (i64_succ (by omega)) ?_
        refine Has.intro ⟨⟨rfl, ?_, rfl, trivial⟩, rfl⟩
        rw [hst]; rfl
      · have ew : wordI (atI k i) = Lib.itoa (atI k i) := by unfold wordI; rw [if_neg hu]
        rw [ew] at hst hw
        refine callPK_has (rsigned_ok _ (atI_in hk i)) ?_
        refine needK_has (decide_eq_true (by rw [sv_size, sv_size]; show (txF k i ++ [32]).length + (Lib.itoa (atI k i)).length ≤ 9223372036854775807; rw [List.length_append]; simp; omega)) ?_
        refine eqK_has_eq _ (sv_app (txF k i ++ [32]) (Lib.itoa (atI k i))) ?_
        refine eqK_has_eq _ (i64_succ (by omega)) ?_
        refine Has.intro ⟨⟨rfl, ?_, rfl, trivial⟩, rfl⟩
        rw [hst]; rfl
  · refine boolK_dec_f (by omega) ?_
    refine Has.intro ?_
    rw [txF_full]
    exact Has.intro (Has.intro rfl)
set_option maxRecDepth 20000 in
set_option maxHeartbeats 4000000 in
theorem rright_ok6 (k : Kn) : EP (EE env) 22 [.agg (kn k)] = some (.bool (decide (rightP k))) := by
  refine Has.eq (EP_has (fn_has rfl ?_))
  refine seq_on [(1, .ptr 0 0)] [.pcells (kn k)] (by (repeat (first | refine hgetK_last ?_ | refine hgetK_set ?_ | refine hgetK_has _ rfl ?_ | refine needK_has rfl ?_ | refine getK_has rfl ?_ | refine secK_has rfl (by first | exact Nat.le_refl _ | decide) ?_ | refine eqK_has ?_)); (refine Has.intro ⟨rfl, ?_, rfl⟩; (repeat (first | exact trivial | refine ⟨rfl, ?_⟩)))) (fun r => ?_)
  refine seq_on [(1, .ptr 0 0), (3, .pv (.int .i64 9007199254740992))] [.pcells (kn k)] (by (refine Has.intro ⟨rfl, ?_, rfl⟩; (repeat (first | exact trivial | refine ⟨rfl, ?_⟩)))) (fun r => ?_)
  refine seq_on [(1, .ptr 0 0), (3, .pv (.int .i64 9007199254740992)), (4, .pv (.bool (decide (sumP k.cm ∨ k.cm = (4611686018427387904)))))] [.pcells (kn k)] ?_ (fun r => ?_)
  · repeat' (first
      | refine boolK_dec (fun _ => ?_) (fun _ => ?_)
      | refine boolK_beq (fun _ => ?_) (fun _ => ?_)
      | refine hgetK_has _ rfl ?_
      | refine getK_has rfl ?_
      | refine needK_has rfl ?_
      | fail)
    all_goals
      refine Has.intro ⟨rfl, ⟨rfl, rfl, ?_, trivial⟩, rfl⟩
      first
        | rw [decide_eq_true (show sumP k.cm ∨ k.cm = (4611686018427387904) by unfold sumP; omega)]; rfl
        | rw [decide_eq_false (show ¬ (sumP k.cm ∨ k.cm = (4611686018427387904)) by unfold sumP; omega)]; rfl
  refine seq_on [(1, .ptr 0 0), (3, .pv (.int .i64 9007199254740992)), (4, .pv (.bool (decide (sumP k.cm ∨ k.cm = (4611686018427387904))))), (5, .pv (.bool (decide (sumP k.mx ∨ k.mx = (4611686018427387904)))))] [.pcells (kn k)] ?_ (fun r => ?_)
  · repeat' (first
      | refine boolK_dec (fun _ => ?_) (fun _ => ?_)
      | refine boolK_beq (fun _ => ?_) (fun _ => ?_)
      | refine hgetK_has _ rfl ?_
      | refine getK_has rfl ?_
      | refine needK_has rfl ?_
      | fail)
    all_goals
      refine Has.intro ⟨rfl, ⟨rfl, rfl, rfl, ?_, trivial⟩, rfl⟩
      first
        | rw [decide_eq_true (show sumP k.mx ∨ k.mx = (4611686018427387904) by unfold sumP; omega)]; rfl
        | rw [decide_eq_false (show ¬ (sumP k.mx ∨ k.mx = (4611686018427387904)) by unfold sumP; omega)]; rfl
  by_cases ha : sumP k.cm ∨ k.cm = (4611686018427387904)
  all_goals by_cases hb : sumP k.mx ∨ k.mx = (4611686018427387904)
  all_goals simp only [decide_eq_true, decide_eq_false, ha, hb, not_false_eq_true, decide_true, decide_false]
  all_goals
    repeat' (first
      | refine boolK_dec (fun _ => ?_) (fun _ => ?_)
      | refine boolK_beq (fun _ => ?_) (fun _ => ?_)
      | refine hgetK_has _ rfl ?_
      | refine getK_has rfl ?_
      | refine needK_has rfl ?_
      | fail)
  all_goals
    refine Has.intro (Has.intro ?_)
    first
      | exact congrArg PV.bool (rightB_t (by unfold rightP sumP at *; omega)).symm
      | exact congrArg PV.bool (rightB_f (by unfold rightP sumP at *; omega)).symm
end Go.Proofs.YtmickbidffdklaaDoor

namespace Go.Proofs.YtmickbidffdklaaDoor
open Go Go.VM

abbrev TCase : Ty := .st [(1, .int .i64), (5, TK), (1, .int .i64), (1, .int .i64)]
def cse (m : Int) (k : Kn) (f n : Int) : List PV := [.int .i64 m, .int .i64 k.cm, .int .i64 k.cw, .int .i64 k.mi, .int .i64 k.mx, .int .i64 k.hg, .int .i64 f, .int .i64 n]
theorem arg_case {p : PV} (h : HasArg TCase p) : ∃ m k f n, p = .agg (cse m k f n) ∧ in64 m ∧ kR k := by
  obtain ⟨ps, rfl, _, _, rfl, _, ⟨m, rfl, hm⟩, _, _, rfl, _, ⟨_, _, rfl, _, ⟨a, rfl, ha⟩, _, _, rfl, _, ⟨b, rfl, hb⟩, _, _, rfl, _, ⟨c, rfl, hc⟩, _, _, rfl, _, ⟨d, rfl, hd⟩, _, _, rfl, _, ⟨e, rfl, he⟩, rfl⟩, _, _, rfl, _, ⟨f, rfl, hf⟩, _, _, rfl, _, ⟨n, rfl, hn⟩, rfl⟩ := h
  exact ⟨m, ⟨a, b, c, d, e⟩, f, n, rfl, fits_in hm, fits_in ha, fits_in hb, fits_in hc, fits_in hd, fits_in he⟩
set_option maxRecDepth 20000 in
set_option maxHeartbeats 4000000 in
theorem tell_law (ps : List PV) (h : HasArgs [TCase] ps) : ∃ H', EE env (.fn 4) (ps.map .pv) [] = some (.pv (.bool true), H') := by
  obtain ⟨p1, _, rfl, h1, rfl⟩ := h
  obtain ⟨m, k, f, n, rfl, hm, hk⟩ := arg_case h1
  refine law_end (EE_has (fn_has rfl ?_))
  refine seq_on [(1, .ptr 0 0), (2, .pv (.bool false))] [.pcells (cse m k f n)] (by (refine Has.intro ⟨rfl, ?_, rfl⟩; (repeat (first | exact trivial | refine ⟨rfl, ?_⟩)))) (fun r => ?_)
  refine seq_on [(1, .ptr 0 0), (2, .pv (.bool false))] [.pcells (cse m k f n)] (by refine callPK_has first_ok ?_; (refine Has.intro ⟨rfl, ?_, rfl⟩; (repeat (first | exact trivial | refine ⟨rfl, ?_⟩)))) (fun r => ?_)
  refine seq_on [(3, .pv (.int .i64 m)), (4, .ptr 1 0), (5, .pv (.int .i64 f)), (6, .pv (.int .i64 n))] [.pcells (cse m k f n), .pcells (kn k)] ?_ (fun r => ?_)
  · refine hgetK_has (.pcells (cse m k f n)) rfl ?_
    refine getK_has (v := .int .i64 m) rfl ?_
    refine hgetK_has (.pcells (cse m k f n)) rfl ?_
    refine secK_has (v := kn k) rfl (of_decide_eq_true rfl) ?_
    refine hgetK_has (.pcells (cse m k f n)) rfl ?_
    refine getK_has (v := .int .i64 f) rfl ?_
    refine hgetK_has (.pcells (cse m k f n)) rfl ?_
    refine getK_has (v := .int .i64 n) rfl ?_
    refine hgetK_has _ rfl ?_
    refine needK_has rfl ?_
    refine eqK_has_eq (kn k) rfl ?_
    refine sameK_has rfl rfl ?_
    refine sameK_has rfl rfl ?_
    (refine Has.intro ⟨rfl, ?_, rfl⟩; (repeat (first | exact trivial | refine ⟨rfl, ?_⟩)))
  refine callPK_has (weight_ok m hm) ?_
  refine callPK_has (rweight_ok m hm) ?_
  refine boolK_has_true (beq_self_eq_true _) ?_
  (refine hgetK_has (.pcells (kn k)) rfl ?_; refine secK_has (v := kn k) rfl (of_decide_eq_true rfl) ?_)
  refine callPK_has (at_ok6 k f) ?_
  (refine hgetK_has (.pcells (kn k)) rfl ?_; refine secK_has (v := kn k) rfl (of_decide_eq_true rfl) ?_)
  refine callPK_has (rat_ok k f) ?_
  refine boolK_has_true (beq_self_eq_true _) ?_
  (refine hgetK_has (.pcells (kn k)) rfl ?_; refine secK_has (v := kn k) rfl (of_decide_eq_true rfl) ?_)
  refine callPK_has (with_ok k f n) ?_
  (refine hgetK_has (.pcells (kn k)) rfl ?_; refine secK_has (v := kn k) rfl (of_decide_eq_true rfl) ?_)
  refine callPK_has (rwith_ok k f n) ?_
  refine bindK_has (kn_same _) ?_
  refine boolK_has_true rfl ?_
  (refine hgetK_has (.pcells (kn k)) rfl ?_; refine secK_has (v := kn k) rfl (of_decide_eq_true rfl) ?_)
  refine callPK_has (right_ok6 k) ?_
  (refine hgetK_has (.pcells (kn k)) rfl ?_; refine secK_has (v := kn k) rfl (of_decide_eq_true rfl) ?_)
  refine callPK_has (rright_ok6 k) ?_
  refine boolK_has_true (beq_self_eq_true _) ?_
  (refine hgetK_has (.pcells (kn k)) rfl ?_; refine secK_has (v := kn k) rfl (of_decide_eq_true rfl) ?_)
  refine callPK_has (text_ok k hk) ?_
  (refine hgetK_has (.pcells (kn k)) rfl ?_; refine secK_has (v := kn k) rfl (of_decide_eq_true rfl) ?_)
  refine callPK_has (rtext_ok k hk) ?_
  refine boolK_has_true (beq_self_eq_true _) ?_
  exact Has.intro rfl
end Go.Proofs.YtmickbidffdklaaDoor
