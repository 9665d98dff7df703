/-
  A reader: numbers, texts, flags, the end.
-/
import Derived.Test.YtpebkojodmjleaaTaD
set_option linter.all false
set_option linter.unusedVariables false
set_option linter.unusedSimpArgs false
set_option linter.unusedSectionVars false
namespace Go.Proofs.Ytpebkojodmjleaa
open Go Go.VM

section
variable (p : Nat) (x : Ext) (bs : List UInt8) (hb : bs.length ≤ 1000000) (e : Int) (H : Heap) (ht : hget H p = rdO x bs e)
/-- What a call leaves of a reader. -/
def Left (p : Nat) (v : PV) (bs : List UInt8) (e : Int) (H : Heap) (y : AV × Heap) : Prop := y.1 = .pv v ∧ ∃ x, y.2 = hset H p (rdO x bs e)
theorem rdl (h : hget H p = rdO x bs e) : p < H.length := hget_lt h (by intro h; cases h)
include ht
theorem fail_no (err : Int) (h : e ≠ 0 ∨ err = 0) : EE env (.fn 22) [.ptr p 0, .pv (.int .i64 err)] H = some (.pv (.tup []), H) := by
  refine Has.eq (EE_has ?_)
  refine hgetK_has _ ht ?_
  refine getK_has rfl ?_
  refine boolK_beq (fun h1 => ?_) (fun h1 => ?_)
  · refine boolK_bne_f (by omega) ?_
    exact Has.intro rfl
  · exact Has.intro rfl
theorem fail_yes (err : Int) (h : e = 0) (h2 : err ≠ 0) : EE env (.fn 22) [.ptr p 0, .pv (.int .i64 err)] H = some (.pv (.tup []), hset H p (rdO .nil [] err)) := by
  refine Has.eq (EE_has ?_)
  refine hgetK_has _ ht ?_
  refine getK_has rfl ?_
  refine boolK_beq_t h ?_
  refine boolK_bne_t h2 ?_
  refine hgetK_has _ ht ?_
  refine needK_has rfl ?_
  refine eqK_has ?_
  refine hgetK_has _ (hget_hset_same _ (rdl p x bs e H ht)) ?_
  refine needK_has rfl ?_
  refine eqK_has ?_
  refine Has.intro ?_
  rw [hset_hset]; rfl
def rNum (bs : List UInt8) (e : Int) (most : Nat) : Nat × List UInt8 × Int :=
  if e ≠ 0 then (0, bs, e) else if (numF 0 0 bs).2.1 ≠ 0 then (0, [], (numF 0 0 bs).2.1) else if (numF 0 0 bs).1 > most then (0, [], 15) else ((numF 0 0 bs).1, (numF 0 0 bs).2.2, 0)
include hb
set_option maxHeartbeats 1000000 in
theorem rnum_ok (most : Nat) : Has (EE env (.fn 14) [.ptr p 0, .pv (.int .u64 (most : Int))] H) (Left p (.int .u64 ((rNum bs e most).1 : Nat)) (rNum bs e most).2.1 (rNum bs e most).2.2 H) := by
  have hpl := rdl p x bs e H ht
  refine EE_has ?_
  refine hgetK_has _ ht ?_
  refine getK_has rfl ?_
  by_cases h0 : e = 0
  · subst h0
    refine boolK_bne_f rfl ?_
    refine callSK_has' ((num_ok p x bs hb 0 H ht).mono fun y hy => ?_)
    obtain ⟨v, H'⟩ := y
    obtain ⟨e1, e2⟩ := hy
    dsimp only at e1 e2 ⊢
    subst e1
    have hr : rNum bs 0 most = if (numF 0 0 bs).2.1 ≠ 0 then (0, [], (numF 0 0 bs).2.1) else if (numF 0 0 bs).1 > most then (0, [], 15) else ((numF 0 0 bs).1, (numF 0 0 bs).2.2, 0) := by
      unfold rNum; rw [if_neg (by simp)]
    generalize (numF 0 0 bs).1 = v at *
    generalize (numF 0 0 bs).2.1 = er at *
    generalize (numF 0 0 bs).2.2 = rest at *
    rcases e2 with ⟨rfl, x', rfl⟩ | ⟨her, e2⟩
    · rw [if_neg (by simp)] at hr
      have ht' : hget (hset H p (rdO x' rest 0)) p = rdO x' rest 0 := hget_hset_same _ hpl
      refine boolK_beq_t rfl ?_
      refine boolK_dec (fun h1 => ?_) (fun h1 => ?_)
      · rw [hr, if_pos (by omega)]
        refine callSK_has (fail_yes p x' rest 0 _ ht' 15 rfl (by decide)) ?_
        refine boolK_bne_t (by decide) ?_
        refine Has.intro ⟨rfl, .nil, ?_⟩
        rw [hset_hset]
      · rw [hr, if_neg (by omega)]
        refine callSK_has (fail_no p x' rest 0 _ ht' 0 (.inr rfl)) ?_
        refine boolK_bne_f rfl ?_
        exact Has.intro ⟨rfl, x', rfl⟩
    · rw [if_pos her] at hr
      rw [hr, e2]
      refine boolK_beq_f her ?_
      refine callSK_has (fail_yes p x bs 0 H ht er rfl her) ?_
      refine boolK_bne_t her ?_
      exact Has.intro ⟨rfl, .nil, rfl⟩
  · refine boolK_bne_t h0 ?_
    have hr : rNum bs e most = (0, bs, e) := by unfold rNum; rw [if_pos h0]
    rw [hr]
    exact Has.intro ⟨rfl, x, (hset_self ht).symm⟩
omit hb ht in
theorem rNum_lt (most : Nat) : (rNum bs e most).1 < 18446744073709551616 := by
  unfold rNum
  split
  · exact (by decide : (0 : Nat) < 18446744073709551616)
  · split
    · exact (by decide : (0 : Nat) < 18446744073709551616)
    · rename_i h
      split
      · exact (by decide : (0 : Nat) < 18446744073709551616)
      · exact (numF_lt (bs := bs) (rest := (numF 0 0 bs).2.2) (v := (numF 0 0 bs).1) (by rw [← Classical.not_not.1 h])).1
omit hb ht in
theorem numF_short : ∀ (bs : List UInt8) (i u : Nat), (numF i u bs).2.2.length ≤ bs.length := by
  intro bs
  induction bs with
  | nil => intro i u; exact Nat.le_refl _
  | cons c l ih =>
    intro i u
    unfold numF
    split
    · exact Nat.zero_le _
    split
    · exact Nat.zero_le _
    split
    · exact Nat.le_succ _
    · exact Nat.le_succ_of_le (ih _ _)
omit hb ht in
theorem rNum_short (most : Nat) : (rNum bs e most).2.1.length ≤ bs.length := by
  unfold rNum
  split
  · exact Nat.le_refl _
  split
  · exact Nat.zero_le _
  split
  · exact Nat.zero_le _
  · exact numF_short bs 0 0
def maxU : Nat := 18446744073709551615
def rSig (bs : List UInt8) (e least most : Int) : Int × List UInt8 × Int :=
  if (rNum bs e maxU).2.2 ≠ 0 then (0, (rNum bs e maxU).2) else if zag (rNum bs e maxU).1 < least ∨ zag (rNum bs e maxU).1 > most then (0, [], 15) else (zag (rNum bs e maxU).1, (rNum bs e maxU).2)
set_option maxHeartbeats 1000000 in
theorem rsig_ok (least most : Int) : Has (EE env (.fn 16) [.ptr p 0, .pv (.int .i64 least), .pv (.int .i64 most)] H) (Left p (.int .i64 (rSig bs e least most).1) (rSig bs e least most).2.1 (rSig bs e least most).2.2 H) := by
  have hpl := rdl p x bs e H ht
  have hlt := rNum_lt bs e maxU
  refine EE_has ?_
  refine callSK_has' ((rnum_ok p x bs hb e H ht maxU).mono fun y hy => ?_)
  obtain ⟨v, H'⟩ := y
  obtain ⟨e1, x', e2⟩ := hy
  dsimp only at e1 e2 ⊢
  subst e1; subst e2
  unfold rSig
  generalize rNum bs e maxU = R at *
  obtain ⟨v, bs', e'⟩ := R
  dsimp only at hlt ⊢
  have ht' : hget (hset H p (rdO x' bs' e')) p = rdO x' bs' e' := hget_hset_same _ hpl
  refine callPK_has (zag_ok (by omega) (by omega)) ?_
  refine hgetK_has _ ht' ?_
  refine getK_has rfl ?_
  refine boolK_bne (fun h1 => ?_) (fun h1 => ?_)
  · rw [if_pos h1]
    exact Has.intro ⟨rfl, x', rfl⟩
  · rw [if_neg (fun h => h h1)]
    refine boolK_dec (fun h2 => ?_) (fun h2 => ?_)
    · rw [if_pos (.inl h2)]
      refine callSK_has (fail_yes p x' bs' e' _ ht' 15 h1 (by decide)) ?_
      refine Has.intro ⟨rfl, .nil, ?_⟩
      rw [hset_hset]
    · refine boolK_dec (fun h3 => ?_) (fun h3 => ?_)
      · rw [if_pos (.inr h3)]
        refine callSK_has (fail_yes p x' bs' e' _ ht' 15 h1 (by decide)) ?_
        refine Has.intro ⟨rfl, .nil, ?_⟩
        rw [hset_hset]
      · rw [if_neg (by omega)]
        exact Has.intro ⟨rfl, x', rfl⟩
def rTxt (bs : List UInt8) (e most : Int) : List UInt8 × List UInt8 × Int :=
  if (rNum bs e maxU).2.2 ≠ 0 then ([], (rNum bs e maxU).2) else if most < 0 ∨ ((rNum bs e maxU).1 : Int) > most then ([], [], 15) else if (rNum bs e maxU).1 > (rNum bs e maxU).2.1.length then ([], [], 10)
  else ((rNum bs e maxU).2.1.take (rNum bs e maxU).1, (rNum bs e maxU).2.1.drop (rNum bs e maxU).1, (rNum bs e maxU).2.2)
set_option maxHeartbeats 2000000 in
theorem rtxt_ok (most : Int) (hm : most ≤ 9223372036854775807) : Has (EE env (.fn 18) [.ptr p 0, .pv (.int .i64 most)] H) (Left p (sv (rTxt bs e most).1) (rTxt bs e most).2.1 (rTxt bs e most).2.2 H) := by
  have hpl := rdl p x bs e H ht
  have hlt := rNum_lt bs e maxU
  have hsh := rNum_short bs e maxU
  refine EE_has ?_
  refine callSK_has' ((rnum_ok p x bs hb e H ht maxU).mono fun y hy => ?_)
  obtain ⟨v, H'⟩ := y
  obtain ⟨e1, x', e2⟩ := hy
  dsimp only at e1 e2 ⊢
  subst e1; subst e2
  unfold rTxt
  generalize rNum bs e maxU = R at *
  obtain ⟨v, bs', e'⟩ := R
  dsimp only at hlt hsh ⊢
  have ht' : hget (hset H p (rdO x' bs' e')) p = rdO x' bs' e' := hget_hset_same _ hpl
  refine hgetK_has _ ht' ?_
  refine getK_has rfl ?_
  refine boolK_bne (fun h1 => ?_) (fun h1 => ?_)
  · rw [if_pos h1]
    exact Has.intro ⟨rfl, x', rfl⟩
  rw [if_neg (fun h => h h1)]
  have bad : (most < 0 ∨ (v : Int) > most) → Has (some ((AV.pv (sv [])), hset (hset H p (rdO x' bs' e')) p (rdO .nil [] 15))) (Left p (sv []) [] 15 H) := fun _ => Has.intro ⟨rfl, .nil, by rw [hset_hset]⟩
  refine boolK_dec (fun h2 => ?_) (fun h2 => ?_)
  · rw [if_pos (.inl h2)]
    refine callSK_has (fail_yes p x' bs' e' _ ht' 15 h1 (by decide)) ?_
    exact Has.intro ⟨rfl, .nil, by rw [hset_hset]⟩
  refine eqK_has_eq most ((wrap_u64_emod _).trans (by omega)) ?_
  refine boolK_dec (fun h3 => ?_) (fun h3 => ?_)
  · rw [if_pos (.inr h3)]
    refine callSK_has (fail_yes p x' bs' e' _ ht' 15 h1 (by decide)) ?_
    exact Has.intro ⟨rfl, .nil, by rw [hset_hset]⟩
  rw [if_neg (by omega)]
  refine hgetK_has _ ht' ?_
  refine getK_has rfl ?_
  refine eqK_has_eq ((bs'.length : Nat) : Int) ((wrap_u64_emod _).trans (by omega)) ?_
  refine boolK_dec (fun h4 => ?_) (fun h4 => ?_)
  · rw [if_pos (by omega)]
    refine callSK_has (fail_yes p x' bs' e' _ ht' 10 h1 (by decide)) ?_
    exact Has.intro ⟨rfl, .nil, by rw [hset_hset]⟩
  rw [if_neg (by omega)]
  have hv : v ≤ bs'.length := by omega
  have htl : (bs'.take v).length = v := by rw [List.length_take]; omega
  refine hgetK_has _ ht' ?_
  refine getK_has rfl ?_
  refine needK_has (by simp; omega) ?_
  refine eqK_has_eq (bc (bs'.take v)) (by
    rw [mulE_eq, mulE_eq, Nat.mul_one, Nat.mul_one]
    show ((bc bs').drop 0).take (v - 0) = _
    rw [List.drop_zero, bc_take]; rfl) ?_
  refine needK_has (by rw [bc_len, htl]; exact Nat.beq_refl _) ?_
  refine bindK_has (bc_str _) ?_
  refine hgetK_has _ ht' ?_
  refine getK_has rfl ?_
  refine needK_has (by simp; omega) ?_
  refine eqK_has_eq (bc (bs'.drop v)) (by
    rw [mulE_eq, mulE_eq, Nat.mul_one, Nat.mul_one]
    show ((bc bs').drop v).take (bs'.length - v) = _
    rw [bc_drop]; exact List.take_of_length_le (by rw [bc_len, List.length_drop]; exact Nat.le_refl _)) ?_
  refine hgetK_has _ ht' ?_
  refine needK_has rfl ?_
  refine eqK_has ?_
  refine Has.intro ⟨rfl, x'.part true false, ?_⟩
  rw [hset_hset]
  show hset H p _ = hset H p (.pcells [.sl _ (bs'.drop v).length _, .int .i64 e'])
  rw [List.length_drop]; rfl
def rFlg (bs : List UInt8) (e : Int) : Bool × List UInt8 × Int :=
  if e ≠ 0 then (false, bs, e) else match bs with
    | [] => (false, [], 10)
    | c :: l => if c.toNat > 1 then (false, [], 11) else (decide (c.toNat = 1), l, 0)
set_option maxHeartbeats 1000000 in
theorem rflg_ok : Has (EE env (.fn 20) [.ptr p 0] H) (Left p (.bool (rFlg bs e).1) (rFlg bs e).2.1 (rFlg bs e).2.2 H) := by
  have hpl := rdl p x bs e H ht
  refine EE_has ?_
  refine hgetK_has _ ht ?_
  refine getK_has rfl ?_
  refine boolK_bne (fun h1 => ?_) (fun h1 => ?_)
  · unfold rFlg; rw [if_pos h1]
    exact Has.intro ⟨rfl, x, (hset_self ht).symm⟩
  subst h1
  refine hgetK_has _ ht ?_
  refine getK_has rfl ?_
  unfold rFlg
  rw [if_neg (by simp)]
  cases bs with
  | nil =>
    refine boolK_beq_t rfl ?_
    refine callSK_has (fail_yes p x [] 0 _ ht 10 rfl (by decide)) ?_
    exact Has.intro ⟨rfl, .nil, rfl⟩
  | cons c l =>
    dsimp only
    refine boolK_beq_f (by simp; omega) ?_
    refine hgetK_has _ ht ?_
    refine getK_has rfl ?_
    refine needK_has (by (first | rfl | (simp; done) | (simp; omega))) ?_
    refine getK_has (v := .int .u8 c.toNat) rfl ?_
    refine boolK_dec (fun h2 => ?_) (fun h2 => ?_)
    · rw [if_pos (by omega)]
      refine callSK_has (fail_yes p x (c :: l) 0 _ ht 11 rfl (by decide)) ?_
      exact Has.intro ⟨rfl, .nil, rfl⟩
    · rw [if_neg (by omega)]
      refine hgetK_has _ ht ?_
      refine getK_has rfl ?_
      refine needK_has (by (first | rfl | (simp; done) | (simp; omega))) ?_
      refine getK_has (v := .int .u8 c.toNat) rfl ?_
      refine boolK_has_keep ?_
      refine hgetK_has _ ht ?_
      refine getK_has rfl ?_
      refine needK_has (by (first | rfl | (simp; done) | (simp; omega))) ?_
      refine eqK_has_eq (bc l) (by
        rw [mulE_eq, mulE_eq, Nat.mul_one, Nat.mul_one]
        show ((bc (c :: l)).drop 1).take ((c :: l).length - 1) = _
        exact List.take_of_length_le (by show (bc l).length ≤ _; rw [bc_len]; simp)) ?_
      refine hgetK_has _ ht ?_
      refine needK_has rfl ?_
      refine eqK_has ?_
      refine Has.intro ⟨?_, x.part true false, ?_⟩
      · show AV.pv (PV.bool ((c.toNat : Int) == 1)) = _
        congr 2
        rw [Bool.eq_iff_iff, beq_iff_eq, decide_eq_true_iff]; omega
      · show hset H p (HObj.pcells [.sl (x.part true false) ((c :: l).length - 1) (bc l), .int .i64 0]) = _
        rw [show ((c :: l).length - 1) = l.length by simp]; rfl
def rEnd (bs : List UInt8) (e : Int) : Int := if e = 0 ∧ bs ≠ [] then 13 else e
omit hb in
theorem err_ok : EE env (.fn 25) [.ptr p 0] H = some (.pv (.int .i64 e), H) := by
  refine Has.eq (EE_has ?_)
  refine hgetK_has _ ht ?_
  refine getK_has rfl ?_
  exact Has.intro rfl
omit hb in
theorem left_ok : EE env (.fn 26) [.ptr p 0] H = some (.pv (.int .i64 bs.length), H) := by
  refine Has.eq (EE_has ?_)
  refine hgetK_has _ ht ?_
  refine getK_has rfl ?_
  exact Has.intro rfl
omit hb in
theorem end_ok : Has (EE env (.fn 24) [.ptr p 0] H) (fun y => y.1 = .pv (.int .i64 (rEnd bs e)) ∧ ∃ o, y.2 = hset H p o) := by
  have hpl := rdl p x bs e H ht
  refine EE_has ?_
  refine callSK_has (left_ok p x bs e H ht) ?_
  refine boolK_dec (fun h1 => ?_) (fun h1 => ?_)
  · have hne : bs ≠ [] := fun h => by subst h; simp at h1
    by_cases h0 : e = 0
    · refine callSK_has (fail_yes p x bs e H ht 13 h0 (by decide)) ?_
      refine callSK_has (err_ok p .nil [] 13 _ (hget_hset_same _ hpl)) ?_
      refine Has.intro ⟨?_, _, rfl⟩
      show AV.pv (PV.int .i64 13) = _
      unfold rEnd; rw [if_pos ⟨h0, hne⟩]
    · refine callSK_has (fail_no p x bs e H ht 13 (.inl h0)) ?_
      refine callSK_has (err_ok p x bs e H ht) ?_
      refine Has.intro ⟨?_, _, (hset_self ht).symm⟩
      show AV.pv (PV.int .i64 e) = _
      unfold rEnd; rw [if_neg (fun h => h0 h.1)]
  · have he : bs = [] := List.eq_nil_of_length_eq_zero (by omega)
    refine callSK_has (err_ok p x bs e H ht) ?_
    refine Has.intro ⟨?_, _, (hset_self ht).symm⟩
    show AV.pv (PV.int .i64 e) = _
    unfold rEnd; rw [if_neg (fun h => h.2 he)]
end
/-- A new reader. -/
theorem read_ok (x : Ext) (bs : List UInt8) (hx : (x = .nil ∧ bs = []) ∨ x = .nn ∨ x = .nnx) (hb : bs.length ≤ 1000000) (H : Heap) : ∃ e, EE env (.fn 13) [.pv (.sl x bs.length (bc bs))] H = some (.ptr H.length 0, H ++ [rdO e bs 0]) := by
  obtain ⟨e, he, _⟩ := clone_ok x bs hx hb
  refine ⟨e, Has.eq (EE_has ?_)⟩
  refine callPK_has he ?_
  exact Has.intro rfl
end Go.Proofs.Ytpebkojodmjleaa
