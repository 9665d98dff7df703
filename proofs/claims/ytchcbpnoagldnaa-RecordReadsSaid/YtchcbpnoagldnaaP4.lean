/-
  Part 4 of the functions and the law.
  A reader: numbers, texts, flags, the end.
  What must be answered ahead of everything else; TapeWrites in the abstract machine.
  What is read is what was written.
  Pods that are kin.
  Right entries.
  Entries found by their names; owners in order.
  Right entries of a state: each age once.
  Right holds of a state; right states.
  Right states, as the program tells it.
  Right states, as the document tells it.
-/
import Derived.Test.YtchcbpnoagldnaaP3
set_option linter.all false
set_option linter.unusedVariables false
set_option linter.unusedSimpArgs false
set_option linter.unusedSectionVars false
namespace Go.Proofs.Ytchcbpnoagldnaa.T
open Go Go.VM

section
variable (p : Nat) (x : Ext) (bs : List UInt8) (hb : bs.length ≤ 1000000) (e : Int) (H : Heap) (ht : hget H p = rdO x bs e)
/-- What a call leaves of a reader. -/
def Left (p : Nat) (v : PV) (bs : List UInt8) (e : Int) (H : Heap) (y : AV × Heap) : Prop := y.1 = .pv v ∧ ∃ x, y.2 = hset H p (rdO x bs e)
theorem rdl (h : hget H p = rdO x bs e) : p < H.length := hget_lt h (by intro h; cases h)
include ht
theorem fail_no (err : Int) (h : e ≠ 0 ∨ err = 0) : EE env (.fn 79) [.ptr p 0, .pv (.int .i64 err)] H = some (.pv (.tup []), H) := by
  refine Has.eq (EE_has ?_)
  refine hgetK_has _ ht ?_
  refine getK_has rfl ?_
  refine boolK_beq (fun h1 => ?_) (fun h1 => ?_)
  · refine boolK_bne_f (by omega) ?_
    exact Has.intro rfl
  · exact Has.intro rfl
theorem fail_yes (err : Int) (h : e = 0) (h2 : err ≠ 0) : EE env (.fn 79) [.ptr p 0, .pv (.int .i64 err)] H = some (.pv (.tup []), hset H p (rdO .nil [] err)) := by
  refine Has.eq (EE_has ?_)
  refine hgetK_has _ ht ?_
  refine getK_has rfl ?_
  refine boolK_beq_t h ?_
  refine boolK_bne_t h2 ?_
  refine hgetK_has _ ht ?_
  refine needK_has rfl ?_
  refine eqK_has ?_
  refine hgetK_has _ (hget_hset_same _ (rdl p x bs e H ht)) ?_
  refine needK_has rfl ?_
  refine eqK_has ?_
  refine Has.intro ?_
  rw [hset_hset]; rfl
def rNum (bs : List UInt8) (e : Int) (most : Nat) : Nat × List UInt8 × Int :=
  if e ≠ 0 then (0, bs, e) else if (numF 0 0 bs).2.1 ≠ 0 then (0, [], (numF 0 0 bs).2.1) else if (numF 0 0 bs).1 > most then (0, [], 15) else ((numF 0 0 bs).1, (numF 0 0 bs).2.2, 0)
include hb
set_option maxHeartbeats 1000000 in
theorem rnum_ok (most : Nat) : Has (EE env (.fn 76) [.ptr p 0, .pv (.int .u64 (most : Int))] H) (Left p (.int .u64 ((rNum bs e most).1 : Nat)) (rNum bs e most).2.1 (rNum bs e most).2.2 H) := by
  have hpl := rdl p x bs e H ht
  refine EE_has ?_
  refine hgetK_has _ ht ?_
  refine getK_has rfl ?_
  by_cases h0 : e = 0
  · subst h0
    refine boolK_bne_f rfl ?_
    refine callSK_has' ((num_ok p x bs hb 0 H ht).mono fun y hy => ?_)
    obtain ⟨v, H'⟩ := y
    obtain ⟨e1, e2⟩ := hy
    dsimp only at e1 e2 ⊢
    subst e1
    have hr : rNum bs 0 most = if (numF 0 0 bs).2.1 ≠ 0 then (0, [], (numF 0 0 bs).2.1) else if (numF 0 0 bs).1 > most then (0, [], 15) else ((numF 0 0 bs).1, (numF 0 0 bs).2.2, 0) := by
      unfold rNum; rw [if_neg (by simp)]
    generalize (numF 0 0 bs).1 = v at *
    generalize (numF 0 0 bs).2.1 = er at *
    generalize (numF 0 0 bs).2.2 = rest at *
    rcases e2 with ⟨rfl, x', rfl⟩ | ⟨her, e2⟩
    · rw [if_neg (by simp)] at hr
      have ht' : hget (hset H p (rdO x' rest 0)) p = rdO x' rest 0 := hget_hset_same _ hpl
      refine boolK_beq_t rfl ?_
      refine boolK_dec (fun h1 => ?_) (fun h1 => ?_)
      · rw [hr, if_pos (by omega)]
        refine callSK_has (fail_yes p x' rest 0 _ ht' 15 rfl (by decide)) ?_
        refine boolK_bne_t (by decide) ?_
        refine Has.intro ⟨rfl, .nil, ?_⟩
        rw [hset_hset]
      · rw [hr, if_neg (by omega)]
        refine callSK_has (fail_no p x' rest 0 _ ht' 0 (.inr rfl)) ?_
        refine boolK_bne_f rfl ?_
        exact Has.intro ⟨rfl, x', rfl⟩
    · rw [if_pos her] at hr
      rw [hr, e2]
      refine boolK_beq_f her ?_
      refine callSK_has (fail_yes p x bs 0 H ht er rfl her) ?_
      refine boolK_bne_t her ?_
      exact Has.intro ⟨rfl, .nil, rfl⟩
  · refine boolK_bne_t h0 ?_
    have hr : rNum bs e most = (0, bs, e) := by unfold rNum; rw [if_pos h0]
    rw [hr]
    exact Has.intro ⟨rfl, x, (hset_self ht).symm⟩
omit hb ht in
theorem rNum_lt (most : Nat) : (rNum bs e most).1 < 18446744073709551616 := by
  unfold rNum
  split
  · exact (by decide : (0 : Nat) < 18446744073709551616)
  · split
    · exact (by decide : (0 : Nat) < 18446744073709551616)
    · rename_i h
      split
      · exact (by decide : (0 : Nat) < 18446744073709551616)
      · exact (numF_lt (bs := bs) (rest := (numF 0 0 bs).2.2) (v := (numF 0 0 bs).1) (by rw [← Classical.not_not.1 h])).1
omit hb ht in
theorem numF_short : ∀ (bs : List UInt8) (i u : Nat), (numF i u bs).2.2.length ≤ bs.length := by
  intro bs
  induction bs with
  | nil => intro i u; exact Nat.le_refl _
  | cons c l ih =>
    intro i u
    unfold numF
    split
    · exact Nat.zero_le _
    split
    · exact Nat.zero_le _
    split
    · exact Nat.le_succ _
    · exact Nat.le_succ_of_le (ih _ _)
omit hb ht in
theorem rNum_short (most : Nat) : (rNum bs e most).2.1.length ≤ bs.length := by
  unfold rNum
  split
  · exact Nat.le_refl _
  split
  · exact Nat.zero_le _
  split
  · exact Nat.zero_le _
  · exact numF_short bs 0 0
def maxU : Nat := 18446744073709551615
def rSig (bs : List UInt8) (e least most : Int) : Int × List UInt8 × Int :=
  if (rNum bs e maxU).2.2 ≠ 0 then (0, (rNum bs e maxU).2) else if zag (rNum bs e maxU).1 < least ∨ zag (rNum bs e maxU).1 > most then (0, [], 15) else (zag (rNum bs e maxU).1, (rNum bs e maxU).2)
set_option maxHeartbeats 1000000 in
theorem rsig_ok (least most : Int) : Has (EE env (.fn 77) [.ptr p 0, .pv (.int .i64 least), .pv (.int .i64 most)] H) (Left p (.int .i64 (rSig bs e least most).1) (rSig bs e least most).2.1 (rSig bs e least most).2.2 H) := by
  have hpl := rdl p x bs e H ht
  have hlt := rNum_lt bs e maxU
  refine EE_has ?_
  refine callSK_has' ((rnum_ok p x bs hb e H ht maxU).mono fun y hy => ?_)
  obtain ⟨v, H'⟩ := y
  obtain ⟨e1, x', e2⟩ := hy
  dsimp only at e1 e2 ⊢
  subst e1; subst e2
  unfold rSig
  generalize rNum bs e maxU = R at *
  obtain ⟨v, bs', e'⟩ := R
  dsimp only at hlt ⊢
  have ht' : hget (hset H p (rdO x' bs' e')) p = rdO x' bs' e' := hget_hset_same _ hpl
  refine callPK_has (zag_ok (by omega) (by omega)) ?_
  refine hgetK_has _ ht' ?_
  refine getK_has rfl ?_
  refine boolK_bne (fun h1 => ?_) (fun h1 => ?_)
  · rw [if_pos h1]
    exact Has.intro ⟨rfl, x', rfl⟩
  · rw [if_neg (fun h => h h1)]
    refine boolK_dec (fun h2 => ?_) (fun h2 => ?_)
    · rw [if_pos (.inl h2)]
      refine callSK_has (fail_yes p x' bs' e' _ ht' 15 h1 (by decide)) ?_
      refine Has.intro ⟨rfl, .nil, ?_⟩
      rw [hset_hset]
    · refine boolK_dec (fun h3 => ?_) (fun h3 => ?_)
      · rw [if_pos (.inr h3)]
        refine callSK_has (fail_yes p x' bs' e' _ ht' 15 h1 (by decide)) ?_
        refine Has.intro ⟨rfl, .nil, ?_⟩
        rw [hset_hset]
      · rw [if_neg (by omega)]
        exact Has.intro ⟨rfl, x', rfl⟩
def rTxt (bs : List UInt8) (e most : Int) : List UInt8 × List UInt8 × Int :=
  if (rNum bs e maxU).2.2 ≠ 0 then ([], (rNum bs e maxU).2) else if most < 0 ∨ ((rNum bs e maxU).1 : Int) > most then ([], [], 15) else if (rNum bs e maxU).1 > (rNum bs e maxU).2.1.length then ([], [], 10)
  else ((rNum bs e maxU).2.1.take (rNum bs e maxU).1, (rNum bs e maxU).2.1.drop (rNum bs e maxU).1, (rNum bs e maxU).2.2)
set_option maxHeartbeats 2000000 in
theorem rtxt_ok (most : Int) (hm : most ≤ 9223372036854775807) : Has (EE env (.fn 55) [.ptr p 0, .pv (.int .i64 most)] H) (Left p (sv (rTxt bs e most).1) (rTxt bs e most).2.1 (rTxt bs e most).2.2 H) := by
  have hpl := rdl p x bs e H ht
  have hlt := rNum_lt bs e maxU
  have hsh := rNum_short bs e maxU
  refine EE_has ?_
  refine callSK_has' ((rnum_ok p x bs hb e H ht maxU).mono fun y hy => ?_)
  obtain ⟨v, H'⟩ := y
  obtain ⟨e1, x', e2⟩ := hy
  dsimp only at e1 e2 ⊢
  subst e1; subst e2
  unfold rTxt
  generalize rNum bs e maxU = R at *
  obtain ⟨v, bs', e'⟩ := R
  dsimp only at hlt hsh ⊢
  have ht' : hget (hset H p (rdO x' bs' e')) p = rdO x' bs' e' := hget_hset_same _ hpl
  refine hgetK_has _ ht' ?_
  refine getK_has rfl ?_
  refine boolK_bne (fun h1 => ?_) (fun h1 => ?_)
  · rw [if_pos h1]
    exact Has.intro ⟨rfl, x', rfl⟩
  rw [if_neg (fun h => h h1)]
  have bad : (most < 0 ∨ (v : Int) > most) → Has (some ((AV.pv (sv [])), hset (hset H p (rdO x' bs' e')) p (rdO .nil [] 15))) (Left p (sv []) [] 15 H) := fun _ => Has.intro ⟨rfl, .nil, by rw [hset_hset]⟩
  refine boolK_dec (fun h2 => ?_) (fun h2 => ?_)
  · rw [if_pos (.inl h2)]
    refine callSK_has (fail_yes p x' bs' e' _ ht' 15 h1 (by decide)) ?_
    exact Has.intro ⟨rfl, .nil, by rw [hset_hset]⟩
  refine eqK_has_eq most ((wrap_u64_emod _).trans (by omega)) ?_
  refine boolK_dec (fun h3 => ?_) (fun h3 => ?_)
  · rw [if_pos (.inr h3)]
    refine callSK_has (fail_yes p x' bs' e' _ ht' 15 h1 (by decide)) ?_
    exact Has.intro ⟨rfl, .nil, by rw [hset_hset]⟩
  rw [if_neg (by omega)]
  refine hgetK_has _ ht' ?_
  refine getK_has rfl ?_
  refine eqK_has_eq ((bs'.length : Nat) : Int) ((wrap_u64_emod _).trans (by omega)) ?_
  refine boolK_dec (fun h4 => ?_) (fun h4 => ?_)
  · rw [if_pos (by omega)]
    refine callSK_has (fail_yes p x' bs' e' _ ht' 10 h1 (by decide)) ?_
    exact Has.intro ⟨rfl, .nil, by rw [hset_hset]⟩
  rw [if_neg (by omega)]
  have hv : v ≤ bs'.length := by omega
  have htl : (bs'.take v).length = v := by rw [List.length_take]; omega
  refine hgetK_has _ ht' ?_
  refine getK_has rfl ?_
  refine needK_has (by simp; omega) ?_
  refine eqK_has_eq (bc (bs'.take v)) (by
    rw [mulE_eq, mulE_eq, Nat.mul_one, Nat.mul_one]
    show ((bc bs').drop 0).take (v - 0) = _
    rw [List.drop_zero, bc_take]; rfl) ?_
  refine needK_has (by rw [bc_len, htl]; exact Nat.beq_refl _) ?_
  refine bindK_has (bc_str _) ?_
  refine hgetK_has _ ht' ?_
  refine getK_has rfl ?_
  refine needK_has (by simp; omega) ?_
  refine eqK_has_eq (bc (bs'.drop v)) (by
    rw [mulE_eq, mulE_eq, Nat.mul_one, Nat.mul_one]
    show ((bc bs').drop v).take (bs'.length - v) = _
    rw [bc_drop]; exact List.take_of_length_le (by rw [bc_len, List.length_drop]; exact Nat.le_refl _)) ?_
  refine hgetK_has _ ht' ?_
  refine needK_has rfl ?_
  refine eqK_has ?_
  refine Has.intro ⟨rfl, x'.part true false, ?_⟩
  rw [hset_hset]
  show hset H p _ = hset H p (.pcells [.sl _ (bs'.drop v).length _, .int .i64 e'])
  rw [List.length_drop]; rfl
def rFlg (bs : List UInt8) (e : Int) : Bool × List UInt8 × Int :=
  if e ≠ 0 then (false, bs, e) else match bs with
    | [] => (false, [], 10)
    | c :: l => if c.toNat > 1 then (false, [], 11) else (decide (c.toNat = 1), l, 0)
set_option maxHeartbeats 1000000 in
theorem rflg_ok : Has (EE env (.fn 93) [.ptr p 0] H) (Left p (.bool (rFlg bs e).1) (rFlg bs e).2.1 (rFlg bs e).2.2 H) := by
  have hpl := rdl p x bs e H ht
  refine EE_has ?_
  refine hgetK_has _ ht ?_
  refine getK_has rfl ?_
  refine boolK_bne (fun h1 => ?_) (fun h1 => ?_)
  · unfold rFlg; rw [if_pos h1]
    exact Has.intro ⟨rfl, x, (hset_self ht).symm⟩
  subst h1
  refine hgetK_has _ ht ?_
  refine getK_has rfl ?_
  unfold rFlg
  rw [if_neg (by simp)]
  cases bs with
  | nil =>
    refine boolK_beq_t rfl ?_
    refine callSK_has (fail_yes p x [] 0 _ ht 10 rfl (by decide)) ?_
    exact Has.intro ⟨rfl, .nil, rfl⟩
  | cons c l =>
    dsimp only
    refine boolK_beq_f (by simp; omega) ?_
    refine hgetK_has _ ht ?_
    refine getK_has rfl ?_
    refine needK_has (by (first | rfl | (simp; done) | (simp; omega))) ?_
    refine getK_has (v := .int .u8 c.toNat) rfl ?_
    refine boolK_dec (fun h2 => ?_) (fun h2 => ?_)
    · rw [if_pos (by omega)]
      refine callSK_has (fail_yes p x (c :: l) 0 _ ht 11 rfl (by decide)) ?_
      exact Has.intro ⟨rfl, .nil, rfl⟩
    · rw [if_neg (by omega)]
      refine hgetK_has _ ht ?_
      refine getK_has rfl ?_
      refine needK_has (by (first | rfl | (simp; done) | (simp; omega))) ?_
      refine getK_has (v := .int .u8 c.toNat) rfl ?_
      refine boolK_has_keep ?_
      refine hgetK_has _ ht ?_
      refine getK_has rfl ?_
      refine needK_has (by (first | rfl | (simp; done) | (simp; omega))) ?_
      refine eqK_has_eq (bc l) (by
        rw [mulE_eq, mulE_eq, Nat.mul_one, Nat.mul_one]
        show ((bc (c :: l)).drop 1).take ((c :: l).length - 1) = _
        exact List.take_of_length_le (by show (bc l).length ≤ _; rw [bc_len]; simp)) ?_
      refine hgetK_has _ ht ?_
      refine needK_has rfl ?_
      refine eqK_has ?_
      refine Has.intro ⟨?_, x.part true false, ?_⟩
      · show AV.pv (PV.bool ((c.toNat : Int) == 1)) = _
        congr 2
        rw [Bool.eq_iff_iff, beq_iff_eq, decide_eq_true_iff]; omega
      · show hset H p (HObj.pcells [.sl (x.part true false) ((c :: l).length - 1) (bc l), .int .i64 0]) = _
        rw [show ((c :: l).length - 1) = l.length by simp]; rfl
def rEnd (bs : List UInt8) (e : Int) : Int := if e = 0 ∧ bs ≠ [] then 13 else e
omit hb in
theorem err_ok : EE env (.fn 81) [.ptr p 0] H = some (.pv (.int .i64 e), H) := by
  refine Has.eq (EE_has ?_)
  refine hgetK_has _ ht ?_
  refine getK_has rfl ?_
  exact Has.intro rfl
omit hb in
theorem left_ok : EE env (.fn 80) [.ptr p 0] H = some (.pv (.int .i64 bs.length), H) := by
  refine Has.eq (EE_has ?_)
  refine hgetK_has _ ht ?_
  refine getK_has rfl ?_
  exact Has.intro rfl
omit hb in
theorem end_ok : Has (EE env (.fn 56) [.ptr p 0] H) (fun y => y.1 = .pv (.int .i64 (rEnd bs e)) ∧ ∃ o, y.2 = hset H p o) := by
  have hpl := rdl p x bs e H ht
  refine EE_has ?_
  refine callSK_has (left_ok p x bs e H ht) ?_
  refine boolK_dec (fun h1 => ?_) (fun h1 => ?_)
  · have hne : bs ≠ [] := fun h => by subst h; simp at h1
    by_cases h0 : e = 0
    · refine callSK_has (fail_yes p x bs e H ht 13 h0 (by decide)) ?_
      refine callSK_has (err_ok p .nil [] 13 _ (hget_hset_same _ hpl)) ?_
      refine Has.intro ⟨?_, _, rfl⟩
      show AV.pv (PV.int .i64 13) = _
      unfold rEnd; rw [if_pos ⟨h0, hne⟩]
    · refine callSK_has (fail_no p x bs e H ht 13 (.inl h0)) ?_
      refine callSK_has (err_ok p x bs e H ht) ?_
      refine Has.intro ⟨?_, _, (hset_self ht).symm⟩
      show AV.pv (PV.int .i64 e) = _
      unfold rEnd; rw [if_neg (fun h => h0 h.1)]
  · have he : bs = [] := List.eq_nil_of_length_eq_zero (by omega)
    refine callSK_has (err_ok p x bs e H ht) ?_
    refine Has.intro ⟨?_, _, (hset_self ht).symm⟩
    show AV.pv (PV.int .i64 e) = _
    unfold rEnd; rw [if_neg (fun h => h.2 he)]
end
/-- A new reader. -/
theorem read_ok (x : Ext) (bs : List UInt8) (hx : (x = .nil ∧ bs = []) ∨ x = .nn ∨ x = .nnx) (hb : bs.length ≤ 1000000) (H : Heap) : ∃ e, EE env (.fn 52) [.pv (.sl x bs.length (bc bs))] H = some (.ptr H.length 0, H ++ [rdO e bs 0]) := by
  obtain ⟨e, he, _⟩ := clone_ok x bs hx hb
  refine ⟨e, Has.eq (EE_has ?_)⟩
  refine callPK_has he ?_
  exact Has.intro rfl
end Go.Proofs.Ytchcbpnoagldnaa.T

namespace Go.Proofs.Ytchcbpnoagldnaa.T
open Go Go.VM

theorem TP.put {H : Heap} {p q : Nat} {bs : List UInt8} (h : TP H p bs) {o : HObj} (o' : HObj) (hq : hget H q = o) (ho : ∀ n es, o ≠ .tok n es) (hne : p ≠ q) : TP (hset H q o') p bs := by
  obtain ⟨v, h1, h2⟩ := h
  exact ⟨v, (hget_hset_ne _ _ hne).trans h1, AppV_put h2 o' hq ho⟩
theorem TP.grow {H : Heap} {p : Nat} {bs : List UInt8} (h : TP H p bs) (L : Heap) : TP (H ++ L) p bs := by
  obtain ⟨v, h1, h2⟩ := h
  exact ⟨v, (hget_app L (hget_lt h1 cellOf_ne.1)).trans h1, AppV_grow h2 L⟩
def B0 : List UInt8 := [172, 2, 1, 2, 97, 98, 1]
theorem b0_eq : ((([] ++ enc 300) ++ enc (zn (-1))) ++ enc ([97, 98] : List UInt8).length ++ [97, 98]) ++ enc true.toNat = B0 := by
  have e1 : enc 300 = [172, 2] := by rw [enc_hi (by decide), enc_lo (by decide)]; rfl
  have e2 : enc (zn (-1)) = [1] := by rw [show zn (-1) = 1 from by decide, enc_lo (by decide)]; rfl
  have e3 : enc ([97, 98] : List UInt8).length = [2] := by rw [enc_lo (by decide)]; rfl
  have e4 : enc true.toNat = [1] := by rw [enc_lo (by decide)]; rfl
  rw [e1, e2, e3, e4]; rfl
end Go.Proofs.Ytchcbpnoagldnaa.T

namespace Go.Proofs.Ytchcbpnoagldnaa.T
open Go Go.VM

theorem numF_of {u : Nat} (hu : u < 18446744073709551616) (rest : List UInt8) : numF 0 0 (enc u ++ rest) = (u, 0, rest) := by
  have := numF_enc rest u 0 0 (.inr rfl) (by simpa using hu)
  simpa using this
theorem rNum_enc {u : Nat} (hu : u < 18446744073709551616) (rest : List UInt8) (most : Nat) (hm : u ≤ most) : rNum (enc u ++ rest) 0 most = (u, rest, 0) := by
  unfold rNum
  rw [numF_of hu, if_neg (by simp), if_neg (by simp), if_neg (by dsimp only; omega)]
theorem maxU_eq : maxU = 18446744073709551615 := rfl
theorem rSig_enc {n : Int} (h0 : -9223372036854775808 ≤ n) (h1 : n ≤ 9223372036854775807) (rest : List UInt8) : rSig (enc (zn n) ++ rest) 0 n n = (n, rest, 0) := by
  obtain ⟨g1, g2⟩ := zn_lt h0 h1
  unfold rSig
  rw [rNum_enc g1 rest maxU (by rw [maxU_eq]; omega)]
  dsimp only
  rw [g2, zag_zig, if_neg (by simp), if_neg (by omega)]
theorem rTxt_enc {s : List UInt8} (hs : s.length < 18446744073709551616) (rest : List UInt8) : rTxt (enc s.length ++ s ++ rest) 0 s.length = (s, rest, 0) := by
  unfold rTxt
  rw [List.append_assoc, rNum_enc hs (s ++ rest) maxU (by rw [maxU_eq]; omega)]
  dsimp only
  rw [if_neg (by simp), if_neg (by omega), if_neg (by rw [List.length_append]; omega), List.take_left, List.drop_left]
theorem enc_bool (b : Bool) : enc b.toNat = [UInt8.ofNat b.toNat] := by rw [enc_lo (by cases b <;> decide)]
theorem rFlg_enc (b : Bool) (rest : List UInt8) : rFlg (enc b.toNat ++ rest) 0 = (b, rest, 0) := by
  rw [enc_bool]
  cases b <;> rfl
theorem rNum_back {bs : List UInt8} {e : Int} (h : (rNum bs e maxU).2.2 = 0) : e = 0 ∧ bs = enc (rNum bs e maxU).1 ++ (rNum bs e maxU).2.1 := by
  unfold rNum at h ⊢
  by_cases h0 : e = 0
  · subst h0
    rw [if_neg (by simp)] at h ⊢
    by_cases h1 : (numF 0 0 bs).2.1 = 0
    · rw [if_neg (by simp [h1])] at h ⊢
      obtain ⟨g1, g2⟩ := numF_lt (bs := bs) (v := (numF 0 0 bs).1) (rest := (numF 0 0 bs).2.2) (by rw [← h1])
      rw [if_neg (by rw [maxU_eq]; omega)]
      exact ⟨rfl, g2⟩
    · rw [if_pos h1] at h
      exact absurd h h1
  · rw [if_pos h0] at h
    exact absurd h h0
def minI : Int := -9223372036854775808
def maxI : Int := 9223372036854775807
theorem rSig_in (bs : List UInt8) (e : Int) : -9223372036854775808 ≤ (rSig bs e minI maxI).1 ∧ (rSig bs e minI maxI).1 ≤ 9223372036854775807 := by
  unfold rSig
  split
  · dsimp only; omega
  split
  · dsimp only; omega
  · rename_i h
    have : minI = -9223372036854775808 := rfl
    have : maxI = 9223372036854775807 := rfl
    dsimp only; omega
theorem rSig_back {bs : List UInt8} {e : Int} (h : (rSig bs e minI maxI).2.2 = 0) : e = 0 ∧ bs = enc (zn (rSig bs e minI maxI).1) ++ (rSig bs e minI maxI).2.1 := by
  unfold rSig at h ⊢
  by_cases h1 : (rNum bs e maxU).2.2 = 0
  · rw [if_neg (by simp [h1])] at h ⊢
    by_cases h2 : zag (rNum bs e maxU).1 < minI ∨ zag (rNum bs e maxU).1 > maxI
    · rw [if_pos h2] at h; simp at h
    · rw [if_neg h2]
      have hz : zn (zag (rNum bs e maxU).1) = (rNum bs e maxU).1 := by
        unfold zn; rw [zig_zag (by omega)]; simp
      dsimp only
      rw [hz]
      exact rNum_back h1
  · rw [if_pos h1] at h
    exact absurd h h1
theorem rTxt_short (bs : List UInt8) (e most : Int) : (rTxt bs e most).1.length ≤ bs.length ∧ (rTxt bs e most).2.1.length ≤ bs.length := by
  have := rNum_short bs e maxU
  unfold rTxt
  split
  · exact ⟨Nat.zero_le _, this⟩
  split
  · exact ⟨Nat.zero_le _, Nat.zero_le _⟩
  split
  · exact ⟨Nat.zero_le _, Nat.zero_le _⟩
  · dsimp only
    rw [List.length_take, List.length_drop]; omega
theorem rTxt_back {bs : List UInt8} {e most : Int} (h : (rTxt bs e most).2.2 = 0) : e = 0 ∧ bs = enc (rTxt bs e most).1.length ++ (rTxt bs e most).1 ++ (rTxt bs e most).2.1 := by
  unfold rTxt at h ⊢
  by_cases h1 : (rNum bs e maxU).2.2 = 0
  · rw [if_neg (by simp [h1])] at h ⊢
    by_cases h2 : most < 0 ∨ ((rNum bs e maxU).1 : Int) > most
    · rw [if_pos h2] at h; simp at h
    · rw [if_neg h2] at h ⊢
      by_cases h3 : (rNum bs e maxU).1 > (rNum bs e maxU).2.1.length
      · rw [if_pos h3] at h; simp at h
      · rw [if_neg h3]
        obtain ⟨g1, g2⟩ := rNum_back h1
        refine ⟨g1, ?_⟩
        dsimp only
        rw [List.length_take, List.append_assoc, List.take_append_drop, Nat.min_eq_left (by omega)]
        exact g2
  · rw [if_pos h1] at h
    exact absurd h h1
theorem rSig_short (bs : List UInt8) (e a b : Int) : (rSig bs e a b).2.1.length ≤ bs.length := by
  have := rNum_short bs e maxU
  unfold rSig
  split
  · exact this
  split
  · exact Nat.zero_le _
  · exact this
theorem rFlg_short (bs : List UInt8) (e : Int) : (rFlg bs e).2.1.length ≤ bs.length := by
  unfold rFlg
  split
  · exact Nat.le_refl _
  split
  · exact Nat.zero_le _
  split
  · exact Nat.zero_le _
  · exact Nat.le_succ _
theorem rFlg_back {bs : List UInt8} {e : Int} (h : (rFlg bs e).2.2 = 0) : e = 0 ∧ bs = enc (rFlg bs e).1.toNat ++ (rFlg bs e).2.1 := by
  unfold rFlg at h ⊢
  by_cases h0 : e = 0
  · rw [if_neg (by simp [h0])] at h ⊢
    refine ⟨h0, ?_⟩
    cases bs with
    | nil => simp at h
    | cons c l =>
      dsimp only at h ⊢
      by_cases h1 : c.toNat > 1
      · rw [if_pos h1] at h; simp at h
      · rw [if_neg h1]
        dsimp only
        rw [enc_bool]
        by_cases h2 : c.toNat = 1
        · have : c = 1 := UInt8.toNat.inj h2
          subst this; rfl
        · have : c = 0 := UInt8.toNat.inj (by show c.toNat = 0; omega)
          subst this; rfl
  · rw [if_pos h0] at h
    exact absurd h h0
end Go.Proofs.Ytchcbpnoagldnaa.T

namespace Go.Proofs.Ytchcbpnoagldnaa
open Go Go.VM

def kinC (c d : Ct) : Prop := c.name = d.name ∧ c.r0 = d.r0 ∧ c.r1 = d.r1 ∧ c.r2 = d.r2
instance (c d : Ct) : Decidable (kinC c d) := by unfold kinC; infer_instance
def rC (c d : Ct) : Prop := c.r0 = d.r0 ∧ c.r1 = d.r1 ∧ c.r2 = d.r2
instance (c d : Ct) : Decidable (rC c d) := by unfold rC; infer_instance
def r3 (c : Ct) : List PV := [.bool c.r0, .bool c.r1, .bool c.r2]
theorem r3_eq (c d : Ct) : aggEq [.b, .b, .b] (r3 c) (r3 d) = some (decide (rC c d)) := by
  show some _ = some _
  congr 1
  rw [Bool.eq_iff_iff, decide_eq_true_iff]
  simp [rC]
def kinL (a b : List Ct) : Prop := a.length = b.length ∧ ∀ (j : Nat) (c d : Ct), a[j]? = some c → b[j]? = some d → kinC c d
noncomputable instance (a b : List Ct) : Decidable (kinL a b) := Classical.propDecidable _
def kinP (a b : Pd) : Prop := a.name = b.name ∧ a.prio = b.prio ∧ a.pol = b.pol ∧ kinL a.l b.l
noncomputable instance (a b : Pd) : Decidable (kinP a b) := Classical.propDecidable _
theorem at_ij (i j es : Nat) : addO (mulE ((i : Nat) : Int).toNat es) j = i * es + j := by rw [addO_eq, mulE_eq]; rfl
/-- A call by itself, from one on any heap. -/
theorem EP_of {f : FuncId} {ps : List PV} {v : PV} {X : AV × Heap → Prop} (h : Has (EE env (.fn f) (ps.map .pv) []) (fun y => y.1 = .pv v ∧ X y)) : EP (EE env) f ps = some v := by
  obtain ⟨y, h1, h2, _⟩ := h
  unfold EP
  rw [h1]
  obtain ⟨a, b⟩ := y
  dsimp only at h2
  subst h2
  rfl
theorem pod_p (x : Ext) (p : Pd) (hs : small p) : EP (EE env) 30 [.agg (pdc p x)] = some (.bool (decide (podP p))) := EP_of (pod_ok _ p hs [] (.inl ⟨x, rfl⟩))
theorem rpod_p (x : Ext) (p : Pd) (hs : small p) : EP (EE env) 32 [.agg (pdc p x)] = some (.bool (decide (podP p))) := EP_of (rpod_ok _ p hs [] (.inl ⟨x, rfl⟩))
theorem class_p (x : Ext) (p : Pd) (hl : p.l.length ≤ maxLen) : EP (EE env) 31 [.agg (pdc p x)] = some (.int .i64 (classI p.l)) := EP_of (class_ok _ p hl [] (.inl ⟨x, rfl⟩))
theorem rclass_p (x : Ext) (p : Pd) (hl : p.l.length ≤ maxLen) : EP (EE env) 33 [.agg (pdc p x)] = some (.int .i64 (classI p.l)) := EP_of (rclass_ok _ p hl [] (.inl ⟨x, rfl⟩))

theorem alike_ok (c d : Ct) (H : Heap) : EE env (.fn 34) [.pv (.agg (ct c)), .pv (.agg (ct d))] H = some (.pv (.bool (decide (kinC c d))), H ++ [.pcells (ct c)] ++ [.pcells (ct d)]) := by
  have k1 : hget (H ++ [.pcells (ct c)] ++ [.pcells (ct d)]) H.length = .pcells (ct c) := (hget_app _ (by simp)).trans (hget_append_same H _)
  refine Has.eq (EE_has ?_)
  refine hgetK_has _ k1 ?_
  refine getK_has rfl ?_
  refine hgetK_last ?_
  refine getK_has rfl ?_
  refine boolK_has_eq (c := decide (c.name = d.name)) (str_beq _ _) ?_
  by_cases h1 : c.name = d.name
  · rw [decide_eq_true h1]
    refine hgetK_has _ k1 ?_
    refine secK_has (v := r3 c) rfl (of_decide_eq_true rfl) ?_
    refine hgetK_last ?_
    refine secK_has (v := r3 d) rfl (of_decide_eq_true rfl) ?_
    refine bindK_has (r3_eq c d) ?_
    refine boolK_dec (fun h2 => ?_) (fun h2 => ?_)
    · rw [show decide (kinC c d) = true from decide_eq_true ⟨h1, h2⟩]
      exact Has.intro rfl
    · rw [show decide (kinC c d) = false from decide_eq_false fun h => h2 h.2]
      exact Has.intro rfl
  · rw [decide_eq_false h1, show decide (kinC c d) = false from decide_eq_false fun h => h1 h.1]
    exact Has.intro rfl
theorem alike_p (c d : Ct) : EP (EE env) 34 [.agg (ct c), .agg (ct d)] = some (.bool (decide (kinC c d))) := EP_of (X := fun _ => True) ⟨_, alike_ok c d [], rfl, trivial⟩
theorem flat_part {α : Type} {f : α → List PV} {es : Nat} (hf : ∀ a, (f a).length = es) {l : List α} {i : Nat} {a : α} (h : l[i]? = some a) {j n : Nat} (hjn : j + n ≤ es) :
    ((flat f l).drop (i * es + j)).take n = ((f a).drop j).take n ∧ i * es + j + n ≤ (flat f l).length := by
  obtain ⟨h1, h2⟩ := flat_get hf h
  refine ⟨?_, by omega⟩
  rw [← h1, List.drop_take, List.take_take, List.drop_drop]
  congr 1; omega
set_option maxHeartbeats 1000000 in
theorem equalF_ok (x y : Ext) (a b : List Ct) (hl : a.length ≤ maxLen) : EP (EE env) 35 [.sl x a.length (flat ct a), .sl y b.length (flat ct b), .fn 34 [] []] = some (.bool (decide (kinL a b))) := by
  rw [maxLen_eq] at hl
  refine Has.eq (EP_has ?_)
  refine boolK_bne (fun h => ?_) (fun h => ?_)
  · exact Has.intro (Has.intro (no (fun e => h (by rw [e.1]))))
  have hab : a.length = b.length := by omega
  refine loopK_has ?_
  refine iterE_loopJ (σ := Nat) (fun i => a.length - i) (fun i => [(0, .pv (.sl x a.length (flat ct a))), (1, .pv (.sl y b.length (flat ct b))), (2, .pv (.fn 34 [] [])), (15, .pv (.sl x a.length (flat ct a))), (16, .pv (.int .i64 a.length)), (17, .pv (.int .i64 i))]) (fun _ => [])
    (fun i => i ≤ a.length ∧ ∀ (j : Nat) (c d : Ct), j < i → a[j]? = some c → b[j]? = some d → kinC c d) (fun i ⟨hi, hA⟩ r J => ?_) 0 ⟨Nat.zero_le _, fun j c d h => by omega⟩ [] ⟨rfl, rfl, rfl, rfl, rfl, rfl, trivial⟩ rfl
  refine boolK_dec (fun hc => ?_) (fun hc => ?_)
  · have hlt : i < a.length := by omega
    obtain ⟨c, hcg⟩ : ∃ c, a[i]? = some c := ⟨_, List.getElem?_eq_getElem hlt⟩
    obtain ⟨d, hdg⟩ : ∃ c, b[i]? = some c := ⟨_, List.getElem?_eq_getElem (show i < b.length by omega)⟩
    obtain ⟨g1, g2⟩ := flat_get ct_len hcg
    obtain ⟨f1, f2⟩ := flat_get ct_len hdg
    refine needK_has (by (first | rfl | (simp; done) | (simp; omega))) ?_
    refine secK_has g1 g2 ?_
    refine hgetK_last ?_
    refine needK_has rfl ?_
    refine eqK_has_eq (ct c) rfl ?_
    rw [hset_last]
    refine needK_has (by (first | rfl | (simp; done) | (simp; omega))) ?_
    refine secK_has f1 f2 ?_
    refine hgetK_last ?_
    refine needK_has rfl ?_
    refine eqK_has_eq (ct d) rfl ?_
    rw [hset_last]
    refine hgetK_has (.pcells (ct c)) ((hget_app _ (by simp)).trans (hget_append_same _ _)) ?_
    refine secK_has (v := ct c) rfl (of_decide_eq_true rfl) ?_
    refine hgetK_last ?_
    refine secK_has (v := ct d) rfl (of_decide_eq_true rfl) ?_
    refine callPK_dec (alike_p c d) (fun e => ?_) (fun e => ?_)
    · refine eqK_has_eq _ (i64_succ (by omega)) ?_
      refine Has.intro ⟨i + 1, ⟨hlt, fun j c' d' hj h1 h2 => ?_⟩, by omega, ⟨rfl, rfl, rfl, rfl, rfl, rfl, trivial⟩, _, rfl⟩
      by_cases ej : j = i
      · subst ej
        rw [hcg] at h1; rw [hdg] at h2
        injection h1 with h1; injection h2 with h2
        rw [← h1, ← h2]; exact e
      · exact hA j c' d' (by omega) h1 h2
    · exact Has.intro (Has.intro (Has.intro (no (fun h => e (h.2 i c d hcg hdg)))))
  · have : i = a.length := by omega
    subst this
    exact Has.intro (Has.intro (Has.intro (yes ⟨hab, fun j c d h1 h2 => hA j c d (List.getElem?_eq_some_iff.1 h1).1 h1 h2⟩)))
set_option maxHeartbeats 1000000 in
theorem kin_ok (x y : Ext) (a b : Pd) (hl : a.l.length ≤ maxLen) : EP (EE env) 12 [.agg (pdc a x), .agg (pdc b y)] = some (.bool (decide (kinP a b))) := by
  refine Has.eq (EP_has ?_)
  (repeat (first | refine hgetK_last ?_ | refine hgetK_has _ rfl ?_ | refine getK_has rfl ?_ | refine secK_has rfl (of_decide_eq_true rfl) ?_ | refine needK_has rfl ?_))
  refine boolK_has_eq (c := decide (a.name = b.name)) (str_beq _ _) ?_
  by_cases h1 : a.name = b.name
  rotate_left
  · rw [decide_eq_false h1]
    exact Has.intro (Has.intro (no (fun h => h1 h.1)))
  rw [decide_eq_true h1]
  (repeat (first | refine hgetK_last ?_ | refine hgetK_has _ rfl ?_ | refine getK_has rfl ?_ | refine secK_has rfl (of_decide_eq_true rfl) ?_ | refine needK_has rfl ?_))
  refine boolK_beq (fun h2 => ?_) (fun h2 => ?_)
  rotate_left
  · exact Has.intro (Has.intro (no (fun h => h2 h.2.1)))
  (repeat (first | refine hgetK_last ?_ | refine hgetK_has _ rfl ?_ | refine getK_has rfl ?_ | refine secK_has rfl (of_decide_eq_true rfl) ?_ | refine needK_has rfl ?_))
  refine boolK_beq (fun h3 => ?_) (fun h3 => ?_)
  rotate_left
  · exact Has.intro (Has.intro (no (fun h => h3 h.2.2.1)))
  (repeat (first | refine hgetK_last ?_ | refine hgetK_has _ rfl ?_ | refine getK_has rfl ?_ | refine secK_has rfl (of_decide_eq_true rfl) ?_ | refine needK_has rfl ?_))
  refine callPK_dec (equalF_ok x y a.l b.l hl) (fun h4 => ?_) (fun h4 => ?_)
  · exact Has.intro (Has.intro (yes ⟨h1, h2, h3, h4⟩))
  · exact Has.intro (Has.intro (no (fun h => h4 h.2.2.2)))
set_option maxHeartbeats 1000000 in
theorem rkin_ok (x y : Ext) (a b : Pd) (hl : a.l.length ≤ maxLen) : EP (EE env) 13 [.agg (pdc a x), .agg (pdc b y)] = some (.bool (decide (kinP a b))) := by
  rw [maxLen_eq] at hl
  refine Has.eq (EP_has ?_)
  (repeat (first | refine hgetK_last ?_ | refine hgetK_has _ rfl ?_ | refine getK_has rfl ?_ | refine secK_has rfl (of_decide_eq_true rfl) ?_ | refine needK_has rfl ?_))
  refine boolK_has_eq (c := decide (a.name ≠ b.name)) (str_bne _ _) ?_
  by_cases h1 : a.name = b.name
  rotate_left
  · rw [decide_eq_true h1]
    exact Has.intro (Has.intro (no (fun h => h1 h.1)))
  rw [decide_eq_false (fun h => h h1)]
  (repeat (first | refine hgetK_last ?_ | refine hgetK_has _ rfl ?_ | refine getK_has rfl ?_ | refine secK_has rfl (of_decide_eq_true rfl) ?_ | refine needK_has rfl ?_))
  refine boolK_bne (fun h2 => ?_) (fun h2 => ?_)
  · exact Has.intro (Has.intro (no (fun h => h2 h.2.1)))
  (repeat (first | refine hgetK_last ?_ | refine hgetK_has _ rfl ?_ | refine getK_has rfl ?_ | refine secK_has rfl (of_decide_eq_true rfl) ?_ | refine needK_has rfl ?_))
  refine boolK_bne (fun h3 => ?_) (fun h3 => ?_)
  · exact Has.intro (Has.intro (no (fun h => h3 h.2.2.1)))
  (repeat (first | refine hgetK_last ?_ | refine hgetK_has _ rfl ?_ | refine getK_has rfl ?_ | refine secK_has rfl (of_decide_eq_true rfl) ?_ | refine needK_has rfl ?_))
  refine boolK_bne (fun h4 => ?_) (fun h4 => ?_)
  · exact Has.intro (Has.intro (no (fun h => h4 (by rw [h.2.2.2.1]))))
  (repeat (first | refine hgetK_last ?_ | refine hgetK_has _ rfl ?_ | refine getK_has rfl ?_ | refine secK_has rfl (of_decide_eq_true rfl) ?_ | refine needK_has rfl ?_))
  have hab : a.l.length = b.l.length := by omega
  refine loopK_has ?_
  refine iterE_loopJ (σ := Nat) (fun i => a.l.length - i) (fun i => [(3, .ptr 1 0), (36, .pv (.sl x a.l.length (flat ct a.l))), (37, .pv (.int .i64 a.l.length)), (38, .pv (.int .i64 i))]) (fun _ => [.pcells (pdc a x), .pcells (pdc b y)])
    (fun i => i ≤ a.l.length ∧ ∀ (j : Nat) (c d : Ct), j < i → a.l[j]? = some c → b.l[j]? = some d → kinC c d) (fun i ⟨hi, hA⟩ r J => ?_) 0 ⟨Nat.zero_le _, fun j c d h => by omega⟩ [] ⟨rfl, rfl, rfl, rfl, trivial⟩ rfl
  refine boolK_dec (fun hc => ?_) (fun hc => ?_)
  · have hlt : i < a.l.length := by omega
    obtain ⟨c, hcg⟩ : ∃ c, a.l[i]? = some c := ⟨_, List.getElem?_eq_getElem hlt⟩
    obtain ⟨d, hdg⟩ : ∃ c, b.l[i]? = some c := ⟨_, List.getElem?_eq_getElem (show i < b.l.length by omega)⟩
    obtain ⟨g1, g2⟩ := flat_get ct_len hcg
    obtain ⟨f1, f2⟩ := flat_get ct_len hdg
    refine needK_has (by (first | rfl | (simp; done) | (simp; omega))) ?_
    refine secK_has g1 g2 ?_
    refine hgetK_last ?_
    refine needK_has rfl ?_
    refine eqK_has_eq (ct c) rfl ?_
    rw [hset_last]
    refine hgetK_last ?_
    refine getK_has rfl ?_
    refine hgetK_has _ rfl ?_
    refine getK_has rfl ?_
    refine needK_has (by (first | rfl | (simp; done) | (simp; omega))) ?_
    refine getK_has (v := sv d.name) (by rw [at_ij]; exact flat_cell (j := 0) ct_len hdg (by decide)) ?_
    refine boolK_has_eq (c := decide (c.name ≠ d.name)) (str_bne _ _) ?_
    by_cases e1 : c.name = d.name
    rotate_left
    · rw [decide_eq_true e1]
      exact Has.intro (Has.intro (Has.intro (no (fun h => e1 (h.2.2.2.2 i c d hcg hdg).1))))
    rw [decide_eq_false (fun h => h e1)]
    refine hgetK_last ?_
    refine secK_has (v := r3 c) rfl (of_decide_eq_true rfl) ?_
    refine hgetK_has _ rfl ?_
    refine getK_has rfl ?_
    refine needK_has (by (first | rfl | (simp; done) | (simp; omega))) ?_
    obtain ⟨p1, p2⟩ := flat_part ct_len hdg (j := 7) (n := 3) (by decide)
    refine secK_has (v := r3 d) (by rw [at_ij]; exact p1) (by rw [at_ij]; exact p2) ?_
    refine bindK_has (r3_eq c d) ?_
    refine boolK_has_eq (c := decide (¬ rC c d)) (by by_cases e : rC c d <;> simp [e]) ?_
    by_cases e2 : rC c d
    · rw [decide_eq_false (fun h => h e2)]
      refine eqK_has_eq _ (i64_succ (by omega)) ?_
      refine Has.intro ⟨i + 1, ⟨hlt, fun j c' d' hj h1 h2 => ?_⟩, by omega, ⟨rfl, rfl, rfl, rfl, trivial⟩, _, List.append_assoc _ _ _⟩
      by_cases ej : j = i
      · subst ej
        rw [hcg] at h1; rw [hdg] at h2
        injection h1 with h1; injection h2 with h2
        rw [← h1, ← h2]; exact ⟨e1, e2⟩
      · exact hA j c' d' (by omega) h1 h2
    · rw [decide_eq_true e2]
      exact Has.intro (Has.intro (Has.intro (no (fun h => e2 (h.2.2.2.2 i c d hcg hdg).2))))
  · have : i = a.l.length := by omega
    subst this
    exact Has.intro (Has.intro (Has.intro (yes ⟨h1, h2, h3, hab, fun j c d g1 g2 => hA j c d (List.getElem?_eq_some_iff.1 g1).1 g1 g2⟩)))
end Go.Proofs.Ytchcbpnoagldnaa

namespace Go.Proofs.Ytchcbpnoagldnaa
open Go Go.VM

structure En where
  d : Pd
  a : Pd
  dx : Ext
  ax : Ext
  age : Int
  due : Int
def en (e : En) : List PV := pdc e.d e.dx ++ pdc e.a e.ax ++ [.int .i64 e.age, .int .i64 e.due]
theorem en_len (e : En) : (en e).length = 10 := rfl
def smallE (e : En) : Prop := small e.d ∧ small e.a
def entP (e : En) : Prop := podP e.d ∧ podP e.a ∧ kinP e.d e.a ∧ classI e.d.l = classI e.a.l ∧ (0 ≤ e.age ∧ e.age ≤ 1099511627776) ∧ 0 ≤ e.due ∧ e.due < 2 ^ e.d.l.length
noncomputable instance (e : En) : Decidable (entP e) := Classical.propDecidable _
theorem six {n : Nat} (h : 1 ≤ n ∧ n ≤ 6) : n = 1 ∨ n = 2 ∨ n = 3 ∨ n = 4 ∨ n = 5 ∨ n = 6 := by omega
theorem shl1 {n : Nat} (h : 1 ≤ n ∧ n ≤ 6) : IntKind.i64.wrap (1 * 2 ^ (min ((n : Nat) : Int).toNat IntKind.i64.bits)) = 2 ^ n := by
  rcases six h with rfl | rfl | rfl | rfl | rfl | rfl <;> rfl
set_option maxHeartbeats 2000000 in
theorem ent_ok (e : En) (hs : smallE e) : EP (EE env) 10 [.agg (en e)] = some (.bool (decide (entP e))) := by
  obtain ⟨s1, s2⟩ := hs
  refine Has.eq (EP_has ?_)
  (refine hgetK_has (.pcells (en e)) rfl ?_)
  (refine secK_has (v := pdc e.d e.dx) rfl (of_decide_eq_true rfl) ?_)
  refine callPK_dec (pod_p e.dx e.d s1) (fun h1 => ?_) (fun h1 => ?_)
  rotate_left
  · exact Has.intro (Has.intro (no fun h => h1 h.1))
  (refine hgetK_has (.pcells (en e)) rfl ?_)
  (refine secK_has (v := pdc e.a e.ax) rfl (of_decide_eq_true rfl) ?_)
  refine callPK_dec (pod_p e.ax e.a s2) (fun h2 => ?_) (fun h2 => ?_)
  rotate_left
  · exact Has.intro (Has.intro (no fun h => h2 h.2.1))
  (refine hgetK_has (.pcells (en e)) rfl ?_)
  (refine secK_has (v := pdc e.d e.dx) rfl (of_decide_eq_true rfl) ?_)
  (refine hgetK_has (.pcells (en e)) rfl ?_)
  (refine secK_has (v := pdc e.a e.ax) rfl (of_decide_eq_true rfl) ?_)
  refine callPK_dec (kin_ok e.dx e.ax e.d e.a s1.2.1) (fun h3 => ?_) (fun h3 => ?_)
  rotate_left
  · exact Has.intro (Has.intro (no fun h => h3 h.2.2.1))
  (refine hgetK_has (.pcells (en e)) rfl ?_)
  (refine secK_has (v := pdc e.d e.dx) rfl (of_decide_eq_true rfl) ?_)
  refine callPK_has (class_p e.dx e.d s1.2.1) ?_
  (refine hgetK_has (.pcells (en e)) rfl ?_)
  (refine secK_has (v := pdc e.a e.ax) rfl (of_decide_eq_true rfl) ?_)
  refine callPK_has (class_p e.ax e.a s2.2.1) ?_
  refine boolK_beq (fun h4 => ?_) (fun h4 => ?_)
  rotate_left
  · exact Has.intro (Has.intro (no fun h => h4 h.2.2.2.1))
  (refine hgetK_has (.pcells (en e)) rfl ?_)
  refine getK_has rfl ?_
  refine boolK_dec (fun h5 => ?_) (fun h5 => ?_)
  rotate_left
  · exact Has.intro (Has.intro (no fun h => h5 h.2.2.2.2.1.1))
  (refine hgetK_has (.pcells (en e)) rfl ?_)
  refine getK_has rfl ?_
  refine boolK_dec (fun h6 => ?_) (fun h6 => ?_)
  rotate_left
  · exact Has.intro (Has.intro (no fun h => h6 h.2.2.2.2.1.2))
  (refine hgetK_has (.pcells (en e)) rfl ?_)
  refine getK_has rfl ?_
  refine boolK_dec (fun h7 => ?_) (fun h7 => ?_)
  rotate_left
  · exact Has.intro (Has.intro (no fun h => h7 h.2.2.2.2.2.1))
  (refine hgetK_has (.pcells (en e)) rfl ?_)
  refine getK_has rfl ?_
  (refine hgetK_has (.pcells (en e)) rfl ?_)
  refine getK_has rfl ?_
  refine needK_has (by (first | rfl | (simp; done) | (simp; omega))) ?_
  refine eqK_has_eq _ (shl1 h1.2.2.2.1) ?_
  refine boolK_dec (fun h8 => ?_) (fun h8 => ?_)
  · exact Has.intro (Has.intro (yes ⟨h1, h2, h3, h4, ⟨h5, h6⟩, h7, h8⟩))
  · exact Has.intro (Has.intro (no fun h => h8 h.2.2.2.2.2.2))
theorem pow_step {i : Nat} (h : i ≤ 6) : IntKind.i64.wrap ((2 : Int) ^ i * 2) = 2 ^ (i + 1) := by
  have : i = 0 ∨ i = 1 ∨ i = 2 ∨ i = 3 ∨ i = 4 ∨ i = 5 ∨ i = 6 := by omega
  rcases this with rfl | rfl | rfl | rfl | rfl | rfl | rfl <;> rfl
set_option maxHeartbeats 2000000 in
theorem rent_ok (e : En) (hs : smallE e) : EP (EE env) 11 [.agg (en e)] = some (.bool (decide (entP e))) := by
  obtain ⟨s1, s2⟩ := hs
  refine Has.eq (EP_has ?_)
  (refine hgetK_has (.pcells (en e)) rfl ?_)
  (refine secK_has (v := pdc e.d e.dx) rfl (of_decide_eq_true rfl) ?_)
  (refine hgetK_has (.pcells (en e)) rfl ?_)
  (refine secK_has (v := pdc e.a e.ax) rfl (of_decide_eq_true rfl) ?_)
  (refine hgetK_has _ rfl ?_)
  refine needK_has rfl ?_
  refine eqK_has_eq (pdc e.d e.dx) rfl ?_
  (refine hgetK_has _ rfl ?_)
  refine needK_has rfl ?_
  refine eqK_has_eq (pdc e.a e.ax) rfl ?_
  refine sameK_has rfl rfl ?_
  (refine hgetK_has _ rfl ?_)
  (refine secK_has (v := pdc e.d e.dx) rfl (of_decide_eq_true rfl) ?_)
  refine callPK_dec (rpod_p e.dx e.d s1) (fun h1 => ?_) (fun h1 => ?_)
  rotate_left
  · exact Has.intro (Has.intro (no fun h => h1 h.1))
  (refine hgetK_has _ rfl ?_)
  (refine secK_has (v := pdc e.a e.ax) rfl (of_decide_eq_true rfl) ?_)
  refine callPK_dec (rpod_p e.ax e.a s2) (fun h2 => ?_) (fun h2 => ?_)
  rotate_left
  · exact Has.intro (Has.intro (no fun h => h2 h.2.1))
  (refine hgetK_has _ rfl ?_)
  (refine secK_has (v := pdc e.d e.dx) rfl (of_decide_eq_true rfl) ?_)
  (refine hgetK_has _ rfl ?_)
  (refine secK_has (v := pdc e.a e.ax) rfl (of_decide_eq_true rfl) ?_)
  refine callPK_dec (rkin_ok e.dx e.ax e.d e.a s1.2.1) (fun h3 => ?_) (fun h3 => ?_)
  rotate_left
  · exact Has.intro (Has.intro (no fun h => h3 h.2.2.1))
  (refine hgetK_has _ rfl ?_)
  (refine secK_has (v := pdc e.d e.dx) rfl (of_decide_eq_true rfl) ?_)
  refine callPK_has (rclass_p e.dx e.d s1.2.1) ?_
  (refine hgetK_has _ rfl ?_)
  (refine secK_has (v := pdc e.a e.ax) rfl (of_decide_eq_true rfl) ?_)
  refine callPK_has (rclass_p e.ax e.a s2.2.1) ?_
  refine boolK_bne (fun h4 => ?_) (fun h4 => ?_)
  · exact Has.intro (Has.intro (no fun h => h4 h.2.2.2.1))
  (refine hgetK_has _ rfl ?_)
  refine getK_has rfl ?_
  refine boolK_dec (fun h5 => ?_) (fun h5 => ?_)
  · exact Has.intro (Has.intro (no fun h => by have := h.2.2.2.2.1.1; omega))
  (refine hgetK_has _ rfl ?_)
  refine getK_has rfl ?_
  refine boolK_dec (fun h6 => ?_) (fun h6 => ?_)
  · exact Has.intro (Has.intro (no fun h => by have := h.2.2.2.2.1.2; omega))
  (refine hgetK_has _ rfl ?_)
  refine getK_has rfl ?_
  refine boolK_dec (fun h7 => ?_) (fun h7 => ?_)
  · exact Has.intro (Has.intro (no fun h => by have := h.2.2.2.2.2.1; omega))
  (refine hgetK_has _ rfl ?_)
  refine getK_has rfl ?_
  have h6' := h1.2.2.2.1
  refine loopK_has ?_
  refine iterE_up e.d.l.length (fun i => [(1, .ptr 0 0), (5, .pv (.int .i64 (2 ^ i))), (48, .pv (.int .i64 e.d.l.length)), (49, .pv (.int .i64 i))]) (fun _ => [.pcells (en e), .pcells (pdc e.d e.dx), .pcells (pdc e.a e.ax)]) (fun i hi r => ?_) (fun r => ?_) ⟨rfl, rfl, rfl, rfl, trivial⟩ rfl
  · refine boolK_dec (fun hc => ?_) (fun hc => ?_)
    · refine eqK_has_eq _ (pow_step (by omega)) ?_
      refine eqK_has_eq _ (i64_succ (by omega)) ?_
      exact Has.intro ⟨⟨rfl, rfl, rfl, rfl, trivial⟩, rfl⟩
    · omega
  · refine boolK_dec (fun hc => ?_) (fun hc => ?_)
    · omega
    refine Has.intro ?_
    (refine hgetK_has _ rfl ?_)
    refine getK_has rfl ?_
    refine boolK_dec (fun h8 => ?_) (fun h8 => ?_)
    · exact Has.intro (Has.intro (yes ⟨h1, h2, h3, by omega, ⟨by omega, by omega⟩, by omega, h8⟩))
    · exact Has.intro (Has.intro (no fun h => h8 h.2.2.2.2.2.2))
end Go.Proofs.Ytchcbpnoagldnaa

namespace Go.Proofs.Ytchcbpnoagldnaa
open Go Go.VM

/-! ### texts in order -/
def lt (a b : List UInt8) : Bool := Op.bytesLess a b
theorem lt_irr (a : List UInt8) : lt a a = false := by
  induction a with
  | nil => rfl
  | cons x a ih => simp only [lt, Op.bytesLess] at ih ⊢; simp [ih]
theorem lt_cons (x y : UInt8) (a b : List UInt8) : lt (x :: a) (y :: b) = (decide (x.toNat < y.toNat) || (decide (x = y) && lt a b)) := by
  show (decide (x < y) || (x == y && Op.bytesLess a b)) = _
  rw [show (x == y) = decide (x = y) from rfl]
  simp only [UInt8.lt_iff_toNat_lt]
  rfl
theorem lt_asym : ∀ (a b : List UInt8), lt a b = true → lt b a = false := by
  intro a
  induction a with
  | nil => intro b; cases b <;> simp [lt, Op.bytesLess]
  | cons x a ih =>
    intro b
    cases b with
    | nil => simp [lt, Op.bytesLess]
    | cons y b =>
      rw [lt_cons, lt_cons]
      intro h
      simp only [Bool.or_eq_true, Bool.and_eq_true, decide_eq_true_eq, Bool.or_eq_false_iff, Bool.and_eq_false_iff, decide_eq_false_iff_not] at h ⊢
      rcases h with h | ⟨h1, h2⟩
      · exact ⟨by omega, .inl fun e => by subst e; omega⟩
      · subst h1; exact ⟨by omega, .inr (ih _ h2)⟩
theorem lt_tri : ∀ (a b : List UInt8), lt a b = false → lt b a = false → a = b := by
  intro a
  induction a with
  | nil => intro b; cases b <;> simp [lt, Op.bytesLess]
  | cons x a ih =>
    intro b
    cases b with
    | nil => simp [lt, Op.bytesLess]
    | cons y b =>
      rw [lt_cons, lt_cons]
      intro h g
      simp only [Bool.or_eq_false_iff, Bool.and_eq_false_iff, decide_eq_false_iff_not] at h g
      have e : x = y := UInt8.toNat_inj.1 (by omega)
      subst e
      rw [ih b (h.2.resolve_left (fun h => h rfl)) (g.2.resolve_left (fun h => h rfl))]
theorem lt_trans : ∀ (a b c : List UInt8), lt a b = true → lt b c = true → lt a c = true := by
  intro a
  induction a with
  | nil => intro b c h g; cases b <;> cases c <;> simp_all [lt, Op.bytesLess]
  | cons x a ih =>
    intro b c h g
    cases b with
    | nil => simp [lt, Op.bytesLess] at h
    | cons y b =>
      cases c with
      | nil => simp [lt, Op.bytesLess] at g
      | cons z c =>
        rw [lt_cons] at h g ⊢
        simp only [Bool.or_eq_true, Bool.and_eq_true, decide_eq_true_eq] at h g ⊢
        rcases h with h | ⟨h1, h2⟩
        · rcases g with g | ⟨g1, g2⟩
          · exact .inl (by omega)
          · subst g1; exact .inl h
        · subst h1
          rcases g with g | ⟨g1, g2⟩
          · exact .inl g
          · exact .inr ⟨g1, ih _ _ h2 g2⟩
theorem str_lss (a b : List UInt8) : Op.bytesLess (⟨a.toArray⟩ : ByteArray).toList (⟨b.toArray⟩ : ByteArray).toList = lt a b := by
  unfold lt; simp
theorem str_gtr (a b : List UInt8) : (!(Op.bytesLess (⟨a.toArray⟩ : ByteArray).toList (⟨b.toArray⟩ : ByteArray).toList || (⟨a.toArray⟩ : ByteArray).toList == (⟨b.toArray⟩ : ByteArray).toList)) = lt b a := by
  rw [str_lss, str_beq]
  cases h : lt a b with
  | true => simp [lt_asym a b h]
  | false =>
    by_cases e : a = b
    · subst e; simp [h]
    · simp only [Bool.false_or, decide_eq_false e, Bool.not_false]
      cases g : lt b a with
      | true => rfl
      | false => exact absurd (lt_tri a b h g) e
def cmpS (a b : List UInt8) : Int := if lt a b then -1 else if lt b a then 1 else 0
def cmpI (a b : Int) : Int := if a < b then -1 else if b < a then 1 else 0
theorem nan_s (a : List UInt8) : EP (EE env) 89 [sv a] = some (.bool false) := by
  refine Has.eq (EP_has ?_)
  refine boolK_has_eq (c := false) (by rw [str_bne]; simp) ?_
  exact Has.intro (Has.intro rfl)
theorem nan_i (a : Int) : EP (EE env) 90 [.int .i64 a] = some (.bool false) := by
  refine Has.eq (EP_has ?_)
  refine boolK_bne (fun h => absurd rfl h) (fun h => ?_)
  exact Has.intro (Has.intro rfl)
theorem cmpS_ok (a b : List UInt8) : EP (EE env) 71 [sv a, sv b] = some (.int .i64 (cmpS a b)) := by
  refine Has.eq (EP_has ?_)
  refine callPK_has (nan_s a) ?_
  refine callPK_has (nan_s b) ?_
  refine boolK_has_eq (str_lss a b) ?_
  unfold cmpS
  cases lt a b
  · refine boolK_has_eq (str_gtr a b) ?_
    cases lt b a
    · exact Has.intro (Has.intro rfl)
    · exact Has.intro (Has.intro rfl)
  · exact Has.intro (Has.intro rfl)
theorem cmpI_ok (a b : Int) : EP (EE env) 72 [.int .i64 a, .int .i64 b] = some (.int .i64 (cmpI a b)) := by
  refine Has.eq (EP_has ?_)
  refine callPK_has (nan_i a) ?_
  refine callPK_has (nan_i b) ?_
  unfold cmpI
  refine boolK_dec (fun h => ?_) (fun h => ?_)
  · rw [if_pos h]; exact Has.intro (Has.intro rfl)
  rw [if_neg h]
  refine boolK_dec (fun h => ?_) (fun h => ?_)
  · rw [if_pos h]; exact Has.intro (Has.intro rfl)
  · rw [if_neg h]; exact Has.intro (Has.intro rfl)
structure Ow where
  pod : List UInt8
  ctr : List UInt8
  kind : Int
def ow (o : Ow) : List PV := [sv o.pod, sv o.ctr, .int .i64 o.kind]
def or3 (a b c : Int) : Int := if a ≠ 0 then a else if b ≠ 0 then b else c
theorem or3_ok (a b c : Int) (x : Ext) : EP (EE env) 70 [.sl x 3 [.int .i64 a, .int .i64 b, .int .i64 c]] = some (.int .i64 (or3 a b c)) := by
  refine Has.eq (EP_has ?_)
  refine loopK_has ?_
  refine iterE_loop (σ := Nat) (fun i => 3 - i) (fun i => [(3, .pv (.int .i64 0)), (6, .pv (.sl x 3 [.int .i64 a, .int .i64 b, .int .i64 c])), (7, .pv (.int .i64 3)), (8, .pv (.int .i64 i))]) (fun _ => [])
    (fun i => i ≤ 3 ∧ (0 < i → a = 0) ∧ (1 < i → b = 0) ∧ (2 < i → c = 0)) (fun i ⟨hi, q0, q1, q2⟩ r => ?_) 0 ⟨by decide, by omega, by omega, by omega⟩ ⟨rfl, rfl, rfl, rfl, trivial⟩ rfl
  refine boolK_dec (fun hc => ?_) (fun hc => ?_)
  · have h3 : i = 0 ∨ i = 1 ∨ i = 2 := by omega
    rcases h3 with rfl | rfl | rfl
    · refine needK_has rfl ?_
      refine getK_has rfl ?_
      refine boolK_bne (fun h => ?_) (fun h => ?_)
      · exact Has.intro (Has.intro (Has.intro (by unfold or3; rw [if_pos h])))
      · refine eqK_has_eq _ (i64_succ (by omega)) ?_
        exact Has.intro ⟨1, ⟨by decide, fun _ => h, by omega, by omega⟩, by decide, ⟨rfl, rfl, rfl, rfl, trivial⟩, rfl⟩
    · have qa := q0 (by decide)
      refine needK_has rfl ?_
      refine getK_has rfl ?_
      refine boolK_bne (fun h => ?_) (fun h => ?_)
      · exact Has.intro (Has.intro (Has.intro (by unfold or3; rw [if_neg (fun g => g qa), if_pos h])))
      · refine eqK_has_eq _ (i64_succ (by omega)) ?_
        exact Has.intro ⟨2, ⟨by decide, fun _ => qa, fun _ => h, by omega⟩, by decide, ⟨rfl, rfl, rfl, rfl, trivial⟩, rfl⟩
    · have qa := q0 (by decide)
      have qb := q1 (by decide)
      refine needK_has rfl ?_
      refine getK_has rfl ?_
      refine boolK_bne (fun h => ?_) (fun h => ?_)
      · exact Has.intro (Has.intro (Has.intro (by unfold or3; rw [if_neg (fun g => g qa), if_neg (fun g => g qb)])))
      · refine eqK_has_eq _ (i64_succ (by omega)) ?_
        exact Has.intro ⟨3, ⟨by decide, fun _ => qa, fun _ => qb, fun _ => h⟩, by decide, ⟨rfl, rfl, rfl, rfl, trivial⟩, rfl⟩
  · have e : i = 3 := by omega
    subst e
    exact Has.intro (Has.intro (Has.intro (by unfold or3; rw [if_neg (fun g => g (q0 (by decide))), if_neg (fun g => g (q1 (by decide))), q2 (by decide)])))
def cmpO (a b : Ow) : Int := or3 (cmpS a.pod b.pod) (cmpS a.ctr b.ctr) (cmpI a.kind b.kind)
theorem compare_ok (a b : Ow) : EP (EE env) 40 [.agg (ow a), .agg (ow b)] = some (.int .i64 (cmpO a b)) := by
  refine Has.eq (EP_has ?_)
  (repeat (first | refine hgetK_last ?_ | refine hgetK_has _ rfl ?_ | refine getK_has rfl ?_ | refine secK_has rfl (of_decide_eq_true rfl) ?_ | refine needK_has rfl ?_))
  refine callPK_has (cmpS_ok a.pod b.pod) ?_
  (repeat (first | refine hgetK_last ?_ | refine hgetK_has _ rfl ?_ | refine getK_has rfl ?_ | refine secK_has rfl (of_decide_eq_true rfl) ?_ | refine needK_has rfl ?_))
  refine callPK_has (cmpS_ok a.ctr b.ctr) ?_
  (repeat (first | refine hgetK_last ?_ | refine hgetK_has _ rfl ?_ | refine getK_has rfl ?_ | refine secK_has rfl (of_decide_eq_true rfl) ?_ | refine needK_has rfl ?_))
  refine callPK_has (cmpI_ok a.kind b.kind) ?_
  refine callPK_has (or3_ok _ _ _ _) ?_
  exact Has.intro (Has.intro rfl)
def ahead (a b : Ow) : Bool := if a.pod ≠ b.pod then lt a.pod b.pod else if a.ctr ≠ b.ctr then lt a.ctr b.ctr else decide (a.kind < b.kind)
theorem before_ok (a b : Ow) : EP (EE env) 24 [.agg (ow a), .agg (ow b)] = some (.bool (ahead a b)) := by
  refine Has.eq (EP_has ?_)
  unfold ahead
  (repeat (first | refine hgetK_last ?_ | refine hgetK_has _ rfl ?_ | refine getK_has rfl ?_ | refine secK_has rfl (of_decide_eq_true rfl) ?_ | refine needK_has rfl ?_))
  refine boolK_has_eq (str_bne a.pod b.pod) ?_
  by_cases h1 : a.pod = b.pod
  · rw [decide_eq_false (fun h => h h1), if_neg (fun h => h h1)]
    (repeat (first | refine hgetK_last ?_ | refine hgetK_has _ rfl ?_ | refine getK_has rfl ?_ | refine secK_has rfl (of_decide_eq_true rfl) ?_ | refine needK_has rfl ?_))
    refine boolK_has_eq (str_bne a.ctr b.ctr) ?_
    by_cases h2 : a.ctr = b.ctr
    · rw [decide_eq_false (fun h => h h2), if_neg (fun h => h h2)]
      (repeat (first | refine hgetK_last ?_ | refine hgetK_has _ rfl ?_ | refine getK_has rfl ?_ | refine secK_has rfl (of_decide_eq_true rfl) ?_ | refine needK_has rfl ?_))
      refine boolK_dec (fun h => ?_) (fun h => ?_)
      · rw [decide_eq_true h]; exact Has.intro (Has.intro rfl)
      · rw [decide_eq_false h]; exact Has.intro (Has.intro rfl)
    · rw [decide_eq_true h2, if_pos h2]
      (repeat (first | refine hgetK_last ?_ | refine hgetK_has _ rfl ?_ | refine getK_has rfl ?_ | refine secK_has rfl (of_decide_eq_true rfl) ?_ | refine needK_has rfl ?_))
      refine boolK_has_eq (str_lss a.ctr b.ctr) ?_
      cases lt a.ctr b.ctr <;> exact Has.intro (Has.intro rfl)
  · rw [decide_eq_true h1, if_pos h1]
    (repeat (first | refine hgetK_last ?_ | refine hgetK_has _ rfl ?_ | refine getK_has rfl ?_ | refine secK_has rfl (of_decide_eq_true rfl) ?_ | refine needK_has rfl ?_))
    refine boolK_has_eq (str_lss a.pod b.pod) ?_
    cases lt a.pod b.pod <;> exact Has.intro (Has.intro rfl)
theorem cmp_ahead (a b : Ow) : cmpO a b < 0 ↔ ahead a b = true := by
  unfold cmpO ahead or3 cmpS cmpI
  by_cases h1 : a.pod = b.pod
  · simp only [h1, lt_irr]
    by_cases h2 : a.ctr = b.ctr
    · simp only [h2, lt_irr]
      by_cases h3 : a.kind < b.kind
      · simp [h3]
      · by_cases h4 : b.kind < a.kind <;> simp [h3, h4]
    · simp only [ne_eq, h2, not_false_eq_true, if_true, not_true_eq_false, if_false, Bool.false_eq_true]
      cases g : lt a.ctr b.ctr
      · cases g2 : lt b.ctr a.ctr
        · exact absurd (lt_tri _ _ g g2) h2
        · simp
      · simp
  · simp only [ne_eq, h1, not_false_eq_true, if_true]
    cases g : lt a.pod b.pod
    · cases g2 : lt b.pod a.pod
      · exact absurd (lt_tri _ _ g g2) h1
      · simp
    · simp

/-! ### entries by name -/
def findEF (name : List UInt8) : Nat → List En → Int
  | _, [] => -1
  | i, e :: l => if e.d.name = name then (i : Int) else findEF name (i + 1) l
def findE (name : List UInt8) (l : List En) : Int := findEF name 0 l
theorem findEF_step {name : List UInt8} {l : List En} {i : Nat} {c : En} (h : l[i]? = some c) : findEF name i (l.drop i) = if c.d.name = name then (i : Int) else findEF name (i + 1) (l.drop (i + 1)) := by
  rw [drop_of h]; rfl
structure Ho where
  o : Ow
  sp : List Int
def hoc (h : Ho) : List PV := ow h.o ++ h.sp.map (PV.int .i64)
structure St where
  next : Int
  es : List En
  hs : List Ho
def stc (s : St) (x y : Ext) : List PV := [.int .i64 s.next, .sl x s.es.length (flat en s.es), .sl y s.hs.length (flat hoc s.hs)]
theorem isE_ok (c : En) (name : List UInt8) (q : Nat) (H : Heap) (hq : hget H q = .pcells [sv name]) :
    EE env (.fn 37) [.pv (.agg (en c)), .ptr q 0] H = some (.pv (.bool (decide (c.d.name = name))), H ++ [.pcells (en c)]) := by
  refine Has.eq (EE_has ?_)
  refine hgetK_last ?_
  refine getK_has rfl ?_
  refine hgetK_has _ ((hget_app _ (hget_lt hq (by intro h; cases h))).trans hq) ?_
  refine getK_has rfl ?_
  refine boolK_has_eq (c := decide (c.d.name = name)) (str_beq c.d.name name) ?_
  exact Has.intro rfl
set_option maxHeartbeats 1000000 in
theorem indexE_ok (x : Ext) (l : List En) (hl : l.length ≤ maxLen) (name : List UInt8) (q : Nat) (H : Heap) (hq : hget H q = .pcells [sv name]) :
    Has (EE env (.fn 36) [.pv (.sl x l.length (flat en l)), .fn 37 [] [.ptr q 0]] H) (fun y => y.1 = .pv (.int .i64 (findE name l)) ∧ ∃ J, y.2 = H ++ J) := by
  rw [maxLen_eq] at hl
  refine EE_has ?_
  refine loopK_has ?_
  refine iterE_loopJ (σ := Nat) (fun i => l.length - i) (fun i => [(0, .pv (.sl x l.length (flat en l))), (1, .fn 37 [] [.ptr q 0]), (6, .pv (.sl x l.length (flat en l))), (7, .pv (.int .i64 l.length)), (8, .pv (.int .i64 i))]) (fun _ => H) (fun i => i ≤ l.length ∧ findE name l = findEF name i (l.drop i)) (fun i ⟨hi, he⟩ r J => ?_) 0 ⟨Nat.zero_le _, rfl⟩ [] ⟨rfl, rfl, rfl, rfl, rfl, trivial⟩ (List.append_nil _).symm
  refine boolK_dec (fun hc => ?_) (fun hc => ?_)
  · have hlt : i < l.length := by omega
    obtain ⟨c, hcg⟩ : ∃ c, l[i]? = some c := ⟨_, List.getElem?_eq_getElem hlt⟩
    obtain ⟨g1, g2⟩ := flat_get en_len hcg
    rw [findEF_step hcg] at he
    have hq' := (hget_app J (hget_lt hq ((by intro h; cases h)))).trans hq
    refine needK_has (by (first | rfl | (simp; done) | (simp; omega))) ?_
    refine secK_has g1 g2 ?_
    refine callSK_has (isE_ok c name q _ hq') ?_
    by_cases hn : c.d.name = name
    · rw [decide_eq_true hn]
      rw [if_pos hn] at he
      refine Has.intro (Has.intro ⟨?_, _, List.append_assoc _ _ _⟩)
      rw [he]; rfl
    · rw [decide_eq_false hn]
      rw [if_neg hn] at he
      refine eqK_has_eq _ (i64_succ (by omega)) ?_
      exact Has.intro ⟨i + 1, ⟨hlt, he⟩, by omega, ⟨rfl, rfl, rfl, rfl, rfl, trivial⟩, _, List.append_assoc _ _ _⟩
  · have : i = l.length := by omega
    subst this
    rw [List.drop_length] at he
    refine Has.intro (Has.intro ⟨?_, J, rfl⟩)
    rw [he]; rfl
theorem findE_ok (s : St) (x y : Ext) (hl : s.es.length ≤ maxLen) (name : List UInt8) : EP (EE env) 14 [.agg (stc s x y), sv name] = some (foundB (findE name s.es)) := by
  refine Has.eq (EP_has ?_)
  (repeat (first | refine hgetK_last ?_ | refine hgetK_has _ rfl ?_ | refine getK_has rfl ?_ | refine secK_has rfl (of_decide_eq_true rfl) ?_ | refine needK_has rfl ?_))
  refine callSK_has' ((indexE_ok x s.es hl name 1 [.pcells (stc s x y), .pcells [sv name]] rfl).mono fun y hy => ?_)
  obtain ⟨v, H'⟩ := y
  obtain ⟨rfl, J, rfl⟩ := hy
  refine eqK_has ?_
  refine boolK_has_keep ?_
  exact Has.intro (Has.intro rfl)
set_option maxHeartbeats 1000000 in
theorem rfindE_ok (s : St) (x y : Ext) (hl : s.es.length ≤ maxLen) (name : List UInt8) : EP (EE env) 15 [.agg (stc s x y), sv name] = some (.int .i64 (findE name s.es)) := by
  rw [maxLen_eq] at hl
  refine Has.eq (EP_has ?_)
  (repeat (first | refine hgetK_last ?_ | refine hgetK_has _ rfl ?_ | refine getK_has rfl ?_ | refine secK_has rfl (of_decide_eq_true rfl) ?_ | refine needK_has rfl ?_))
  refine loopK_has ?_
  refine iterE_loopJ (σ := Nat) (fun i => s.es.length - i) (fun i => [(1, .pv (sv name)), (8, .pv (.sl x s.es.length (flat en s.es))), (9, .pv (.int .i64 s.es.length)), (10, .pv (.int .i64 i))]) (fun _ => [.pcells (stc s x y)]) (fun i => i ≤ s.es.length ∧ findE name s.es = findEF name i (s.es.drop i)) (fun i ⟨hi, he⟩ r J => ?_) 0 ⟨Nat.zero_le _, rfl⟩ [] ⟨rfl, rfl, rfl, rfl, trivial⟩ rfl
  refine boolK_dec (fun hc => ?_) (fun hc => ?_)
  · have hlt : i < s.es.length := by omega
    obtain ⟨c, hcg⟩ : ∃ c, s.es[i]? = some c := ⟨_, List.getElem?_eq_getElem hlt⟩
    obtain ⟨g1, g2⟩ := flat_get en_len hcg
    rw [findEF_step hcg] at he
    refine needK_has (by (first | rfl | (simp; done) | (simp; omega))) ?_
    refine secK_has g1 g2 ?_
    refine hgetK_last ?_
    refine needK_has rfl ?_
    refine eqK_has_eq (en c) rfl ?_
    rw [hset_last]
    refine hgetK_last ?_
    refine getK_has rfl ?_
    refine boolK_has_eq (c := decide (c.d.name = name)) (str_beq c.d.name name) ?_
    by_cases hn : c.d.name = name
    · rw [decide_eq_true hn]
      rw [if_pos hn] at he
      refine Has.intro (Has.intro (Has.intro ?_))
      rw [he]
    · rw [decide_eq_false hn]
      rw [if_neg hn] at he
      refine eqK_has_eq _ (i64_succ (by omega)) ?_
      exact Has.intro ⟨i + 1, ⟨hlt, he⟩, by omega, ⟨rfl, rfl, rfl, rfl, trivial⟩, _, List.append_assoc _ _ _⟩
  · have : i = s.es.length := by omega
    subst this
    rw [List.drop_length] at he
    refine Has.intro (Has.intro (Has.intro ?_))
    rw [he]; rfl
end Go.Proofs.Ytchcbpnoagldnaa

namespace Go.Proofs.Ytchcbpnoagldnaa
open Go Go.VM

/-! ### a map that counts -/
def mp (l : List (Int × Int)) : List (PV × PV) := l.map fun x => (.int .i64 x.1, .int .i64 x.2)
def lk (a : Int) : List (Int × Int) → Nat → Option (Nat × PV)
  | [], _ => none
  | e :: l, i => if a = e.1 then some (i, .int .i64 e.2) else lk a l (i + 1)
def pt (a v : Int) : List (Int × Int) → List (Int × Int)
  | [] => [(a, v)]
  | e :: l => if a = e.1 then (a, v) :: l else e :: pt a v l
def vl (a : Int) : List (Int × Int) → Int
  | [] => 0
  | e :: l => if a = e.1 then e.2 else vl a l
theorem mf_mp (a : Int) : ∀ (l : List (Int × Int)) (i : Nat), mapFind .i (.int .i64 a) (mp l) i = some (lk a l i)
  | [], _ => rfl
  | e :: l, i => by
    have ih := mf_mp a l (i + 1)
    show mapFind .i (.int .i64 a) ((.int .i64 e.1, .int .i64 e.2) :: mp l) i = _
    by_cases h : a = e.1
    · simp only [mapFind, keyEq, kindEq, lk, if_pos h]
      rw [show (a == e.1) = true from beq_iff_eq.2 h]
      rfl
    · simp only [mapFind, keyEq, kindEq, lk, if_neg h]
      rw [show (a == e.1) = false from beq_eq_false_iff_ne.2 h]
      exact ih
theorem lv_mp (a : Int) : ∀ (l : List (Int × Int)) (i : Nat), lookV false (.int .i64 0) (lk a l i) = .int .i64 (vl a l)
  | [], _ => rfl
  | e :: l, i => by
    unfold lk vl
    split
    · rfl
    · exact lv_mp a l (i + 1)
theorem put_mp (a v : Int) : ∀ (l p : List (Int × Int)), mapPut (mp (p ++ l)) (.int .i64 a) (.int .i64 v) (lk a l p.length) = mp (p ++ pt a v l)
  | [], p => by simp [lk, pt, mapPut, mp]
  | e :: l, p => by
    unfold lk pt
    split
    · rename_i h
      simp [mapPut, mp]
    · have := put_mp a v l (p ++ [e])
      simpa using this
theorem vl_pt (a v b : Int) : ∀ l : List (Int × Int), vl b (pt a v l) = if b = a then v else vl b l
  | [] => by simp [pt, vl]
  | e :: l => by
    have ih := vl_pt a v b l
    unfold pt
    by_cases h : a = e.1
    · rw [if_pos h]
      simp only [vl]
      by_cases hb : b = a
      · simp [hb]
      · rw [if_neg hb, if_neg hb, if_neg (by omega)]
    · rw [if_neg h]
      simp only [vl]
      by_cases hb : b = e.1
      · rw [if_pos hb, if_neg (by omega), if_pos hb]
      · rw [if_neg hb, ih, if_neg hb]
theorem str_geq (a b : List UInt8) : (!Op.bytesLess (⟨a.toArray⟩ : ByteArray).toList (⟨b.toArray⟩ : ByteArray).toList) = decide (lt a b = false) := by
  rw [str_lss]; cases lt a b <;> rfl
def okE (s : St) (i : Nat) (e : En) : Prop := entP e ∧ e.age < s.next ∧ ∀ (j : Nat) (f : En), j < i → s.es[j]? = some f → f.age ≠ e.age ∧ lt f.d.name e.d.name = true
def entsP (s : St) : Prop := ∀ (i : Nat) (e : En), s.es[i]? = some e → okE s i e
noncomputable instance (s : St) : Decidable (entsP s) := Classical.propDecidable _
def smallS (s : St) : Prop := s.es.length ≤ maxLen ∧ s.hs.length ≤ maxLen ∧ (∀ e ∈ s.es, smallE e) ∧ ∀ h ∈ s.hs, h.sp.length = 8
set_option maxHeartbeats 2000000 in
theorem ents_ok (s : St) (x y : Ext) (hs : smallS s) (h16 : s.es.length ≤ 16) : EP (EE env) 38 [.agg (stc s x y)] = some (.bool (decide (entsP s))) := by
  obtain ⟨_, _, hE, _⟩ := hs
  refine Has.eq (EP_has ?_)
  (refine hgetK_has _ rfl ?_)
  refine getK_has rfl ?_
  refine loopK_has ?_
  refine iterE_loopJ (σ := Nat × List (Int × Int)) (fun t => s.es.length - t.1) (fun t => [(1, .ptr 0 0), (3, .map 1), (8, .pv (.sl x s.es.length (flat en s.es))), (9, .pv (.int .i64 s.es.length)), (10, .pv (.int .i64 t.1))]) (fun t => [.pcells (stc s x y), .map (mp t.2)])
    (fun t => t.1 ≤ s.es.length ∧ (∀ (k : Nat) (e : En), k < t.1 → s.es[k]? = some e → okE s k e) ∧ (∀ a, (0 ≤ vl a t.2 ∧ vl a t.2 ≤ 1)) ∧ ∀ a, vl a t.2 = 1 ↔ ∃ (k : Nat) (e : En), k < t.1 ∧ s.es[k]? = some e ∧ e.age = a) (fun ⟨i, l⟩ ⟨hi, hA, hB, hC⟩ r J => ?_) (0, []) ⟨Nat.zero_le _, fun k e h => by omega, fun a => by simp [vl], fun a => ⟨fun h => by simp [vl] at h, fun ⟨k, e, h, _⟩ => by omega⟩⟩ [] ⟨rfl, rfl, rfl, rfl, rfl, trivial⟩ rfl
  dsimp only at hi hA hB hC ⊢
  refine boolK_dec (fun hc => ?_) (fun hc => ?_)
  · have hlt : i < s.es.length := by omega
    obtain ⟨e, hcg⟩ : ∃ c, s.es[i]? = some c := ⟨_, List.getElem?_eq_getElem hlt⟩
    have hmem : e ∈ s.es := List.mem_of_getElem? hcg
    obtain ⟨g1, g2⟩ := flat_get en_len hcg
    refine needK_has (by (first | rfl | (simp; done) | (simp; omega))) ?_
    refine secK_has g1 g2 ?_
    refine hgetK_last ?_
    refine needK_has rfl ?_
    refine eqK_has_eq (en e) rfl ?_
    rw [hset_last]
    refine hgetK_last ?_
    refine getK_has (v := .int .i64 e.age) rfl ?_
    refine hgetK_has (.map (mp l)) rfl ?_
    refine bindK_has (mf_mp e.age l 0) ?_
    rw [lv_mp]
    have hv := hB e.age
    refine eqK_has_eq (vl e.age l + 1) (wrap_i64 (by omega) (by omega)) ?_
    refine hgetK_has (.map (mp l)) rfl ?_
    refine bindK_has (mf_mp e.age l 0) ?_
    have hput := put_mp e.age (vl e.age l + 1) l []
    rw [show mapPut (mp l) (.int .i64 e.age) (.int .i64 (vl e.age l + 1)) (lk e.age l 0) = mp (pt e.age (vl e.age l + 1) l) from hput]
    have k5 : ∀ m, hget (hset ([HObj.pcells (stc s x y), HObj.map (mp l)] ++ J ++ [HObj.pcells (en e)]) 1 (.map m)) (([HObj.pcells (stc s x y), HObj.map (mp l)] ++ J).length) = .pcells (en e) := fun m => by
      rw [hget_hset_ne _ _ (by simp)]; exact hget_append_same _ _
    have hH : ∀ m, hset ([HObj.pcells (stc s x y), HObj.map (mp l)] ++ J ++ [HObj.pcells (en e)]) 1 (.map m) = [HObj.pcells (stc s x y), HObj.map m] ++ (J ++ [HObj.pcells (en e)]) := fun m => rfl
    have k5 := k5 (mp (pt e.age (vl e.age l + 1) l))
    rw [hH] at k5 ⊢
    generalize ([HObj.pcells (stc s x y), HObj.map (mp l)] ++ J).length = q at k5 ⊢
    (refine hgetK_has (.pcells (en e)) k5 ?_)
    refine secK_has (v := en e) rfl (of_decide_eq_true rfl) ?_
    refine callPK_dec (ent_ok e (hE e hmem)) (fun h1 => ?_) (fun h1 => ?_)
    rotate_left
    · exact Has.intro (Has.intro (Has.intro (no fun h => h1 (h i e hcg).1)))
    (refine hgetK_has (.pcells (en e)) k5 ?_)
    refine getK_has (v := .int .i64 e.age) rfl ?_
    (refine hgetK_has _ rfl ?_)
    refine getK_has (v := .int .i64 s.next) rfl ?_
    refine boolK_dec (fun h2 => ?_) (fun h2 => ?_)
    · exact Has.intro (Has.intro (Has.intro (no fun h => by have := (h i e hcg).2.1; omega)))
    (refine hgetK_has (.pcells (en e)) k5 ?_)
    refine getK_has (v := .int .i64 e.age) rfl ?_
    (refine hgetK_has _ rfl ?_)
    refine bindK_has (mf_mp e.age _ 0) ?_
    rw [lv_mp, vl_pt, if_pos rfl]
    refine boolK_dec (fun h3 => ?_) (fun h3 => ?_)
    · refine Has.intro (Has.intro (Has.intro (no fun h => ?_)))
      obtain ⟨k, f, q1, q2, q3⟩ := (hC e.age).1 (by omega)
      exact ((h i e hcg).2.2 k f q1 q2).1 q3
    have hage : ∀ (j : Nat) (f : En), j < i → s.es[j]? = some f → f.age ≠ e.age := fun j f hj hf he => by
      have := (hC e.age).2 ⟨j, f, hj, hf, he⟩
      omega
    have fin : okE s i e → Agr r [] ∧ _ := fun ho => ⟨trivial, (⟨hlt, fun k f hk hf => by
        by_cases ek : k = i
        · subst ek; rw [hcg] at hf; injection hf with hf; subst hf; exact ho
        · exact hA k f (by omega) hf, fun a => by
        rw [vl_pt]; split
        · omega
        · exact hB a, fun a => by
        rw [vl_pt]
        by_cases ea : a = e.age
        · rw [if_pos ea]
          exact ⟨fun _ => ⟨i, e, by omega, hcg, ea.symm⟩, fun _ => by omega⟩
        · rw [if_neg ea, hC a]
          exact ⟨fun ⟨k, f, a1, a2, a3⟩ => ⟨k, f, by omega, a2, a3⟩, fun ⟨k, f, a1, a2, a3⟩ => ⟨k, f, by
            rcases Nat.lt_or_ge k i with h | h
            · exact h
            · have : k = i := by omega
              subst this; rw [hcg] at a2; injection a2 with a2; subst a2; exact absurd a3.symm ea, a2, a3⟩⟩⟩ : i + 1 ≤ s.es.length ∧ (∀ (k : Nat) (e : En), k < i + 1 → s.es[k]? = some e → okE s k e) ∧ (∀ a, (0 ≤ vl a (pt e.age (vl e.age l + 1) l) ∧ vl a (pt e.age (vl e.age l + 1) l) ≤ 1)) ∧ ∀ a, vl a (pt e.age (vl e.age l + 1) l) = 1 ↔ ∃ (k : Nat) (e : En), k < i + 1 ∧ s.es[k]? = some e ∧ e.age = a)⟩
    refine boolK_dec (fun h4 => ?_) (fun h4 => ?_)
    · have h4 : 0 < i := by omega
      obtain ⟨f, hfg⟩ : ∃ c, s.es[i - 1]? = some c := ⟨_, List.getElem?_eq_getElem (by omega)⟩
      (refine hgetK_has _ rfl ?_)
      refine getK_has (v := .sl x s.es.length (flat en s.es)) rfl ?_
      refine eqK_has_eq ((i - 1 : Nat) : Int) (by rw [wrap_i64 (by omega) (by omega)]; omega) ?_
      refine needK_has (by (first | rfl | (simp; done) | (simp; omega))) ?_
      refine getK_has (v := sv f.d.name) (by rw [at_ij, addO_eq, Nat.add_zero]; exact flat_cell (j := 0) en_len hfg (by decide)) ?_
      (refine hgetK_has (.pcells (en e)) k5 ?_)
      refine getK_has (v := sv e.d.name) rfl ?_
      refine boolK_has_eq (str_geq f.d.name e.d.name) ?_
      by_cases h5 : lt f.d.name e.d.name = false
      · rw [decide_eq_true h5]
        refine Has.intro (Has.intro (Has.intro (no fun h => ?_)))
        have := ((h i e hcg).2.2 (i - 1) f (by omega) hfg).2
        rw [h5] at this; cases this
      · rw [decide_eq_false h5]
        have h5 : lt f.d.name e.d.name = true := by simpa using h5
        refine eqK_has_eq _ (i64_succ (by omega)) ?_
        refine Has.intro ⟨(i + 1, pt e.age (vl e.age l + 1) l), (fin ⟨h1, by omega, fun j g hj hg => ⟨hage j g hj hg, ?_⟩⟩).2, by dsimp only; omega, ⟨rfl, rfl, rfl, rfl, rfl, trivial⟩, _, rfl⟩
        by_cases ej : j = i - 1
        · subst ej; rw [hfg] at hg; injection hg with hg; subst hg; exact h5
        · exact lt_trans _ _ _ ((hA (i - 1) f (by omega) hfg).2.2 j g (by omega) hg).2 h5
    · have : i = 0 := by omega
      subst this
      refine eqK_has_eq _ (i64_succ (by omega)) ?_
      exact Has.intro ⟨(0 + 1, pt e.age (vl e.age l + 1) l), (fin ⟨h1, by omega, fun j g hj hg => by omega⟩).2, by dsimp only; omega, ⟨rfl, rfl, rfl, rfl, rfl, trivial⟩, _, rfl⟩
  · have : i = s.es.length := by omega
    subst this
    refine Has.intro ?_
    (refine hgetK_has _ rfl ?_)
    refine getK_has (v := .sl x s.es.length (flat en s.es)) rfl ?_
    refine boolK_dec (fun h => ?_) (fun h => ?_)
    · exact Has.intro (Has.intro (yes fun k e hk => hA k e (List.getElem?_eq_some_iff.1 hk).1 hk))
    · omega
end Go.Proofs.Ytchcbpnoagldnaa

namespace Go.Proofs.Ytchcbpnoagldnaa
open Go Go.VM

def z8 : List Int := [0, 0, 0, 0, 0, 0, 0, 0]
def holdP (s : St) (h : Ho) : Prop := 0 ≤ findE h.o.pod s.es ∧ 0 ≤ h.o.kind ∧ h.o.kind ≤ 1 ∧ h.sp ≠ z8 ∧ (∀ n ∈ h.sp, 0 ≤ n ∧ n ≤ 1073741824) ∧ ∀ e, s.es[(findE h.o.pod s.es).toNat]? = some e → 0 ≤ findI h.o.ctr e.d.l
noncomputable instance (s : St) (h : Ho) : Decidable (holdP s h) := Classical.propDecidable _
theorem hoc_len {h : Ho} (h8 : h.sp.length = 8) : (hoc h).length = 11 := by simp [hoc, ow, h8]
theorem sp_eq {l m : List Int} (hl : l.length = 8) (hm : m.length = 8) : aggEq [.i, .i, .i, .i, .i, .i, .i, .i] (l.map (PV.int .i64)) (m.map (PV.int .i64)) = some (decide (l = m)) := by
  match l, hl, m, hm with
  | [a0, a1, a2, a3, a4, a5, a6, a7], _, [b0, b1, b2, b3, b4, b5, b6, b7], _ =>
    show some _ = some _
    congr 1
    rw [Bool.eq_iff_iff]
    simp
theorem findEF_range {name : List UInt8} : ∀ (l : List En) (i : Nat), findEF name i l = -1 ∨ ((i : Int) ≤ findEF name i l ∧ findEF name i l < (i : Int) + l.length)
  | [], i => .inl rfl
  | e :: l, i => by
    unfold findEF
    split
    · exact .inr ⟨by omega, by simp; omega⟩
    · rcases findEF_range l (i + 1) with h | ⟨h1, h2⟩
      · exact .inl h
      · exact .inr ⟨by omega, by simp; omega⟩
theorem findE_get {name : List UInt8} {l : List En} (h : 0 ≤ findE name l) : ∃ (k : Nat) (e : En), findE name l = (k : Int) ∧ l[k]? = some e ∧ k < l.length := by
  rcases findEF_range (name := name) l 0 with h1 | ⟨h1, h2⟩
  · have : findE name l = -1 := h1
    omega
  · have e : findE name l = findEF name 0 l := rfl
    rw [← e] at h1 h2
    refine ⟨(findE name l).toNat, l[(findE name l).toNat]'(by omega), by omega, List.getElem?_eq_getElem _, by omega⟩
set_option maxHeartbeats 2000000 in
theorem hold_ok (s : St) (x y : Ext) (hs : smallS s) (h : Ho) (h8 : h.sp.length = 8) : EP (EE env) 39 [.agg (stc s x y), .agg (hoc h)] = some (.bool (decide (holdP s h))) := by
  obtain ⟨hl, _, hE, _⟩ := hs
  have hl' := hl
  rw [maxLen_eq] at hl'
  refine Has.eq (EP_has ?_)
  refine hgetK_has (.pcells (stc s x y)) rfl ?_
  refine secK_has (v := stc s x y) rfl (of_decide_eq_true rfl) ?_
  (refine hgetK_has (.pcells (hoc h)) rfl ?_)
  refine getK_has (v := sv h.o.pod) rfl ?_
  refine callPK_has (findE_ok s x y hl h.o.pod) ?_
  by_cases q1 : 0 ≤ findE h.o.pod s.es
  rotate_left
  · rw [show foundB (findE h.o.pod s.es) = .tup [.int .i64 0, .bool false] from by unfold foundB; rw [if_pos (by omega), decide_eq_false (by omega)]]
    exact Has.intro (Has.intro (no fun h => q1 h.1))
  obtain ⟨k, e, hk, hg, hkl⟩ := findE_get q1
  have hmem : e ∈ s.es := List.mem_of_getElem? hg
  rw [show foundB (findE h.o.pod s.es) = .tup [.int .i64 (k : Int), .bool true] from by unfold foundB; rw [if_neg (by omega), decide_eq_true (by omega), hk]]
  (refine hgetK_has (.pcells (hoc h)) rfl ?_)
  refine getK_has (v := .int .i64 h.o.kind) rfl ?_
  refine boolK_dec (fun q2 => ?_) (fun q2 => ?_)
  · exact Has.intro (Has.intro (no fun h => by have := h.2.1; omega))
  (refine hgetK_has (.pcells (hoc h)) rfl ?_)
  refine getK_has (v := .int .i64 h.o.kind) rfl ?_
  refine boolK_dec (fun q3 => ?_) (fun q3 => ?_)
  · exact Has.intro (Has.intro (no fun h => by have := h.2.2.1; omega))
  (refine hgetK_has (.pcells (hoc h)) rfl ?_)
  have hsp : ((hoc h).drop 3).take 8 = h.sp.map (PV.int .i64) := by
    show (h.sp.map (PV.int .i64)).take 8 = _
    rw [List.take_of_length_le (by simp [h8])]
  have hlen : 3 + 8 ≤ (hoc h).length := by rw [hoc_len h8]; decide
  refine secK_has hsp hlen ?_
  refine bindK_has (sp_eq (m := z8) h8 rfl) ?_
  refine boolK_dec (fun q4 => ?_) (fun q4 => ?_)
  · exact Has.intro (Has.intro (no fun h => h.2.2.2.1 q4))
  (refine hgetK_has (.pcells (hoc h)) rfl ?_)
  refine secK_has hsp hlen ?_
  refine loopK_has ?_
  refine iterE_loop (σ := Nat) (fun i => 8 - i) (fun i => [(2, .ptr 0 0), (3, .ptr 1 0), (5, .pv (.int .i64 k)), (40, .pv (.agg (h.sp.map (PV.int .i64)))), (41, .pv (.int .i64 i))]) (fun _ => [.pcells (stc s x y), .pcells (hoc h)])
    (fun i => i ≤ 8 ∧ ∀ (j : Nat) (n : Int), j < i → h.sp[j]? = some n → 0 ≤ n ∧ n ≤ 1073741824) (fun i ⟨hi, hA⟩ r => ?_) 0 ⟨by decide, fun j n h => by omega⟩ ⟨rfl, rfl, rfl, rfl, rfl, trivial⟩ rfl
  refine boolK_dec (fun hc => ?_) (fun hc => ?_)
  · have hlt : i < h.sp.length := by omega
    obtain ⟨n, hng⟩ : ∃ c, h.sp[i]? = some c := ⟨_, List.getElem?_eq_getElem hlt⟩
    have hnm : n ∈ h.sp := List.mem_of_getElem? hng
    refine needK_has (by (first | rfl | (simp; done) | (simp; omega))) ?_
    refine getK_has (v := .int .i64 n) (by rw [List.getElem?_map, show ((i : Nat) : Int).toNat = i from rfl, hng]; rfl) ?_
    refine boolK_dec (fun q5 => ?_) (fun q5 => ?_)
    · exact Has.intro (Has.intro (Has.intro (no fun h => by have := (h.2.2.2.2.1 n hnm).1; omega)))
    refine boolK_dec (fun q6 => ?_) (fun q6 => ?_)
    · exact Has.intro (Has.intro (Has.intro (no fun h => by have := (h.2.2.2.2.1 n hnm).2; omega)))
    refine eqK_has_eq _ (i64_succ (by omega)) ?_
    refine Has.intro ⟨i + 1, ⟨by omega, fun j m hj hm => ?_⟩, by omega, ⟨rfl, rfl, rfl, rfl, rfl, trivial⟩, rfl⟩
    by_cases ej : j = i
    · subst ej; rw [hng] at hm; injection hm with hm; subst hm; omega
    · exact hA j m (by omega) hm
  · have : i = 8 := by omega
    subst this
    refine Has.intro ?_
    (refine hgetK_has _ rfl ?_)
    refine getK_has (v := .sl x s.es.length (flat en s.es)) rfl ?_
    refine needK_has (by (first | rfl | (simp; done) | (simp; omega))) ?_
    obtain ⟨p1, p2⟩ := flat_part en_len hg (j := 0) (n := 4) (by decide)
    refine secK_has (v := pdc e.d e.dx) (by rw [at_ij]; exact p1) (by rw [at_ij]; exact p2) ?_
    (refine hgetK_has (.pcells (hoc h)) rfl ?_)
    refine getK_has (v := sv h.o.ctr) rfl ?_
    refine callSK_has' ((find_ok _ e.d (hE e hmem).1.2.1 h.o.ctr _ (.inl ⟨e.dx, rfl⟩)).mono fun z hz => ?_)
    obtain ⟨v, H'⟩ := z
    obtain ⟨rfl, J, rfl⟩ := hz
    refine Has.intro (Has.intro (congrArg PV.bool ?_))
    show decide (findI h.o.ctr e.d.l ≥ 0) = _
    rw [decide_eq_decide]
    refine ⟨fun q => ⟨q1, by omega, by omega, q4, fun n hn => ?_, fun f hf => ?_⟩, fun q => q.2.2.2.2.2 e (by rw [hk]; exact hg)⟩
    · obtain ⟨j, hj⟩ := List.getElem?_of_mem hn
      exact hA j n (by have := (List.getElem?_eq_some_iff.1 hj).1; omega) hj
    · rw [hk] at hf
      have hf : s.es[k]? = some f := hf
      rw [hg] at hf; injection hf with hf; subst hf; exact q
end Go.Proofs.Ytchcbpnoagldnaa

namespace Go.Proofs.Ytchcbpnoagldnaa
open Go Go.VM

def okH (s : St) (i : Nat) (h : Ho) : Prop := holdP s h ∧ ∀ (g : Ho), 0 < i → s.hs[i - 1]? = some g → ahead g.o h.o = true
def rightP (s : St) : Prop := (0 ≤ s.next ∧ s.next ≤ 1099511627776) ∧ s.es.length ≤ 16 ∧ entsP s ∧ ∀ (i : Nat) (h : Ho), s.hs[i]? = some h → okH s i h
noncomputable instance (s : St) : Decidable (rightP s) := Classical.propDecidable _
/-- Lists of holds. -/
theorem hs_get {l : List Ho} (h8 : ∀ h ∈ l, h.sp.length = 8) : ∀ {i : Nat} {h : Ho}, l[i]? = some h → ((flat hoc l).drop (i * 11)).take 11 = hoc h ∧ i * 11 + 11 ≤ (flat hoc l).length := by
  induction l with
  | nil => intro i h e; simp at e
  | cons b l ih =>
    have hb : (hoc b).length = 11 := hoc_len (h8 b (by simp))
    have ih := @ih (fun h hh => h8 h (by simp [hh]))
    intro i h e
    cases i with
    | zero =>
      simp at e; subst e
      refine ⟨?_, ?_⟩
      · show ((hoc b ++ flat hoc l).drop (0 * 11)).take 11 = hoc b
        rw [Nat.zero_mul, List.drop_zero, List.take_append_of_le_length (by omega), List.take_of_length_le (by omega)]
      · show _ ≤ (hoc b ++ flat hoc l).length
        rw [List.length_append]; omega
    | succ i =>
      simp at e
      obtain ⟨h1, h2⟩ := ih e
      refine ⟨?_, ?_⟩
      · show ((hoc b ++ flat hoc l).drop ((i + 1) * 11)).take 11 = hoc h
        have e : (i + 1) * 11 = (hoc b).length + i * 11 := by omega
        rw [e, List.drop_append, List.drop_of_length_le (by omega), List.nil_append, Nat.add_sub_cancel_left]
        exact h1
      · show _ ≤ (hoc b ++ flat hoc l).length
        rw [List.length_append]; omega
theorem hs_part {l : List Ho} (h8 : ∀ h ∈ l, h.sp.length = 8) {i : Nat} {h : Ho} (hg : l[i]? = some h) {j n : Nat} (hjn : j + n ≤ 11) :
    ((flat hoc l).drop (i * 11 + j)).take n = ((hoc h).drop j).take n ∧ i * 11 + j + n ≤ (flat hoc l).length := by
  obtain ⟨h1, h2⟩ := hs_get h8 hg
  refine ⟨?_, by omega⟩
  rw [← h1, List.drop_take, List.take_take, List.drop_drop]
  congr 1; omega
set_option maxHeartbeats 2000000 in
theorem right_ok' (s : St) (x y : Ext) (hs : smallS s) : EP (EE env) 16 [.agg (stc s x y)] = some (.bool (decide (rightP s))) := by
  obtain ⟨hl, hl2, hE, h8⟩ := id hs
  rw [maxLen_eq] at hl2
  refine Has.eq (EP_has ?_)
  (refine hgetK_has _ rfl ?_)
  refine getK_has (v := .int .i64 s.next) rfl ?_
  refine boolK_dec (fun q1 => ?_) (fun q1 => ?_)
  · exact Has.intro (Has.intro (no fun h => by have := h.1; omega))
  (refine hgetK_has _ rfl ?_)
  refine getK_has (v := .int .i64 s.next) rfl ?_
  refine boolK_dec (fun q2 => ?_) (fun q2 => ?_)
  · exact Has.intro (Has.intro (no fun h => by have := h.1; omega))
  (refine hgetK_has _ rfl ?_)
  refine getK_has (v := .sl x s.es.length (flat en s.es)) rfl ?_
  refine boolK_dec (fun q3 => ?_) (fun q3 => ?_)
  · exact Has.intro (Has.intro (no fun h => by have := h.2.1; omega))
  (refine hgetK_has _ rfl ?_)
  (refine secK_has (v := stc s x y) rfl (of_decide_eq_true rfl) ?_)
  refine callPK_dec (ents_ok s x y hs (by omega)) (fun q4 => ?_) (fun q4 => ?_)
  rotate_left
  · exact Has.intro (Has.intro (no fun h => q4 h.2.2.1))
  (refine hgetK_has _ rfl ?_)
  refine getK_has (v := .sl y s.hs.length (flat hoc s.hs)) rfl ?_
  refine loopK_has ?_
  refine iterE_loopJ (σ := Nat) (fun i => s.hs.length - i) (fun i => [(1, .ptr 0 0), (25, .pv (.sl y s.hs.length (flat hoc s.hs))), (26, .pv (.int .i64 s.hs.length)), (27, .pv (.int .i64 i))]) (fun _ => [.pcells (stc s x y)])
    (fun i => i ≤ s.hs.length ∧ ∀ (k : Nat) (h : Ho), k < i → s.hs[k]? = some h → okH s k h) (fun i ⟨hi, hA⟩ r J => ?_) 0 ⟨Nat.zero_le _, fun k h hk => by omega⟩ [] ⟨rfl, rfl, rfl, rfl, trivial⟩ rfl
  refine boolK_dec (fun hc => ?_) (fun hc => ?_)
  · have hlt : i < s.hs.length := by omega
    obtain ⟨h, hg⟩ : ∃ c, s.hs[i]? = some c := ⟨_, List.getElem?_eq_getElem hlt⟩
    have hmem : h ∈ s.hs := List.mem_of_getElem? hg
    obtain ⟨g1, g2⟩ := hs_get h8 hg
    have hh11 := hoc_len (h8 h hmem)
    refine needK_has (by (first | rfl | (simp; done) | (simp; omega))) ?_
    refine secK_has g1 g2 ?_
    refine hgetK_last ?_
    refine needK_has (by rw [hh11]; rfl) ?_
    refine eqK_has_eq (hoc h) (by simp [hh11]) ?_
    rw [hset_last]
    (refine hgetK_has _ rfl ?_)
    (refine secK_has (v := stc s x y) rfl (of_decide_eq_true rfl) ?_)
    refine hgetK_last ?_
    refine secK_has (v := hoc h) (by rw [List.drop_zero, List.take_of_length_le (by omega)]) (by rw [hh11]; decide) ?_
    refine callPK_dec (hold_ok s x y hs h (h8 h hmem)) (fun q5 => ?_) (fun q5 => ?_)
    rotate_left
    · exact Has.intro (Has.intro (Has.intro (no fun hr => q5 (hr.2.2.2 i h hg).1)))
    have next : okH s i h → i + 1 ≤ s.hs.length ∧ ∀ (k : Nat) (h : Ho), k < i + 1 → s.hs[k]? = some h → okH s k h := fun ho => ⟨hlt, fun k f hk hf => by
      by_cases ek : k = i
      · subst ek; rw [hg] at hf; injection hf with hf; subst hf; exact ho
      · exact hA k f (by omega) hf⟩
    refine boolK_dec (fun q6 => ?_) (fun q6 => ?_)
    · have q6 : 0 < i := by omega
      obtain ⟨g, hgg⟩ : ∃ c, s.hs[i - 1]? = some c := ⟨_, List.getElem?_eq_getElem (by omega)⟩
      (refine hgetK_has _ rfl ?_)
      refine getK_has (v := .sl y s.hs.length (flat hoc s.hs)) rfl ?_
      refine eqK_has_eq ((i - 1 : Nat) : Int) (by rw [wrap_i64 (by omega) (by omega)]; omega) ?_
      refine needK_has (by (first | rfl | (simp; done) | (simp; omega))) ?_
      obtain ⟨p1, p2⟩ := hs_part h8 hgg (j := 0) (n := 3) (by decide)
      refine secK_has (v := ow g.o) (by rw [at_ij]; exact p1) (by rw [at_ij]; exact p2) ?_
      refine hgetK_last ?_
      refine secK_has (v := ow h.o) rfl (by rw [hh11]; decide) ?_
      refine callPK_has (compare_ok g.o h.o) ?_
      refine boolK_dec (fun q7 => ?_) (fun q7 => ?_)
      · refine Has.intro (Has.intro (Has.intro (no fun hr => ?_)))
        have := (cmp_ahead g.o h.o).2 ((hr.2.2.2 i h hg).2 g q6 hgg)
        omega
      · refine eqK_has_eq _ (i64_succ (by omega)) ?_
        refine Has.intro ⟨i + 1, next ⟨q5, fun f _ hf => ?_⟩, by omega, ⟨rfl, rfl, rfl, rfl, trivial⟩, _, List.append_assoc _ _ _⟩
        rw [hgg] at hf; injection hf with hf; subst hf
        exact (cmp_ahead g.o h.o).1 (by omega)
    · refine eqK_has_eq _ (i64_succ (by omega)) ?_
      exact Has.intro ⟨i + 1, next ⟨q5, fun f hf => by omega⟩, by omega, ⟨rfl, rfl, rfl, rfl, trivial⟩, _, List.append_assoc _ _ _⟩
  · have : i = s.hs.length := by omega
    subst this
    exact Has.intro (Has.intro (Has.intro (yes ⟨by omega, by omega, q4, fun k h hk => hA k h (List.getElem?_eq_some_iff.1 hk).1 hk⟩)))
end Go.Proofs.Ytchcbpnoagldnaa

namespace Go.Proofs.Ytchcbpnoagldnaa
open Go Go.VM

theorem flatE10 {l : List En} {i : Nat} (h : i ≤ l.length) : ((flat en l).drop (mulE 0 10)).take (mulE (((i : Nat) : Int).toNat - 0) 10) = flat en (l.take i) := by
  show ((flat en l).drop 0).take (i * 10) = _
  rw [List.drop_zero]
  conv => lhs; rw [← List.take_append_drop i l, ← flat_app]
  have hl : (flat en (l.take i)).length = i * 10 := by rw [flat_len en_len, List.length_take]; congr 1; omega
  rw [List.take_append_of_le_length (by omega), List.take_of_length_le (by omega)]
set_option maxHeartbeats 4000000 in
theorem rright_ok' (s : St) (x y : Ext) (hs : smallS s) : EP (EE env) 8 [.agg (stc s x y)] = some (.bool (decide (rightP s))) := by
  obtain ⟨hl, hl2, hE, h8⟩ := id hs
  have hlm := hl
  rw [maxLen_eq] at hl2
  refine Has.eq (EP_has ?_)
  (refine hgetK_has _ rfl ?_)
  refine getK_has (v := .int .i64 s.next) rfl ?_
  refine boolK_dec (fun q1 => ?_) (fun q1 => ?_)
  · exact Has.intro (Has.intro (no fun h => by have := h.1; omega))
  (refine hgetK_has _ rfl ?_)
  refine getK_has (v := .int .i64 s.next) rfl ?_
  refine boolK_dec (fun q2 => ?_) (fun q2 => ?_)
  · exact Has.intro (Has.intro (no fun h => by have := h.1; omega))
  (refine hgetK_has _ rfl ?_)
  refine getK_has (v := .sl x s.es.length (flat en s.es)) rfl ?_
  refine boolK_dec (fun q3 => ?_) (fun q3 => ?_)
  · exact Has.intro (Has.intro (no fun h => by have := h.2.1; omega))
  (refine hgetK_has _ rfl ?_)
  refine getK_has (v := .sl x s.es.length (flat en s.es)) rfl ?_
  refine loopK_has ?_
  refine iterE_loopJ (σ := Nat) (fun i => s.es.length - i) (fun i => [(1, .ptr 0 0), (27, .pv (.sl x s.es.length (flat en s.es))), (28, .pv (.int .i64 s.es.length)), (29, .pv (.int .i64 i))]) (fun _ => [.pcells (stc s x y)])
    (fun i => i ≤ s.es.length ∧ ∀ (k : Nat) (e : En), k < i → s.es[k]? = some e → okE s k e) (fun i ⟨hi, hA⟩ r J => ?_) 0 ⟨Nat.zero_le _, fun k h hk => by omega⟩ [] ⟨rfl, rfl, rfl, rfl, trivial⟩ rfl
  refine boolK_dec (fun hc => ?_) (fun hc => ?_)
  · have hlt : i < s.es.length := by omega
    obtain ⟨e, hg⟩ : ∃ c, s.es[i]? = some c := ⟨_, List.getElem?_eq_getElem hlt⟩
    have hmem : e ∈ s.es := List.mem_of_getElem? hg
    obtain ⟨g1, g2⟩ := flat_get en_len hg
    refine needK_has (by (first | rfl | (simp; done) | (simp; omega))) ?_
    refine secK_has g1 g2 ?_
    refine hgetK_last ?_
    refine needK_has rfl ?_
    refine eqK_has_eq (en e) rfl ?_
    rw [hset_last]
    refine hgetK_last ?_
    refine secK_has (v := en e) rfl (of_decide_eq_true rfl) ?_
    refine callPK_dec (rent_ok e (hE e hmem)) (fun h1 => ?_) (fun h1 => ?_)
    rotate_left
    · exact Has.intro (Has.intro (Has.intro (no fun h => h1 (h.2.2.1 i e hg).1)))
    refine hgetK_last ?_
    refine getK_has (v := .int .i64 e.age) rfl ?_
    (refine hgetK_has _ rfl ?_)
    refine getK_has (v := .int .i64 s.next) rfl ?_
    refine boolK_dec (fun h2 => ?_) (fun h2 => ?_)
    · exact Has.intro (Has.intro (Has.intro (no fun h => by have := (h.2.2.1 i e hg).2.1; omega)))
    (refine hgetK_has _ rfl ?_)
    refine getK_has (v := .sl x s.es.length (flat en s.es)) rfl ?_
    refine needK_has (by (first | rfl | (simp; done) | (simp; omega))) ?_
    refine eqK_has_eq (flat en (s.es.take i)) (flatE10 hi) ?_
    have k5 := hget_append_same ([HObj.pcells (stc s x y)] ++ J) (HObj.pcells (en e))
    have hH : ([HObj.pcells (stc s x y)] ++ J) ++ [HObj.pcells (en e)] = [HObj.pcells (stc s x y)] ++ (J ++ [HObj.pcells (en e)]) := rfl
    rw [hH] at k5 ⊢
    generalize ([HObj.pcells (stc s x y)] ++ J).length = q at k5 ⊢
    generalize J ++ [HObj.pcells (en e)] = J at k5 ⊢
    refine loopK_has ?_
    refine iterE_loopJ (σ := Nat) (fun m => i - m) (fun m => [(1, .ptr 0 0), (4, .ptr q 0), (27, .pv (.sl x s.es.length (flat en s.es))), (28, .pv (.int .i64 s.es.length)), (29, .pv (.int .i64 i)), (47, .pv (.sl (x.part false false) i (flat en (s.es.take i)))), (48, .pv (.int .i64 i)), (49, .pv (.int .i64 m))]) (fun _ => [.pcells (stc s x y)] ++ J)
      (fun m => m ≤ i ∧ ∀ (j : Nat) (f : En), j < m → s.es[j]? = some f → f.age ≠ e.age ∧ lt f.d.name e.d.name = true) (fun m ⟨hm, hB⟩ r J' => ?_) 0 ⟨Nat.zero_le _, fun j d h => by omega⟩ [] ⟨rfl, rfl, rfl, rfl, rfl, rfl, rfl, rfl, trivial⟩ (List.append_nil _).symm
    refine boolK_dec (fun hc2 => ?_) (fun hc2 => ?_)
    · have hlt2 : m < i := by omega
      obtain ⟨d, hdg⟩ : ∃ d, s.es[m]? = some d := ⟨_, List.getElem?_eq_getElem (show m < s.es.length by omega)⟩
      have hdt : (s.es.take i)[m]? = some d := by rw [List.getElem?_take_of_lt hlt2]; exact hdg
      obtain ⟨f1, f2⟩ := flat_get en_len hdt
      refine needK_has (by (first | rfl | (simp; done) | (simp; omega))) ?_
      refine secK_has f1 f2 ?_
      refine hgetK_last ?_
      refine needK_has rfl ?_
      refine eqK_has_eq (en d) rfl ?_
      rw [hset_last]
      refine hgetK_last ?_
      refine getK_has (v := .int .i64 d.age) rfl ?_
      have k6 : hget ([HObj.pcells (stc s x y)] ++ J ++ J' ++ [HObj.pcells (en d)]) q = .pcells (en e) := by
        rw [List.append_assoc]; exact (hget_app _ (hget_lt k5 ((by intro h; cases h)))).trans k5
      refine hgetK_has _ k6 ?_
      refine getK_has (v := .int .i64 e.age) rfl ?_
      refine boolK_beq (fun h3 => ?_) (fun h3 => ?_)
      · exact Has.intro (Has.intro (Has.intro (Has.intro (no fun h => ((h.2.2.1 i e hg).2.2 m d hlt2 hdg).1 h3))))
      refine hgetK_last ?_
      refine getK_has (v := sv d.d.name) rfl ?_
      refine hgetK_has _ k6 ?_
      refine getK_has (v := sv e.d.name) rfl ?_
      refine boolK_has_eq (str_geq d.d.name e.d.name) ?_
      by_cases h5 : lt d.d.name e.d.name = false
      · rw [decide_eq_true h5]
        refine Has.intro (Has.intro (Has.intro (Has.intro (no fun h => ?_))))
        have := ((h.2.2.1 i e hg).2.2 m d hlt2 hdg).2
        rw [h5] at this; cases this
      · rw [decide_eq_false h5]
        refine eqK_has_eq _ (i64_succ (by omega)) ?_
        refine Has.intro ⟨m + 1, ⟨hlt2, fun j f hj hf => ?_⟩, by omega, ⟨rfl, rfl, rfl, rfl, rfl, rfl, rfl, rfl, trivial⟩, _, List.append_assoc _ _ _⟩
        by_cases ej : j = m
        · subst ej; rw [hdg] at hf; injection hf with hf; subst hf; exact ⟨h3, by simpa using h5⟩
        · exact hB j f (by omega) hf
    · have hme : m = i := by omega
      subst hme
      refine Has.intro ?_
      refine eqK_has_eq _ (i64_succ (by omega)) ?_
      refine Has.intro ⟨m + 1, ⟨hlt, fun k f hk hf => ?_⟩, by omega, ⟨rfl, rfl, rfl, rfl, trivial⟩, _, List.append_assoc _ _ _⟩
      by_cases ek : k = m
      · subst ek; rw [hg] at hf; injection hf with hf; subst hf; exact ⟨h1, by omega, hB⟩
      · exact hA k f (by omega) hf
  have : i = s.es.length := by omega
  subst this
  have q4 : entsP s := fun k e hk => hA k e (List.getElem?_eq_some_iff.1 hk).1 hk
  refine Has.intro ?_
  (refine hgetK_has _ rfl ?_)
  refine getK_has (v := .sl y s.hs.length (flat hoc s.hs)) rfl ?_
  refine loopK_has ?_
  refine iterE_loopJ (σ := Nat) (fun i => s.hs.length - i) (fun i => [(1, .ptr 0 0), (70, .pv (.sl y s.hs.length (flat hoc s.hs))), (71, .pv (.int .i64 s.hs.length)), (72, .pv (.int .i64 i))]) (fun _ => [.pcells (stc s x y)])
    (fun i => i ≤ s.hs.length ∧ ∀ (k : Nat) (h : Ho), k < i → s.hs[k]? = some h → okH s k h) (fun i ⟨hi, hA⟩ r J => ?_) 0 ⟨Nat.zero_le _, fun k h hk => by omega⟩ J ⟨rfl, rfl, rfl, rfl, trivial⟩ rfl
  refine boolK_dec (fun hc => ?_) (fun hc => ?_)
  rotate_left
  · have : i = s.hs.length := by omega
    subst this
    exact Has.intro (Has.intro (Has.intro (yes ⟨by omega, by omega, q4, fun k h hk => hA k h (List.getElem?_eq_some_iff.1 hk).1 hk⟩)))
  have hlt : i < s.hs.length := by omega
  obtain ⟨h, hg⟩ : ∃ c, s.hs[i]? = some c := ⟨_, List.getElem?_eq_getElem hlt⟩
  have hmem : h ∈ s.hs := List.mem_of_getElem? hg
  obtain ⟨g1, g2⟩ := hs_get h8 hg
  have hh8 := h8 h hmem
  have hh11 := hoc_len hh8
  refine needK_has (by (first | rfl | (simp; done) | (simp; omega))) ?_
  refine secK_has g1 g2 ?_
  refine hgetK_last ?_
  refine needK_has (by rw [hh11]; rfl) ?_
  refine eqK_has_eq (hoc h) (by simp) ?_
  rw [hset_last]
  (refine hgetK_has _ rfl ?_)
  (refine secK_has (v := stc s x y) rfl (of_decide_eq_true rfl) ?_)
  refine hgetK_last ?_
  refine getK_has (v := sv h.o.pod) rfl ?_
  refine callPK_has (rfindE_ok s x y hlm h.o.pod) ?_
  refine boolK_dec (fun q1 => ?_) (fun q1 => ?_)
  · exact Has.intro (Has.intro (Has.intro (no fun hr => by have := (hr.2.2.2 i h hg).1.1; omega)))
  obtain ⟨k, e, hk, heg, hkl⟩ := findE_get (show 0 ≤ findE h.o.pod s.es by omega)
  have hme : e ∈ s.es := List.mem_of_getElem? heg
  (refine hgetK_has _ rfl ?_)
  refine getK_has (v := .sl x s.es.length (flat en s.es)) rfl ?_
  rw [hk]
  refine needK_has (by (first | rfl | (simp; done) | (simp; omega))) ?_
  obtain ⟨p1, p2⟩ := flat_part en_len heg (j := 0) (n := 4) (by decide)
  refine secK_has (v := pdc e.d e.dx) (by rw [at_ij]; exact p1) (by rw [at_ij]; exact p2) ?_
  refine hgetK_last ?_
  refine getK_has (v := sv h.o.ctr) rfl ?_
  refine callPK_has (rfind_ok e.dx e.d (hE e hme).1.2.1 h.o.ctr) ?_
  refine boolK_dec (fun q5 => ?_) (fun q5 => ?_)
  · refine Has.intro (Has.intro (Has.intro (no fun hr => ?_)))
    have := (hr.2.2.2 i h hg).1.2.2.2.2.2 e (by rw [hk]; exact heg)
    omega
  refine hgetK_last ?_
  refine getK_has (v := .int .i64 h.o.kind) rfl ?_
  refine boolK_dec (fun q6 => ?_) (fun q6 => ?_)
  · exact Has.intro (Has.intro (Has.intro (no fun hr => by have := (hr.2.2.2 i h hg).1.2.1; omega)))
  refine hgetK_last ?_
  refine getK_has (v := .int .i64 h.o.kind) rfl ?_
  refine boolK_dec (fun q7 => ?_) (fun q7 => ?_)
  · exact Has.intro (Has.intro (Has.intro (no fun hr => by have := (hr.2.2.2 i h hg).1.2.2.1; omega)))
  have hsp : ((hoc h).drop 3).take 8 = h.sp.map (PV.int .i64) := by
    show (h.sp.map (PV.int .i64)).take 8 = _
    rw [List.take_of_length_le (by simp [hh8])]
  refine hgetK_last ?_
  refine secK_has hsp (by rw [hh11]; decide) ?_
  refine bindK_has (sp_eq (m := z8) hh8 rfl) ?_
  refine boolK_dec (fun q8 => ?_) (fun q8 => ?_)
  · exact Has.intro (Has.intro (Has.intro (no fun hr => (hr.2.2.2 i h hg).1.2.2.2.1 q8)))
  refine hgetK_last ?_
  refine secK_has hsp (by rw [hh11]; decide) ?_
  have k5 := hget_append_same ([HObj.pcells (stc s x y)] ++ J) (HObj.pcells (hoc h))
  have hH : ([HObj.pcells (stc s x y)] ++ J) ++ [HObj.pcells (hoc h)] = [HObj.pcells (stc s x y)] ++ (J ++ [HObj.pcells (hoc h)]) := rfl
  rw [hH] at k5 ⊢
  generalize ([HObj.pcells (stc s x y)] ++ J).length = q at k5 ⊢
  generalize J ++ [HObj.pcells (hoc h)] = J at k5 ⊢
  refine loopK_has ?_
  refine iterE_loop (σ := Nat) (fun m => 8 - m) (fun m => [(1, .ptr 0 0), (7, .pv (.int .i64 i)), (8, .ptr q 0), (70, .pv (.sl y s.hs.length (flat hoc s.hs))), (71, .pv (.int .i64 s.hs.length)), (72, .pv (.int .i64 i)), (116, .pv (.agg (h.sp.map (PV.int .i64)))), (117, .pv (.int .i64 m))]) (fun _ => [.pcells (stc s x y)] ++ J)
    (fun m => m ≤ 8 ∧ ∀ (j : Nat) (n : Int), j < m → h.sp[j]? = some n → 0 ≤ n ∧ n ≤ 1073741824) (fun m ⟨hm, hB⟩ r => ?_) 0 ⟨by decide, fun j n h => by omega⟩ ⟨rfl, rfl, rfl, rfl, rfl, rfl, rfl, rfl, trivial⟩ rfl
  refine boolK_dec (fun hc2 => ?_) (fun hc2 => ?_)
  · have hlt2 : m < h.sp.length := by omega
    obtain ⟨n, hng⟩ : ∃ c, h.sp[m]? = some c := ⟨_, List.getElem?_eq_getElem hlt2⟩
    have hnm : n ∈ h.sp := List.mem_of_getElem? hng
    refine needK_has (by (first | rfl | (simp; done) | (simp; omega))) ?_
    refine getK_has (v := .int .i64 n) (by rw [List.getElem?_map, show ((m : Nat) : Int).toNat = m from rfl, hng]; rfl) ?_
    refine boolK_dec (fun q9 => ?_) (fun q9 => ?_)
    · exact Has.intro (Has.intro (Has.intro (Has.intro (no fun hr => by have := ((hr.2.2.2 i h hg).1.2.2.2.2.1 n hnm).1; omega))))
    refine boolK_dec (fun q10 => ?_) (fun q10 => ?_)
    · exact Has.intro (Has.intro (Has.intro (Has.intro (no fun hr => by have := ((hr.2.2.2 i h hg).1.2.2.2.2.1 n hnm).2; omega))))
    refine eqK_has_eq _ (i64_succ (by omega)) ?_
    refine Has.intro ⟨m + 1, ⟨by omega, fun j w hj hw => ?_⟩, by omega, ⟨rfl, rfl, rfl, rfl, rfl, rfl, rfl, rfl, trivial⟩, rfl⟩
    by_cases ej : j = m
    · subst ej; rw [hng] at hw; injection hw with hw; subst hw; omega
    · exact hB j w (by omega) hw
  have : m = 8 := by omega
  subst this
  have hH : holdP s h := ⟨by omega, by omega, by omega, q8, fun n hn => by
    obtain ⟨j, hj⟩ := List.getElem?_of_mem hn
    exact hB j n (by have := (List.getElem?_eq_some_iff.1 hj).1; omega) hj, fun f hf => by
    rw [hk] at hf
    have hf : s.es[k]? = some f := hf
    rw [heg] at hf; injection hf with hf; subst hf; omega⟩
  have next : okH s i h → i + 1 ≤ s.hs.length ∧ ∀ (k : Nat) (h : Ho), k < i + 1 → s.hs[k]? = some h → okH s k h := fun ho => ⟨hlt, fun k f hk hf => by
    by_cases ek : k = i
    · subst ek; rw [hg] at hf; injection hf with hf; subst hf; exact ho
    · exact hA k f (by omega) hf⟩
  refine Has.intro ?_
  refine boolK_dec (fun q11 => ?_) (fun q11 => ?_)
  · have q11 : 0 < i := by omega
    obtain ⟨g, hgg⟩ : ∃ c, s.hs[i - 1]? = some c := ⟨_, List.getElem?_eq_getElem (by omega)⟩
    (refine hgetK_has _ rfl ?_)
    refine getK_has (v := .sl y s.hs.length (flat hoc s.hs)) rfl ?_
    refine eqK_has_eq ((i - 1 : Nat) : Int) (by rw [wrap_i64 (by omega) (by omega)]; omega) ?_
    refine needK_has (by (first | rfl | (simp; done) | (simp; omega))) ?_
    obtain ⟨p1, p2⟩ := hs_part h8 hgg (j := 0) (n := 3) (by decide)
    refine secK_has (v := ow g.o) (by rw [at_ij]; exact p1) (by rw [at_ij]; exact p2) ?_
    refine hgetK_has _ k5 ?_
    refine secK_has (v := ow h.o) rfl (by rw [hh11]; decide) ?_
    refine callPK_has (before_ok g.o h.o) ?_
    cases ha : ahead g.o h.o
    · refine Has.intro (Has.intro (Has.intro (no fun hr => ?_)))
      have := (hr.2.2.2 i h hg).2 g q11 hgg
      rw [ha] at this; cases this
    · refine eqK_has_eq _ (i64_succ (by omega)) ?_
      refine Has.intro ⟨i + 1, next ⟨hH, fun f _ hf => ?_⟩, by omega, ⟨rfl, rfl, rfl, rfl, trivial⟩, _, rfl⟩
      rw [hgg] at hf; injection hf with hf; subst hf
      exact ha
  · refine eqK_has_eq _ (i64_succ (by omega)) ?_
    exact Has.intro ⟨i + 1, next ⟨hH, fun f hf => by omega⟩, by omega, ⟨rfl, rfl, rfl, rfl, trivial⟩, _, rfl⟩
end Go.Proofs.Ytchcbpnoagldnaa
