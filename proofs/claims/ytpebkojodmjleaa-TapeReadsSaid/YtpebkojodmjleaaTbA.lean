/-
  The document's reader: numbers.
-/
import Derived.Test.YtpebkojodmjleaaTaI
set_option linter.all false
set_option linter.unusedVariables false
set_option linter.unusedSimpArgs false
set_option linter.unusedSectionVars false
namespace Go.Proofs.Ytpebkojodmjleaa
open Go Go.VM

abbrev RS := List UInt8 × Int
def gN (m : Nat) (r : RS) : Nat × RS := rNum r.1 r.2 m
def gT (m : Int) (r : RS) : List UInt8 × RS := rTxt r.1 r.2 m
def gS (a b : Int) (r : RS) : Int × RS := rSig r.1 r.2 a b
def gF (r : RS) : Bool × RS := rFlg r.1 r.2
theorem gN_short (m : Nat) (r : RS) : (gN m r).2.1.length ≤ r.1.length := rNum_short r.1 r.2 m
theorem gN_lt (m : Nat) (r : RS) : (gN m r).1 < 18446744073709551616 := rNum_lt r.1 r.2 m
/-- All others stay. -/
def KR (p : Nat) (H H' : Heap) : Prop := H.length ≤ H'.length ∧ ∀ i, i ≠ p → i < H.length → hget H' i = hget H i
theorem KR.refl (p : Nat) (H : Heap) : KR p H H := ⟨Nat.le_refl _, fun _ _ _ => rfl⟩
theorem KR.trans {p : Nat} {A B C : Heap} (h1 : KR p A B) (h2 : KR p B C) : KR p A C :=
  ⟨Nat.le_trans h1.1 h2.1, fun i hi hl => (h2.2 i hi (Nat.lt_of_lt_of_le hl h1.1)).trans (h1.2 i hi hl)⟩
theorem KR.obj {p : Nat} {A B : Heap} (h : KR p A B) {i : Nat} {o : HObj} (hi : i ≠ p) (ho : hget A i = o) (hd : o ≠ .dead) : hget B i = o := (h.2 i hi (hget_lt ho hd)).trans ho
/-- A statement that may return. -/
theorem seq_if {R : Type} {Q : R → Prop} {env : Env} {E : Orc} {a b : VCode} {r : Regs} {h : Heap} {k : Ex → Regs → Heap → Option R} (Lr : List (Nat × AV)) (Pr : Prop) (L : List (Nat × AV)) (Pn : Prop) (H : Heap)
    (ha : Has (evK env E a Res r h doneK) fun x => (x.1 = .ret ∧ Agr x.2.1 Lr ∧ x.2.2 = H ∧ Pr) ∨ (x.1 = .normal ∧ Agr x.2.1 L ∧ x.2.2 = H ∧ Pn))
    (hr : Pr → ∀ r, Has (k .ret (setL r Lr) H) Q) (hn : Pn → ∀ r, Has (evK env E b R (setL r L) H k) Q) : Has (evK env E (.seq a b) R r h k) Q := by
  refine seq_join (fun e r h => (e = .ret ∧ Agr r Lr ∧ h = H ∧ Pr) ∨ (e = .normal ∧ Agr r L ∧ h = H ∧ Pn)) ha fun e r h hj => ?_
  rcases hj with ⟨rfl, h2, rfl, h4⟩ | ⟨rfl, h2, rfl, h4⟩
  · have := hr h4 r
    rw [h2.eq] at this
    exact this
  · have := hn h4 r
    rw [h2.eq] at this
    exact this
theorem drop_of {α : Type} {l : List α} {i : Nat} {c : α} (h : l[i]? = some c) : l.drop i = c :: l.drop (i + 1) := by
  obtain ⟨hlt, he⟩ := List.getElem?_eq_some_iff.1 h
  rw [List.drop_eq_getElem_cons hlt, he]
def so (r : RS) : HObj := .pcells [sv r.1, .int .i64 r.2]
/-- The document's reader in an object. -/
def SD (H : Heap) (p : Nat) (r : RS) : Prop := hget H p = so r ∧ r.1.length ≤ 1000000
def Sdr (p : Nat) (v : AV) (r : RS) (H : Heap) (y : AV × Heap) : Prop := y.1 = v ∧ SD y.2 p r ∧ KR p H y.2
theorem SD.lt {H : Heap} {p : Nat} {r : RS} (h : SD H p r) : p < H.length := hget_lt h.1 ((by intro h; cases h))
theorem SD.app {H : Heap} {p : Nat} {r : RS} (h : SD H p r) (L : Heap) : SD (H ++ L) p r := ⟨(hget_app L h.lt).trans h.1, h.2⟩
theorem SD.set {H : Heap} {p : Nat} {r : RS} (h : SD H p r) {i : Nat} (o : HObj) (hi : i ≠ p) : SD (hset H i o) p r := ⟨(hget_hset_ne _ _ (Ne.symm hi)).trans h.1, h.2⟩
theorem KR.put (p : Nat) (H : Heap) (o : HObj) : KR p H (hset H p o) := ⟨by rw [hset_len]; exact Nat.le_refl _, fun _ hi _ => hget_hset_ne _ _ hi⟩
theorem sdr_put {p : Nat} {H : Heap} {r r' : RS} (h : SD H p r) (v : AV) (hl : r'.1.length ≤ 1000000) : Sdr p v r' H (v, hset H p (so r')) := ⟨rfl, ⟨hget_hset_same _ h.lt, hl⟩, KR.put p H _⟩
theorem sdr_id {p : Nat} {H : Heap} {r : RS} (h : SD H p r) (v : AV) : Sdr p v r H (v, H) := ⟨rfl, h, KR.refl p H⟩
theorem sfail {H : Heap} {p : Nat} {bs : List UInt8} (h : SD H p (bs, 0)) (err : Int) (he : err ≠ 0) : EE env (.fn 23) [.ptr p 0, .pv (.int .i64 err)] H = some (.pv (.tup []), hset H p (so ([], err))) := by
  refine Has.eq (EE_has ?_)
  refine hgetK_has _ h.1 ?_
  refine getK_has rfl ?_
  refine boolK_beq_t rfl ?_
  refine boolK_bne_t he ?_
  refine hgetK_has _ h.1 ?_
  refine needK_has rfl ?_
  refine eqK_has ?_
  refine hgetK_has _ (hget_hset_same _ h.lt) ?_
  refine needK_has rfl ?_
  refine eqK_has ?_
  refine Has.intro ?_
  rw [hset_hset]; rfl
def dval : List UInt8 → Nat
  | [] => 0
  | c :: l => c.toNat % 128 + 128 * dval l
theorem dval_snoc : ∀ (l : List UInt8) (c : UInt8), dval (l ++ [c]) = dval l + c.toNat % 128 * 128 ^ l.length
  | [], c => by show c.toNat % 128 + 128 * 0 = 0 + c.toNat % 128 * 1; omega
  | d :: l, c => by
    show d.toNat % 128 + 128 * dval (l ++ [c]) = d.toNat % 128 + 128 * dval l + c.toNat % 128 * 128 ^ (l.length + 1)
    rw [dval_snoc l c, Nat.pow_succ, Nat.mul_comm (128 ^ l.length) 128, ← Nat.mul_assoc, Nat.mul_add]
    have : 128 * (c.toNat % 128 * 128 ^ l.length) = c.toNat % 128 * 128 * 128 ^ l.length := by rw [← Nat.mul_assoc, Nat.mul_comm 128]
    omega
theorem dval_le : ∀ (l : List UInt8) (i : Nat), dval (l.drop i) ≤ dval l
  | _, 0 => Nat.le_refl _
  | [], i + 1 => Nat.le_refl _
  | c :: l, i + 1 => by
    have := dval_le l i
    show dval (l.drop i) ≤ c.toNat % 128 + 128 * dval l
    omega
theorem gN_eq (bs : List UInt8) (e : Int) (m : Nat) : gN m (bs, e) = if e ≠ 0 then (0, bs, e) else if (numF 0 0 bs).2.1 ≠ 0 then (0, [], (numF 0 0 bs).2.1) else if (numF 0 0 bs).1 > m then (0, [], 15) else ((numF 0 0 bs).1, (numF 0 0 bs).2.2, 0) := rfl
theorem numF_cons (i u : Nat) (c : UInt8) (l : List UInt8) : numF i u (c :: l) = if i = 9 ∧ c.toNat > 1 then (0, 11, []) else if c.toNat = 0 ∧ i > 0 then (0, 11, []) else if c.toNat < 128 then (u + c.toNat * 128 ^ i, 0, l) else numF (i + 1) (u + (c.toNat % 128) * 128 ^ i) l := by
  conv => lhs; unfold numF
/-- A statement that may return, having changed the heap. -/
theorem seq_if2 {R : Type} {Q : R → Prop} {env : Env} {E : Orc} {a b : VCode} {r : Regs} {h : Heap} {k : Ex → Regs → Heap → Option R} (Lr : List (Nat × AV)) (Hr : Heap) (Pr : Prop) (L : List (Nat × AV)) (Pn : Prop) (H : Heap)
    (ha : Has (evK env E a Res r h doneK) fun x => (x.1 = .ret ∧ Agr x.2.1 Lr ∧ x.2.2 = Hr ∧ Pr) ∨ (x.1 = .normal ∧ Agr x.2.1 L ∧ x.2.2 = H ∧ Pn))
    (hr : Pr → ∀ r, Has (k .ret (setL r Lr) Hr) Q) (hn : Pn → ∀ r, Has (evK env E b R (setL r L) H k) Q) : Has (evK env E (.seq a b) R r h k) Q := by
  refine seq_join (fun e r h => (e = .ret ∧ Agr r Lr ∧ h = Hr ∧ Pr) ∨ (e = .normal ∧ Agr r L ∧ h = H ∧ Pn)) ha fun e r h hj => ?_
  rcases hj with ⟨rfl, h2, rfl, h4⟩ | ⟨rfl, h2, rfl, h4⟩
  · have := hr h4 r
    rw [h2.eq] at this
    exact this
  · have := hn h4 r
    rw [h2.eq] at this
    exact this
/-- What the bytes are where the number ends. -/
def stopAt (bs : List UInt8) (n : Nat) : Prop := n ≤ bs.length ∧ n ≤ 10 ∧ (n < 10 → numF 0 0 bs = numF n (dval (bs.take n)) (bs.drop n)) ∧ (n = 10 → numF 0 0 bs = (0, 11, []))
theorem take_succ' {bs : List UInt8} {i : Nat} {c : UInt8} (h : bs[i]? = some c) : bs.take (i + 1) = bs.take i ++ [c] := by
  rw [List.take_add_one, h]; rfl
theorem stop_step {bs : List UInt8} {i : Nat} {c : UInt8} (h : stopAt bs i) (hc : bs[i]? = some c) (h10 : i < 10) (hb : c.toNat > 127) : stopAt bs (i + 1) := by
  obtain ⟨h1, h2, h3, _⟩ := h
  have hlt : i < bs.length := by
    rcases Nat.lt_or_ge i bs.length with h | h
    · exact h
    · rw [List.getElem?_eq_none h] at hc; cases hc
  have h3 := h3 h10
  rw [drop_of hc, numF_cons] at h3
  by_cases h9 : i = 9 ∧ c.toNat > 1
  · rw [if_pos h9] at h3
    exact ⟨hlt, by omega, fun h => by omega, fun _ => h3⟩
  · rw [if_neg h9, if_neg (by omega), if_neg (by omega)] at h3
    refine ⟨hlt, by omega, fun h => ?_, fun h => by omega⟩
    rw [h3, take_succ' hc, dval_snoc, List.length_take, Nat.min_eq_left h1]
set_option maxHeartbeats 2000000 in
theorem snum_rd {p : Nat} {r : RS} {H : Heap} (h : SD H p r) (m : Nat) (hm : m < 18446744073709551616) : Has (EE env (.fn 15) [.ptr p 0, .pv (.int .u64 (m : Int))] H) (Sdr p (.pv (.int .u64 ((gN m r).1 : Nat))) (gN m r).2 H) := by
  obtain ⟨bs, e⟩ := r
  have hl := h.lt
  have hb : bs.length ≤ 1000000 := h.2
  have ht : hget H p = .pcells [sv bs, .int .i64 e] := h.1
  have hsz : (⟨bs.toArray⟩ : ByteArray).size = bs.length := sv_size bs
  rw [gN_eq]
  refine EE_has (fn_has rfl ?_)
  refine seq_on [(0, .ptr p 0), (1, .pv (.int .u64 (m : Int)))] H (Has.intro ⟨rfl, ⟨rfl, rfl, trivial⟩, rfl⟩) (fun r => ?_)
  refine seq_if [(4, .pv (.int .u64 0))] (e ≠ 0) [(0, .ptr p 0), (1, .pv (.int .u64 (m : Int)))] (e = 0) H ?_ (fun h0 r => ?_) (fun h0 r => ?_)
  · refine hgetK_has _ ht ?_
    refine getK_has rfl ?_
    refine boolK_bne (fun h1 => ?_) (fun h1 => ?_)
    · exact Has.intro (.inl ⟨rfl, ⟨rfl, trivial⟩, rfl, h1⟩)
    · exact Has.intro (.inr ⟨rfl, ⟨rfl, rfl, trivial⟩, rfl, h1⟩)
  · rw [if_pos h0]
    exact Has.intro (sdr_id h _)
  subst h0
  rw [if_neg (by simp)]
  refine seq_on [(0, .ptr p 0), (1, .pv (.int .u64 (m : Int))), (5, .pv (.int .i64 0))] H (Has.intro ⟨rfl, ⟨rfl, rfl, rfl, trivial⟩, rfl⟩) (fun r => ?_)
  refine seq_st (σ := Nat) (fun i => [(0, .ptr p 0), (1, .pv (.int .u64 (m : Int))), (5, .pv (.int .i64 (i : Int)))]) (fun _ => H)
    (fun i => stopAt bs i ∧ (i = bs.length ∨ i = 10 ∨ ∃ c, bs[i]? = some c ∧ c.toNat ≤ 127)) ?_ (fun n ⟨hst, hex⟩ r => ?_)
  · refine loopK_has ?_
    refine iterE_loop (σ := Nat) (fun i => bs.length - i) (fun i => [(0, .ptr p 0), (1, .pv (.int .u64 (m : Int))), (5, .pv (.int .i64 (i : Int)))]) (fun _ => H)
      (fun i => stopAt bs i) (fun i hst r => ?_) 0 ⟨Nat.zero_le _, by decide, fun _ => rfl, fun h => by cases h⟩ ⟨rfl, rfl, rfl, trivial⟩ rfl
    have hi := hst.1
    refine hgetK_has _ ht ?_
    refine getK_has rfl ?_
    refine boolK_dec (fun h1 => ?_) (fun h1 => ?_)
    · refine boolK_dec (fun h2 => ?_) (fun h2 => ?_)
      · refine hgetK_has _ ht ?_
        refine getK_has rfl ?_
        have hlt : i < bs.length := by rw [sv_size] at h1; omega
        obtain ⟨c, hc⟩ : ∃ c, bs[i]? = some c := ⟨_, List.getElem?_eq_getElem hlt⟩
        refine needK_has (by simp; omega) ?_
        refine getK_has hc ?_
        refine boolK_dec (fun h3 => ?_) (fun h3 => ?_)
        · refine eqK_has_eq _ (i64_succ (by omega)) ?_
          exact Has.intro ⟨i + 1, stop_step hst hc (by omega) (by omega), by omega, ⟨rfl, rfl, rfl, trivial⟩, rfl⟩
        · refine Has.intro ?_
          exact Has.intro ⟨rfl, i, ⟨hst, .inr (.inr ⟨c, hc, by omega⟩)⟩, ⟨rfl, rfl, rfl, trivial⟩, rfl⟩
      · refine Has.intro ?_
        exact Has.intro ⟨rfl, i, ⟨hst, .inr (.inl (by have := hst.2.1; omega))⟩, ⟨rfl, rfl, rfl, trivial⟩, rfl⟩
    · refine Has.intro ?_
      exact Has.intro ⟨rfl, i, ⟨hst, .inl (by rw [sv_size] at h1; omega)⟩, ⟨rfl, rfl, rfl, trivial⟩, rfl⟩
  refine seq_if2 [(4, .pv (.int .u64 0))] (hset H p (so ([], 11))) (n = 10) [(0, .ptr p 0), (1, .pv (.int .u64 (m : Int))), (5, .pv (.int .i64 (n : Int)))] (n ≠ 10) H ?_ (fun h10 r => ?_) (fun h10 r => ?_)
  · refine boolK_beq (fun h1 => ?_) (fun h1 => ?_)
    · refine callSK_has (sfail h 11 (by decide)) ?_
      exact Has.intro (.inl ⟨rfl, ⟨rfl, trivial⟩, rfl, by omega⟩)
    · exact Has.intro (.inr ⟨rfl, ⟨rfl, rfl, rfl, trivial⟩, rfl, by omega⟩)
  · rw [hst.2.2.2 h10, if_pos (by decide)]
    exact Has.intro (sdr_put h _ (Nat.zero_le _))
  have hn10 : n < 10 := by have := hst.2.1; omega
  have hf := hst.2.2.1 hn10
  refine seq_if2 [(4, .pv (.int .u64 0))] (hset H p (so ([], 10))) (n = bs.length) [(0, .ptr p 0), (1, .pv (.int .u64 (m : Int))), (5, .pv (.int .i64 (n : Int)))] (n ≠ bs.length) H ?_ (fun hn r => ?_) (fun hn r => ?_)
  · refine hgetK_has _ ht ?_
    refine getK_has rfl ?_
    refine boolK_beq (fun h1 => ?_) (fun h1 => ?_)
    · refine callSK_has (sfail h 10 (by decide)) ?_
      exact Has.intro (.inl ⟨rfl, ⟨rfl, trivial⟩, rfl, by rw [sv_size] at h1; omega⟩)
    · exact Has.intro (.inr ⟨rfl, ⟨rfl, rfl, rfl, trivial⟩, rfl, by rw [sv_size] at h1; omega⟩)
  · rw [hn, List.drop_length] at hf
    have hf : numF 0 0 bs = (0, 10, []) := hf
    rw [hf, if_pos (by decide)]
    exact Has.intro (sdr_put h _ (Nat.zero_le _))
  obtain ⟨c, hc, hc127⟩ : ∃ c, bs[n]? = some c ∧ c.toNat ≤ 127 := by
    rcases hex with h | h | h
    · exact absurd h hn
    · exact absurd h h10
    · exact h
  have hnl : n < bs.length := by have := hst.1; omega
  rw [drop_of hc, numF_cons] at hf
  refine seq_if2 [(4, .pv (.int .u64 0))] (hset H p (so ([], 11))) ((n = 9 ∧ c.toNat > 1) ∨ (c.toNat = 0 ∧ n > 0)) [(0, .ptr p 0), (1, .pv (.int .u64 (m : Int))), (5, .pv (.int .i64 (n : Int)))] (¬ (n = 9 ∧ c.toNat > 1) ∧ ¬ (c.toNat = 0 ∧ n > 0)) H ?_ (fun hw r => ?_) (fun ⟨hw1, hw2⟩ r => ?_)
  · refine boolK_beq (fun h9 => ?_) (fun h9 => ?_)
    · have h9 : n = 9 := by omega
      subst h9
      (refine hgetK_has _ ht ?_; refine getK_has rfl ?_; refine needK_has (by simp; omega) ?_; refine getK_has hc ?_)
      refine boolK_dec (fun h1 => ?_) (fun h1 => ?_)
      · ((refine callSK_has (sfail h 11 (by decide)) ?_; exact Has.intro (.inl ⟨rfl, ⟨rfl, trivial⟩, rfl, by omega⟩)))
      refine boolK_dec_t (by omega) ?_
      (refine hgetK_has _ ht ?_; refine getK_has rfl ?_; refine needK_has (by simp; omega) ?_; refine getK_has hc ?_)
      refine boolK_beq (fun h2 => ?_) (fun h2 => ?_)
      · ((refine callSK_has (sfail h 11 (by decide)) ?_; exact Has.intro (.inl ⟨rfl, ⟨rfl, trivial⟩, rfl, by omega⟩)))
      · (exact Has.intro (.inr ⟨rfl, ⟨rfl, rfl, rfl, trivial⟩, rfl, by omega, by omega⟩))
    refine boolK_dec (fun h1 => ?_) (fun h1 => ?_)
    · (refine hgetK_has _ ht ?_; refine getK_has rfl ?_; refine needK_has (by simp; omega) ?_; refine getK_has hc ?_)
      refine boolK_beq (fun h2 => ?_) (fun h2 => ?_)
      · ((refine callSK_has (sfail h 11 (by decide)) ?_; exact Has.intro (.inl ⟨rfl, ⟨rfl, trivial⟩, rfl, by omega⟩)))
      · (exact Has.intro (.inr ⟨rfl, ⟨rfl, rfl, rfl, trivial⟩, rfl, by omega, by omega⟩))
    · (exact Has.intro (.inr ⟨rfl, ⟨rfl, rfl, rfl, trivial⟩, rfl, by omega, by omega⟩))
  · have hf : numF 0 0 bs = (0, 11, []) := by
      rw [hf]
      by_cases h1 : n = 9 ∧ c.toNat > 1
      · rw [if_pos h1]
      · rw [if_neg h1, if_pos (by omega)]
    rw [hf, if_pos (by decide)]
    exact Has.intro (sdr_put h _ (Nat.zero_le _))
  rw [if_neg hw1, if_neg hw2, if_pos (by omega)] at hf
  have hv : dval (bs.take (n + 1)) = dval (bs.take n) + c.toNat * 128 ^ n := by
    rw [take_succ' hc, dval_snoc, List.length_take, Nat.min_eq_left (by omega), Nat.mod_eq_of_lt (by omega)]
  rw [← hv] at hf
  have hlt : dval (bs.take (n + 1)) < 18446744073709551616 := (numF_lt hf).1
  rw [hf, if_neg (by simp)]
  dsimp only
  clear hf hv hw1 hw2 hex hst
  refine seq_on [(0, .ptr p 0), (1, .pv (.int .u64 (m : Int))), (5, .pv (.int .i64 (n : Int))), (6, .pv (.int .u64 0))] H (Has.intro ⟨rfl, ⟨rfl, rfl, rfl, rfl, trivial⟩, rfl⟩) (fun r => ?_)
  refine seq_on [(0, .ptr p 0), (1, .pv (.int .u64 (m : Int))), (5, .pv (.int .i64 (n : Int))), (6, .pv (.int .u64 (dval (bs.take (n + 1)) : Nat)))] H ?_ (fun r => ?_)
  · refine loopK_has ?_
    refine iterE_loop (σ := Nat) (fun j => j) (fun j => [(0, .ptr p 0), (1, .pv (.int .u64 (m : Int))), (5, .pv (.int .i64 (n : Int))), (6, .pv (.int .u64 (dval ((bs.take (n + 1)).drop j) : Nat))), (7, .pv (.int .i64 ((j : Int) - 1)))]) (fun _ => H)
      (fun j => j ≤ n + 1) (fun j hj r => ?_) (n + 1) (Nat.le_refl _) ⟨rfl, rfl, rfl, (by
        show _ = AV.pv (PV.int IntKind.u64 ((dval ((bs.take (n + 1)).drop (n + 1)) : Nat) : Int))
        rw [List.drop_of_length_le (by rw [List.length_take]; exact Nat.min_le_left _ _)]; rfl), (by
        show _ = AV.pv (PV.int IntKind.i64 (((n + 1 : Nat) : Int) - 1))
        rw [show ((n + 1 : Nat) : Int) - 1 = (n : Int) by omega]; rfl), trivial⟩ rfl
    refine boolK_dec (fun h1 => ?_) (fun h1 => ?_)
    · obtain ⟨i, rfl⟩ : ∃ i, j = i + 1 := ⟨j - 1, by omega⟩
      obtain ⟨d, hd⟩ : ∃ d, bs[i]? = some d := ⟨_, List.getElem?_eq_getElem (by omega)⟩
      have hd' : (bs.take (n + 1))[i]? = some d := by rw [List.getElem?_take_of_lt (by omega)]; exact hd
      have hdv : dval ((bs.take (n + 1)).drop i) = d.toNat % 128 + 128 * dval ((bs.take (n + 1)).drop (i + 1)) := by rw [drop_of hd']; rfl
      have hle := dval_le (bs.take (n + 1)) i
      have hi1 : ((i + 1 : Nat) : Int) - 1 = (i : Int) := by omega
      generalize dval ((bs.take (n + 1)).drop (i + 1)) = u at *
      refine eqK_has_eq ((u * 128 : Nat) : Int) ((wrap_u64_emod _).trans (by omega)) ?_
      refine hgetK_has _ ht ?_
      refine getK_has rfl ?_
      refine needK_has (by simp; omega) ?_
      refine getK_has (v := d) (by rw [hi1]; exact hd) ?_
      refine needK_has rfl ?_
      refine eqK_has_eq ((d.toNat % 128 : Nat) : Int) rfl ?_
      refine eqK_has_eq ((d.toNat % 128 : Nat) : Int) ((wrap_u64_emod _).trans (by omega)) ?_
      refine eqK_has_eq ((dval ((bs.take (n + 1)).drop i) : Nat) : Int) ((wrap_u64_emod _).trans (by omega)) ?_
      refine eqK_has_eq ((i : Int) - 1) ((wrap_i64 (by omega) (by omega)).trans (by omega)) ?_
      exact Has.intro ⟨i, by omega, by omega, ⟨rfl, rfl, rfl, rfl, rfl, trivial⟩, rfl⟩
    · refine Has.intro ?_
      have : j = 0 := by omega
      subst this
      exact Has.intro ⟨rfl, ⟨rfl, rfl, rfl, rfl, trivial⟩, rfl⟩
  refine seq_if2 [(4, .pv (.int .u64 0))] (hset H p (so ([], 15))) (dval (bs.take (n + 1)) > m) [(0, .ptr p 0), (5, .pv (.int .i64 (n : Int))), (6, .pv (.int .u64 (dval (bs.take (n + 1)) : Nat)))] (¬ dval (bs.take (n + 1)) > m) H ?_ (fun hw r => ?_) (fun hw r => ?_)
  · refine boolK_dec (fun h1 => ?_) (fun h1 => ?_)
    · refine callSK_has (sfail h 15 (by decide)) ?_
      exact Has.intro (.inl ⟨rfl, ⟨rfl, trivial⟩, rfl, by omega⟩)
    · exact Has.intro (.inr ⟨rfl, ⟨rfl, rfl, rfl, trivial⟩, rfl, by omega⟩)
  · rw [if_pos hw]
    exact Has.intro (sdr_put h _ (Nat.zero_le _))
  rw [if_neg hw]
  refine hgetK_has _ ht ?_
  refine getK_has rfl ?_
  refine eqK_has_eq _ (i64_succ (by omega)) ?_
  refine needK_has (by simp; omega) ?_
  refine eqK_has_eq ⟨(bs.drop (n + 1)).toArray⟩ ?_ ?_
  · rw [sv_extract, List.take_of_length_le (by omega)]; rfl
  refine hgetK_has _ ht ?_
  refine needK_has rfl ?_
  refine eqK_has ?_
  exact Has.intro (sdr_put h _ (by dsimp only; rw [List.length_drop]; omega))
end Go.Proofs.Ytpebkojodmjleaa
