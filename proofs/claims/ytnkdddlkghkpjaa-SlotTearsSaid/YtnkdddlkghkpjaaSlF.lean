/-
  What a slot has: the document's; which slot counts; whether a torn one has met.
-/
import Derived.Test.YtnkdddlkghkpjaaSlE
set_option linter.all false
set_option linter.unusedVariables false
set_option linter.unusedSimpArgs false
set_option linter.unusedSectionVars false
namespace Go.Proofs.Ytnkdddlkghkpjaa
open Go Go.VM

def rgetV (s : List UInt8) : PV := .tup [.int .i64 (getM s).1, sv (getM s).2.1, .int .i64 (getM s).2.2]
theorem rgetV_of {s b : List UInt8} {g : Nat} {e : Int} (h : getM s = (g, b, e)) : rgetV s = .tup [.int .i64 g, sv b, .int .i64 e] := by unfold rgetV; rw [h]
set_option maxHeartbeats 2000000 in
theorem rget_ok (s : List UInt8) (hl : s.length ≤ 100000) : EP (EE env) 9 [sv s] = some (rgetV s) := by
  have hsz := sv_size s
  refine Has.eq (EP_has ?_)
  refine boolK_dec (fun h1 => ?_) (fun h1 => ?_)
  · rw [hsz] at h1
    rw [rgetV_of (show getM s = (0, [], 10) by unfold getM; rw [if_pos (by omega)])]
    exact Has.intro (Has.intro rfl)
  rw [hsz] at h1
  refine needK_has (by rw [hsz]; simp; omega) ?_
  refine eqK_has_eq (⟨(s.take 4).toArray⟩ : ByteArray) (by rw [sv_extract]; simp) ?_
  refine boolK_has_eq (c := decide (s.take 4 ≠ magic)) (str_bne (s.take 4) magic) ?_
  by_cases h2 : s.take 4 ≠ magic
  · rw [decide_eq_true h2, rgetV_of (show getM s = (0, [], 11) by unfold getM; rw [if_neg (by omega), if_pos h2])]
    exact Has.intro (Has.intro rfl)
  rw [decide_eq_false h2]
  refine boolK_dec (fun h3 => ?_) (fun h3 => ?_)
  · rw [hsz] at h3
    rw [rgetV_of (show getM s = (0, [], 10) by unfold getM; rw [if_neg (by omega), if_neg h2, if_pos (by omega)])]
    exact Has.intro (Has.intro rfl)
  rw [hsz] at h3
  refine needK_has (by rw [hsz]; simp; omega) ?_
  refine needK_has (by simp) ?_
  refine eqK_has_eq (⟨((s.take 12).drop 4).toArray⟩ : ByteArray) (by rw [sv_extract]; rfl) ?_
  refine callPK_has (rnumber_ok ((s.take 12).drop 4) (by simp; omega)) ?_
  refine needK_has (by rw [hsz]; simp; omega) ?_
  refine needK_has (by simp) ?_
  refine eqK_has_eq (⟨((s.take 16).drop 12).toArray⟩ : ByteArray) (by rw [sv_extract]; rfl) ?_
  refine callPK_has (rnumber_ok ((s.take 16).drop 12) (by simp; omega)) ?_
  have h2' : s.take 4 = magic := Classical.not_not.1 h2
  have hN : getM s = if gN s < 1 ∨ gN s > 1152921504606846976 then (0, [], 11) else if nN s > 65536 then (0, [], 15) else if s.length < 20 + nN s then (0, [], 10)
      else if frame (gN s) (bodyN s) ≠ s.take (20 + nN s) then (0, [], 14) else (gN s, bodyN s, 0) := by
    unfold getM; rw [if_neg (by omega), if_neg h2, if_neg (by omega)]
  have hG : num ((s.take 12).drop 4) = gN s := rfl
  have hNN : num ((s.take 16).drop 12) = nN s := rfl
  rw [hG, hNN]
  refine boolK_beq (fun h4 => ?_) (fun h4 => ?_)
  · rw [rgetV_of (hN.trans (if_pos (by omega)))]
    exact Has.intro (Has.intro rfl)
  refine boolK_dec (fun h5 => ?_) (fun h5 => ?_)
  · rw [rgetV_of (hN.trans (if_pos (by omega)))]
    exact Has.intro (Has.intro rfl)
  rw [if_neg (by omega)] at hN
  refine boolK_dec (fun h6 => ?_) (fun h6 => ?_)
  · rw [rgetV_of (hN.trans (if_pos (by omega)))]
    exact Has.intro (Has.intro rfl)
  rw [if_neg (by omega)] at hN
  refine eqK_has_eq ((s.length : Nat) : Int) (by rw [hsz]; exact wrap_u64n (by omega)) ?_
  refine eqK_has_eq ((nN s + 20 : Nat) : Int) (by rw [show (nN s : Int) + 20 = ((nN s + 20 : Nat) : Int) by simp]; exact wrap_u64n (by omega)) ?_
  refine boolK_dec (fun h7 => ?_) (fun h7 => ?_)
  · rw [rgetV_of (hN.trans (if_pos (by omega)))]
    exact Has.intro (Has.intro rfl)
  rw [if_neg (by omega)] at hN
  have hlen : 20 + nN s ≤ s.length := by omega
  refine eqK_has_eq _ (u64_i64 (by omega)) ?_
  refine eqK_has_eq ((16 + nN s : Nat) : Int) (by rw [wrap_i64 (by omega) (by omega)]; omega) ?_
  refine needK_has (by rw [hsz]; simp; omega) ?_
  refine needK_has (by simp; omega) ?_
  refine eqK_has_eq (⟨(bodyN s).toArray⟩ : ByteArray) (by rw [sv_extract]; rfl) ?_
  refine eqK_has_eq _ (u64_i64 (by omega)) ?_
  have hbl : (bodyN s).length ≤ 100000 := by unfold bodyN; simp; omega
  refine callPK_has (rput_ok (gN s) (by omega) (bodyN s) hbl) ?_
  refine eqK_has_eq _ (u64_i64 (by omega)) ?_
  refine eqK_has_eq ((20 + nN s : Nat) : Int) (by rw [wrap_i64 (by omega) (by omega)]; omega) ?_
  refine needK_has (by rw [hsz]; simp; omega) ?_
  refine eqK_has_eq (⟨(s.take (20 + nN s)).toArray⟩ : ByteArray) (by rw [sv_extract, Int.toNat_natCast, List.drop_zero]) ?_
  refine boolK_has_eq (c := decide (frame (gN s) (bodyN s) ≠ s.take (20 + nN s))) (str_bne _ _) ?_
  by_cases h8 : frame (gN s) (bodyN s) ≠ s.take (20 + nN s)
  · rw [decide_eq_true h8, rgetV_of (hN.trans (if_pos h8))]
    exact Has.intro (Has.intro rfl)
  rw [decide_eq_false h8]
  refine eqK_has_eq _ (u64_i64 (by omega)) ?_
  rw [rgetV_of (hN.trans (if_neg h8))]
  exact Has.intro (Has.intro rfl)
/-- The frame that counts: where it stands, its number, its body; none. -/
def pickM (a b : List UInt8) : Int × Nat × List UInt8 × Bool :=
  if (getM a).2.2 = 0 ∧ ((getM b).2.2 ≠ 0 ∨ (getM a).1 ≥ (getM b).1) then (0, (getM a).1, (getM a).2.1, true)
  else if (getM b).2.2 = 0 then (1, (getM b).1, (getM b).2.1, true) else (0, 0, [], false)
def pickX (a b : List UInt8) : Ext := if (pickM a b).2.2.2 = true then cx (pickM a b).2.2.1 else .nil
def pickV (a b : List UInt8) : PV := .tup [.int .i64 (pickM a b).1, .int .i64 (pickM a b).2.1, .sl (pickX a b) (pickM a b).2.2.1.length (bc (pickM a b).2.2.1), .bool (pickM a b).2.2.2]
theorem pickV_of {a b p : List UInt8} {i : Int} {g : Nat} {ok : Bool} (h : pickM a b = (i, g, p, ok)) : pickV a b = .tup [.int .i64 i, .int .i64 g, .sl (if ok = true then cx p else .nil) p.length (bc p), .bool ok] := by
  unfold pickV pickX; rw [h]
theorem pick_ok (x y : Ext) (a b : List UInt8) (hx : okG x a) (hy : okG y b) (ha : a.length ≤ 1000000) (hb : b.length ≤ 1000000) : EP (EE env) 10 [.sl x a.length (bc a), .sl y b.length (bc b)] = some (pickV a b) := by
  have hga := get_ok x a hx ha
  have hgb := get_ok y b hy hb
  have hP : pickM a b = if (getM a).2.2 = 0 ∧ ((getM b).2.2 ≠ 0 ∨ (getM a).1 ≥ (getM b).1) then (0, (getM a).1, (getM a).2.1, true)
    else if (getM b).2.2 = 0 then (1, (getM b).1, (getM b).2.1, true) else (0, 0, [], false) := rfl
  unfold getV getX at hga hgb
  generalize getM a = A at *
  generalize getM b = B at *
  obtain ⟨g, p, e⟩ := A
  obtain ⟨h, q, f⟩ := B
  dsimp only at hga hgb hP
  refine Has.eq (EP_has ?_)
  by_cases h1 : e = 0
  · subst h1
    rw [if_pos rfl] at hga
    refine callPK_has hga ?_
    by_cases h2 : f = 0
    · subst h2
      rw [if_pos rfl] at hgb
      refine callPK_has hgb ?_
      refine boolK_beq_t rfl ?_
      refine boolK_bne_f rfl ?_
      refine boolK_dec (fun h3 => ?_) (fun h3 => ?_)
      · rw [pickV_of (hP.trans (if_pos ⟨rfl, .inr (by omega)⟩))]
        exact Has.intro (Has.intro rfl)
      · refine boolK_beq_t rfl ?_
        rw [pickV_of ((hP.trans (if_neg (fun h => by rcases h.2 with h | h; exact h rfl; omega))).trans (if_pos rfl))]
        exact Has.intro (Has.intro rfl)
    · rw [if_neg h2] at hgb
      refine callPK_has hgb ?_
      refine boolK_beq_t rfl ?_
      refine boolK_bne_t h2 ?_
      rw [pickV_of (hP.trans (if_pos ⟨rfl, .inl h2⟩))]
      exact Has.intro (Has.intro rfl)
  · rw [if_neg h1] at hga
    refine callPK_has hga ?_
    refine callPK_has hgb ?_
    refine boolK_beq_f h1 ?_
    rw [if_neg (fun h => h1 h.1)] at hP
    refine boolK_beq (fun h2 => ?_) (fun h2 => ?_)
    · rw [if_pos h2] at hP
      rw [pickV_of hP, if_pos h2]
      exact Has.intro (Has.intro rfl)
    · rw [if_neg h2] at hP
      rw [pickV_of hP]
      exact Has.intro (Has.intro rfl)
theorem getM_le (s : List UInt8) : (getM s).1 ≤ 1152921504606846976 ∧ (getM s).2.1.length ≤ 65536 ∧ ((getM s).2.2 = 0 → 1 ≤ (getM s).1) := by
  unfold getM
  split
  · exact ⟨by decide, by decide, fun h => by cases h⟩
  split
  · exact ⟨by decide, by decide, fun h => by cases h⟩
  split
  · exact ⟨by decide, by decide, fun h => by cases h⟩
  split
  · exact ⟨by decide, by decide, fun h => by cases h⟩
  rename_i h1
  split
  · exact ⟨by decide, by decide, fun h => by cases h⟩
  rename_i h2
  split
  · exact ⟨by decide, by decide, fun h => by cases h⟩
  split
  · exact ⟨by decide, by decide, fun h => by cases h⟩
  · refine ⟨by dsimp only; omega, ?_, fun _ => by dsimp only; omega⟩
    dsimp only
    unfold bodyN; simp; omega
def metM (was fr : List UInt8) (n : Int) : Bool :=
  decide ((getM (tornB was fr n)).2.2 = 0 ∧ putB (getM (tornB was fr n)).1 (getM (tornB was fr n)).2.1 ≠ fr ∧ ((getM was).2.2 ≠ 0 ∨ putB (getM (tornB was fr n)).1 (getM (tornB was fr n)).2.1 ≠ putB (getM was).1 (getM was).2.1))
theorem torn_okG {x : Ext} {was fr : List UInt8} {n : Int} (h : okX x was) : okG (tx x was) (tornB was fr n) := by
  cases was with
  | nil => left; rw [tornB_nil]
  | cons b bs =>
    right
    rcases h with h | h
    · exact absurd h.2 (by simp)
    · rw [h]; rfl
set_option maxHeartbeats 1000000 in
theorem met_ok (x y : Ext) (was fr : List UInt8) (n : Int) (hx : okX x was) (hw : was.length ≤ 1000000) (hf : fr.length ≤ 1000000) :
    EP (EE env) 16 [.sl x was.length (bc was), .sl y fr.length (bc fr), .int .i64 n] = some (.bool (metM was fr n)) := by
  have hgt := get_ok (tx x was) (tornB was fr n) (torn_okG hx) (by rw [tornB_len]; exact hw)
  rw [tornB_len] at hgt
  have hgw := get_ok x was hx.g hw
  obtain ⟨t1, t2, t3⟩ := getM_le (tornB was fr n)
  obtain ⟨w1, w2, w3⟩ := getM_le was
  unfold metM
  unfold getV getX at hgt hgw
  have htorn := torn_ok x y was fr n hx hw hf
  generalize getM (tornB was fr n) = T at *
  generalize getM was = W at *
  obtain ⟨g, p, e⟩ := T
  obtain ⟨h, q, f⟩ := W
  dsimp only at hgt hgw t1 t2 t3 w1 w2 w3 ⊢
  refine Has.eq (EP_has ?_)
  refine callPK_has htorn ?_
  refine callPK_has hgt ?_
  refine boolK_bne (fun h1 => ?_) (fun h1 => ?_)
  · rw [decide_eq_false (fun h => h1 h.1)]
    exact Has.intro (Has.intro rfl)
  refine callPK_has (put_ok (g : Int) (by omega) _ p (by omega)) ?_
  refine callPK_has hgw ?_
  refine callPK_dec (equal_ok _ y (putB g p) fr) (fun h2 => ?_) (fun h2 => ?_)
  · rw [decide_eq_false (fun h => h.2.1 h2)]
    exact Has.intro (Has.intro rfl)
  refine boolK_bne (fun h3 => ?_) (fun h3 => ?_)
  · rw [decide_eq_true ⟨h1, h2, .inl h3⟩]
    exact Has.intro (Has.intro rfl)
  refine callPK_has (put_ok (h : Int) (by omega) _ q (by omega)) ?_
  refine callPK_dec (equal_ok _ _ (putB g p) (putB h q)) (fun h4 => ?_) (fun h4 => ?_)
  · rw [decide_eq_false (fun h => by rcases h.2.2 with h | h; exact h h3; exact h h4)]
    exact Has.intro (Has.intro rfl)
  · rw [decide_eq_true ⟨h1, h2, .inr h4⟩]
    exact Has.intro (Has.intro rfl)
end Go.Proofs.Ytnkdddlkghkpjaa
