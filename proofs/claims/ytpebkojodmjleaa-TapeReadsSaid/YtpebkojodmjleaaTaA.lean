/-
  Numbers as bytes.
-/
import Derived.Test.YtpebkojodmjleaaPChB
set_option linter.all false
set_option linter.unusedVariables false
set_option linter.unusedSimpArgs false
set_option linter.unusedSectionVars false
namespace Go.Proofs.Ytpebkojodmjleaa
open Go Go.VM

/-- A number's bytes. -/
def enc (u : Nat) : List UInt8 := if u < 128 then [UInt8.ofNat u] else UInt8.ofNat (u % 128 + 128) :: enc (u / 128)
theorem enc_lo {u : Nat} (h : u < 128) : enc u = [UInt8.ofNat u] := by rw [enc, if_pos h]
theorem enc_hi {u : Nat} (h : ¬ u < 128) : enc u = UInt8.ofNat (u % 128 + 128) :: enc (u / 128) := by rw [enc, if_neg h]
theorem enc_len : ∀ (m u : Nat), u < 128 ^ m → 1 ≤ m → (enc u).length ≤ m := by
  intro m
  induction m with
  | zero => intro u _ h; omega
  | succ m ih =>
    intro u hu _
    by_cases h : u < 128
    · rw [enc_lo h]; simp
    · rw [enc_hi h, List.length_cons]
      rw [Nat.pow_succ] at hu
      have : u / 128 < 128 ^ m := Nat.div_lt_of_lt_mul (by rw [Nat.mul_comm]; exact hu)
      have hm : 1 ≤ m := by
        rcases Nat.eq_zero_or_pos m with e | e
        · subst e; simp at hu; omega
        · exact e
      have := ih (u / 128) this hm
      omega
theorem enc_ten {u : Nat} (h : u < 18446744073709551616) : (enc u).length ≤ 10 := enc_len 10 u (by have : (128 : Nat) ^ 10 = 1180591620717411303424 := rfl; omega) (by decide)
theorem u8_low {u : Nat} (h : u < 128) : (UInt8.ofNat u).toNat = u := by rw [UInt8.toNat_ofNat']; omega
theorem u8_wrap (n : Nat) : IntKind.u8.wrap (n : Int) = ((n % 256 : Nat) : Int) := by
  unfold IntKind.wrap; simp only [IntKind.bits, IntKind.signed, Bool.false_and]
  simp
theorem u8_or128 : ∀ a : Nat, a < 256 → IntKind.u8.wrap ((BitVec.ofInt IntKind.u8.bits (a : Int) ||| BitVec.ofInt IntKind.u8.bits 128).toNat : Int) = (((UInt8.ofNat (a % 128 + 128)).toNat : Nat) : Int) := by decide +kernel
theorem shr7 (u : Nat) : ((u : Nat) : Int).fdiv (2 ^ (min (7 : Int).toNat IntKind.u64.bits)) = ((u / 128 : Nat) : Int) := by
  have e : (2 : Int) ^ (min (7 : Int).toNat IntKind.u64.bits) = 128 := rfl
  rw [e, Int.fdiv_eq_ediv_of_nonneg _ (by decide)]; simp
theorem bc_one (b : UInt8) : [PV.int .u8 (b.toNat : Int)] = bc [b] := rfl
theorem bc_app (a b : List UInt8) : bc a ++ bc b = bc (a ++ b) := by simp [bc]
theorem bc_len (a : List UInt8) : (bc a).length = a.length := by simp [bc]

/-! ### written on a tape -/
/-- What a call leaves that writes on a tape. -/
def Wrote (p : Nat) (bs : List UInt8) (H : Heap) (y : AV × Heap) : Prop := TP y.2 p bs ∧ Keep p H y.2
theorem TP.len {H : Heap} {p : Nat} {bs : List UInt8} (h : TP H p bs) : p < H.length := by
  obtain ⟨v, h1, _⟩ := h
  exact hget_lt h1 cellOf_ne.1
theorem number_nil (u : Int) (H : Heap) : EE env (.fn 8) [.pv .nilp, .pv (.int .u64 u)] H = some (undefV, H) := by
  refine Has.eq (EE_has ?_)
  exact Has.intro rfl
set_option maxHeartbeats 1000000 in
theorem number_ok (p : Nat) (u : Nat) (hu : u < 18446744073709551616) (bs : List UInt8) (hb : bs.length ≤ 1000000) (H : Heap) (ht : TP H p bs) :
    Has (EE env (.fn 8) [.ptr p 0, .pv (.int .u64 (u : Int))] H) (Wrote p (bs ++ enc u) H) := by
  have hu10 := enc_ten hu
  refine EE_has (fn_has rfl ?_)
  refine seq_on [(0, .ptr p 0), (1, .pv (.int .u64 (u : Int)))] H (Has.intro ⟨rfl, ⟨rfl, rfl, trivial⟩, rfl⟩) (fun r => ?_)
  refine seq_st (σ := Nat × List UInt8 × Heap) (fun s => [(0, .ptr p 0), (1, .pv (.int .u64 (s.1 : Int)))]) (fun s => s.2.2)
    (fun s => s.1 < 128 ∧ bs ++ enc u = s.2.1 ++ [UInt8.ofNat s.1] ∧ TP s.2.2 p s.2.1 ∧ Keep p H s.2.2) ?_ (fun ⟨w, cs, J⟩ ⟨hw, he, hT, hK⟩ r => ?_)
  · refine loopK_has ?_
    refine iterE_loop (σ := Nat × List UInt8 × Heap) (fun s => s.1) (fun s => [(0, .ptr p 0), (1, .pv (.int .u64 (s.1 : Int)))]) (fun s => s.2.2)
      (fun s => s.1 < 18446744073709551616 ∧ bs ++ enc u = s.2.1 ++ enc s.1 ∧ TP s.2.2 p s.2.1 ∧ Keep p H s.2.2 ∧ s.2.1.length ≤ bs.length + 10) (fun ⟨w, cs, J⟩ ⟨hw, he, hT, hK, hl⟩ r => ?_) (u, bs, H) ⟨hu, rfl, ht, Keep.refl p H, by simp⟩ ⟨rfl, rfl, trivial⟩ rfl
    dsimp only at hw he hT hK hl ⊢
    refine boolK_dec (fun hge => ?_) (fun hlt => ?_)
    · have hge' : ¬ w < 128 := by omega
      obtain ⟨v, hv1, hv2⟩ := hT
      have hv0 := hv2
      have hcl : cs.length < bs.length + 10 := by
        have := congrArg List.length he
        rw [List.length_append, List.length_append, enc_hi hge', List.length_cons] at this
        have : 1 ≤ (enc (w / 128)).length := by rw [enc]; split <;> simp
        omega
      rcases hv2 with ⟨hn, hc, rfl, _⟩ | ⟨hn, hc, t, rfl, ht⟩
      all_goals
        refine hgetK_has _ hv1 ?_
        first
          | refine getK_has rfl ?_
          | skip
        refine eqK_has_eq _ (u8_wrap w) ?_
        refine eqK_has_eq _ (u8_or128 _ (Nat.mod_lt _ (by decide))) ?_
        refine app_has (m := 1) (new := bc [UInt8.ofNat (w % 256 % 128 + 128)]) hv0 rfl (by show (cs.length + 1) * 1 ≤ 140737488355328; omega) (fun v' H' hv' hf _ => ?_)
        have f1 := Fr.obj hv0 hf hv1 cellOf_ne.1 cellOf_ne.2
        have hv0' := AppV_put hv' (cellOf v') f1 cellOf_ne.2
        rcases hv' with ⟨hn', _⟩ | ⟨hn', hc', t', rfl, ht'⟩
        · omega
        refine hgetK_has _ f1 ?_
        refine needK_has rfl ?_
        refine eqK_has_eq _ (shr7 w) ?_
        have e1 : w % 256 % 128 = w % 128 := by omega
        rw [e1] at hv0' ⊢
        rw [bc_app] at hv0' ⊢
        refine Has.intro ⟨(w / 128, cs ++ [UInt8.ofNat (w % 128 + 128)], hset H' p (cellOf (.tsl t' (cs.length + 1) (bc (cs ++ [UInt8.ofNat (w % 128 + 128)]))))), ⟨by dsimp only; omega, ?_, ⟨_, hget_hset_same _ (hget_lt f1 cellOf_ne.1), ?_⟩, ?_, ?_⟩, ?_, ⟨rfl, rfl, trivial⟩, rfl⟩
        · dsimp only; rw [he, enc_hi hge', List.append_assoc]; rfl
        · dsimp only; rw [List.length_append]; exact hv0'
        · exact (hK.trans (Keep.of_fr hv0 hf p)).set _
        · dsimp only; rw [List.length_append, List.length_singleton]; omega
        · dsimp only; omega
    · refine Has.intro ?_
      exact Has.intro ⟨rfl, (w, cs, J), ⟨by omega, by rw [he, enc_lo (by omega)], hT, hK⟩, ⟨rfl, rfl, trivial⟩, rfl⟩
  dsimp only at hw he hT hK ⊢
  rw [he]
  have hcl : cs.length ≤ bs.length + 10 := by
    have := congrArg List.length he
    rw [List.length_append, List.length_append] at this
    omega
  obtain ⟨v, hv1, hv2⟩ := hT
  have hv0 := hv2
  rcases hv2 with ⟨hn, hc, rfl, _⟩ | ⟨hn, hc, t, rfl, ht⟩
  all_goals
    refine hgetK_has _ hv1 ?_
    first
      | refine getK_has rfl ?_
      | skip
    refine eqK_has_eq (((UInt8.ofNat w).toNat : Nat) : Int) ((u8_wrap w).trans (by rw [u8_low hw]; omega)) ?_
    refine app_has (m := 1) (new := bc [UInt8.ofNat w]) hv0 rfl (by show (cs.length + 1) * 1 ≤ 140737488355328; omega) (fun v' H' hv' hf _ => ?_)
    have f1 := Fr.obj hv0 hf hv1 cellOf_ne.1 cellOf_ne.2
    have hv0' := AppV_put hv' (cellOf v') f1 cellOf_ne.2
    rcases hv' with ⟨hn', _⟩ | ⟨hn', hc', t', rfl, ht'⟩
    · omega
    refine hgetK_has _ f1 ?_
    rw [bc_app] at hv0' ⊢
    refine Has.intro ⟨⟨.tsl t' (cs.length + 1) (bc (cs ++ [UInt8.ofNat w])), (show hget (hset H' p (cellOf (.tsl t' (cs.length + 1) (bc (cs ++ [UInt8.ofNat w]))))) p = _ from hget_hset_same _ (hget_lt f1 cellOf_ne.1)), ?_⟩, (hK.trans (Keep.of_fr hv0 hf p)).set _⟩
    rw [List.length_append]; exact hv0'
end Go.Proofs.Ytpebkojodmjleaa
