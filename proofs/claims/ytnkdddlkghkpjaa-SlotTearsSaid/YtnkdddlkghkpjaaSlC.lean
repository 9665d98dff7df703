/-
  Frames.
-/
import Derived.Test.YtnkdddlkghkpjaaSlB
set_option linter.all false
set_option linter.unusedVariables false
set_option linter.unusedSimpArgs false
set_option linter.unusedSectionVars false
namespace Go.Proofs.Ytnkdddlkghkpjaa
open Go Go.VM

def magic : List UInt8 := [66, 82, 84, 72]
/-- A frame but for its sum. -/
def head (g : Nat) (body : List UInt8) : List UInt8 := magic ++ (bigB g 8 ++ (bigB body.length 4 ++ body))
def frame (g : Nat) (body : List UInt8) : List UInt8 := head g body ++ four8 (crc (head g body))
theorem head_len (g : Nat) (body : List UInt8) : (head g body).length = 16 + body.length := by
  simp [head, magic, bigB_len]; omega
theorem frame_len (g : Nat) (body : List UInt8) : (frame g body).length = 20 + body.length := by
  rw [frame, List.length_append, head_len]; simp [four8]; omega
def genP (gen : Int) : Prop := 1 ≤ gen ∧ gen ≤ 1152921504606846976
instance (gen : Int) : Decidable (genP gen) := by unfold genP; infer_instance
/-- What is put, where it may be. -/
def putB (gen : Int) (body : List UInt8) : List UInt8 := if genP gen ∧ body.length ≤ 65536 then frame gen.toNat body else []
def putE (gen : Int) (body : List UInt8) : Ext := if genP gen ∧ body.length ≤ 65536 then .nn else .nil
theorem app_tsl_hs {R : Type} {Q : R → Prop} {H : Heap} {F : AV → Heap → Option R} {t id m cap n : Nat} {cs new cells : List PV} (hk : hget H t = .tok n 1) (hi : hget H id = .pcells cells) (hs : (cells.drop 0).take (m * 1) = new) (hm : 0 + m * 1 ≤ cells.length) (hc : cs.length = n * 1) (hl : new.length = m * 1) (hb : (n + m) * 1 ≤ mostBytes)
    (k : Has (F (.tsl t (n + m) (cs ++ new)) (hset H t (.tok (n + m) 1))) Q) : Has (appS false 1 1 (.tsl t n cs) (.hs 1 id 0 m cap) H F) Q := by
  rw [appS_def]
  refine hgetK_has (.pcells cells) hi ?_
  refine secK_has hs hm ?_
  refine hgetK_has (.tok n 1) hk ?_
  refine needK_has (by simp) ?_
  refine needK_has ?_ ?_
  · simp only [Bool.and_eq_true]
    refine ⟨⟨Nat.ble_eq_true_of_le hb, ?_⟩, ?_⟩
    · rw [mulE_eq, hc]; exact Nat.beq_refl _
    · rw [mulE_eq, hl]; exact Nat.beq_refl _
  refine eqK_has ?_
  refine eqK_has ?_
  exact k
set_option maxHeartbeats 2000000 in
theorem put_ok (gen : Int) (hg : -9223372036854775808 ≤ gen ∧ gen ≤ 9223372036854775807) (x : Ext) (body : List UInt8) (hl : body.length ≤ 1000000) : EP (EE env) 12 [.int .i64 gen, .sl x body.length (bc body)] = some (.sl (putE gen body) (putB gen body).length (bc (putB gen body))) := by
  refine Has.eq (EP_has (fn_has rfl ?_))
  refine seq_on [(0, .pv (.int .i64 gen)), (1, .pv (.sl x body.length (bc body)))] [] (by (refine Has.intro ⟨rfl, ?_, rfl⟩; (repeat (first | exact trivial | refine ⟨rfl, ?_⟩)))) (fun r => ?_)
  refine seq_if [(4, .pv (.sl .nil 0 []))] (¬ (genP gen ∧ body.length ≤ 65536)) [(0, .pv (.int .i64 gen)), (1, .pv (.sl x body.length (bc body)))] (genP gen ∧ body.length ≤ 65536) [] ?_ (fun h r => ?_) (fun hp r => ?_)
  · refine boolK_dec (fun h1 => ?_) (fun h1 => ?_)
    · exact Has.intro (.inl ⟨rfl, ⟨rfl, trivial⟩, rfl, fun h => by have := h.1.1; omega⟩)
    refine boolK_dec (fun h2 => ?_) (fun h2 => ?_)
    · exact Has.intro (.inl ⟨rfl, ⟨rfl, trivial⟩, rfl, fun h => by have := h.1.2; omega⟩)
    refine boolK_dec (fun h3 => ?_) (fun h3 => ?_)
    · exact Has.intro (.inl ⟨rfl, ⟨rfl, trivial⟩, rfl, fun h => by have := h.2; omega⟩)
    · exact Has.intro (.inr ⟨rfl, ⟨rfl, rfl, trivial⟩, rfl, ⟨by omega, by omega⟩, by omega⟩)
  · unfold putE putB
    rw [if_neg h, if_neg h]
    exact Has.intro (Has.intro rfl)
  unfold putE putB
  rw [if_pos hp, if_pos hp]
  obtain ⟨g, rfl⟩ : ∃ g : Nat, gen = g := ⟨gen.toNat, by have := hp.1.1; omega⟩
  obtain ⟨⟨hg1, hg2⟩, hb⟩ := hp
  rw [Int.toNat_natCast]
  have hj : ∀ e1 e2 e3, joined [(e1, magic), (e2, bigB g 8), (e3, bigB body.length 4), (x, body)] 4 = head g body := fun e1 e2 e3 => by
    simp [joined, head]
  have hl4 : ∀ e1 e2 e3, [(e1, magic), (e2, bigB g 8), (e3, bigB body.length 4), (x, body)].length = 4 := fun _ _ _ => rfl
  refine seq_on [(5, .tsl 1 (head g body).length (bc (head g body)))] [.dead, .tok (head g body).length 1] ?_ (fun r => ?_)
  · refine hgetK_has _ rfl ?_
    refine needK_has rfl ?_
    refine eqK_has_eq (g : Int) (wrap_u64n (by omega)) ?_
    refine callPK_has (big_ok g 8 (by decide)) ?_
    refine eqK_has_eq (body.length : Int) (wrap_u64n (by omega)) ?_
    refine callPK_has (big_ok body.length 4 (by decide)) ?_
    have hcc := concat_ok .nnx [(.nn, magic), (.nn, bigB g 8), (.nn, bigB body.length 4), (x, body)] (by rw [hl4, hj, head_len]; omega) (by rw [hl4, hj, head_len]; omega) (show 4 ≤ 100 by decide)
    rw [hl4, hj] at hcc
    refine callSK_has hcc ?_
    refine needK_has (by simp) ?_
    exact Has.intro ⟨rfl, ⟨rfl, trivial⟩, rfl⟩
  have hhl := head_len g body
  have hfl := frame_len g body
  refine callPK_has (of1 .nnx .nn (head g body) (by rw [maxLen_eq]; omega)) ?_
  refine callPK_has (bytes_ok (crc (head g body))) ?_
  refine hgetK_last ?_
  refine needK_has rfl ?_
  refine eqK_has_eq (bc (four8 (crc (head g body)))) (four_eq _) ?_
  refine needK_has rfl ?_
  refine app_tsl_hs (m := 4) (new := bc (four8 (crc (head g body)))) (cells := bc (four8 (crc (head g body)))) rfl rfl rfl (by simp [bc_length, four8]) (by rw [bc_length, Nat.mul_one]) rfl (by unfold mostBytes; omega) ?_
  refine Has.intro (Has.intro ?_)
  show PV.sl .nn ((head g body).length + 4) (bc (head g body) ++ bc (four8 (crc (head g body)))) = PV.sl .nn (frame g body).length (bc (frame g body))
  rw [bc_append, hfl, hhl]
  congr 1
  omega
theorem rput_ok (g : Nat) (hg : g ≤ 1152921504606846976) (body : List UInt8) (hl : body.length ≤ 100000) : EP (EE env) 11 [.int .i64 g, sv body] = some (sv (frame g body)) := by
  have hsz := sv_size body
  have hhl := head_len g body
  refine Has.eq (EP_has ?_)
  refine eqK_has_eq (g : Int) (wrap_u64n (by omega)) ?_
  refine callPK_has (rbig_ok g 8 (by decide) (by omega)) ?_
  refine needK_has (add_room magic (bigB g 8) (by rw [bigB_len]; decide)) ?_
  refine eqK_has_eq _ (mk_append magic (bigB g 8)) ?_
  refine eqK_has_eq (body.length : Int) (by rw [hsz]; exact wrap_u64n (by omega)) ?_
  refine callPK_has (rbig_ok body.length 4 (by decide) (by omega)) ?_
  refine needK_has (add_room (magic ++ bigB g 8) (bigB body.length 4) (by rw [List.length_append, bigB_len, bigB_len]; decide)) ?_
  refine eqK_has_eq _ (mk_append (magic ++ bigB g 8) (bigB body.length 4)) ?_
  refine needK_has (add_room (magic ++ bigB g 8 ++ bigB body.length 4) body (by rw [List.length_append, List.length_append, bigB_len, bigB_len]; show 4 + 8 + 4 + body.length ≤ 1000000; omega)) ?_
  refine eqK_has_eq (⟨(head g body).toArray⟩ : ByteArray) (by rw [mk_append, head, List.append_assoc, List.append_assoc]) ?_
  refine callPK_has (refOf_ok ⟨(head g body).toArray⟩ (by rw [sv_size]; omega)) ?_
  refine callPK_has (refBytes_ok (crc (head g body))) ?_
  refine needK_has (add_room (head g body) (four8 (crc (head g body))) (by rw [hhl]; show 16 + body.length + 4 ≤ 1000000; omega)) ?_
  refine eqK_has_eq _ (mk_append (head g body) (four8 (crc (head g body)))) ?_
  exact Has.intro (Has.intro rfl)
/-- What a clone is. -/
def cln (x : Ext) : Ext := match x with
  | .nil => .nil
  | _ => .nn
theorem str_beq (a b : List UInt8) : ((⟨a.toArray⟩ : ByteArray).toList == (⟨b.toArray⟩ : ByteArray).toList) = decide (a = b) := by
  rw [Bool.eq_iff_iff]; simp
theorem str_bne (a b : List UInt8) : (!((⟨a.toArray⟩ : ByteArray).toList == (⟨b.toArray⟩ : ByteArray).toList)) = decide (a ≠ b) := by
  rw [str_beq]; by_cases h : a = b <;> simp [h]
theorem equal_ok (x y : Ext) (a b : List UInt8) : EP (EE env) 28 [.sl x a.length (bc a), .sl y b.length (bc b)] = some (.bool (decide (a = b))) := by
  refine Has.eq (EP_has ?_)
  refine needK_has (by simp [bc_length]) ?_
  refine bindK_has (strOf_bc a) ?_
  refine needK_has (by simp [bc_length]) ?_
  refine bindK_has (strOf_bc b) ?_
  refine boolK_has_eq (c := decide (a = b)) (str_beq a b) ?_
  exact Has.intro (Has.intro rfl)
end Go.Proofs.Ytnkdddlkghkpjaa
