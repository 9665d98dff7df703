/-
  What is written of a list.
-/
import Derived.Test.YtpebkojodmjleaaTaE
set_option linter.all false
set_option linter.unusedVariables false
set_option linter.unusedSimpArgs false
set_option linter.unusedSectionVars false
namespace Go.Proofs.Ytpebkojodmjleaa
open Go Go.VM

/-- Something that is written. -/
structure Ou where
  k : Int
  n : Int
  u : Nat
  s : List UInt8
def ou (o : Ou) : List PV := [.int .i64 o.k, .int .i64 o.n, .int .u64 (o.u : Int), sv o.s]
theorem ou_len (o : Ou) : (ou o).length = 4 := rfl
def okO (o : Ou) : Prop := (-9223372036854775808 ≤ o.n ∧ o.n ≤ 9223372036854775807) ∧ o.u < 18446744073709551616 ∧ o.s.length ≤ maxLen
def odd (n : Int) : Bool := decide (n % 2 = 1)
def outB (o : Ou) : List UInt8 := if o.k % 4 = 0 then enc o.u else if o.k % 4 = 1 then enc (zn o.n) else if o.k % 4 = 2 then enc o.s.length ++ o.s else enc (odd o.n).toNat
def wrs (l : List Ou) : List UInt8 := (l.map outB).flatten
theorem wrs_snoc {l : List Ou} {i : Nat} {o : Ou} (h : l[i]? = some o) : wrs (l.take (i + 1)) = wrs (l.take i) ++ outB o := by
  unfold wrs; rw [List.take_add_one, h, List.map_append, List.flatten_append]; simp
theorem outB_len {o : Ou} (h : okO o) (hs : o.s.length ≤ 300) : (outB o).length ≤ 310 := by
  unfold outB
  split
  · have := enc_ten h.2.1; omega
  split
  · have := enc_ten (zn_lt h.1.1 h.1.2).1; omega
  split
  · have := enc_ten (u := o.s.length) (by omega)
    rw [List.length_append]; omega
  · have : (odd o.n).toNat < 18446744073709551616 := by cases odd o.n <;> decide
    have := enc_ten this; omega
def good (l : List Ou) : Prop := l.length ≤ 100 ∧ ∀ o ∈ l, o.s.length ≤ 300
instance (l : List Ou) : Decidable (good l) := by unfold good; infer_instance
theorem wrs_len {l : List Ou} (h : ∀ o ∈ l, okO o) (hs : ∀ o ∈ l, o.s.length ≤ 300) : (wrs l).length ≤ l.length * 310 := by
  unfold wrs
  induction l with
  | nil => simp
  | cons o l ih =>
    have h1 := outB_len (h o (by simp)) (hs o (by simp))
    have h2 := ih (fun o ho => h o (by simp [ho])) fun o ho => hs o (by simp [ho])
    rw [List.map_cons, List.flatten_cons, List.length_append, List.length_cons]; omega
theorem TP.box {H : Heap} {p : Nat} {bs : List UInt8} (h : TP H p bs) (z o' : HObj) (hz : ∀ n es, z ≠ .tok n es) : TP (hset (H ++ [z]) H.length o') p bs := by
  obtain ⟨v, h1, h2⟩ := h
  exact ⟨v, keep2 z o' h1 cellOf_ne.1, AppV_put (AppV_grow h2 [z]) o' (hget_append_same H z) hz⟩
theorem and1 (n : Int) : IntKind.i64.wrap ((BitVec.ofInt IntKind.i64.bits n &&& BitVec.ofInt IntKind.i64.bits 1).toNat : Int) = n % 2 := by
  have e : (BitVec.ofInt 64 n &&& BitVec.ofInt 64 1).toNat = (n % 2).toNat := by
    rw [BitVec.toNat_and, BitVec.toNat_ofInt, show (BitVec.ofInt 64 1).toNat = 1 from rfl, Nat.and_one_is_mod]
    simp only [Nat.reducePow]
    omega
  show IntKind.i64.wrap ((BitVec.ofInt 64 n &&& BitVec.ofInt 64 1).toNat : Int) = _
  rw [e, wrap_i64 (by omega) (by omega)]; omega
theorem kind4 (k : Int) : (IntKind.u64.wrap k).tmod 4 = k % 4 := by
  rw [wrap_u64_emod]
  have h : 0 ≤ k % 18446744073709551616 := Int.emod_nonneg _ (by decide)
  rw [Int.tmod_eq_emod_of_nonneg h]; omega
set_option maxHeartbeats 2000000 in
theorem written_ok (x : Ext) (l : List Ou) (hl : l.length ≤ maxLen) (hok : ∀ o ∈ l, okO o) :
    Has (EE env (.fn 7) [.pv (.sl x l.length (flat ou l))] []) (fun y => (good l ∧ y.1 = .tup [.ptr 0 0, .pv (sv (wrs l)), .pv (.bool true)] ∧ TP y.2 0 (wrs l)) ∨ (¬ good l ∧ ∃ s, y.1 = .tup [.ptr 0 0, .pv (sv s), .pv (.bool false)])) := by
  rw [maxLen_eq] at hl
  refine EE_has ?_
  refine loopK_has ?_
  refine iterE_loop (σ := Nat × Heap) (fun s => l.length - s.1) (fun s => [(5, .ptr 0 0), (6, .pv (sv (wrs (l.take s.1)))), (11, .pv (.sl x l.length (flat ou l))), (12, .pv (.int .i64 l.length)), (13, .pv (.int .i64 s.1))]) (fun s => s.2)
    (fun s => s.1 ≤ l.length ∧ (s.1 ≤ 100 ∧ ∀ o ∈ l.take s.1, o.s.length ≤ 300) ∧ TP s.2 0 (wrs (l.take s.1))) (fun ⟨i, J⟩ ⟨hi, ⟨hi100, hs⟩, hT⟩ r => ?_) (0, [.pcells [.sl .nil 0 []]]) ⟨Nat.zero_le _, ⟨Nat.zero_le _, fun o ho => by simp at ho⟩, ⟨.pv (.sl .nil 0 []), rfl, AppV.new rfl⟩⟩ ⟨rfl, rfl, rfl, rfl, rfl, trivial⟩ rfl
  dsimp only at hi hi100 hs hT ⊢
  refine boolK_dec (fun hc => ?_) (fun hc => ?_)
  · have hlt : i < l.length := by omega
    obtain ⟨o, ho⟩ : ∃ o, l[i]? = some o := ⟨_, List.getElem?_eq_getElem hlt⟩
    have hom : o ∈ l := List.mem_of_getElem? ho
    have hoo := hok o hom
    obtain ⟨g1, g2⟩ := flat_get ou_len ho
    have hwl := wrs_len (l := l.take i) (fun o h => hok o (List.mem_of_mem_take h)) hs
    rw [List.length_take] at hwl
    refine needK_has (by (first | rfl | (simp; done) | (simp; omega))) ?_
    refine secK_has g1 g2 ?_
    refine hgetK_last ?_
    refine needK_has rfl ?_
    refine eqK_has_eq (ou o) rfl ?_
    refine boolK_dec (fun h100 => ?_) (fun h100 => ?_)
    · refine Has.intro (Has.intro (.inr ⟨fun hg => by have := hg.1; omega, _, rfl⟩))
    refine hgetK_set ?_
    refine getK_has rfl ?_
    refine boolK_dec (fun h300 => ?_) (fun h300 => ?_)
    · refine Has.intro (Has.intro (.inr ⟨fun hg => ?_, _, rfl⟩))
      have := hg.2 o hom
      rw [sv_size] at h300
      omega
    rw [sv_size] at h300
    have hos : o.s.length ≤ 300 := by omega
    have hob1 := outB_len hoo hos
    have hsn := wrs_snoc ho
    have hall' : i + 1 ≤ 100 ∧ ∀ o ∈ l.take (i + 1), o.s.length ≤ 300 := ⟨by omega, fun o' h => by
      rw [List.take_add_one, ho] at h
      rcases List.mem_append.1 h with h | h
      · exact hs o' h
      · simp at h; subst h; exact hos⟩
    refine hgetK_set ?_
    refine getK_has rfl ?_
    refine eqK_has_eq _ rfl ?_
    refine needK_has rfl ?_
    refine eqK_has_eq _ (kind4 o.k) ?_
    have hT2 := TP.box hT (.pcells [.int .i64 0, .int .i64 0, .int .u64 0, .str ⟨#[]⟩]) (.pcells (ou o)) ((fun _ _ h => by cases h))
    have hk := hget_hset_same (H := J ++ [HObj.pcells [.int .i64 0, .int .i64 0, .int .u64 0, .str ⟨#[]⟩]]) (id := J.length) (.pcells (ou o)) (by simp)
    have hJ0 : J.length ≠ 0 := by have := TP.len hT; omega
    generalize hset (J ++ [HObj.pcells [.int .i64 0, .int .i64 0, .int .u64 0, .str ⟨#[]⟩]]) J.length (.pcells (ou o)) = J2 at *
    generalize J.length = q at *
    have hob : outB o = if o.k % 4 = 0 then enc o.u else if o.k % 4 = 1 then enc (zn o.n) else if o.k % 4 = 2 then enc o.s.length ++ o.s else enc (odd o.n).toNat := rfl
    rw [hob] at hob1
    have hk4 : o.k % 4 = 0 ∨ o.k % 4 = 1 ∨ o.k % 4 = 2 ∨ o.k % 4 = 3 := by omega
    rcases hk4 with e | e | e | e
    · rw [if_pos e] at hob hob1
      rw [e]
      refine boolK_beq_t rfl ?_
      (refine hgetK_has _ hk ?_; refine getK_has rfl ?_)
      refine callSK_has' ((number_ok 0 o.u hoo.2.1 _ (by omega) J2 hT2).mono fun y hy => ?_)
      rw [forceK_def]
      have hk := hy.2.2 q _ hJ0 hk ((by intro h; cases h)) ((fun _ _ h => by cases h))
      (refine hgetK_has _ hk ?_; refine getK_has rfl ?_)
      refine callPK_has (rnumber_ok o.u hoo.2.1) ?_
      (refine needK_has (by rw [decide_eq_true_iff, sv_size, sv_size]; omega) ?_; refine eqK_has_eq _ (sv_app _ _) ?_; refine eqK_has_eq _ (i64_succ (by omega)) ?_; exact Has.intro ⟨(i + 1, _), ⟨hlt, hall', (by dsimp only; rw [hsn, hob]; exact hy.1)⟩, (by dsimp only; omega), ⟨rfl, (by dsimp only; rw [hsn, hob]; rfl), rfl, rfl, rfl, trivial⟩, rfl⟩)
    · rw [if_neg (by omega), if_pos e] at hob hob1
      rw [e]
      refine boolK_beq_f (by decide) ?_
      refine boolK_beq_t rfl ?_
      (refine hgetK_has _ hk ?_; refine getK_has rfl ?_)
      refine callSK_has' ((signed_ok 0 o.n hoo.1.1 hoo.1.2 _ (by omega) J2 hT2).mono fun y hy => ?_)
      rw [forceK_def]
      have hk := hy.2.2 q _ hJ0 hk ((by intro h; cases h)) ((fun _ _ h => by cases h))
      (refine hgetK_has _ hk ?_; refine getK_has rfl ?_)
      refine callPK_has (rsigned_ok o.n hoo.1.1 hoo.1.2) ?_
      (refine needK_has (by rw [decide_eq_true_iff, sv_size, sv_size]; omega) ?_; refine eqK_has_eq _ (sv_app _ _) ?_; refine eqK_has_eq _ (i64_succ (by omega)) ?_; exact Has.intro ⟨(i + 1, _), ⟨hlt, hall', (by dsimp only; rw [hsn, hob]; exact hy.1)⟩, (by dsimp only; omega), ⟨rfl, (by dsimp only; rw [hsn, hob]; rfl), rfl, rfl, rfl, trivial⟩, rfl⟩)
    · rw [if_neg (by omega), if_neg (by omega), if_pos e] at hob hob1
      rw [e]
      refine boolK_beq_f (by decide) ?_
      refine boolK_beq_f (by decide) ?_
      refine boolK_beq_t rfl ?_
      (refine hgetK_has _ hk ?_; refine getK_has rfl ?_)
      refine callSK_has' ((text_ok 0 o.s (by omega) _ (by omega) J2 hT2).mono fun y hy => ?_)
      rw [forceK_def]
      rw [List.append_assoc] at hy
      have hk := hy.2.2 q _ hJ0 hk ((by intro h; cases h)) ((fun _ _ h => by cases h))
      (refine hgetK_has _ hk ?_; refine getK_has rfl ?_)
      refine callPK_has (rtext_ok o.s (by omega)) ?_
      (refine needK_has (by rw [decide_eq_true_iff, sv_size, sv_size]; omega) ?_; refine eqK_has_eq _ (sv_app _ _) ?_; refine eqK_has_eq _ (i64_succ (by omega)) ?_; exact Has.intro ⟨(i + 1, _), ⟨hlt, hall', (by dsimp only; rw [hsn, hob]; exact hy.1)⟩, (by dsimp only; omega), ⟨rfl, (by dsimp only; rw [hsn, hob]; rfl), rfl, rfl, rfl, trivial⟩, rfl⟩)
    · rw [if_neg (by omega), if_neg (by omega), if_neg (by omega)] at hob hob1
      rw [e]
      refine boolK_beq_f (by decide) ?_
      refine boolK_beq_f (by decide) ?_
      refine boolK_beq_f (by decide) ?_
      have hodd : (o.n % 2 == (1 : Int)) = odd o.n := by unfold odd; rw [Bool.eq_iff_iff, beq_iff_eq, decide_eq_true_iff]
      (refine hgetK_has _ hk ?_; refine getK_has rfl ?_)
      refine eqK_has_eq _ (and1 o.n) ?_
      refine boolK_has_eq hodd ?_
      refine callSK_has' ((flag_ok 0 (odd o.n) _ (by omega) J2 hT2).mono fun y hy => ?_)
      rw [forceK_def]
      have hk := hy.2.2 q _ hJ0 hk ((by intro h; cases h)) ((fun _ _ h => by cases h))
      (refine hgetK_has _ hk ?_; refine getK_has rfl ?_)
      refine eqK_has_eq _ (and1 o.n) ?_
      refine boolK_has_eq hodd ?_
      refine callPK_has (rflag_ok (odd o.n)) ?_
      (refine needK_has (by rw [decide_eq_true_iff, sv_size, sv_size]; omega) ?_; refine eqK_has_eq _ (sv_app _ _) ?_; refine eqK_has_eq _ (i64_succ (by omega)) ?_; exact Has.intro ⟨(i + 1, _), ⟨hlt, hall', (by dsimp only; rw [hsn, hob]; exact hy.1)⟩, (by dsimp only; omega), ⟨rfl, (by dsimp only; rw [hsn, hob]; rfl), rfl, rfl, rfl, trivial⟩, rfl⟩)
  · have : i = l.length := by omega
    subst this
    rw [List.take_length] at hs hT ⊢
    exact Has.intro (Has.intro (.inl ⟨⟨hi100, hs⟩, rfl, hT⟩))
end Go.Proofs.Ytpebkojodmjleaa
