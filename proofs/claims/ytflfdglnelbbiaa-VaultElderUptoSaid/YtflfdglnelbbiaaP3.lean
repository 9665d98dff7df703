/-
  Part 3 of the functions and the law.
  A disk's clone.
  Names.
  Sums that tell when they do not fit: what the program's functions compute.
  Vectors.
  Containers.
  Containers that are found by their names.
  Find.
  Sums of vectors.
  Sums of pods.
  Sums of pods: the program's.
  Sums of pods: the document's.
  Classes of pods.
  Classes of pods: the document's.
  Right pods.
  Right pods: the document's.
  Pods that are the same.
  Pods that are the same.
-/
import Derived.Test.YtflfdglnelbbiaaP2
import Derived.Test.YtflfdglnelbbiaaP1
set_option linter.all false
set_option linter.unusedVariables false
set_option linter.unusedSimpArgs false
set_option linter.unusedSectionVars false
namespace Go.Proofs.Ytflfdglnelbbiaa.Di
open Go Go.VM

theorem clone_rows (n : Nat) (ws : List PV) (hl : ws.length = n) (hn : 1 ≤ n ∧ n ≤ 1000000) : EE env (.fn 26) [.pv (.sl .nn n ws)] [] = some (.tsl 0 n ws, [.tok n 1]) := by
  refine Has.eq (EE_has ?_)
  refine app_plain rfl rfl (by rw [hl, Nat.mul_one]) (by omega) (by show (0 + n) * 24 ≤ 140737488355328; omega) ?_
  refine Has.intro ?_
  show (AV.tsl 0 (0 + n) ([] ++ ws), [HObj.tok (0 + n) 1]) = _
  rw [Nat.zero_add]; rfl
set_option maxHeartbeats 4000000 in
theorem clone_disk {H : Heap} {D : Nat} {d : Dk} {S : Nat → List UInt8} (h : DkOK H D d S) (hn : 1 ≤ d.n ∧ d.n ≤ 262144) (hk : 1 ≤ d.k ∧ d.k ≤ 100000) :
    Has (EE env (.fn 11) [.ptr D 0] H) fun y => ∃ C c, y.1 = .ptr C 0 ∧ DkOK y.2 C c S ∧ c.n = d.n ∧ c.left = d.left ∧ c.down = d.down ∧ c.k = d.k ∧ Kp [] H y.2 ∧ ∀ i ∈ dids C c, H.length ≤ i := by
  obtain ⟨a, n, left, down, wr, Wv, k⟩ := d
  obtain ⟨ws, hw⟩ := h.app
  have hob := h.obj
  simp only at hn hk hw hob ⊢
  rcases hw with ⟨hz, _⟩ | ⟨_, hl, t, rfl, _⟩
  · omega
  rw [Nat.mul_one] at hl
  have hD := hget_lt hob ((by intro h; cases h))
  have e0 := h.row 0 (by decide)
  have e1 := h.row 1 (by decide)
  simp only at e0 e1
  have s0 : S 0 ≠ [] := by intro e; rw [e] at e0; simp at e0; omega
  have s1 : S 1 ≠ [] := by intro e; rw [e] at e1; simp at e1; omega
  have c0 := W.clone_ee (S 0) s0 (by omega)
  have c1 := W.clone_ee (S 1) s1 (by omega)
  rw [e0.2] at c0
  rw [e1.2] at c1
  refine EE_has (fn_has rfl ?_)
  refine seq_on [(0, .ptr D 0)] H (by (refine Has.intro ⟨rfl, ?_, rfl⟩; (repeat (first | exact trivial | refine ⟨rfl, ?_⟩)))) (fun r => ?_)
  refine seq_on [(0, .ptr D 0)] H (by (refine Has.intro ⟨rfl, ?_, rfl⟩; (repeat (first | exact trivial | refine ⟨rfl, ?_⟩)))) (fun r => ?_)
  refine seq_on [(0, .ptr D 0), (3, .ptr H.length 0)] (H ++ [dobj ⟨a, n, left, down, wr, .tsl t k ws, k⟩]) ?_ (fun r => ?_)
  · refine hgetK_has _ hob ?_
    refine hgetK_last ?_
    refine Has.intro ⟨rfl, ⟨rfl, rfl, trivial⟩, ?_⟩
    exact hset_last _ _ _
  refine seq_st (σ := Heap × Nat) (fun _ => [(0, .ptr D 0), (3, .ptr H.length 0)]) (fun s => s.1) (fun s => hget s.1 H.length = dobj ⟨a, n, left, down, wr, .tsl s.2 k ws, k⟩ ∧ hget s.1 s.2 = .tok k 1 ∧ s.2 = H.length + 1 ∧ s.1.length = H.length + 2 ∧ Kp [] H s.1) ?_ (fun s hs r => ?_)
  · refine hgetK_has _ ((hget_app _ hD).trans hob) ?_
    refine callSK_has (clone_rows k ws hl (by omega)) ?_
    refine needK_has (by simp) ?_
    have o1 : hget ((H ++ [dobj ⟨a, n, left, down, wr, .tsl t k ws, k⟩]) ++ [HObj.tok k 1]) H.length = dobj ⟨a, n, left, down, wr, .tsl t k ws, k⟩ := (hget_app _ (by simp)).trans (hget_append_same _ _)
    refine hgetK_has _ o1 ?_
    refine Has.intro ⟨rfl, (hset ((H ++ [dobj ⟨a, n, left, down, wr, .tsl t k ws, k⟩]) ++ [HObj.tok k 1]) H.length (dobj ⟨a, n, left, down, wr, .tsl (H ++ [dobj ⟨a, n, left, down, wr, .tsl t k ws, k⟩]).length k ws, k⟩), (H ++ [dobj ⟨a, n, left, down, wr, .tsl t k ws, k⟩]).length), ⟨hget_hset_same _ (by simp), ?_, by simp, by rw [hset_len]; simp, ?_⟩, ⟨rfl, rfl, trivial⟩, rfl⟩
    · exact (hget_hset_ne _ _ (by simp)).trans (hget_append_same _ _)
    · refine ⟨by rw [hset_len]; simp, fun i hi _ => ?_⟩
      rw [hget_hset_ne _ _ (by omega), hget_app _ (by simp; omega), hget_app _ hi]
  obtain ⟨H2, t2⟩ := s
  obtain ⟨p1, p2, p3, p4, p5⟩ := hs
  simp only at p1 p2 p3 p4 p5 ⊢
  have q0 : hget H2 (a 0) = .pcells (bc (S 0)) := p5.get e0.1 ((by intro h; cases h)) (by simp)
  have qD : hget H2 D = dobj ⟨a, n, left, down, wr, .tsl t k ws, k⟩ := p5.get hob ((by intro h; cases h)) (by simp)
  obtain ⟨H3, hH3⟩ : ∃ H3, H3 = hset (H2 ++ [HObj.pcells (bc (S 0))]) H.length (dobj ⟨fun i => if i = 0 then H2.length else a i, n, left, down, wr, .tsl t2 k ws, k⟩) := ⟨_, rfl⟩
  have l3 : H3.length = H.length + 3 := by rw [hH3, hset_len]; simp [p4]
  have r1 : hget H3 H.length = dobj ⟨fun i => if i = 0 then H2.length else a i, n, left, down, wr, .tsl t2 k ws, k⟩ := by rw [hH3]; exact hget_hset_same _ (by simp [p4]; omega)
  have r2 : hget H3 H2.length = .pcells (bc (S 0)) := by rw [hH3, hget_hset_ne _ _ (by omega)]; exact hget_append_same _ _
  have r3 : Kp [] H H3 := by
    refine ⟨by omega, fun i hi _ => ?_⟩
    rw [hH3, hget_hset_ne _ _ (by omega), hget_app _ (by omega)]
    exact p5.2 i hi (by simp)
  have r4 : hget H3 t2 = .tok k 1 := by rw [hH3, hget_hset_ne _ _ (by omega), hget_app _ (by omega)]; exact p2
  have q1 : hget H3 (a 1) = .pcells (bc (S 1)) := r3.get e1.1 ((by intro h; cases h)) (by simp)
  obtain ⟨H4, hH4⟩ : ∃ H4, H4 = hset (H3 ++ [HObj.pcells (bc (S 1))]) H.length (dobj ⟨fun i => if i = 0 then H2.length else H3.length, n, left, down, wr, .tsl t2 k ws, k⟩) := ⟨_, rfl⟩
  have l4 : H4.length = H.length + 4 := by rw [hH4, hset_len]; simp [l3]
  have u1 : hget H4 H.length = dobj ⟨fun i => if i = 0 then H2.length else H3.length, n, left, down, wr, .tsl t2 k ws, k⟩ := by rw [hH4]; exact hget_hset_same _ (by simp [l3]; omega)
  have u2 : hget H4 H2.length = .pcells (bc (S 0)) := by rw [hH4, hget_hset_ne _ _ (by omega), hget_app _ (by omega)]; exact r2
  have u3 : Kp [] H H4 := by
    refine ⟨by omega, fun i hi _ => ?_⟩
    rw [hH4, hget_hset_ne _ _ (by omega), hget_app _ (by omega)]
    exact r3.2 i hi (by simp)
  have u4 : hget H4 t2 = .tok k 1 := by rw [hH4, hget_hset_ne _ _ (by omega), hget_app _ (by omega)]; exact r4
  have u5 : hget H4 H3.length = .pcells (bc (S 1)) := by rw [hH4, hget_hset_ne _ _ (by omega)]; exact hget_append_same _ _
  refine seq_on [(3, .ptr H.length 0)] H4 ?_ (fun r => ?_)
  · refine hgetK_has _ qD ?_
    refine loopK_has ?_
    refine iterE_step ?_
    refine boolK_dec_t (by decide) ?_
    refine needK_has (by decide) ?_
    refine hgetK_has _ q0 ?_
    refine secK_has (v := bc (S 0)) (all_bc e0.2) (by rw [bc_length, e0.2]; simp) ?_
    refine callSK_has c0 ?_
    refine needK_has (by simp) ?_
    refine needK_has (W.bc_flat _) ?_
    refine needK_has (by decide) ?_
    refine hgetK_has _ ((hget_app _ (by omega)).trans p1) ?_
    refine eqK_has ?_
    refine Has.intro ?_
    show Has (iterE _ _ (hset (H2 ++ [HObj.pcells (bc (S 0))]) H.length (dobj ⟨fun i => if i = 0 then H2.length else a i, n, left, down, wr, .tsl t2 k ws, k⟩))) _
    rw [← hH3]
    refine iterE_step ?_
    refine boolK_dec_t (by decide) ?_
    refine needK_has (by decide) ?_
    refine hgetK_has _ q1 ?_
    refine secK_has (v := bc (S 1)) (all_bc e1.2) (by rw [bc_length, e1.2]; simp) ?_
    refine callSK_has c1 ?_
    refine needK_has (by simp) ?_
    refine needK_has (W.bc_flat _) ?_
    refine needK_has (by decide) ?_
    refine hgetK_has _ ((hget_app _ (by omega)).trans r1) ?_
    refine eqK_has ?_
    refine Has.intro ?_
    show Has (iterE _ _ (hset (H3 ++ [HObj.pcells (bc (S 1))]) H.length (dobj ⟨fun i => if i = 0 then H2.length else H3.length, n, left, down, wr, .tsl t2 k ws, k⟩))) _
    rw [← hH4]
    refine iterE_step ?_
    refine boolK_dec_f (by decide) ?_
    refine Has.intro ?_
    exact Has.intro ⟨rfl, ⟨rfl, trivial⟩, rfl⟩
  refine Has.intro ?_
  refine ⟨H.length, ⟨fun i => if i = 0 then H2.length else H3.length, n, left, down, wr, .tsl t2 k ws, k⟩, rfl, ⟨u1, fun i hi => ?_, ⟨ws, .inr ⟨by show k ≠ 0; omega, by show ws.length = k * 1; omega, t2, rfl, u4⟩⟩, ?_⟩, rfl, rfl, rfl, rfl, u3, fun i hi => ?_⟩
  · have : i = 0 ∨ i = 1 := by omega
    rcases this with rfl | rfl
    · exact ⟨u2, e0.2⟩
    · exact ⟨u5, e1.2⟩
  · show H2.length ≠ H3.length
    omega
  · simp only [dids, tokOf, Option.toList, List.mem_cons, List.mem_nil_iff, or_false] at hi
    rcases hi with rfl | rfl | rfl | rfl
    · omega
    · show H.length ≤ H2.length; omega
    · show H.length ≤ H3.length; omega
    · omega
end Go.Proofs.Ytflfdglnelbbiaa.Di

namespace Go.Proofs.Ytflfdglnelbbiaa
open Go Go.VM

/-- A statement that may return. -/
theorem seq_if {R : Type} {Q : R → Prop} {env : Env} {E : Orc} {a b : VCode} {r : Regs} {h : Heap} {k : Ex → Regs → Heap → Option R} (Lr : List (Nat × AV)) (Pr : Prop) (L : List (Nat × AV)) (Pn : Prop) (H : Heap)
    (ha : Has (evK env E a Res r h doneK) fun x => (x.1 = .ret ∧ Agr x.2.1 Lr ∧ x.2.2 = H ∧ Pr) ∨ (x.1 = .normal ∧ Agr x.2.1 L ∧ x.2.2 = H ∧ Pn))
    (hr : Pr → ∀ r, Has (k .ret (setL r Lr) H) Q) (hn : Pn → ∀ r, Has (evK env E b R (setL r L) H k) Q) : Has (evK env E (.seq a b) R r h k) Q := by
  refine seq_join (fun e r h => (e = .ret ∧ Agr r Lr ∧ h = H ∧ Pr) ∨ (e = .normal ∧ Agr r L ∧ h = H ∧ Pn)) ha fun e r h hj => ?_
  rcases hj with ⟨rfl, h2, rfl, h4⟩ | ⟨rfl, h2, rfl, h4⟩
  · have := hr h4 r
    rw [h2.eq] at this
    exact this
  · have := hn h4 r
    rw [h2.eq] at this
    exact this
/-- May a byte stand at a place of a name? -/
def plainc (c : UInt8) : Prop := (97 ≤ c.toNat ∧ c.toNat ≤ 122) ∨ (48 ≤ c.toNat ∧ c.toNat ≤ 57)
instance (c : UInt8) : Decidable (plainc c) := by unfold plainc; infer_instance
def okc (n i : Nat) (c : UInt8) : Bool := decide (plainc c ∨ (c.toNat = 45 ∧ i ≠ 0 ∧ i + 1 ≠ n))
def nameF (n : Nat) : Nat → List UInt8 → Bool
  | _, [] => true
  | i, c :: l => okc n i c && nameF n (i + 1) l
def nameB (l : List UInt8) : Bool := decide (0 < l.length) && decide (l.length < 17) && nameF l.length 0 l
theorem drop_of {α : Type} {l : List α} {i : Nat} {c : α} (h : l[i]? = some c) : l.drop i = c :: l.drop (i + 1) := by
  obtain ⟨hlt, he⟩ := List.getElem?_eq_some_iff.1 h
  rw [List.drop_eq_getElem_cons hlt, he]
theorem nameF_step {n i : Nat} {l : List UInt8} {c : UInt8} (h : l[i]? = some c) : nameF n i (l.drop i) = (okc n i c && nameF n (i + 1) (l.drop (i + 1))) := by
  rw [drop_of h]; rfl
theorem nameF_bad {n i : Nat} {l : List UInt8} {c : UInt8} (h : l[i]? = some c) (hb : okc n i c = false) : nameF n i (l.drop i) = false := by rw [nameF_step h, hb]; rfl
theorem nameB_f {l : List UInt8} (h : nameF l.length 0 l = false) : nameB l = false := by unfold nameB; rw [h]; simp
theorem nameF_ends : ∀ (l : List UInt8) (n i j : Nat) (c : UInt8), l[j]? = some c → okc n (i + j) c = false → nameF n i l = false := by
  intro l
  induction l with
  | nil => intro n i j c h; simp at h
  | cons d l ih =>
    intro n i j c h hb
    unfold nameF
    cases j with
    | zero =>
      simp at h; subst h
      rw [Nat.add_zero] at hb
      rw [hb]; rfl
    | succ j =>
      simp at h
      rw [ih n (i + 1) j c h (by rw [← hb]; congr 1; omega), Bool.and_false]
set_option maxHeartbeats 1000000 in
theorem name_ok (l : List UInt8) (hl : l.length ≤ maxLen) : EP (EE env) 84 [sv l] = some (.bool (nameB l)) := by
  rw [maxLen_eq] at hl
  have hsz : ((⟨l.toArray⟩ : ByteArray).size : Int) = (l.length : Int) := by rw [sv_size]
  refine Has.eq (EP_has (fn_has rfl ?_))
  refine seq_on [(0, .pv (sv l))] [] (Has.intro ⟨rfl, ⟨rfl, trivial⟩, rfl⟩) (fun r => ?_)
  refine seq_if [(2, .pv (.bool false))] (nameB l = false) [(0, .pv (sv l))] (1 ≤ l.length ∧ l.length ≤ 16 ∧ (∀ c, l[0]? = some c → c.toNat ≠ 45) ∧ (∀ c, l[l.length - 1]? = some c → c.toNat ≠ 45)) [] ?_ (fun h r => ?_) (fun ⟨h1, h2, h3, h4⟩ r => ?_)
  · refine boolK_dec (fun h1 => ?_) (fun h1 => ?_)
    · refine Has.intro (.inl ⟨rfl, ⟨rfl, trivial⟩, rfl, ?_⟩)
      unfold nameB; rw [decide_eq_false (by omega)]; rfl
    refine boolK_dec (fun h2 => ?_) (fun h2 => ?_)
    · refine Has.intro (.inl ⟨rfl, ⟨rfl, trivial⟩, rfl, ?_⟩)
      unfold nameB; rw [decide_eq_false (p := l.length < 17) (by omega)]; simp
    obtain ⟨c, hc⟩ : ∃ c, l[0]? = some c := ⟨_, List.getElem?_eq_getElem (show 0 < l.length by omega)⟩
    refine needK_has (by simp; omega) ?_
    refine getK_has hc ?_
    refine boolK_beq (fun h3 => ?_) (fun h3 => ?_)
    · refine Has.intro (.inl ⟨rfl, ⟨rfl, trivial⟩, rfl, nameB_f (nameF_ends l _ 0 0 c hc ?_)⟩)
      unfold okc; rw [decide_eq_false]; unfold plainc; omega
    refine eqK_has_eq ((l.length - 1 : Nat) : Int) ((wrap_i64 (by omega) (by omega)).trans (by omega)) ?_
    obtain ⟨d, hd⟩ : ∃ d, l[l.length - 1]? = some d := ⟨_, List.getElem?_eq_getElem (show l.length - 1 < l.length by omega)⟩
    refine needK_has (by simp; omega) ?_
    refine getK_has hd ?_
    refine boolK_beq (fun h4 => ?_) (fun h4 => ?_)
    · refine Has.intro (.inl ⟨rfl, ⟨rfl, trivial⟩, rfl, nameB_f (nameF_ends l _ 0 (l.length - 1) d hd ?_)⟩)
      unfold okc; rw [decide_eq_false]; unfold plainc; omega
    refine Has.intro (.inr ⟨rfl, ⟨rfl, trivial⟩, rfl, by omega, by omega, fun c' h => ?_, fun c' h => ?_⟩)
    · rw [hc] at h; injection h with h; subst h; omega
    · rw [hd] at h; injection h with h; subst h; omega
  · rw [h]
    exact Has.intro (Has.intro rfl)
  refine seq_if [(2, .pv (.bool false))] (nameB l = false) [] (nameB l = true) [] ?_ (fun h r => ?_) (fun h r => ?_)
  · refine loopK_has ?_
    refine iterE_loop (σ := Nat) (fun i => l.length - i) (fun i => [(0, .pv (sv l)), (26, .pv (sv l)), (27, .pv (.int .i64 l.length)), (28, .pv (.int .i64 i))]) (fun _ => []) (fun i => i ≤ l.length ∧ nameF l.length 0 l = nameF l.length i (l.drop i)) (fun i ⟨hi, he⟩ r => ?_) 0 ⟨Nat.zero_le _, rfl⟩ ⟨rfl, rfl, by rw [← hsz]; rfl, rfl, trivial⟩ rfl
    refine boolK_dec (fun hc => ?_) (fun hc => ?_)
    · have hlt : i < l.length := by omega
      obtain ⟨c, hcg⟩ : ∃ c, l[i]? = some c := ⟨_, List.getElem?_eq_getElem hlt⟩
      refine needK_has (by simp; omega) ?_
      refine getK_has hcg ?_
      have hns := nameF_step (n := l.length) hcg
      rw [hns] at he
      have hok : okc l.length i c = decide (plainc c ∨ c.toNat = 45) := by
        unfold okc
        rw [Bool.eq_iff_iff, decide_eq_true_iff, decide_eq_true_iff]
        refine or_congr Iff.rfl ⟨fun h => h.1, fun h => ⟨h, fun h0 => ?_, fun h0 => ?_⟩⟩
        · subst h0; exact h3 c hcg h
        · exact h4 c (by rw [show l.length - 1 = i by omega]; exact hcg) h
      repeat' (first
        | refine boolK_dec (fun _ => ?_) (fun _ => ?_)
        | refine boolK_bne (fun _ => ?_) (fun _ => ?_)
        | fail)
      all_goals first
        | (exfalso; omega)
        | (refine Has.intro (Has.intro (.inl ⟨rfl, ⟨rfl, trivial⟩, rfl, nameB_f ?_⟩))
           rw [he, hok, decide_eq_false (by unfold plainc; omega)]; rfl)
        | (refine eqK_has_eq _ (i64_succ (by omega)) ?_
           refine Has.intro ⟨i + 1, ⟨hlt, ?_⟩, by omega, ⟨rfl, rfl, rfl, rfl, trivial⟩, rfl⟩
           rw [he, hok, decide_eq_true (by unfold plainc; omega)]; rfl)
    · have : i = l.length := by omega
      subst this
      rw [List.drop_length] at he
      refine Has.intro (Has.intro (.inr ⟨rfl, trivial, rfl, ?_⟩))
      unfold nameB
      rw [he, decide_eq_true (show 0 < l.length by omega), decide_eq_true (show l.length < 17 by omega)]; rfl
  · rw [h]
    exact Has.intro (Has.intro rfl)
  · rw [h]
    exact Has.intro (Has.intro rfl)
end Go.Proofs.Ytflfdglnelbbiaa

namespace Go.Proofs.Ytflfdglnelbbiaa
open Go Go.VM

def fit (n : Int) : Bool := decide (-9223372036854775808 ≤ n) && decide (n ≤ 9223372036854775807)
/-- A number that fits, and that it does. -/
def told (n : Int) : PV := .tup [.int .i64 (if fit n then n else 0), .bool (fit n)]
theorem fit_true {n : Int} (h : fit n = true) : -9223372036854775808 ≤ n ∧ n ≤ 9223372036854775807 := by
  unfold fit at h; rw [Bool.and_eq_true, decide_eq_true_eq, decide_eq_true_eq] at h; exact h
theorem fit_iff (n : Int) : fit n = true ↔ -9223372036854775808 ≤ n ∧ n ≤ 9223372036854775807 := by
  unfold fit; rw [Bool.and_eq_true, decide_eq_true_eq, decide_eq_true_eq]

theorem lt0 (z : BitVec 64) : decide (z.toInt < 0) = z.msb := (BitVec.msb_eq_toInt).symm
theorem bmod_add (x y : BitVec 64) : (x + y).toInt = if fit (x.toInt + y.toInt) then x.toInt + y.toInt else if x.toInt + y.toInt < 0 then x.toInt + y.toInt + 18446744073709551616 else x.toInt + y.toInt - 18446744073709551616 := by
  have hx := toInt_range x
  have hy := toInt_range y
  rw [BitVec.toInt_add, Int.bmod_def]
  have e : ((2 ^ 64 : Nat) : Int) = 18446744073709551616 := rfl
  rw [e]
  by_cases h : fit (x.toInt + y.toInt) = true
  · rw [if_pos h]; have := fit_true h; omega
  · rw [if_neg h]
    rw [fit_iff] at h
    omega
theorem bmod_sub (x y : BitVec 64) : (x - y).toInt = if fit (x.toInt - y.toInt) then x.toInt - y.toInt else if x.toInt - y.toInt < 0 then x.toInt - y.toInt + 18446744073709551616 else x.toInt - y.toInt - 18446744073709551616 := by
  have hx := toInt_range x
  have hy := toInt_range y
  rw [BitVec.toInt_sub, Int.bmod_def]
  have e : ((2 ^ 64 : Nat) : Int) = 18446744073709551616 := rfl
  rw [e]
  by_cases h : fit (x.toInt - y.toInt) = true
  · rw [if_pos h]; have := fit_true h; omega
  · rw [if_neg h]
    rw [fit_iff] at h
    omega
theorem over_add (x y : BitVec 64) : decide (((x ^^^ (x + y)) &&& (y ^^^ (x + y))).toInt < 0) = !fit (x.toInt + y.toInt) := by
  rw [lt0, BitVec.msb_and, BitVec.msb_xor, BitVec.msb_xor, ← lt0, ← lt0, ← lt0]
  have h := bmod_add x y
  have hx := toInt_range x
  have hy := toInt_range y
  rw [Bool.eq_iff_iff]
  cases hf : fit (x.toInt + y.toInt) with
  | true =>
    rw [hf] at h; simp only [if_true] at h
    generalize (x + y).toInt = s at h ⊢
    simp
    omega
  | false =>
    rw [hf] at h; simp only [Bool.false_eq_true, if_false] at h
    have hn : ¬ (-9223372036854775808 ≤ x.toInt + y.toInt ∧ x.toInt + y.toInt ≤ 9223372036854775807) := by rw [← fit_iff, hf]; simp
    generalize (x + y).toInt = s at h ⊢
    simp
    omega
theorem over_sub (x y : BitVec 64) : decide (((x ^^^ y) &&& (x ^^^ (x - y))).toInt < 0) = !fit (x.toInt - y.toInt) := by
  rw [lt0, BitVec.msb_and, BitVec.msb_xor, BitVec.msb_xor, ← lt0, ← lt0, ← lt0]
  have h := bmod_sub x y
  have hx := toInt_range x
  have hy := toInt_range y
  rw [Bool.eq_iff_iff]
  cases hf : fit (x.toInt - y.toInt) with
  | true =>
    rw [hf] at h; simp only [if_true] at h
    generalize (x - y).toInt = s at h ⊢
    simp
    omega
  | false =>
    rw [hf] at h; simp only [Bool.false_eq_true, if_false] at h
    have hn : ¬ (-9223372036854775808 ≤ x.toInt - y.toInt ∧ x.toInt - y.toInt ≤ 9223372036854775807) := by rw [← fit_iff, hf]; simp
    generalize (x - y).toInt = s at h ⊢
    simp
    omega

theorem add_bits (x y : BitVec 64) : EP (EE env) 96 [i64 x, i64 y] = some (told (x.toInt + y.toInt)) := by
  have h := bmod_add x y
  refine Has.eq (EP_has ?_)
  refine eqK_has_eq _ (u64_of_toInt x) ?_
  refine eqK_has_eq _ (u64_of_toInt y) ?_
  refine eqK_has_eq _ (u64_add _ _) ?_
  refine eqK_has_eq _ (i64_of_toNat _) ?_
  refine eqK_has_eq _ (i64_xor _ _) ?_
  refine eqK_has_eq _ (i64_xor _ _) ?_
  refine eqK_has_eq _ (i64_and _ _) ?_
  refine boolK_has_eq (over_add x y) ?_
  cases hf : fit (x.toInt + y.toInt) with
  | true =>
    rw [hf] at h; simp only [if_true] at h
    refine Has.intro (Has.intro ?_)
    show PV.tup [.int .i64 (x + y).toInt, .bool true] = _
    unfold told
    rw [hf, h]; rfl
  | false =>
    refine Has.intro (Has.intro ?_)
    show PV.tup [.int .i64 0, .bool false] = _
    unfold told
    rw [hf]; rfl
theorem add_ok {a b : Int} (ha : fit a = true) (hb : fit b = true) : EP (EE env) 96 [.int .i64 a, .int .i64 b] = some (told (a + b)) := by
  obtain ⟨x, rfl⟩ := i64_bits (fit_true ha).1 (fit_true ha).2
  obtain ⟨y, rfl⟩ := i64_bits (fit_true hb).1 (fit_true hb).2
  exact add_bits x y
end Go.Proofs.Ytflfdglnelbbiaa

namespace Go.Proofs.Ytflfdglnelbbiaa
open Go Go.VM

structure Vc where
  c : Int
  m : Int
  h : Int
def vc (v : Vc) : List PV := [.int .i64 v.c, .int .i64 v.m, .int .i64 v.h]
def vR (v : Vc) : Prop := (0 ≤ v.c ∧ v.c ≤ 1099511627776) ∧ (0 ≤ v.m ∧ v.m ≤ 1125899906842624) ∧ (0 ≤ v.h ∧ v.h ≤ 1125899906842624) ∧ v.h % 2097152 = 0
instance (v : Vc) : Decidable (vR v) := by unfold vR; infer_instance
def vRB (v : Vc) : Bool := decide (vR v)
theorem vRB_iff {v : Vc} : vRB v = true ↔ vR v := decide_eq_true_iff
theorem vRB_t {v : Vc} (h : vR v) : vRB v = true := decide_eq_true h
theorem vRB_f {v : Vc} (h : ¬ vR v) : vRB v = false := decide_eq_false h
def fitP (r : Nat) (n : Int) : Prop := 0 ≤ n ∧ n ≤ (if r = 0 then 1099511627776 else 1125899906842624)
instance (r : Nat) (n : Int) : Decidable (fitP r n) := by unfold fitP; infer_instance
theorem parts_ok (v : Vc) : EP (EE env) 92 [.agg (vc v)] = some (.agg (vc v)) := by
  refine Has.eq (EP_has ?_)
  (repeat (first | refine hgetK_last ?_ | refine hgetK_set ?_ | refine hgetK_has _ rfl ?_ | refine needK_has rfl ?_ | refine getK_has rfl ?_ | refine secK_has rfl (by first | exact Nat.le_refl _ | decide) ?_ | refine eqK_has ?_))
  (refine Has.intro (Has.intro ?_))
  rfl
theorem of_ok (v : Vc) : EP (EE env) 97 [.agg (vc v)] = some (.agg (vc v)) := by
  refine Has.eq (EP_has ?_)
  (repeat (first | refine hgetK_last ?_ | refine hgetK_set ?_ | refine hgetK_has _ rfl ?_ | refine needK_has rfl ?_ | refine getK_has rfl ?_ | refine secK_has rfl (by first | exact Nat.le_refl _ | decide) ?_ | refine eqK_has ?_))
  (refine Has.intro (Has.intro ?_))
  rfl
theorem fits_ok (r : Nat) (n : Int) : EP (EE env) 93 [.int .i64 r, .int .i64 n] = some (.bool (decide (fitP r n))) := by
  refine Has.eq (EP_has ?_)
  refine boolK_beq (fun h => ?_) (fun h => ?_)
  all_goals
    refine boolK_dec (fun h1 => ?_) (fun h1 => ?_)
    · refine boolK_dec (fun h2 => ?_) (fun h2 => ?_)
      · rw [decide_eq_true (show fitP r n by unfold fitP; split <;> omega)]
        (refine Has.intro (Has.intro ?_))
        rfl
      · rw [decide_eq_false (show ¬ fitP r n by unfold fitP; split <;> omega)]
        (refine Has.intro (Has.intro ?_))
        rfl
    · rw [decide_eq_false (show ¬ fitP r n by unfold fitP; split <;> omega)]
      (refine Has.intro (Has.intro ?_))
      rfl
theorem and21 (n : Int) : IntKind.i64.wrap ((BitVec.ofInt IntKind.i64.bits n &&& BitVec.ofInt IntKind.i64.bits 2097151).toNat : Int) = n % 2097152 := by
  have e : (BitVec.ofInt 64 n &&& BitVec.ofInt 64 2097151).toNat = (n % 2097152).toNat := by
    rw [BitVec.toNat_and, BitVec.toNat_ofInt, show (BitVec.ofInt 64 2097151).toNat = 2 ^ 21 - 1 from rfl, Nat.and_two_pow_sub_one_eq_mod]
    simp only [Nat.reducePow]
    omega
  show IntKind.i64.wrap ((BitVec.ofInt 64 n &&& BitVec.ofInt 64 2097151).toNat : Int) = _
  rw [e, wrap_i64 (by omega) (by omega)]; omega
set_option maxHeartbeats 1000000 in
theorem right_ok (v : Vc) : EP (EE env) 89 [.agg (vc v)] = some (.bool (vRB v)) := by
  refine Has.eq (EP_has (fn_has rfl ?_))
  refine seq_on [(1, .ptr 0 0)] [.pcells (vc v)] (by (repeat (first | refine hgetK_last ?_ | refine hgetK_set ?_ | refine hgetK_has _ rfl ?_ | refine needK_has rfl ?_ | refine getK_has rfl ?_ | refine secK_has rfl (by first | exact Nat.le_refl _ | decide) ?_ | refine eqK_has ?_)); (refine Has.intro ⟨rfl, ?_, rfl⟩; (repeat (first | exact trivial | refine ⟨rfl, ?_⟩)))) (fun r => ?_)
  refine seq_if [(2, .pv (.bool false))] (¬ vR v) [(1, .ptr 0 0)] (fitP 0 v.c ∧ fitP 1 v.m ∧ fitP 2 v.h) [.pcells (vc v)] ?_ (fun h r => ?_) (fun ⟨h1, h2, h3⟩ r => ?_)
  · (repeat (first | refine hgetK_last ?_ | refine hgetK_set ?_ | refine hgetK_has _ rfl ?_ | refine needK_has rfl ?_ | refine getK_has rfl ?_ | refine secK_has rfl (by first | exact Nat.le_refl _ | decide) ?_ | refine eqK_has ?_))
    refine callPK_has (parts_ok v) ?_
    refine loopK_has ?_
    refine iterE_loop (σ := Nat) (fun i => 3 - i) (fun i => [(1, .ptr 0 0), (6, .pv (.agg (vc v))), (7, .pv (.int .i64 i))]) (fun _ => [.pcells (vc v)]) (fun i => i ≤ 3 ∧ (0 < i → fitP 0 v.c) ∧ (1 < i → fitP 1 v.m) ∧ (2 < i → fitP 2 v.h)) (fun i ⟨hi, f0, f1, f2⟩ r => ?_) 0 ⟨by decide, (by omega), (by omega), (by omega)⟩ ⟨rfl, rfl, rfl, trivial⟩ rfl
    refine boolK_dec (fun hc => ?_) (fun hc => ?_)
    · have h3 : i = 0 ∨ i = 1 ∨ i = 2 := by omega
      rcases h3 with rfl | rfl | rfl
      all_goals
        refine needK_has rfl ?_
        refine getK_has rfl ?_
        refine callPK_dec (fits_ok _ _) (fun h => ?_) (fun h => ?_)
        · refine eqK_has_eq _ (i64_succ (by decide)) ?_
          exact Has.intro ⟨_, ⟨(by decide), (fun _ => by first | exact h | exact f0 (by decide)), (fun _ => by first | exact h | exact f1 (by decide) | (exfalso; omega)), (fun _ => by first | exact h | (exfalso; omega))⟩, (by decide), ⟨rfl, rfl, rfl, trivial⟩, rfl⟩
        · refine Has.intro (Has.intro (.inl ⟨rfl, ⟨rfl, trivial⟩, rfl, fun hv => h ?_⟩))
          first
            | exact hv.1
            | exact hv.2.1
            | exact hv.2.2.1
    · have : i = 3 := by omega
      subst this
      exact Has.intro (Has.intro (.inr ⟨rfl, ⟨rfl, trivial⟩, rfl, f0 (by decide), f1 (by decide), f2 (by decide)⟩))
  · have : vRB v = false := decide_eq_false h
    rw [this]
    exact Has.intro (Has.intro rfl)
  · (repeat (first | refine hgetK_has _ rfl ?_ | refine needK_has rfl ?_ | refine getK_has rfl ?_))
    refine eqK_has_eq _ (and21 v.h) ?_
    refine boolK_has_keep ?_
    refine Has.intro (Has.intro ?_)
    show PV.bool (v.h % 2097152 == 0) = _
    congr 1
    rw [Bool.eq_iff_iff, beq_iff_eq, vRB_iff]
    exact ⟨fun h => ⟨h1, h2, h3, h⟩, fun h => h.2.2.2⟩
theorem at_ok (v : Vc) (i : Nat) (hi : i < 3) : EP (EE env) 90 [.agg (vc v), .int .i64 i] = some (.int .i64 (if i = 0 then v.c else if i = 1 then v.m else v.h)) := by
  refine Has.eq (EP_has ?_)
  have h3 : i = 0 ∨ i = 1 ∨ i = 2 := by omega
  rcases h3 with rfl | rfl | rfl
  all_goals
    refine boolK_dec_f (by decide) ?_
    refine boolK_dec_f (by decide) ?_
    (repeat (first | refine hgetK_last ?_ | refine hgetK_set ?_ | refine hgetK_has _ rfl ?_ | refine needK_has rfl ?_ | refine getK_has rfl ?_ | refine secK_has rfl (by first | exact Nat.le_refl _ | decide) ?_ | refine eqK_has ?_))
    refine callPK_has (parts_ok v) ?_
    refine needK_has rfl ?_
    refine getK_has rfl ?_
    (refine Has.intro (Has.intro ?_))
    rfl
def vadd (a b : Vc) : Vc := ⟨a.c + b.c, a.m + b.m, a.h + b.h⟩
/-- A sum of two. -/
def addV (a b : Vc) : Option Vc := if vR a ∧ vR b ∧ vR (vadd a b) then some (vadd a b) else none
def v0 : Vc := ⟨0, 0, 0⟩
def pairV (o : Option Vc) : PV := match o with
  | some v => .tup [.agg (vc v), .bool true]
  | none => .tup [.agg (vc v0), .bool false]
theorem vR_in {v : Vc} (h : vR v) : (0 ≤ v.c ∧ v.c ≤ 1125899906842624) ∧ (0 ≤ v.m ∧ v.m ≤ 1125899906842624) ∧ (0 ≤ v.h ∧ v.h ≤ 1125899906842624) := by unfold vR at h; omega
theorem cadd_ok (a b : Int) (ha : 0 ≤ a ∧ a ≤ 1125899906842624) (hb : 0 ≤ b ∧ b ≤ 1125899906842624) : EP (EE env) 96 [.int .i64 a, .int .i64 b] = some (.tup [.int .i64 (a + b), .bool true]) := by
  rw [add_ok ((fit_iff a).2 (by omega)) ((fit_iff b).2 (by omega))]
  unfold told
  rw [(fit_iff (a + b)).2 (by omega)]; rfl
def z3 : HObj := .pcells (vc v0)
def mixV (a b : Vc) (i : Nat) : Vc := ⟨if 0 < i then a.c + b.c else a.c, if 1 < i then a.m + b.m else a.m, if 2 < i then a.h + b.h else a.h⟩
set_option maxHeartbeats 2000000 in
theorem both_ok (a b : Vc) : EP (EE env) 95 [.agg (vc a), .agg (vc b), .fn 96 [] []] = some (pairV (addV a b)) := by
  refine Has.eq (EP_has (fn_has rfl ?_))
  refine seq_on [(2, .pv (.fn 96 [] [])), (3, .ptr 0 0), (4, .ptr 1 0), (6, .ptr 2 0)] [.pcells (vc a), .pcells (vc b), z3] (by (repeat (first | refine hgetK_last ?_ | refine hgetK_set ?_ | refine hgetK_has _ rfl ?_ | refine needK_has rfl ?_ | refine getK_has rfl ?_ | refine secK_has rfl (by first | exact Nat.le_refl _ | decide) ?_ | refine eqK_has ?_)); (refine Has.intro ⟨rfl, ?_, rfl⟩; (repeat (first | exact trivial | refine ⟨rfl, ?_⟩)))) (fun r => ?_)
  refine seq_if [(6, .ptr 2 0), (7, .pv (.bool false))] (¬ (vR a ∧ vR b)) [(2, .pv (.fn 96 [] [])), (3, .ptr 0 0), (4, .ptr 1 0), (6, .ptr 2 0)] (vR a ∧ vR b) [.pcells (vc a), .pcells (vc b), z3] ?_ (fun h r => ?_) (fun ⟨h1, h2⟩ r => ?_)
  · (repeat (first | refine hgetK_last ?_ | refine hgetK_set ?_ | refine hgetK_has _ rfl ?_ | refine needK_has rfl ?_ | refine getK_has rfl ?_ | refine secK_has rfl (by first | exact Nat.le_refl _ | decide) ?_ | refine eqK_has ?_))
    refine callPK_dec (right_ok a) (fun h1 => ?_) (fun h1 => ?_)
    · (repeat (first | refine hgetK_last ?_ | refine hgetK_set ?_ | refine hgetK_has _ rfl ?_ | refine needK_has rfl ?_ | refine getK_has rfl ?_ | refine secK_has rfl (by first | exact Nat.le_refl _ | decide) ?_ | refine eqK_has ?_))
      refine callPK_dec (right_ok b) (fun h2 => ?_) (fun h2 => ?_)
      · exact Has.intro (.inr ⟨rfl, ⟨rfl, rfl, rfl, rfl, trivial⟩, rfl, h1, h2⟩)
      · (repeat (first | refine hgetK_last ?_ | refine hgetK_set ?_ | refine hgetK_has _ rfl ?_ | refine needK_has rfl ?_ | refine getK_has rfl ?_ | refine secK_has rfl (by first | exact Nat.le_refl _ | decide) ?_ | refine eqK_has ?_))
        exact Has.intro (.inl ⟨rfl, ⟨rfl, rfl, trivial⟩, rfl, fun h => h2 h.2⟩)
    · (repeat (first | refine hgetK_last ?_ | refine hgetK_set ?_ | refine hgetK_has _ rfl ?_ | refine needK_has rfl ?_ | refine getK_has rfl ?_ | refine secK_has rfl (by first | exact Nat.le_refl _ | decide) ?_ | refine eqK_has ?_))
      exact Has.intro (.inl ⟨rfl, ⟨rfl, rfl, trivial⟩, rfl, fun h => h1 h.1⟩)
  · (repeat (first | refine hgetK_last ?_ | refine hgetK_set ?_ | refine hgetK_has _ rfl ?_ | refine needK_has rfl ?_ | refine getK_has rfl ?_ | refine secK_has rfl (by first | exact Nat.le_refl _ | decide) ?_ | refine eqK_has ?_))
    refine Has.intro (Has.intro ?_)
    unfold addV; rw [if_neg (fun hh => h ⟨hh.1, hh.2.1⟩)]; rfl
  have b1 := vR_in h1
  have b2 := vR_in h2
  refine seq_on [(2, .pv (.fn 96 [] [])), (6, .ptr 2 0), (8, .ptr 3 0), (9, .ptr 4 0)] [.pcells (vc a), .pcells (vc b), z3, .pcells (vc a), .pcells (vc b)] ?_ (fun r => ?_)
  · (repeat (first | refine hgetK_last ?_ | refine hgetK_set ?_ | refine hgetK_has _ rfl ?_ | refine needK_has rfl ?_ | refine getK_has rfl ?_ | refine secK_has rfl (by first | exact Nat.le_refl _ | decide) ?_ | refine eqK_has ?_))
    refine callPK_has (parts_ok a) ?_
    (repeat (first | refine hgetK_last ?_ | refine hgetK_set ?_ | refine hgetK_has _ rfl ?_ | refine needK_has rfl ?_ | refine getK_has rfl ?_ | refine secK_has rfl (by first | exact Nat.le_refl _ | decide) ?_ | refine eqK_has ?_))
    refine callPK_has (parts_ok b) ?_
    (repeat (first | refine hgetK_last ?_ | refine hgetK_set ?_ | refine hgetK_has _ rfl ?_ | refine needK_has rfl ?_ | refine getK_has rfl ?_ | refine secK_has rfl (by first | exact Nat.le_refl _ | decide) ?_ | refine eqK_has ?_))
    (refine Has.intro ⟨rfl, ?_, rfl⟩; (repeat (first | exact trivial | refine ⟨rfl, ?_⟩)))
  refine seq_on [(6, .ptr 2 0), (8, .ptr 3 0)] [.pcells (vc a), .pcells (vc b), z3, .pcells (vc (vadd a b)), .pcells (vc b)] ?_ (fun r => ?_)
  · refine loopK_has ?_
    refine iterE_loop (σ := Nat) (fun i => 3 - i) (fun i => [(2, .pv (.fn 96 [] [])), (6, .ptr 2 0), (8, .ptr 3 0), (9, .ptr 4 0), (25, .pv (.int .i64 i))]) (fun i => [.pcells (vc a), .pcells (vc b), z3, .pcells (vc (mixV a b i)), .pcells (vc b)]) (fun i => i ≤ 3) (fun i hi r => ?_) 0 (by decide) ⟨rfl, rfl, rfl, rfl, rfl, trivial⟩ rfl
    refine boolK_dec (fun hc => ?_) (fun hc => ?_)
    · have h3 : i = 0 ∨ i = 1 ∨ i = 2 := by omega
      rcases h3 with rfl | rfl | rfl
      all_goals
        (repeat (first | refine hgetK_has _ rfl ?_ | refine needK_has rfl ?_ | refine getK_has rfl ?_))
        first
          | refine callPK_has (cadd_ok a.c b.c (by omega) (by omega)) ?_
          | refine callPK_has (cadd_ok a.m b.m (by omega) (by omega)) ?_
          | refine callPK_has (cadd_ok a.h b.h (by omega) (by omega)) ?_
        (repeat (first | refine hgetK_last ?_ | refine hgetK_set ?_ | refine hgetK_has _ rfl ?_ | refine needK_has rfl ?_ | refine getK_has rfl ?_ | refine secK_has rfl (by first | exact Nat.le_refl _ | decide) ?_ | refine eqK_has ?_))
        first
          | exact Has.intro ⟨1, (by decide), (by decide), ⟨rfl, rfl, rfl, rfl, rfl, trivial⟩, rfl⟩
          | exact Has.intro ⟨2, (by decide), (by decide), ⟨rfl, rfl, rfl, rfl, rfl, trivial⟩, rfl⟩
          | exact Has.intro ⟨3, (by decide), (by decide), ⟨rfl, rfl, rfl, rfl, rfl, trivial⟩, rfl⟩
    · have : i = 3 := by omega
      subst this
      refine Has.intro (Has.intro ?_)
      exact ⟨rfl, ⟨rfl, rfl, trivial⟩, rfl⟩
  by_cases h3 : vR (vadd a b)
  · (repeat (first | refine hgetK_last ?_ | refine hgetK_set ?_ | refine hgetK_has _ rfl ?_ | refine needK_has rfl ?_ | refine getK_has rfl ?_ | refine secK_has rfl (by first | exact Nat.le_refl _ | decide) ?_ | refine eqK_has ?_))
    refine callPK_has (of_ok (vadd a b)) ?_
    (repeat (first | refine hgetK_last ?_ | refine hgetK_set ?_ | refine hgetK_has _ rfl ?_ | refine needK_has rfl ?_ | refine getK_has rfl ?_ | refine secK_has rfl (by first | exact Nat.le_refl _ | decide) ?_ | refine eqK_has ?_))
    refine callPK_dec_t (right_ok (vadd a b)) h3 ?_
    (repeat (first | refine hgetK_last ?_ | refine hgetK_set ?_ | refine hgetK_has _ rfl ?_ | refine needK_has rfl ?_ | refine getK_has rfl ?_ | refine secK_has rfl (by first | exact Nat.le_refl _ | decide) ?_ | refine eqK_has ?_))
    refine Has.intro (Has.intro ?_)
    unfold addV; rw [if_pos ⟨h1, h2, h3⟩]; rfl
  · (repeat (first | refine hgetK_last ?_ | refine hgetK_set ?_ | refine hgetK_has _ rfl ?_ | refine needK_has rfl ?_ | refine getK_has rfl ?_ | refine secK_has rfl (by first | exact Nat.le_refl _ | decide) ?_ | refine eqK_has ?_))
    refine callPK_has (of_ok (vadd a b)) ?_
    (repeat (first | refine hgetK_last ?_ | refine hgetK_set ?_ | refine hgetK_has _ rfl ?_ | refine needK_has rfl ?_ | refine getK_has rfl ?_ | refine secK_has rfl (by first | exact Nat.le_refl _ | decide) ?_ | refine eqK_has ?_))
    refine callPK_dec_f (right_ok (vadd a b)) h3 ?_
    (repeat (first | refine hgetK_last ?_ | refine hgetK_set ?_ | refine hgetK_has _ rfl ?_ | refine needK_has rfl ?_ | refine getK_has rfl ?_ | refine secK_has rfl (by first | exact Nat.le_refl _ | decide) ?_ | refine eqK_has ?_))
    refine Has.intro (Has.intro ?_)
    unfold addV; rw [if_neg (fun hh => h3 hh.2.2)]; rfl
theorem add2_ok (a b : Vc) : EP (EE env) 94 [.agg (vc a), .agg (vc b)] = some (pairV (addV a b)) := by
  refine Has.eq (EP_has ?_)
  (repeat (first | refine hgetK_last ?_ | refine hgetK_set ?_ | refine hgetK_has _ rfl ?_ | refine needK_has rfl ?_ | refine getK_has rfl ?_ | refine secK_has rfl (by first | exact Nat.le_refl _ | decide) ?_ | refine eqK_has ?_))
  refine callPK_has (both_ok a b) ?_
  cases h : addV a b with
  | some v =>
    (repeat (first | refine hgetK_last ?_ | refine hgetK_set ?_ | refine hgetK_has _ rfl ?_ | refine needK_has rfl ?_ | refine getK_has rfl ?_ | refine secK_has rfl (by first | exact Nat.le_refl _ | decide) ?_ | refine eqK_has ?_))
    exact Has.intro (Has.intro rfl)
  | none =>
    (repeat (first | refine hgetK_last ?_ | refine hgetK_set ?_ | refine hgetK_has _ rfl ?_ | refine needK_has rfl ?_ | refine getK_has rfl ?_ | refine secK_has rfl (by first | exact Nat.le_refl _ | decide) ?_ | refine eqK_has ?_))
    exact Has.intro (Has.intro rfl)
def unlike (a b : Vc) : List PV := [.bool (a.c != b.c), .bool (a.m != b.m), .bool (a.h != b.h)]
def givenB (a b : Vc) : Bool := ((a.c == 0) != (b.c == 0)) || ((a.m == 0) != (b.m == 0))
end Go.Proofs.Ytflfdglnelbbiaa

namespace Go.Proofs.Ytflfdglnelbbiaa
open Go Go.VM

structure Ct where
  name : List UInt8
  rq : Vc
  lm : Vc
  r0 : Bool
  r1 : Bool
  r2 : Bool
def ct (c : Ct) : List PV := [sv c.name, .int .i64 c.rq.c, .int .i64 c.rq.m, .int .i64 c.rq.h, .int .i64 c.lm.c, .int .i64 c.lm.m, .int .i64 c.lm.h, .bool c.r0, .bool c.r1, .bool c.r2]
theorem ct_len (c : Ct) : (ct c).length = 10 := rfl
def cP (c : Ct) : Prop := nameB c.name = true ∧ vR c.rq ∧ vR c.lm ∧ c.rq.h = c.lm.h ∧ (c.lm.c = 0 ∨ c.rq.c ≤ c.lm.c) ∧ (c.lm.m = 0 ∨ c.rq.m ≤ c.lm.m)
instance (c : Ct) : Decidable (cP c) := by unfold cP; infer_instance
theorem name_dec (l : List UInt8) (hl : l.length ≤ maxLen) : EP (EE env) 84 [sv l] = some (.bool (decide (nameB l = true))) := (name_ok l hl).trans (by cases nameB l <;> rfl)
set_option maxHeartbeats 2000000 in
theorem ctr_ok (c : Ct) (hl : c.name.length ≤ maxLen) : EP (EE env) 85 [.agg (ct c)] = some (.bool (decide (cP c))) := by
  refine Has.eq (EP_has (fn_has rfl ?_))
  refine seq_on [(1, .ptr 0 0)] [.pcells (ct c)] (by (repeat (first | refine hgetK_last ?_ | refine hgetK_set ?_ | refine hgetK_has _ rfl ?_ | refine needK_has rfl ?_ | refine getK_has rfl ?_ | refine secK_has rfl (of_decide_eq_true rfl) ?_ | refine eqK_has ?_)); (refine Has.intro ⟨rfl, ?_, rfl⟩; (repeat (first | exact trivial | refine ⟨rfl, ?_⟩)))) (fun r => ?_)
  refine seq_if [(2, .pv (.bool false))] (¬ cP c) [(1, .ptr 0 0)] (nameB c.name = true ∧ vR c.rq ∧ vR c.lm ∧ c.rq.h = c.lm.h) [.pcells (ct c)] ?_ (fun h r => ?_) (fun ⟨h1, h2, h3, h4⟩ r => ?_)
  · (repeat (first | refine hgetK_last ?_ | refine hgetK_set ?_ | refine hgetK_has _ rfl ?_ | refine needK_has rfl ?_ | refine getK_has rfl ?_ | refine secK_has rfl (of_decide_eq_true rfl) ?_ | refine eqK_has ?_))
    refine callPK_dec (name_dec c.name hl) (fun h1 => ?_) (fun h1 => ?_)
    · (repeat (first | refine hgetK_last ?_ | refine hgetK_set ?_ | refine hgetK_has _ rfl ?_ | refine needK_has rfl ?_ | refine getK_has rfl ?_ | refine secK_has rfl (of_decide_eq_true rfl) ?_ | refine eqK_has ?_))
      refine callPK_dec (right_ok c.rq) (fun h2 => ?_) (fun h2 => ?_)
      · (repeat (first | refine hgetK_last ?_ | refine hgetK_set ?_ | refine hgetK_has _ rfl ?_ | refine needK_has rfl ?_ | refine getK_has rfl ?_ | refine secK_has rfl (of_decide_eq_true rfl) ?_ | refine eqK_has ?_))
        refine callPK_dec (right_ok c.lm) (fun h3 => ?_) (fun h3 => ?_)
        · (repeat (first | refine hgetK_last ?_ | refine hgetK_set ?_ | refine hgetK_has _ rfl ?_ | refine needK_has rfl ?_ | refine getK_has rfl ?_ | refine secK_has rfl (of_decide_eq_true rfl) ?_ | refine eqK_has ?_))
          refine boolK_bne (fun h4 => ?_) (fun h4 => ?_)
          · exact Has.intro (.inl ⟨rfl, ⟨rfl, trivial⟩, rfl, fun h => h4 h.2.2.2.1⟩)
          · exact Has.intro (.inr ⟨rfl, ⟨rfl, trivial⟩, rfl, h1, h2, h3, h4⟩)
        · (repeat (first | refine hgetK_last ?_ | refine hgetK_set ?_ | refine hgetK_has _ rfl ?_ | refine needK_has rfl ?_ | refine getK_has rfl ?_ | refine secK_has rfl (of_decide_eq_true rfl) ?_ | refine eqK_has ?_))
          exact Has.intro (.inl ⟨rfl, ⟨rfl, trivial⟩, rfl, fun h => h3 h.2.2.1⟩)
      · (repeat (first | refine hgetK_last ?_ | refine hgetK_set ?_ | refine hgetK_has _ rfl ?_ | refine needK_has rfl ?_ | refine getK_has rfl ?_ | refine secK_has rfl (of_decide_eq_true rfl) ?_ | refine eqK_has ?_))
        exact Has.intro (.inl ⟨rfl, ⟨rfl, trivial⟩, rfl, fun h => h2 h.2.1⟩)
    · (repeat (first | refine hgetK_last ?_ | refine hgetK_set ?_ | refine hgetK_has _ rfl ?_ | refine needK_has rfl ?_ | refine getK_has rfl ?_ | refine secK_has rfl (of_decide_eq_true rfl) ?_ | refine eqK_has ?_))
      exact Has.intro (.inl ⟨rfl, ⟨rfl, trivial⟩, rfl, fun h => h1 h.1⟩)
  · rw [decide_eq_false h]
    exact Has.intro (Has.intro rfl)
  have b3 := vR_in h3
  refine seq_if [(2, .pv (.bool false))] (¬ cP c) [(1, .ptr 0 0)] (cP c) [.pcells (ct c)] ?_ (fun h r => ?_) (fun h r => ?_)
  · refine loopK_has ?_
    refine iterE_loop (σ := Nat) (fun i => 2 - i) (fun i => [(1, .ptr 0 0), (3, .pv (.int .i64 i))]) (fun _ => [.pcells (ct c)]) (fun i => i ≤ 2 ∧ (0 < i → (c.lm.c = 0 ∨ c.rq.c ≤ c.lm.c)) ∧ (1 < i → (c.lm.m = 0 ∨ c.rq.m ≤ c.lm.m))) (fun i ⟨hi, f0, f1⟩ r => ?_) 0 ⟨by decide, (by omega), (by omega)⟩ ⟨rfl, rfl, trivial⟩ rfl
    refine boolK_dec (fun hc => ?_) (fun hc => ?_)
    · have h3 : i = 0 ∨ i = 1 := by omega
      rcases h3 with rfl | rfl
      all_goals
        (repeat (first | refine hgetK_has _ rfl ?_ | refine needK_has rfl ?_ | refine getK_has rfl ?_))
        (repeat (first | refine hgetK_last ?_ | refine hgetK_set ?_ | refine hgetK_has _ rfl ?_ | refine needK_has rfl ?_ | refine getK_has rfl ?_ | refine secK_has rfl (of_decide_eq_true rfl) ?_ | refine eqK_has ?_))
        refine callPK_has (at_ok c.lm _ (by decide)) ?_
        refine boolK_dec (fun g1 => ?_) (fun g1 => ?_)
        · (repeat (first | refine hgetK_last ?_ | refine hgetK_set ?_ | refine hgetK_has _ rfl ?_ | refine needK_has rfl ?_ | refine getK_has rfl ?_ | refine secK_has rfl (of_decide_eq_true rfl) ?_ | refine eqK_has ?_))
          refine callPK_has (at_ok c.rq _ (by decide)) ?_
          refine boolK_dec (fun g2 => ?_) (fun g2 => ?_)
          · simp only [if_true, if_false, Nat.one_ne_zero] at g1 g2
            refine Has.intro (Has.intro (.inl ⟨rfl, ⟨rfl, trivial⟩, rfl, fun h => ?_⟩))
            have := h.2.2.2.2
            omega
          · simp only [if_true, if_false, Nat.one_ne_zero] at g1 g2
            (repeat (first | refine hgetK_last ?_ | refine hgetK_set ?_ | refine hgetK_has _ rfl ?_ | refine needK_has rfl ?_ | refine getK_has rfl ?_ | refine secK_has rfl (of_decide_eq_true rfl) ?_ | refine eqK_has ?_))
            first
              | exact Has.intro ⟨1, ⟨(by decide), (fun _ => by omega), (by omega)⟩, (by decide), ⟨rfl, rfl, trivial⟩, rfl⟩
              | exact Has.intro ⟨2, ⟨(by decide), (fun _ => f0 (by decide)), (fun _ => by omega)⟩, (by decide), ⟨rfl, rfl, trivial⟩, rfl⟩
        · simp only [if_true, if_false, Nat.one_ne_zero] at g1
          (repeat (first | refine hgetK_last ?_ | refine hgetK_set ?_ | refine hgetK_has _ rfl ?_ | refine needK_has rfl ?_ | refine getK_has rfl ?_ | refine secK_has rfl (of_decide_eq_true rfl) ?_ | refine eqK_has ?_))
          first
            | exact Has.intro ⟨1, ⟨(by decide), (fun _ => by omega), (by omega)⟩, (by decide), ⟨rfl, rfl, trivial⟩, rfl⟩
            | exact Has.intro ⟨2, ⟨(by decide), (fun _ => f0 (by decide)), (fun _ => by omega)⟩, (by decide), ⟨rfl, rfl, trivial⟩, rfl⟩
    · have : i = 2 := by omega
      subst this
      exact Has.intro (Has.intro (.inr ⟨rfl, ⟨rfl, trivial⟩, rfl, h1, h2, h3, h4, f0 (by decide), f1 (by decide)⟩))
  · rw [decide_eq_false h]
    exact Has.intro (Has.intro rfl)
  · rw [decide_eq_true h]
    exact Has.intro (Has.intro rfl)
end Go.Proofs.Ytflfdglnelbbiaa

namespace Go.Proofs.Ytflfdglnelbbiaa
open Go Go.VM

/-- A list of containers, as a slice. -/
def SL (v : AV) (H : Heap) (l : List Ct) : Prop := (∃ x, v = .pv (.sl x l.length (flat ct l))) ∨ (∃ id cap, v = .hs 10 id 0 l.length cap ∧ hget H id = .pcells (flat ct l))
theorem SL.grow {v : AV} {H : Heap} {l : List Ct} (h : SL v H l) (J : Heap) : SL v (H ++ J) l := by
  rcases h with h | ⟨id, cap, h1, h2⟩
  · exact .inl h
  · exact .inr ⟨id, cap, h1, (hget_app J (hget_lt h2 ((by intro h; cases h)))).trans h2⟩
def findF (name : List UInt8) : Nat → List Ct → Int
  | _, [] => -1
  | i, c :: l => if c.name = name then (i : Int) else findF name (i + 1) l
def findI (name : List UInt8) (l : List Ct) : Int := findF name 0 l
theorem findF_step {name : List UInt8} {l : List Ct} {i : Nat} {c : Ct} (h : l[i]? = some c) : findF name i (l.drop i) = if c.name = name then (i : Int) else findF name (i + 1) (l.drop (i + 1)) := by
  rw [drop_of h]; rfl
theorem str_beq (a b : List UInt8) : ((⟨a.toArray⟩ : ByteArray).toList == (⟨b.toArray⟩ : ByteArray).toList) = decide (a = b) := by
  rw [Bool.eq_iff_iff]; simp
theorem at10 (i : Nat) : addO 0 (mulE ((i : Nat) : Int).toNat 10) = i * 10 := by
  show mulE i 10 = _
  rw [mulE_eq]
theorem is_ok (c : Ct) (name : List UInt8) (q : Nat) (H : Heap) (hq : hget H q = .pcells [sv name]) :
    EE env (.fn 81) [.pv (.agg (ct c)), .ptr q 0] H = some (.pv (.bool (decide (c.name = name))), H ++ [.pcells (ct c)]) := by
  refine Has.eq (EE_has ?_)
  (repeat (first | refine hgetK_last ?_ | refine hgetK_set ?_ | refine needK_has rfl ?_ | refine getK_has rfl ?_ | refine secK_has rfl (of_decide_eq_true rfl) ?_ | refine eqK_has ?_))
  refine hgetK_has _ ((hget_app _ (hget_lt hq ((by intro h; cases h)))).trans hq) ?_
  refine getK_has rfl ?_
  refine boolK_has_eq (c := decide (c.name = name)) ?_ ?_
  · exact str_beq c.name name
  exact Has.intro rfl
set_option maxHeartbeats 1000000 in
theorem index_ok (v : AV) (l : List Ct) (hl : l.length ≤ maxLen) (name : List UInt8) (q : Nat) (H : Heap) (hv : SL v H l) (hq : hget H q = .pcells [sv name]) :
    Has (EE env (.fn 80) [v, .fn 81 [] [.ptr q 0]] H) (fun y => y.1 = .pv (.int .i64 (findI name l)) ∧ ∃ J, y.2 = H ++ J) := by
  rw [maxLen_eq] at hl
  refine EE_has ?_
  rcases id hv with ⟨x, rfl⟩ | ⟨id, cap, rfl, hid⟩
  · skip
    refine loopK_has ?_
    refine iterE_loopJ (σ := Nat) (fun i => l.length - i) (fun i => [(0, .pv (.sl x l.length (flat ct l))), (1, .fn 81 [] [.ptr q 0]), (6, .pv (.sl x l.length (flat ct l))), (7, .pv (.int .i64 l.length)), (8, .pv (.int .i64 i))]) (fun _ => H) (fun i => i ≤ l.length ∧ findI name l = findF name i (l.drop i)) (fun i ⟨hi, he⟩ r J => ?_) 0 ⟨Nat.zero_le _, rfl⟩ [] ⟨rfl, rfl, rfl, rfl, rfl, trivial⟩ (List.append_nil _).symm
    refine boolK_dec (fun hc => ?_) (fun hc => ?_)
    · have hlt : i < l.length := by omega
      obtain ⟨c, hcg⟩ : ∃ c, l[i]? = some c := ⟨_, List.getElem?_eq_getElem hlt⟩
      obtain ⟨g1, g2⟩ := flat_get ct_len hcg
      rw [findF_step hcg] at he
      have hq' := (hget_app J (hget_lt hq ((by intro h; cases h)))).trans hq
      refine needK_has (by (first | rfl | (simp; done) | (simp; omega))) ?_
      refine secK_has g1 g2 ?_
      refine callSK_has (is_ok c name q _ hq') ?_
      by_cases hn : c.name = name
      · rw [decide_eq_true hn]
        rw [if_pos hn] at he
        refine Has.intro (Has.intro ⟨?_, _, List.append_assoc _ _ _⟩)
        rw [he]; rfl
      · rw [decide_eq_false hn]
        rw [if_neg hn] at he
        refine eqK_has_eq _ (i64_succ (by omega)) ?_
        exact Has.intro ⟨i + 1, ⟨hlt, he⟩, by omega, ⟨rfl, rfl, rfl, rfl, rfl, trivial⟩, _, List.append_assoc _ _ _⟩
    · have : i = l.length := by omega
      subst this
      rw [List.drop_length] at he
      refine Has.intro (Has.intro ⟨?_, J, rfl⟩)
      rw [he]; rfl
  · skip
    refine loopK_has ?_
    refine iterE_loopJ (σ := Nat) (fun i => l.length - i) (fun i => [(0, .hs 10 id 0 l.length cap), (1, .fn 81 [] [.ptr q 0]), (6, .hs 10 id 0 l.length cap), (7, .pv (.int .i64 l.length)), (8, .pv (.int .i64 i))]) (fun _ => H) (fun i => i ≤ l.length ∧ findI name l = findF name i (l.drop i)) (fun i ⟨hi, he⟩ r J => ?_) 0 ⟨Nat.zero_le _, rfl⟩ [] ⟨rfl, rfl, rfl, rfl, rfl, trivial⟩ (List.append_nil _).symm
    refine boolK_dec (fun hc => ?_) (fun hc => ?_)
    · have hlt : i < l.length := by omega
      obtain ⟨c, hcg⟩ : ∃ c, l[i]? = some c := ⟨_, List.getElem?_eq_getElem hlt⟩
      obtain ⟨g1, g2⟩ := flat_get ct_len hcg
      rw [findF_step hcg] at he
      have hq' := (hget_app J (hget_lt hq ((by intro h; cases h)))).trans hq
      refine needK_has (by (first | rfl | (simp; done) | (simp; omega))) ?_
      refine hgetK_has _ ((hget_app J (hget_lt hid ((by intro h; cases h)))).trans hid) ?_
      refine secK_has (v := ct c) (by rw [at10]; exact g1) (by rw [at10]; exact g2) ?_
      refine callSK_has (is_ok c name q _ hq') ?_
      by_cases hn : c.name = name
      · rw [decide_eq_true hn]
        rw [if_pos hn] at he
        refine Has.intro (Has.intro ⟨?_, _, List.append_assoc _ _ _⟩)
        rw [he]; rfl
      · rw [decide_eq_false hn]
        rw [if_neg hn] at he
        refine eqK_has_eq _ (i64_succ (by omega)) ?_
        exact Has.intro ⟨i + 1, ⟨hlt, he⟩, by omega, ⟨rfl, rfl, rfl, rfl, rfl, trivial⟩, _, List.append_assoc _ _ _⟩
    · have : i = l.length := by omega
      subst this
      rw [List.drop_length] at he
      refine Has.intro (Has.intro ⟨?_, J, rfl⟩)
      rw [he]; rfl
end Go.Proofs.Ytflfdglnelbbiaa

namespace Go.Proofs.Ytflfdglnelbbiaa
open Go Go.VM

structure Pd where
  name : List UInt8
  prio : Int
  pol : Int
  l : List Ct
def pdc (p : Pd) (x : Ext) : List PV := [sv p.name, .int .i64 p.prio, .int .i64 p.pol, .sl x p.l.length (flat ct p.l)]
/-- A pod, as a value. -/
def PA (u : AV) (_ : Heap) (p : Pd) : Prop := (∃ x, u = .pv (.agg (pdc p x))) ∨ False
theorem PA.grow {u : AV} {H : Heap} {p : Pd} (h : PA u H p) (J : Heap) : PA u (H ++ J) p := by
  exact h
def foundB (n : Int) : PV := .tup [.int .i64 (if 0 > n then 0 else n), .bool (decide (n ≥ 0))]
set_option maxHeartbeats 1000000 in
theorem find_ok (u : AV) (p : Pd) (hl : p.l.length ≤ maxLen) (name : List UInt8) (H : Heap) (hu : PA u H p) :
    Has (EE env (.fn 71) [u, .pv (sv name)] H) (fun y => y.1 = .pv (foundB (findI name p.l)) ∧ ∃ J, y.2 = H ++ J) := by
  refine EE_has ?_
  rcases id hu with ⟨x, rfl⟩ | hid
  · refine hgetK_has (.pcells (pdc p x)) ((hget_app _ (by simp)).trans (hget_append_same H _)) ?_
    refine getK_has rfl ?_
    refine callSK_has' ((index_ok _ p.l hl name (H ++ [HObj.pcells (pdc p x)]).length ((H ++ [HObj.pcells (pdc p x)]) ++ [HObj.pcells [sv name]]) (.inl ⟨x, rfl⟩) (hget_append_same _ _)).mono fun y hy => ?_)
    obtain ⟨v, H'⟩ := y
    obtain ⟨rfl, J, rfl⟩ := hy
    (repeat (first | refine hgetK_last ?_ | refine hgetK_set ?_ | refine needK_has rfl ?_ | refine getK_has rfl ?_ | refine secK_has rfl (of_decide_eq_true rfl) ?_ | refine eqK_has ?_))
    refine boolK_has_keep ?_
    refine Has.intro ⟨rfl, [HObj.pcells (pdc p x)] ++ [HObj.pcells [sv name]] ++ J, by simp⟩
  · exact hid.elim
end Go.Proofs.Ytflfdglnelbbiaa

namespace Go.Proofs.Ytflfdglnelbbiaa
open Go Go.VM

def sumF (acc : Vc) : List Vc → Option Vc
  | [] => some acc
  | v :: l => match addV acc v with
    | some s => sumF s l
    | none => none
def sumV (l : List Vc) : Option Vc := sumF v0 l
theorem vc_len (v : Vc) : (vc v).length = 3 := rfl
theorem sumF_step {acc : Vc} {l : List Vc} {i : Nat} {v : Vc} (h : l[i]? = some v) : sumF acc (l.drop i) = match addV acc v with
    | some s => sumF s (l.drop (i + 1))
    | none => none := by rw [drop_of h]; rfl
theorem sumV_none {l : List Vc} {acc : Vc} {v : Vc} {i : Nat} (h : sumV l = sumF acc (l.drop i)) (hg : l[i]? = some v) (ha : addV acc v = none) : sumV l = none := by
  rw [h, sumF_step hg, ha]
theorem sumV_some {l : List Vc} {acc : Vc} {v s : Vc} {i : Nat} (h : sumV l = sumF acc (l.drop i)) (hg : l[i]? = some v) (ha : addV acc v = some s) : sumV l = sumF s (l.drop (i + 1)) := by
  rw [h, sumF_step hg, ha]
def zc3 : List PV := [.int .i64 0, .int .i64 0, .int .i64 0]
set_option maxHeartbeats 1000000 in
theorem sum_ok (x : Ext) (l : List Vc) (hl : l.length ≤ maxLen) : EP (EE env) 91 [.sl x l.length (flat vc l)] = some (pairV (sumV l)) := by
  rw [maxLen_eq] at hl
  refine Has.eq (EP_has ?_)
  refine loopK_has ?_
  refine iterE_loop (σ := Nat × Vc × Heap) (fun s => l.length - s.1) (fun s => [(2, .ptr 0 0), (4, .ptr 1 0), (9, .pv (.sl x l.length (flat vc l))), (10, .pv (.int .i64 l.length)), (11, .pv (.int .i64 s.1))]) (fun s => s.2.2) (fun s => s.1 ≤ l.length ∧ sumV l = sumF s.2.1 (l.drop s.1) ∧ hget s.2.2 0 = z3 ∧ hget s.2.2 1 = .pcells (vc s.2.1)) (fun ⟨i, acc, G⟩ ⟨hi, he, h0, h1⟩ r => ?_) (0, v0, [z3, z3]) ⟨Nat.zero_le _, rfl, rfl, rfl⟩ ⟨rfl, rfl, rfl, rfl, rfl, trivial⟩ rfl
  dsimp only at hi he h0 h1 ⊢
  refine boolK_dec (fun hc => ?_) (fun hc => ?_)
  · have hlt : i < l.length := by omega
    obtain ⟨v, hcg⟩ : ∃ c, l[i]? = some c := ⟨_, List.getElem?_eq_getElem hlt⟩
    obtain ⟨g1, g2⟩ := flat_get vc_len hcg
    refine needK_has (by (first | rfl | (simp; done) | (simp; omega))) ?_
    refine secK_has g1 g2 ?_
    refine hgetK_last ?_
    refine needK_has rfl ?_
    refine eqK_has_eq (vc v) rfl ?_
    have h0 := keep2 (.pcells ([PV.int IntKind.i64 0, PV.int IntKind.i64 0, PV.int IntKind.i64 0])) (.pcells (vc v)) h0 ((by intro h; cases h))
    have h1 := keep2 (.pcells ([PV.int IntKind.i64 0, PV.int IntKind.i64 0, PV.int IntKind.i64 0])) (.pcells (vc v)) h1 ((by intro h; cases h))
    have h6 := hget_hset_same (H := G ++ [HObj.pcells ([PV.int IntKind.i64 0, PV.int IntKind.i64 0, PV.int IntKind.i64 0])]) (id := G.length) (.pcells (vc v)) (by simp)
    refine hgetK_has _ h1 ?_
    refine secK_has (v := vc acc) rfl (Nat.le_refl _) ?_
    refine hgetK_has _ h6 ?_
    refine secK_has (v := vc v) rfl (Nat.le_refl _) ?_
    generalize hset (G ++ [HObj.pcells ([PV.int IntKind.i64 0, PV.int IntKind.i64 0, PV.int IntKind.i64 0])]) G.length (.pcells (vc v)) = G at *
    refine callPK_has (add2_ok acc v) ?_
    cases ha : addV acc v with
    | some s =>
      refine hgetK_last ?_
      refine needK_has rfl ?_
      refine eqK_has_eq (vc s) rfl ?_
      have h0 := keep2 (.pcells ([PV.int IntKind.i64 0, PV.int IntKind.i64 0, PV.int IntKind.i64 0])) (.pcells (vc s)) h0 ((by intro h; cases h))
      have h1 := keep2 (.pcells ([PV.int IntKind.i64 0, PV.int IntKind.i64 0, PV.int IntKind.i64 0])) (.pcells (vc s)) h1 ((by intro h; cases h))
      have h6 := hget_hset_same (H := G ++ [HObj.pcells ([PV.int IntKind.i64 0, PV.int IntKind.i64 0, PV.int IntKind.i64 0])]) (id := G.length) (.pcells (vc s)) (by simp)
      refine hgetK_has _ h6 ?_
      refine secK_has (v := vc s) rfl (Nat.le_refl _) ?_
      refine hgetK_has _ h1 ?_
      refine needK_has rfl ?_
      refine eqK_has_eq (vc s) rfl ?_
      refine eqK_has_eq _ (i64_succ (by omega)) ?_
      exact Has.intro ⟨(i + 1, s, _), ⟨hlt, sumV_some he hcg ha, (hget_hset_ne _ _ (by decide)).trans h0, hget_hset_same _ (hget_lt h1 ((by intro h; cases h)))⟩, by dsimp only; omega, ⟨rfl, rfl, rfl, rfl, rfl, trivial⟩, rfl⟩
    | none =>
      refine hgetK_last ?_
      refine needK_has rfl ?_
      refine eqK_has_eq ([PV.int IntKind.i64 0, PV.int IntKind.i64 0, PV.int IntKind.i64 0]) rfl ?_
      have h0 := keep2 (.pcells ([PV.int IntKind.i64 0, PV.int IntKind.i64 0, PV.int IntKind.i64 0])) (.pcells ([PV.int IntKind.i64 0, PV.int IntKind.i64 0, PV.int IntKind.i64 0])) h0 ((by intro h; cases h))
      refine hgetK_has _ h0 ?_
      refine needK_has rfl ?_
      refine eqK_has_eq ([PV.int IntKind.i64 0, PV.int IntKind.i64 0, PV.int IntKind.i64 0]) rfl ?_
      refine Has.intro ?_
      refine hgetK_has (.pcells ([PV.int IntKind.i64 0, PV.int IntKind.i64 0, PV.int IntKind.i64 0])) (hget_hset_same _ (hget_lt h0 ((by intro h; cases h)))) ?_
      refine secK_has (v := ([PV.int IntKind.i64 0, PV.int IntKind.i64 0, PV.int IntKind.i64 0])) rfl (Nat.le_refl _) ?_
      refine Has.intro (Has.intro ?_)
      rw [sumV_none he hcg ha]; rfl
  · have : i = l.length := by omega
    subst this
    rw [List.drop_length] at he
    refine Has.intro ?_
    refine hgetK_has _ h1 ?_
    refine secK_has (v := vc acc) rfl (Nat.le_refl _) ?_
    refine hgetK_has _ h0 ?_
    refine needK_has rfl ?_
    refine eqK_has_eq (vc acc) rfl ?_
    refine hgetK_has (.pcells (vc acc)) (hget_hset_same _ (hget_lt h0 ((by intro h; cases h)))) ?_
    refine secK_has (v := vc acc) rfl (Nat.le_refl _) ?_
    refine Has.intro (Has.intro ?_)
    rw [he]; rfl
end Go.Proofs.Ytflfdglnelbbiaa

namespace Go.Proofs.Ytflfdglnelbbiaa
open Go Go.VM

def rqs (l : List Ct) : List Vc := l.map Ct.rq
def lms (l : List Ct) : List Vc := l.map Ct.lm
theorem map_take {α β : Type} {f : α → β} {l : List α} {i : Nat} {c : α} (h : l[i]? = some c) : (l.map f).take (i + 1) = (l.map f).take i ++ [f c] := by
  rw [List.take_add_one]; congr 1; simp [h]
/-- Two lists that grow side by side. -/
def Two (G : Heap) (l : List Ct) (i : Nat) (v w : AV) : Prop :=
  AppV G v .nil 3 i (flat vc ((rqs l).take i)) ∧ AppV G w .nil 3 i (flat vc ((lms l).take i)) ∧ (tokOf w = none ∨ tokOf w ≠ tokOf v) ∧ (tokOf v = none ∨ tokOf v ≠ tokOf w)
def sum3 (l : List Ct) : PV := .tup [.agg (vc ((sumV (rqs l)).getD v0)), .agg (vc ((sumV (lms l)).getD v0)), .bool ((sumV (rqs l)).isSome && (sumV (lms l)).isSome)]
theorem AppV.tok {G : Heap} {v : AV} {e : Ext} {es n : Nat} {cs : List PV} (h : AppV G v e es n cs) (t : Nat) (ht : tokOf v = some t) : t < G.length := by
  rcases h with ⟨_, _, rfl, _⟩ | ⟨_, _, t', rfl, h⟩
  · cases ht
  · cases ht
    exact hget_lt h ((by intro h; cases h))
theorem Two.zero (G : Heap) (l : List Ct) : Two G l 0 (.pv (.sl .nil 0 [])) (.pv (.sl .nil 0 [])) := ⟨AppV.new rfl, AppV.new rfl, .inl rfl, .inl rfl⟩
theorem Two.box {G : Heap} {l : List Ct} {i : Nat} {v w : AV} (h : Two G l i v w) (z o' : HObj) (hz : ∀ n es, z ≠ .tok n es) : Two (hset (G ++ [z]) G.length o') l i v w :=
  ⟨AppV_put (AppV_grow h.1 [z]) o' (hget_append_same G z) hz, AppV_put (AppV_grow h.2.1 [z]) o' (hget_append_same G z) hz, h.2.2⟩
theorem two_first {G G' : Heap} {l : List Ct} {i : Nat} {v w v' : AV} (h : Two G l i v w) {c : Ct} (hc : l[i]? = some c) (hv : AppV G' v' .nil 3 (i + 1) (flat vc ((rqs l).take i) ++ vc c.rq)) (hf : Fr v G G') (ht : tokOf v' = tokOf v ∨ tokOf v' = some G.length) :
    AppV G' v' .nil 3 (i + 1) (flat vc ((rqs l).take (i + 1))) ∧ AppV G' w .nil 3 i (flat vc ((lms l).take i)) ∧ (tokOf w = none ∨ tokOf w ≠ tokOf v') := by
  obtain ⟨h1, h2, h3, h4⟩ := h
  refine ⟨?_, AppV.keep h2 hf h3, ?_⟩
  · unfold rqs at hv ⊢
    rw [map_take hc, ← flat_snoc]; exact hv
  · cases hw : tokOf w with
    | none => exact .inl rfl
    | some t =>
      refine .inr ?_
      rcases ht with ht | ht
      · rw [ht, ← hw]
        rcases h3 with h3 | h3
        · rw [h3] at hw; cases hw
        · exact h3
      · rw [ht]
        have := AppV.tok h2 t hw
        intro e; injection e with e; omega
theorem two_second {G G' : Heap} {l : List Ct} {i : Nat} {v w w' : AV} (h1 : AppV G v .nil 3 (i + 1) (flat vc ((rqs l).take (i + 1)))) (h2 : AppV G w .nil 3 i (flat vc ((lms l).take i))) (h3 : tokOf w = none ∨ tokOf w ≠ tokOf v) {c : Ct} (hc : l[i]? = some c)
    (hw : AppV G' w' .nil 3 (i + 1) (flat vc ((lms l).take i) ++ vc c.lm)) (hf : Fr w G G') (ht : tokOf w' = tokOf w ∨ tokOf w' = some G.length) : Two G' l (i + 1) v w' := by
  have hvw : tokOf v = none ∨ tokOf v ≠ tokOf w := by
    cases hv : tokOf v with
    | none => exact .inl rfl
    | some t =>
      refine .inr fun e => ?_
      rcases h3 with h3 | h3
      · rw [h3] at e; cases e
      · exact h3 (e.symm.trans hv.symm)
  have hne : tokOf v ≠ none → tokOf w' ≠ tokOf v := fun hn => by
    cases hv : tokOf v with
    | none => exact absurd hv hn
    | some t =>
      rcases ht with ht | ht
      · rw [ht]
        rcases hvw with h | h
        · exact absurd h hn
        · rw [← hv]; exact fun e => h e.symm
      · rw [ht]
        have := AppV.tok h1 t hv
        intro e; injection e with e; omega
  refine ⟨AppV.keep h1 hf hvw, ?_, ?_, ?_⟩
  · unfold lms at hw ⊢
    rw [map_take hc, ← flat_snoc]; exact hw
  · cases hw' : tokOf w' with
    | none => exact .inl rfl
    | some t =>
      refine .inr fun e => ?_
      exact hne (by rw [← e]; simp) (hw'.trans e)
  · cases hv : tokOf v with
    | none => exact .inl rfl
    | some t =>
      refine .inr fun e => ?_
      exact hne (by rw [hv]; simp) (e.symm.trans hv.symm)
/-- The two forms of a list that grows. -/
theorem AppV.forms {G : Heap} {v : AV} {n : Nat} {cs : List PV} (h : AppV G v .nil 3 n cs) : (n = 0 ∧ v = .pv (.sl .nil 0 [])) ∨ (∃ t, v = .tsl t n cs) := by
  rcases h with ⟨h1, _, h3, _⟩ | ⟨_, _, t, h, _⟩
  · exact .inl ⟨h1, h3⟩
  · exact .inr ⟨t, h⟩
end Go.Proofs.Ytflfdglnelbbiaa

namespace Go.Proofs.Ytflfdglnelbbiaa
open Go Go.VM

/-- All that is no token stays. -/
def Kp (H H' : Heap) : Prop := H.length ≤ H'.length ∧ ∀ i o, hget H i = o → o ≠ .dead → (∀ n es, o ≠ .tok n es) → hget H' i = o
theorem Kp.refl (H : Heap) : Kp H H := ⟨Nat.le_refl _, fun _ _ h _ _ => h⟩
theorem Kp.trans {A B C : Heap} (h1 : Kp A B) (h2 : Kp B C) : Kp A C := ⟨Nat.le_trans h1.1 h2.1, fun i o h hd ht => h2.2 i o (h1.2 i o h hd ht) hd ht⟩
theorem Kp.app (H J : Heap) : Kp H (H ++ J) := ⟨by simp, fun i o h hd _ => (hget_app J (hget_lt h hd)).trans h⟩
theorem Kp.box (H : Heap) (z o' : HObj) : Kp H (hset (H ++ [z]) H.length o') := ⟨by rw [hset_len]; simp, fun i o h hd _ => keep2 z o' h hd⟩
theorem Kp.set {A B : Heap} (h : Kp A B) {i : Nat} (o' : HObj) (hi : A.length ≤ i) : Kp A (hset B i o') :=
  ⟨by rw [hset_len]; exact h.1, fun j o hj hd ht => (hget_hset_ne _ _ (by have := hget_lt hj hd; omega)).trans (h.2 j o hj hd ht)⟩
theorem Kp.fr {H H' : Heap} {v : AV} {e : Ext} {es n : Nat} {cs : List PV} (hv : AppV H v e es n cs) (hf : Fr v H H') : Kp H H' := ⟨hf.1, fun _ _ h hd ht => Fr.obj hv hf h hd ht⟩
theorem Kp.pa {H H' : Heap} (h : Kp H H') {u : AV} {p : Pd} (hu : PA u H p) : PA u H' p := by
  exact hu
theorem forceK_has {R : Type} {Q : R → Prop} {v : AV} {F : AV → Option R} (h : Has (F v) Q) : Has (forceK v F) Q := by rw [forceK_def]; exact h
theorem AppV.form1 {G : Heap} {v : AV} {n : Nat} {cs : List PV} (h : AppV G v .nil 3 (n + 1) cs) : ∃ t, v = .tsl t (n + 1) cs := by
  rcases AppV.forms h with ⟨h, _⟩ | h
  · exact absurd h (Nat.succ_ne_zero n)
  · exact h
set_option maxHeartbeats 4000000 in
theorem sums_plain (x : Ext) (p : Pd) (hl : p.l.length ≤ 1000) (H : Heap) :
    Has (EE env (.fn 86) [.pv (.agg (pdc p x))] H) (fun y => y.1 = .pv (sum3 p.l) ∧ Kp H y.2) := by
  refine EE_has ?_
  refine hgetK_has (.pcells (pdc p x)) ((hget_app _ (by simp)).trans ((hget_app _ (by simp)).trans (hget_append_same H _))) ?_
  refine getK_has rfl ?_
  refine loopK_has ?_
  refine iterE_loop (σ := Nat × AV × AV × Heap) (fun s => p.l.length - s.1) (fun s => [(2, .ptr (H.length + 1) 0), (3, .ptr (H.length + 2) 0), (5, s.2.1), (6, s.2.2.1), (14, .pv (.sl x p.l.length (flat ct p.l))), (15, .pv (.int .i64 p.l.length)), (16, .pv (.int .i64 s.1))]) (fun s => s.2.2.2)
    (fun s => s.1 ≤ p.l.length ∧ Two s.2.2.2 p.l s.1 s.2.1 s.2.2.1 ∧ hget s.2.2.2 (H.length + 1) = z3 ∧ hget s.2.2.2 (H.length + 2) = z3 ∧ Kp H s.2.2.2) (fun ⟨i, v, w, G⟩ ⟨hi, hT, k2, k3, hK⟩ r => ?_)
    (0, .pv (.sl .nil 0 []), .pv (.sl .nil 0 []), _) ⟨Nat.zero_le _, Two.zero _ _, ?_, ?_, ?_⟩ ⟨?_, ?_, rfl, rfl, rfl, rfl, rfl, trivial⟩ rfl
  · dsimp only at hi hT k2 k3 hK ⊢
    refine boolK_dec (fun hc => ?_) (fun hc => ?_)
    · have hlt : i < p.l.length := by omega
      obtain ⟨c, hcg⟩ : ∃ c, p.l[i]? = some c := ⟨_, List.getElem?_eq_getElem hlt⟩
      obtain ⟨g1, g2⟩ := flat_get ct_len hcg
      refine needK_has (by (first | rfl | (simp; done) | (simp; omega))) ?_
      refine secK_has g1 g2 ?_
      refine hgetK_last ?_
      refine needK_has rfl ?_
      refine eqK_has_eq (ct c) rfl ?_
      have hT := Two.box hT (.pcells ([PV.str ⟨#[]⟩, PV.int IntKind.i64 0, PV.int IntKind.i64 0, PV.int IntKind.i64 0, PV.int IntKind.i64 0, PV.int IntKind.i64 0, PV.int IntKind.i64 0, PV.bool false, PV.bool false, PV.bool false])) (.pcells (ct c)) ((fun _ _ h => by cases h))
      have k8 := hget_hset_same (H := G ++ [HObj.pcells ([PV.str ⟨#[]⟩, PV.int IntKind.i64 0, PV.int IntKind.i64 0, PV.int IntKind.i64 0, PV.int IntKind.i64 0, PV.int IntKind.i64 0, PV.int IntKind.i64 0, PV.bool false, PV.bool false, PV.bool false])]) (id := G.length) (.pcells (ct c)) (by simp)
      have k2 := keep2 (.pcells ([PV.str ⟨#[]⟩, PV.int IntKind.i64 0, PV.int IntKind.i64 0, PV.int IntKind.i64 0, PV.int IntKind.i64 0, PV.int IntKind.i64 0, PV.int IntKind.i64 0, PV.bool false, PV.bool false, PV.bool false])) (.pcells (ct c)) k2 ((by intro h; cases h))
      have k3 := keep2 (.pcells ([PV.str ⟨#[]⟩, PV.int IntKind.i64 0, PV.int IntKind.i64 0, PV.int IntKind.i64 0, PV.int IntKind.i64 0, PV.int IntKind.i64 0, PV.int IntKind.i64 0, PV.bool false, PV.bool false, PV.bool false])) (.pcells (ct c)) k3 ((by intro h; cases h))
      have hK := hK.trans (Kp.box G (.pcells ([PV.str ⟨#[]⟩, PV.int IntKind.i64 0, PV.int IntKind.i64 0, PV.int IntKind.i64 0, PV.int IntKind.i64 0, PV.int IntKind.i64 0, PV.int IntKind.i64 0, PV.bool false, PV.bool false, PV.bool false])) (.pcells (ct c)))
      generalize hset (G ++ [HObj.pcells ([PV.str ⟨#[]⟩, PV.int IntKind.i64 0, PV.int IntKind.i64 0, PV.int IntKind.i64 0, PV.int IntKind.i64 0, PV.int IntKind.i64 0, PV.int IntKind.i64 0, PV.bool false, PV.bool false, PV.bool false])]) G.length (.pcells (ct c)) = G at *
      rcases AppV.forms hT.1 with ⟨hz, rfl⟩ | ⟨t, rfl⟩
      all_goals
       rcases AppV.forms hT.2.1 with ⟨hz2, rfl⟩ | ⟨t2, rfl⟩
      all_goals
       refine hgetK_has _ k8 ?_
       refine secK_has (v := vc c.rq) rfl (of_decide_eq_true rfl) ?_
       refine app_has (m := 1) (new := vc c.rq) hT.1 rfl (by show (i + 1) * 24 ≤ 140737488355328; omega) (fun v' G1 hv' hf ht => ?_)
       obtain ⟨a1, a2, a3⟩ := two_first hT hcg hv' hf ht
       have kf := Kp.fr hT.1 hf
       have k8a := kf.2 _ _ k8 ((by intro h; cases h)) ((fun _ _ h => by cases h))
       obtain ⟨tv, rfl⟩ := AppV.form1 hv'
       refine hgetK_has _ k8a ?_
       refine secK_has (v := vc c.lm) rfl (of_decide_eq_true rfl) ?_
       refine app_has (m := 1) (new := vc c.lm) a2 rfl (by show (i + 1) * 24 ≤ 140737488355328; omega) (fun w' G2 hw' hf2 ht2 => ?_)
       have hT2 := two_second a1 a2 a3 hcg hw' hf2 ht2
       have kf2 := Kp.fr a2 hf2
       obtain ⟨tw, rfl⟩ := AppV.form1 hw'
       refine sameK_has ?_ ?_ ?_
       · rw [k8, k8a]
       · first | (rw [k8]; rfl) | (rw [k8a]; rfl)
       refine eqK_has_eq _ (i64_succ (by omega)) ?_
       exact Has.intro ⟨(i + 1, _, _, G2), ⟨hlt, hT2, kf2.2 _ _ (kf.2 _ _ k2 ((by intro h; cases h)) ((fun _ _ h => by cases h))) ((by intro h; cases h)) ((fun _ _ h => by cases h)), kf2.2 _ _ (kf.2 _ _ k3 ((by intro h; cases h)) ((fun _ _ h => by cases h))) ((by intro h; cases h)) ((fun _ _ h => by cases h)), (hK.trans kf).trans kf2⟩, (by dsimp only; omega), ⟨rfl, rfl, rfl, rfl, rfl, rfl, rfl, trivial⟩, rfl⟩
    · have : i = p.l.length := by omega
      subst this
      refine Has.intro ?_
      have s1 : ∀ x', EP (EE env) 91 [.sl x' p.l.length (flat vc ((rqs p.l).take p.l.length))] = some (pairV (sumV (rqs p.l))) := fun x' => by
        have e : (rqs p.l).length = p.l.length := by simp [rqs]
        have := sum_ok x' (rqs p.l) (by rw [maxLen_eq]; omega)
        rw [← e, List.take_length]; exact this
      have s2 : ∀ x', EP (EE env) 91 [.sl x' p.l.length (flat vc ((lms p.l).take p.l.length))] = some (pairV (sumV (lms p.l))) := fun x' => by
        have e : (lms p.l).length = p.l.length := by simp [lms]
        have := sum_ok x' (lms p.l) (by rw [maxLen_eq]; omega)
        rw [← e, List.take_length]; exact this
      have s10 : p.l.length = 0 → EP (EE env) 91 [.sl .nil 0 []] = some (pairV (sumV (rqs p.l))) := fun h => by have := s1 .nil; rw [h] at this; exact this
      have s20 : p.l.length = 0 → EP (EE env) 91 [.sl .nil 0 []] = some (pairV (sumV (lms p.l))) := fun h => by have := s2 .nil; rw [h] at this; exact this
      have hsum : sum3 p.l = .tup [.agg (vc ((sumV (rqs p.l)).getD v0)), .agg (vc ((sumV (lms p.l)).getD v0)), .bool ((sumV (rqs p.l)).isSome && (sumV (lms p.l)).isSome)] := rfl
      rw [hsum]
      generalize sumV (rqs p.l) = o1 at *
      generalize sumV (lms p.l) = o2 at *
      have hpa : ∀ o, pairV o = .tup [.agg (vc (o.getD v0)), .bool o.isSome] := fun o => by cases o <;> rfl
      rw [hpa] at s1 s2 s10 s20
      rcases AppV.forms hT.1 with ⟨hz, rfl⟩ | ⟨t, rfl⟩
      all_goals
       rcases AppV.forms hT.2.1 with ⟨hz2, rfl⟩ | ⟨t2, rfl⟩
      all_goals
       first
         | refine callPK_has (s10 hz) ?_
         | refine callPK_has (s1 .nn) ?_
       refine hgetK_last ?_
       refine needK_has rfl ?_
       refine eqK_has_eq (vc (o1.getD v0)) rfl ?_
       have k9 := hget_hset_same (H := G ++ [HObj.pcells ([PV.int IntKind.i64 0, PV.int IntKind.i64 0, PV.int IntKind.i64 0])]) (id := G.length) (.pcells (vc (o1.getD v0))) (by simp)
       have k2 := keep2 (.pcells ([PV.int IntKind.i64 0, PV.int IntKind.i64 0, PV.int IntKind.i64 0])) (.pcells (vc (o1.getD v0))) k2 ((by intro h; cases h))
       have k3 := keep2 (.pcells ([PV.int IntKind.i64 0, PV.int IntKind.i64 0, PV.int IntKind.i64 0])) (.pcells (vc (o1.getD v0))) k3 ((by intro h; cases h))
       have hK := hK.trans (Kp.box G (.pcells ([PV.int IntKind.i64 0, PV.int IntKind.i64 0, PV.int IntKind.i64 0])) (.pcells (vc (o1.getD v0))))
       generalize hset (G ++ [HObj.pcells ([PV.int IntKind.i64 0, PV.int IntKind.i64 0, PV.int IntKind.i64 0])]) G.length (.pcells (vc (o1.getD v0))) = G at *
       first
         | refine callPK_has (s20 hz2) ?_
         | refine callPK_has (s2 .nn) ?_
       refine hgetK_last ?_
       refine needK_has rfl ?_
       refine eqK_has_eq (vc (o2.getD v0)) rfl ?_
       have hn11 : H.length + 2 < G.length := hget_lt k3 ((by intro h; cases h))
       have k11 := hget_hset_same (H := G ++ [HObj.pcells ([PV.int IntKind.i64 0, PV.int IntKind.i64 0, PV.int IntKind.i64 0])]) (id := G.length) (.pcells (vc (o2.getD v0))) (by simp)
       have k9 := keep2 (.pcells ([PV.int IntKind.i64 0, PV.int IntKind.i64 0, PV.int IntKind.i64 0])) (.pcells (vc (o2.getD v0))) k9 ((by intro h; cases h))
       have k2 := keep2 (.pcells ([PV.int IntKind.i64 0, PV.int IntKind.i64 0, PV.int IntKind.i64 0])) (.pcells (vc (o2.getD v0))) k2 ((by intro h; cases h))
       have k3 := keep2 (.pcells ([PV.int IntKind.i64 0, PV.int IntKind.i64 0, PV.int IntKind.i64 0])) (.pcells (vc (o2.getD v0))) k3 ((by intro h; cases h))
       have hK := hK.trans (Kp.box G (.pcells ([PV.int IntKind.i64 0, PV.int IntKind.i64 0, PV.int IntKind.i64 0])) (.pcells (vc (o2.getD v0))))
       generalize hset (G ++ [HObj.pcells ([PV.int IntKind.i64 0, PV.int IntKind.i64 0, PV.int IntKind.i64 0])]) G.length (.pcells (vc (o2.getD v0))) = G at *
       refine hgetK_has _ k9 ?_
       refine secK_has (v := vc (o1.getD v0)) rfl (of_decide_eq_true rfl) ?_
       refine hgetK_has _ k11 ?_
       refine secK_has (v := vc (o2.getD v0)) rfl (of_decide_eq_true rfl) ?_
       have l2 : H.length + 1 < G.length := hget_lt k2 ((by intro h; cases h))
       have l11 := hget_lt k11 ((by intro h; cases h))
       cases o1
       all_goals
        cases o2
       all_goals
        refine hgetK_has _ k2 ?_
        refine needK_has rfl ?_
        refine eqK_has ?_
        refine hgetK_has _ ((hget_hset_ne _ _ (by omega)).trans k3) ?_
        refine needK_has rfl ?_
        refine eqK_has ?_
        refine sameK_has ?_ ?_ ?_
        · first
            | (rw [k11, hget_hset_ne _ _ (by omega), k11])
            | (rw [hget_hset_ne _ _ (by omega), k11])
        · first | (rw [k11]; rfl) | (rw [hget_hset_ne _ _ (by omega), k11]; rfl)
        refine hgetK_has _ ((hget_hset_ne _ _ (by omega)).trans (hget_hset_same _ l2)) ?_
        refine secK_has rfl (of_decide_eq_true rfl) ?_
        refine hgetK_has _ (hget_hset_same _ (by rw [hset_len]; omega)) ?_
        refine secK_has rfl (of_decide_eq_true rfl) ?_
        exact Has.intro ⟨rfl, (hK.set _ (by omega)).set _ (by omega)⟩
  · exact (hget_app _ (by simp)).trans (by
      have := hget_append_same (H ++ [HObj.pcells (pdc p x)]) (.pcells ([PV.int IntKind.i64 0, PV.int IntKind.i64 0, PV.int IntKind.i64 0]))
      show hget _ _ = HObj.pcells ([PV.int IntKind.i64 0, PV.int IntKind.i64 0, PV.int IntKind.i64 0])
      simpa using this)
  · have := hget_append_same (H ++ [HObj.pcells (pdc p x)] ++ [HObj.pcells ([PV.int IntKind.i64 0, PV.int IntKind.i64 0, PV.int IntKind.i64 0])]) (.pcells ([PV.int IntKind.i64 0, PV.int IntKind.i64 0, PV.int IntKind.i64 0]))
    show hget _ _ = HObj.pcells ([PV.int IntKind.i64 0, PV.int IntKind.i64 0, PV.int IntKind.i64 0])
    simpa using this
  · rw [List.append_assoc, List.append_assoc]; exact Kp.app _ _
  · show AV.ptr (H ++ [HObj.pcells (pdc p x)]).length 0 = _
    rw [List.length_append]; rfl
  · show AV.ptr (H ++ [HObj.pcells (pdc p x)] ++ [HObj.pcells ([PV.int IntKind.i64 0, PV.int IntKind.i64 0, PV.int IntKind.i64 0])]).length 0 = _
    rw [List.length_append, List.length_append]; rfl
theorem sums_ok (u : AV) (p : Pd) (hl : p.l.length ≤ 1000) (H : Heap) (hu : PA u H p) : Has (EE env (.fn 86) [u] H) (fun y => y.1 = .pv (sum3 p.l) ∧ Kp H y.2) := by
  rcases hu with ⟨x, rfl⟩ | hid
  · exact sums_plain x p hl H
  · exact hid.elim
end Go.Proofs.Ytflfdglnelbbiaa

namespace Go.Proofs.Ytflfdglnelbbiaa
open Go Go.VM

end Go.Proofs.Ytflfdglnelbbiaa

namespace Go.Proofs.Ytflfdglnelbbiaa
open Go Go.VM

def isZ (c : Ct) : Prop := c.rq.c = 0 ∧ c.lm.c = 0 ∧ c.rq.m = 0 ∧ c.lm.m = 0
instance (c : Ct) : Decidable (isZ c) := by unfold isZ; infer_instance
def isG (c : Ct) : Prop := c.rq.c = c.lm.c ∧ c.rq.m = c.lm.m ∧ c.rq.c ≠ 0 ∧ c.rq.m ≠ 0
instance (c : Ct) : Decidable (isG c) := by unfold isG; infer_instance
def classI (l : List Ct) : Int := if ∀ c ∈ l, isZ c then 2 else if ∀ c ∈ l, isG c then 0 else 1
theorem all_step {p : Ct → Prop} {l : List Ct} {i : Nat} {c : Ct} (h : l[i]? = some c) : (∀ d ∈ l.take (i + 1), p d) ↔ (∀ d ∈ l.take i, p d) ∧ p c := by
  rw [List.take_add_one, h]
  constructor
  · exact fun h => ⟨fun d hd => h d (List.mem_append_left _ hd), h c (List.mem_append_right _ (by simp))⟩
  · rintro ⟨h1, h2⟩ d hd
    rcases List.mem_append.1 hd with hd | hd
    · exact h1 d hd
    · simp at hd; subst hd; exact h2
def dG (l : List Ct) : Bool := decide (∀ d ∈ l, isG d)
def dZ (l : List Ct) : Bool := decide (∀ d ∈ l, isZ d)
theorem dG_step {l : List Ct} {i : Nat} {c : Ct} (h : l[i]? = some c) : dG (l.take (i + 1)) = (dG (l.take i) && decide (isG c)) := by
  unfold dG; rw [Bool.eq_iff_iff, Bool.and_eq_true, decide_eq_true_iff, decide_eq_true_iff, decide_eq_true_iff]; exact all_step h
theorem dZ_step {l : List Ct} {i : Nat} {c : Ct} (h : l[i]? = some c) : dZ (l.take (i + 1)) = (dZ (l.take i) && decide (isZ c)) := by
  unfold dZ; rw [Bool.eq_iff_iff, Bool.and_eq_true, decide_eq_true_iff, decide_eq_true_iff, decide_eq_true_iff]; exact all_step h
set_option maxRecDepth 20000 in
set_option maxHeartbeats 4000000 in
theorem class_plain (x : Ext) (p : Pd) (hl : p.l.length ≤ maxLen) (H : Heap) :
    Has (EE env (.fn 77) [.pv (.agg (pdc p x))] H) (fun y => y.1 = .pv (.int .i64 (classI p.l)) ∧ Kp H y.2) := by
  rw [maxLen_eq] at hl
  refine EE_has ?_
  refine hgetK_has (.pcells (pdc p x)) (hget_append_same H _) ?_
  refine getK_has rfl ?_
  refine loopK_has ?_
  refine iterE_loop (σ := Nat × Heap) (fun s => p.l.length - s.1) (fun s => [(3, .pv (.bool (dG (p.l.take s.1)))), (4, .pv (.bool (dZ (p.l.take s.1)))), (10, .pv (.sl x p.l.length (flat ct p.l))), (11, .pv (.int .i64 p.l.length)), (12, .pv (.int .i64 s.1))]) (fun s => s.2)
    (fun s => s.1 ≤ p.l.length ∧ Kp H s.2) (fun ⟨i, G⟩ ⟨hi, hK⟩ r => ?_) (0, _) ⟨Nat.zero_le _, Kp.app H _⟩ ⟨rfl, rfl, rfl, rfl, rfl, trivial⟩ rfl
  dsimp only at hi hK ⊢
  refine boolK_dec (fun hc => ?_) (fun hc => ?_)
  · have hlt : i < p.l.length := by omega
    obtain ⟨c, hcg⟩ : ∃ c, p.l[i]? = some c := ⟨_, List.getElem?_eq_getElem hlt⟩
    obtain ⟨g1, g2⟩ := flat_get ct_len hcg
    have sG := dG_step hcg
    have sZ := dZ_step hcg
    refine needK_has (by (first | rfl | (simp; done) | (simp; omega))) ?_
    refine secK_has g1 g2 ?_
    refine hgetK_last ?_
    refine needK_has rfl ?_
    refine eqK_has_eq (ct c) rfl ?_
    have k6 := hget_hset_same (H := G ++ [HObj.pcells ([PV.str ⟨#[]⟩, PV.int IntKind.i64 0, PV.int IntKind.i64 0, PV.int IntKind.i64 0, PV.int IntKind.i64 0, PV.int IntKind.i64 0, PV.int IntKind.i64 0, PV.bool false, PV.bool false, PV.bool false])]) (id := G.length) (.pcells (ct c)) (by simp)
    have hK := hK.trans (Kp.box G (.pcells ([PV.str ⟨#[]⟩, PV.int IntKind.i64 0, PV.int IntKind.i64 0, PV.int IntKind.i64 0, PV.int IntKind.i64 0, PV.int IntKind.i64 0, PV.int IntKind.i64 0, PV.bool false, PV.bool false, PV.bool false])) (.pcells (ct c)))
    generalize hset (G ++ [HObj.pcells ([PV.str ⟨#[]⟩, PV.int IntKind.i64 0, PV.int IntKind.i64 0, PV.int IntKind.i64 0, PV.int IntKind.i64 0, PV.int IntKind.i64 0, PV.int IntKind.i64 0, PV.bool false, PV.bool false, PV.bool false])]) G.length (.pcells (ct c)) = G at *
    refine hgetK_has _ ((hget_app _ (by simp; have := hget_lt k6 ((by intro h; cases h)); omega)).trans ((hget_app _ (hget_lt k6 ((by intro h; cases h)))).trans k6)) ?_
    refine secK_has (v := vc c.rq) rfl (of_decide_eq_true rfl) ?_
    refine hgetK_has _ ((hget_app _ (by simp; have := hget_lt k6 ((by intro h; cases h)); omega)).trans ((hget_app _ (hget_lt k6 ((by intro h; cases h)))).trans k6)) ?_
    refine secK_has (v := vc c.lm) rfl (of_decide_eq_true rfl) ?_
    have e7 : hget (G ++ [HObj.pcells ([PV.int IntKind.i64 0, PV.int IntKind.i64 0, PV.int IntKind.i64 0])] ++ [HObj.pcells ([PV.int IntKind.i64 0, PV.int IntKind.i64 0, PV.int IntKind.i64 0])]) G.length = .pcells ([PV.int IntKind.i64 0, PV.int IntKind.i64 0, PV.int IntKind.i64 0]) := (hget_app _ (by simp)).trans (hget_append_same G _)
    refine hgetK_has _ e7 ?_
    refine needK_has rfl ?_
    refine eqK_has_eq (vc c.rq) rfl ?_
    have e8 : hget (hset (G ++ [HObj.pcells ([PV.int IntKind.i64 0, PV.int IntKind.i64 0, PV.int IntKind.i64 0])] ++ [HObj.pcells ([PV.int IntKind.i64 0, PV.int IntKind.i64 0, PV.int IntKind.i64 0])]) G.length (.pcells (vc c.rq))) (G ++ [HObj.pcells ([PV.int IntKind.i64 0, PV.int IntKind.i64 0, PV.int IntKind.i64 0])]).length = .pcells ([PV.int IntKind.i64 0, PV.int IntKind.i64 0, PV.int IntKind.i64 0]) := (hget_hset_ne _ _ (by simp)).trans (hget_append_same _ _)
    refine hgetK_has _ e8 ?_
    refine needK_has rfl ?_
    refine eqK_has_eq (vc c.lm) rfl ?_
    have q6 : G.length ≠ (G ++ [HObj.pcells ([PV.int IntKind.i64 0, PV.int IntKind.i64 0, PV.int IntKind.i64 0])]).length := by simp
    have k6b : hget (G ++ [HObj.pcells ([PV.int IntKind.i64 0, PV.int IntKind.i64 0, PV.int IntKind.i64 0])] ++ [HObj.pcells ([PV.int IntKind.i64 0, PV.int IntKind.i64 0, PV.int IntKind.i64 0])]) _ = .pcells (ct c) := (hget_app _ (by simp; have := hget_lt k6 ((by intro h; cases h)); omega)).trans ((hget_app _ (hget_lt k6 ((by intro h; cases h)))).trans k6)
    refine sameK_has ?_ ?_ ?_
    · rw [k6b, hget_hset_ne _ _ (by have := hget_lt k6 ((by intro h; cases h)); omega), k6b]
    · first | (rw [k6b]; rfl) | (rw [hget_hset_ne _ _ (by have := hget_lt k6 ((by intro h; cases h)); omega), k6b]; rfl)
    have k7 := (hget_hset_ne (hset (G ++ [HObj.pcells ([PV.int IntKind.i64 0, PV.int IntKind.i64 0, PV.int IntKind.i64 0])] ++ [HObj.pcells ([PV.int IntKind.i64 0, PV.int IntKind.i64 0, PV.int IntKind.i64 0])]) G.length (.pcells (vc c.rq))) (.pcells (vc c.lm)) q6).trans (hget_hset_same _ (hget_lt e7 ((by intro h; cases h))))
    have k8 := hget_hset_same (H := hset (G ++ [HObj.pcells ([PV.int IntKind.i64 0, PV.int IntKind.i64 0, PV.int IntKind.i64 0])] ++ [HObj.pcells ([PV.int IntKind.i64 0, PV.int IntKind.i64 0, PV.int IntKind.i64 0])]) G.length (.pcells (vc c.rq))) (id := (G ++ [HObj.pcells ([PV.int IntKind.i64 0, PV.int IntKind.i64 0, PV.int IntKind.i64 0])]).length) (.pcells (vc c.lm)) (hget_lt e8 ((by intro h; cases h)))
    have hK2 : Kp H (hset (hset (G ++ [HObj.pcells ([PV.int IntKind.i64 0, PV.int IntKind.i64 0, PV.int IntKind.i64 0])] ++ [HObj.pcells ([PV.int IntKind.i64 0, PV.int IntKind.i64 0, PV.int IntKind.i64 0])]) G.length (.pcells (vc c.rq))) (G ++ [HObj.pcells ([PV.int IntKind.i64 0, PV.int IntKind.i64 0, PV.int IntKind.i64 0])]).length (.pcells (vc c.lm))) :=
      ((hK.trans ((Kp.app G [HObj.pcells ([PV.int IntKind.i64 0, PV.int IntKind.i64 0, PV.int IntKind.i64 0])]).trans (Kp.app _ [HObj.pcells ([PV.int IntKind.i64 0, PV.int IntKind.i64 0, PV.int IntKind.i64 0])]))).set _ hK.1).set _ (by have := hK.1; simp; omega)
    generalize hset (hset (G ++ [HObj.pcells ([PV.int IntKind.i64 0, PV.int IntKind.i64 0, PV.int IntKind.i64 0])] ++ [HObj.pcells ([PV.int IntKind.i64 0, PV.int IntKind.i64 0, PV.int IntKind.i64 0])]) G.length (.pcells (vc c.rq))) (G ++ [HObj.pcells ([PV.int IntKind.i64 0, PV.int IntKind.i64 0, PV.int IntKind.i64 0])]).length (.pcells (vc c.lm)) = G2 at *
    clear e7 e8 k6b k6 hK
    cases hg : dG (p.l.take i)
    all_goals
      cases hz : dZ (p.l.take i)
    all_goals
      rw [hg] at sG
      rw [hz] at sZ
    all_goals
      repeat' (first
        | refine boolK_beq (fun _ => ?_) (fun _ => ?_)
        | refine boolK_bne (fun _ => ?_) (fun _ => ?_)
        | refine hgetK_has _ k7 ?_
        | refine hgetK_has _ k8 ?_
        | refine getK_has rfl ?_
        | fail)
    all_goals
      refine eqK_has_eq _ (i64_succ (by omega)) ?_
      refine Has.intro ⟨(i + 1, G2), ⟨hlt, hK2⟩, (by dsimp only; omega), ⟨?_, ?_, rfl, rfl, rfl, trivial⟩, rfl⟩
      · show _ = AV.pv (PV.bool (dG (p.l.take (i + 1))))
        rw [sG]
        first
          | rfl
          | (rw [decide_eq_true (show isG c by unfold isG; omega)]; rfl)
          | (rw [decide_eq_false (show ¬ isG c by unfold isG; omega)]; rfl)
      · show _ = AV.pv (PV.bool (dZ (p.l.take (i + 1))))
        rw [sZ]
        first
          | rfl
          | (rw [decide_eq_true (show isZ c by unfold isZ; omega)]; rfl)
          | (rw [decide_eq_false (show ¬ isZ c by unfold isZ; omega)]; rfl)
  · have : i = p.l.length := by omega
    subst this
    refine Has.intro ?_
    rw [List.take_length]
    by_cases hz : ∀ c ∈ p.l, isZ c
    · rw [show dZ p.l = true from decide_eq_true hz]
      refine Has.intro ⟨?_, hK⟩
      unfold classI; rw [if_pos hz]; rfl
    · rw [show dZ p.l = false from decide_eq_false hz]
      by_cases hg : ∀ c ∈ p.l, isG c
      · rw [show dG p.l = true from decide_eq_true hg]
        refine Has.intro ⟨?_, hK⟩
        unfold classI; rw [if_neg hz, if_pos hg]; rfl
      · rw [show dG p.l = false from decide_eq_false hg]
        refine Has.intro ⟨?_, hK⟩
        unfold classI; rw [if_neg hz, if_neg hg]; rfl
theorem class_ok (u : AV) (p : Pd) (hl : p.l.length ≤ maxLen) (H : Heap) (hu : PA u H p) : Has (EE env (.fn 77) [u] H) (fun y => y.1 = .pv (.int .i64 (classI p.l)) ∧ Kp H y.2) := by
  rcases hu with ⟨x, rfl⟩ | hid
  · exact class_plain x p hl H
  · exact hid.elim
end Go.Proofs.Ytflfdglnelbbiaa

namespace Go.Proofs.Ytflfdglnelbbiaa
open Go Go.VM

end Go.Proofs.Ytflfdglnelbbiaa

namespace Go.Proofs.Ytflfdglnelbbiaa
open Go Go.VM

def podP (p : Pd) : Prop := nameB p.name = true ∧ (-1000 ≤ p.prio ∧ p.prio ≤ 1000) ∧ (0 ≤ p.pol ∧ p.pol ≤ 2) ∧ (1 ≤ p.l.length ∧ p.l.length ≤ 6) ∧ (∀ (i : Nat) (c : Ct), p.l[i]? = some c → findI c.name p.l = (i : Int) ∧ cP c) ∧ (sumV (rqs p.l)).isSome = true ∧ (sumV (lms p.l)).isSome = true
noncomputable instance (p : Pd) : Decidable (podP p) := Classical.propDecidable _
theorem findF_mem {name : List UInt8} : ∀ (l : List Ct) (i : Nat) (c : Ct), c ∈ l → c.name = name → 0 ≤ findF name i l := by
  intro l
  induction l with
  | nil => intro i c h; cases h
  | cons d l ih =>
    intro i c h hn
    unfold findF
    split
    · omega
    · rename_i hd
      rcases List.mem_cons.1 h with rfl | h
      · exact absurd hn hd
      · exact ih _ c h hn
/-- What can be read of a pod. -/
def small (p : Pd) : Prop := p.name.length ≤ maxLen ∧ p.l.length ≤ maxLen ∧ ∀ c ∈ p.l, c.name.length ≤ maxLen
set_option maxRecDepth 20000 in
set_option maxHeartbeats 4000000 in
theorem pod_plain (x : Ext) (p : Pd) (hs : small p) (H : Heap) :
    Has (EE env (.fn 75) [.pv (.agg (pdc p x))] H) (fun y => y.1 = .pv (.bool (decide (podP p))) ∧ Kp H y.2) := by
  obtain ⟨hs1, hs2, hs3⟩ := hs
  have hl := hs2
  rw [maxLen_eq] at hl
  have k1 := hget_append_same H (HObj.pcells (pdc p x))
  have hK := Kp.app H [HObj.pcells (pdc p x)]
  refine EE_has ?_
  refine hgetK_has _ k1 ?_
  refine getK_has rfl ?_
  refine hgetK_has _ k1 ?_
  refine getK_has rfl ?_
  have bad : ∀ {G : Heap}, Kp H G → ¬ podP p → (fun y : AV × Heap => y.1 = .pv (.bool (decide (podP p))) ∧ Kp H y.2) (AV.pv (.bool false), G) := fun hK h => ⟨congrArg AV.pv (no (p := podP p) h), hK⟩
  refine callPK_dec (name_dec p.name hs1) (fun h1 => ?_) (fun h1 => ?_)
  rotate_left
  · exact Has.intro (bad hK fun h => h1 h.1)
  refine hgetK_has _ k1 ?_
  refine getK_has rfl ?_
  refine boolK_dec (fun h2 => ?_) (fun h2 => ?_)
  · exact Has.intro (bad hK fun h => by have := h.2.1; omega)
  refine hgetK_has _ k1 ?_
  refine getK_has rfl ?_
  refine boolK_dec (fun h3 => ?_) (fun h3 => ?_)
  · exact Has.intro (bad hK fun h => by have := h.2.1; omega)
  refine hgetK_has _ k1 ?_
  refine getK_has rfl ?_
  refine boolK_dec (fun h4 => ?_) (fun h4 => ?_)
  · exact Has.intro (bad hK fun h => by have := h.2.2.1; omega)
  refine hgetK_has _ k1 ?_
  refine getK_has rfl ?_
  refine boolK_dec (fun h5 => ?_) (fun h5 => ?_)
  · exact Has.intro (bad hK fun h => by have := h.2.2.1; omega)
  refine boolK_dec (fun h6 => ?_) (fun h6 => ?_)
  · exact Has.intro (bad hK fun h => by have := h.2.2.2.1; omega)
  refine boolK_dec (fun h7 => ?_) (fun h7 => ?_)
  · exact Has.intro (bad hK fun h => by have := h.2.2.2.1; omega)
  refine hgetK_has _ k1 ?_
  refine getK_has rfl ?_
  refine loopK_has ?_
  refine iterE_loop (σ := Nat × Heap) (fun s => p.l.length - s.1) (fun s => [(1, .ptr H.length 0), (47, .pv (.sl x p.l.length (flat ct p.l))), (48, .pv (.int .i64 p.l.length)), (49, .pv (.int .i64 s.1))]) (fun s => s.2)
    (fun s => s.1 ≤ p.l.length ∧ Kp H s.2 ∧ hget s.2 H.length = .pcells (pdc p x) ∧ ∀ (j : Nat) (c : Ct), j < s.1 → p.l[j]? = some c → findI c.name p.l = (j : Int) ∧ cP c) (fun ⟨i, G⟩ ⟨hi, hK, k1, hA⟩ r => ?_) (0, _) ⟨Nat.zero_le _, hK, k1, fun j c h => by omega⟩ ⟨rfl, rfl, rfl, rfl, trivial⟩ rfl
  dsimp only at hi hK k1 hA ⊢
  refine boolK_dec (fun hc => ?_) (fun hc => ?_)
  · have hlt : i < p.l.length := by omega
    obtain ⟨c, hcg⟩ : ∃ c, p.l[i]? = some c := ⟨_, List.getElem?_eq_getElem hlt⟩
    obtain ⟨g1, g2⟩ := flat_get ct_len hcg
    have hmem : c ∈ p.l := List.mem_of_getElem? hcg
    refine needK_has (by (first | rfl | (simp; done) | (simp; omega))) ?_
    refine secK_has g1 g2 ?_
    refine hgetK_last ?_
    refine needK_has rfl ?_
    refine eqK_has_eq (ct c) rfl ?_
    have k5 := hget_hset_same (H := G ++ [HObj.pcells ([PV.str ⟨#[]⟩, PV.int IntKind.i64 0, PV.int IntKind.i64 0, PV.int IntKind.i64 0, PV.int IntKind.i64 0, PV.int IntKind.i64 0, PV.int IntKind.i64 0, PV.bool false, PV.bool false, PV.bool false])]) (id := G.length) (.pcells (ct c)) (by simp)
    have k1 := keep2 (.pcells ([PV.str ⟨#[]⟩, PV.int IntKind.i64 0, PV.int IntKind.i64 0, PV.int IntKind.i64 0, PV.int IntKind.i64 0, PV.int IntKind.i64 0, PV.int IntKind.i64 0, PV.bool false, PV.bool false, PV.bool false])) (.pcells (ct c)) k1 ((by intro h; cases h))
    have hK := hK.trans (Kp.box G (.pcells ([PV.str ⟨#[]⟩, PV.int IntKind.i64 0, PV.int IntKind.i64 0, PV.int IntKind.i64 0, PV.int IntKind.i64 0, PV.int IntKind.i64 0, PV.int IntKind.i64 0, PV.bool false, PV.bool false, PV.bool false])) (.pcells (ct c)))
    generalize hset (G ++ [HObj.pcells ([PV.str ⟨#[]⟩, PV.int IntKind.i64 0, PV.int IntKind.i64 0, PV.int IntKind.i64 0, PV.int IntKind.i64 0, PV.int IntKind.i64 0, PV.int IntKind.i64 0, PV.bool false, PV.bool false, PV.bool false])]) G.length (.pcells (ct c)) = G at *
    refine hgetK_has _ k1 ?_
    refine secK_has (v := pdc p x) rfl (of_decide_eq_true rfl) ?_
    refine hgetK_has _ k5 ?_
    refine getK_has rfl ?_
    refine callSK_has' ((find_ok _ p hs2 c.name G (.inl ⟨x, rfl⟩)).mono fun y hy => ?_)
    obtain ⟨v, H'⟩ := y
    obtain ⟨rfl, J, rfl⟩ := hy
    have k5 := (hget_app J (hget_lt k5 ((by intro h; cases h)))).trans k5
    have k1 := (hget_app J (hget_lt k1 ((by intro h; cases h)))).trans k1
    have hK := hK.trans (Kp.app G J)
    generalize G ++ J = G at *
    have hf := findF_mem p.l 0 c hmem rfl
    have hff : findI c.name p.l = findF c.name 0 p.l := rfl
    rw [← hff] at hf
    refine boolK_bne (fun h8 => ?_) (fun h8 => ?_)
    · refine Has.intro (Has.intro (bad hK fun h => ?_))
      have := (h.2.2.2.2.1 i c hcg).1
      rw [if_neg (by omega)] at h8
      exact h8 this
    · rw [if_neg (by omega)] at h8
      refine hgetK_has _ k5 ?_
      refine secK_has (v := ct c) rfl (of_decide_eq_true rfl) ?_
      refine callPK_dec (ctr_ok c (hs3 c hmem)) (fun h9 => ?_) (fun h9 => ?_)
      · refine eqK_has_eq _ (i64_succ (by omega)) ?_
        refine Has.intro ⟨(i + 1, G), ⟨hlt, hK, k1, fun j d hj hd => ?_⟩, (by dsimp only; omega), ⟨rfl, rfl, rfl, rfl, trivial⟩, rfl⟩
        dsimp only at hj
        by_cases e : j = i
        · subst e
          rw [hcg] at hd; injection hd with hd; subst hd
          exact ⟨h8, h9⟩
        · exact hA j d (by omega) hd
      · exact Has.intro (Has.intro (bad hK fun h => h9 (h.2.2.2.2.1 i c hcg).2))
  · have : i = p.l.length := by omega
    subst this
    refine Has.intro ?_
    refine hgetK_has _ k1 ?_
    refine secK_has (v := pdc p x) rfl (of_decide_eq_true rfl) ?_
    refine callSK_has' ((sums_ok _ p (by omega) G (.inl ⟨x, rfl⟩)).mono fun y hy => ?_)
    obtain ⟨v, H'⟩ := y
    obtain ⟨rfl, hK2⟩ := hy
    have hK := hK.trans hK2
    dsimp only at hK ⊢
    refine hgetK_has (.pcells ([PV.int IntKind.i64 0, PV.int IntKind.i64 0, PV.int IntKind.i64 0])) ((hget_app _ (by simp)).trans (hget_append_same H' _)) ?_
    refine needK_has rfl ?_
    refine eqK_has ?_
    refine hgetK_has (.pcells ([PV.int IntKind.i64 0, PV.int IntKind.i64 0, PV.int IntKind.i64 0])) ((hget_hset_ne _ _ (by simp)).trans (hget_append_same _ _)) ?_
    refine needK_has rfl ?_
    refine eqK_has ?_
    refine Has.intro ⟨?_, ((hK.trans ((Kp.app H' [HObj.pcells ([PV.int IntKind.i64 0, PV.int IntKind.i64 0, PV.int IntKind.i64 0])]).trans (Kp.app _ [HObj.pcells ([PV.int IntKind.i64 0, PV.int IntKind.i64 0, PV.int IntKind.i64 0])]))).set _ hK.1).set _ (by have := hK.1; simp; omega)⟩
    show AV.pv (PV.bool ((sumV (rqs p.l)).isSome && (sumV (lms p.l)).isSome)) = _
    congr 2
    rw [Bool.eq_iff_iff, Bool.and_eq_true, decide_eq_true_iff]
    exact ⟨fun h => ⟨h1, by omega, by omega, by omega, fun j c hj => hA j c (List.getElem?_eq_some_iff.1 hj).1 hj, h.1, h.2⟩, fun h => ⟨h.2.2.2.2.2.1, h.2.2.2.2.2.2⟩⟩
theorem pod_ok (u : AV) (p : Pd) (hs : small p) (H : Heap) (hu : PA u H p) : Has (EE env (.fn 75) [u] H) (fun y => y.1 = .pv (.bool (decide (podP p))) ∧ Kp H y.2) := by
  rcases hu with ⟨x, rfl⟩ | hid
  · exact pod_plain x p hs H
  · exact hid.elim
end Go.Proofs.Ytflfdglnelbbiaa

namespace Go.Proofs.Ytflfdglnelbbiaa
open Go Go.VM

theorem flat10 {l : List Ct} {i : Nat} (h : i ≤ l.length) : ((flat ct l).drop (mulE 0 10)).take (mulE (((i : Nat) : Int).toNat - 0) 10) = flat ct (l.take i) := by
  show ((flat ct l).drop 0).take (i * 10) = _
  rw [List.drop_zero]
  conv => lhs; rw [← List.take_append_drop i l, ← flat_app]
  have hl : (flat ct (l.take i)).length = i * 10 := by rw [flat_len ct_len, List.length_take]; congr 1; omega
  rw [List.take_append_of_le_length (by omega), List.take_of_length_le (by omega)]
/-- What a list becomes by an append to one that was just made. -/
theorem findF_first {name : List UInt8} : ∀ (l : List Ct) (k i : Nat) (c : Ct), l[i]? = some c → c.name = name → (∀ (j : Nat) (d : Ct), j < i → l[j]? = some d → d.name ≠ name) → findF name k l = ((k + i : Nat) : Int) := by
  intro l
  induction l with
  | nil => intro k i c h; simp at h
  | cons d l ih =>
    intro k i c h hn ha
    unfold findF
    cases i with
    | zero =>
      simp at h; subst h
      rw [if_pos hn]; rfl
    | succ i =>
      rw [if_neg (ha 0 d (by omega) rfl)]
      simp at h
      rw [ih (k + 1) i c h hn (fun j e hj he => ha (j + 1) e (by omega) (by simpa using he))]
      congr 1; omega
theorem findF_early {name : List UInt8} : ∀ (l : List Ct) (k j : Nat) (d : Ct), l[j]? = some d → d.name = name → findF name k l ≤ ((k + j : Nat) : Int) := by
  intro l
  induction l with
  | nil => intro k i c h; simp at h
  | cons d l ih =>
    intro k j e h hn
    unfold findF
    split
    · omega
    · rename_i hd
      cases j with
      | zero => simp at h; subst h; exact absurd hn hd
      | succ j =>
        simp at h
        have := ih (k + 1) j e h hn
        omega
end Go.Proofs.Ytflfdglnelbbiaa

namespace Go.Proofs.Ytflfdglnelbbiaa
open Go Go.VM

noncomputable instance : DecidableEq Ct := fun a b => Classical.propDecidable (a = b)
theorem ct_eq (a b : Ct) : aggEq [.s, .i, .i, .i, .i, .i, .i, .b, .b, .b] (ct a) (ct b) = some (decide (a = b)) := by
  show some _ = some _
  congr 1
  rw [str_beq, Bool.eq_iff_iff, decide_eq_true_iff]
  obtain ⟨n, ⟨a1, a2, a3⟩, ⟨a4, a5, a6⟩, r0, r1, r2⟩ := a
  obtain ⟨m, ⟨b1, b2, b3⟩, ⟨b4, b5, b6⟩, s0, s1, s2⟩ := b
  simp only [Bool.and_eq_true, beq_iff_eq, decide_eq_true_iff, Ct.mk.injEq, Vc.mk.injEq]
  constructor
  · rintro ⟨h1, h2, h3, h4, h5, h6, h7, h8, h9, h10, _⟩
    exact ⟨h1, ⟨h2, h3, h4⟩, ⟨h5, h6, h7⟩, h8, h9, h10⟩
  · rintro ⟨h1, ⟨h2, h3, h4⟩, ⟨h5, h6, h7⟩, h8, h9, h10⟩
    exact ⟨h1, h2, h3, h4, h5, h6, h7, h8, h9, h10, trivial⟩
theorem lists_eq {a b : List Ct} (hl : a.length = b.length) (h : ∀ (j : Nat) (c d : Ct), a[j]? = some c → b[j]? = some d → c = d) : a = b := by
  refine List.ext_getElem? fun j => ?_
  cases ha : a[j]? with
  | none => rw [List.getElem?_eq_none_iff] at ha; symm; rw [List.getElem?_eq_none_iff]; omega
  | some c =>
    obtain ⟨hj, _⟩ := List.getElem?_eq_some_iff.1 ha
    have hb : b[j]? = some _ := List.getElem?_eq_getElem (show j < b.length by omega)
    rw [hb, h j c _ ha hb]
end Go.Proofs.Ytflfdglnelbbiaa

namespace Go.Proofs.Ytflfdglnelbbiaa
open Go Go.VM

def sameP (a b : Pd) : Prop := a.name = b.name ∧ a.prio = b.prio ∧ a.pol = b.pol ∧ a.l = b.l
noncomputable instance (a b : Pd) : Decidable (sameP a b) := Classical.propDecidable _
theorem str_bne (a b : List UInt8) : (!((⟨a.toArray⟩ : ByteArray).toList == (⟨b.toArray⟩ : ByteArray).toList)) = decide (a ≠ b) := by
  rw [str_beq]; by_cases h : a = b <;> simp [h]
set_option maxHeartbeats 1000000 in
theorem rsame_ok (x y : Ext) (a b : Pd) (hl : a.l.length ≤ maxLen) : EP (EE env) 29 [.agg (pdc a x), .agg (pdc b y)] = some (.bool (decide (sameP a b))) := by
  rw [maxLen_eq] at hl
  refine Has.eq (EP_has ?_)
  (repeat (first | refine hgetK_has _ rfl ?_ | refine getK_has rfl ?_))
  refine boolK_has_eq (c := decide (a.name ≠ b.name)) (str_bne _ _) ?_
  by_cases h1 : a.name = b.name
  rotate_left
  · rw [decide_eq_true h1]
    exact Has.intro (Has.intro (no (fun h => h1 h.1)))
  rw [decide_eq_false (fun h => h h1)]
  (repeat (first | refine hgetK_has _ rfl ?_ | refine getK_has rfl ?_))
  refine boolK_bne (fun h2 => ?_) (fun h2 => ?_)
  · exact Has.intro (Has.intro (no (fun h => h2 h.2.1)))
  (repeat (first | refine hgetK_has _ rfl ?_ | refine getK_has rfl ?_))
  refine boolK_bne (fun h3 => ?_) (fun h3 => ?_)
  · exact Has.intro (Has.intro (no (fun h => h3 h.2.2.1)))
  (repeat (first | refine hgetK_has _ rfl ?_ | refine getK_has rfl ?_))
  refine boolK_bne (fun h4 => ?_) (fun h4 => ?_)
  · exact Has.intro (Has.intro (no (fun h => h4 (by rw [h.2.2.2]))))
  (repeat (first | refine hgetK_has _ rfl ?_ | refine getK_has rfl ?_))
  have hab : a.l.length = b.l.length := by omega
  refine loopK_has ?_
  refine iterE_loop (σ := Nat) (fun i => a.l.length - i) (fun i => [(2, .ptr 0 0), (3, .ptr 1 0), (36, .pv (.int .i64 a.l.length)), (37, .pv (.int .i64 i))]) (fun _ => [.pcells (pdc a x), .pcells (pdc b y)]) (fun i => i ≤ a.l.length ∧ ∀ (j : Nat) (c d : Ct), j < i → a.l[j]? = some c → b.l[j]? = some d → c = d) (fun i ⟨hi, hA⟩ r => ?_) 0 ⟨Nat.zero_le _, fun j c d h => by omega⟩ ⟨rfl, rfl, rfl, rfl, trivial⟩ rfl
  refine boolK_dec (fun hc => ?_) (fun hc => ?_)
  · have hlt : i < a.l.length := by omega
    obtain ⟨c, hcg⟩ : ∃ c, a.l[i]? = some c := ⟨_, List.getElem?_eq_getElem hlt⟩
    obtain ⟨d, hdg⟩ : ∃ c, b.l[i]? = some c := ⟨_, List.getElem?_eq_getElem (show i < b.l.length by omega)⟩
    obtain ⟨g1, g2⟩ := flat_get ct_len hcg
    obtain ⟨f1, f2⟩ := flat_get ct_len hdg
    (repeat (first | refine hgetK_has _ rfl ?_ | refine getK_has rfl ?_))
    refine needK_has (by (first | rfl | (simp; done) | (simp; omega))) ?_
    refine secK_has g1 g2 ?_
    (repeat (first | refine hgetK_has _ rfl ?_ | refine getK_has rfl ?_))
    refine needK_has (by (first | rfl | (simp; done) | (simp; omega))) ?_
    refine secK_has f1 f2 ?_
    refine bindK_has (ct_eq c d) ?_
    by_cases e : c = d
    · refine boolK_has_eq (c := false) (by rw [decide_eq_true e]; rfl) ?_
      refine eqK_has_eq _ (i64_succ (by omega)) ?_
      refine Has.intro ⟨i + 1, ⟨hlt, fun j c' d' hj h1 h2 => ?_⟩, by omega, ⟨rfl, rfl, rfl, rfl, trivial⟩, rfl⟩
      by_cases ej : j = i
      · subst ej
        rw [hcg] at h1; rw [hdg] at h2
        injection h1 with h1; injection h2 with h2
        rw [← h1, ← h2]; exact e
      · exact hA j c' d' (by omega) h1 h2
    · refine boolK_has_eq (c := true) (by rw [decide_eq_false e]; rfl) ?_
      refine Has.intro (Has.intro (Has.intro (no (fun h => e ?_))))
      rw [h.2.2.2, hdg] at hcg
      injection hcg with hcg; exact hcg.symm
  · have : i = a.l.length := by omega
    subst this
    exact Has.intro (Has.intro (Has.intro (yes ⟨h1, h2, h3, lists_eq hab (fun j c d h1 h2 => hA j c d (List.getElem?_eq_some_iff.1 h1).1 h1 h2)⟩)))
end Go.Proofs.Ytflfdglnelbbiaa
