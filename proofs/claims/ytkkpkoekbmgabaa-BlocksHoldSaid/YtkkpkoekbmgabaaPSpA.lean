/-
  Names.
-/
import Derived.Test.YtkkpkoekbmgabaaVmC
set_option linter.all false
set_option linter.unusedVariables false
set_option linter.unusedSimpArgs false
set_option linter.unusedSectionVars false
namespace Go.Proofs.Ytkkpkoekbmgabaa
open Go Go.VM

/-- A statement that may return. -/
theorem seq_if {R : Type} {Q : R → Prop} {env : Env} {E : Orc} {a b : VCode} {r : Regs} {h : Heap} {k : Ex → Regs → Heap → Option R} (Lr : List (Nat × AV)) (Pr : Prop) (L : List (Nat × AV)) (Pn : Prop) (H : Heap)
    (ha : Has (evK env E a Res r h doneK) fun x => (x.1 = .ret ∧ Agr x.2.1 Lr ∧ x.2.2 = H ∧ Pr) ∨ (x.1 = .normal ∧ Agr x.2.1 L ∧ x.2.2 = H ∧ Pn))
    (hr : Pr → ∀ r, Has (k .ret (setL r Lr) H) Q) (hn : Pn → ∀ r, Has (evK env E b R (setL r L) H k) Q) : Has (evK env E (.seq a b) R r h k) Q := by
  refine seq_join (fun e r h => (e = .ret ∧ Agr r Lr ∧ h = H ∧ Pr) ∨ (e = .normal ∧ Agr r L ∧ h = H ∧ Pn)) ha fun e r h hj => ?_
  rcases hj with ⟨rfl, h2, rfl, h4⟩ | ⟨rfl, h2, rfl, h4⟩
  · have := hr h4 r
    rw [h2.eq] at this
    exact this
  · have := hn h4 r
    rw [h2.eq] at this
    exact this
/-- May a byte stand at a place of a name? -/
def plainc (c : UInt8) : Prop := (97 ≤ c.toNat ∧ c.toNat ≤ 122) ∨ (48 ≤ c.toNat ∧ c.toNat ≤ 57)
instance (c : UInt8) : Decidable (plainc c) := by unfold plainc; infer_instance
def okc (n i : Nat) (c : UInt8) : Bool := decide (plainc c ∨ (c.toNat = 45 ∧ i ≠ 0 ∧ i + 1 ≠ n))
def nameF (n : Nat) : Nat → List UInt8 → Bool
  | _, [] => true
  | i, c :: l => okc n i c && nameF n (i + 1) l
def nameB (l : List UInt8) : Bool := decide (0 < l.length) && decide (l.length < 17) && nameF l.length 0 l
theorem drop_of {α : Type} {l : List α} {i : Nat} {c : α} (h : l[i]? = some c) : l.drop i = c :: l.drop (i + 1) := by
  obtain ⟨hlt, he⟩ := List.getElem?_eq_some_iff.1 h
  rw [List.drop_eq_getElem_cons hlt, he]
theorem nameF_step {n i : Nat} {l : List UInt8} {c : UInt8} (h : l[i]? = some c) : nameF n i (l.drop i) = (okc n i c && nameF n (i + 1) (l.drop (i + 1))) := by
  rw [drop_of h]; rfl
theorem nameB_f {l : List UInt8} (h : nameF l.length 0 l = false) : nameB l = false := by unfold nameB; rw [h]; simp
theorem nameF_ends : ∀ (l : List UInt8) (n i j : Nat) (c : UInt8), l[j]? = some c → okc n (i + j) c = false → nameF n i l = false := by
  intro l
  induction l with
  | nil => intro n i j c h; simp at h
  | cons d l ih =>
    intro n i j c h hb
    unfold nameF
    cases j with
    | zero =>
      simp at h; subst h
      rw [Nat.add_zero] at hb
      rw [hb]; rfl
    | succ j =>
      simp at h
      rw [ih n (i + 1) j c h (by rw [← hb]; congr 1; omega), Bool.and_false]
set_option maxHeartbeats 1000000 in
theorem name_ok (l : List UInt8) (hl : l.length ≤ maxLen) : EP (EE env) 31 [sv l] = some (.bool (nameB l)) := by
  rw [maxLen_eq] at hl
  have hsz : ((⟨l.toArray⟩ : ByteArray).size : Int) = (l.length : Int) := by rw [sv_size]
  refine Has.eq (EP_has (fn_has rfl ?_))
  refine seq_on [(0, .pv (sv l))] [] (Has.intro ⟨rfl, ⟨rfl, trivial⟩, rfl⟩) (fun r => ?_)
  refine seq_if [(2, .pv (.bool false))] (nameB l = false) [(0, .pv (sv l))] (1 ≤ l.length ∧ l.length ≤ 16 ∧ (∀ c, l[0]? = some c → c.toNat ≠ 45) ∧ (∀ c, l[l.length - 1]? = some c → c.toNat ≠ 45)) [] ?_ (fun h r => ?_) (fun ⟨h1, h2, h3, h4⟩ r => ?_)
  · refine boolK_dec (fun h1 => ?_) (fun h1 => ?_)
    · refine Has.intro (.inl ⟨rfl, ⟨rfl, trivial⟩, rfl, ?_⟩)
      unfold nameB; rw [decide_eq_false (by omega)]; rfl
    refine boolK_dec (fun h2 => ?_) (fun h2 => ?_)
    · refine Has.intro (.inl ⟨rfl, ⟨rfl, trivial⟩, rfl, ?_⟩)
      unfold nameB; rw [decide_eq_false (p := l.length < 17) (by omega)]; simp
    obtain ⟨c, hc⟩ : ∃ c, l[0]? = some c := ⟨_, List.getElem?_eq_getElem (show 0 < l.length by omega)⟩
    refine needK_has (by simp; omega) ?_
    refine getK_has hc ?_
    refine boolK_beq (fun h3 => ?_) (fun h3 => ?_)
    · refine Has.intro (.inl ⟨rfl, ⟨rfl, trivial⟩, rfl, nameB_f (nameF_ends l _ 0 0 c hc ?_)⟩)
      unfold okc; rw [decide_eq_false]; unfold plainc; omega
    refine eqK_has_eq ((l.length - 1 : Nat) : Int) ((wrap_i64 (by omega) (by omega)).trans (by omega)) ?_
    obtain ⟨d, hd⟩ : ∃ d, l[l.length - 1]? = some d := ⟨_, List.getElem?_eq_getElem (show l.length - 1 < l.length by omega)⟩
    refine needK_has (by simp; omega) ?_
    refine getK_has hd ?_
    refine boolK_beq (fun h4 => ?_) (fun h4 => ?_)
    · refine Has.intro (.inl ⟨rfl, ⟨rfl, trivial⟩, rfl, nameB_f (nameF_ends l _ 0 (l.length - 1) d hd ?_)⟩)
      unfold okc; rw [decide_eq_false]; unfold plainc; omega
    refine Has.intro (.inr ⟨rfl, ⟨rfl, trivial⟩, rfl, by omega, by omega, fun c' h => ?_, fun c' h => ?_⟩)
    · rw [hc] at h; injection h with h; subst h; omega
    · rw [hd] at h; injection h with h; subst h; omega
  · rw [h]
    exact Has.intro (Has.intro rfl)
  refine seq_if [(2, .pv (.bool false))] (nameB l = false) [] (nameB l = true) [] ?_ (fun h r => ?_) (fun h r => ?_)
  · refine loopK_has ?_
    refine iterE_loop (σ := Nat) (fun i => l.length - i) (fun i => [(0, .pv (sv l)), (26, .pv (sv l)), (27, .pv (.int .i64 l.length)), (28, .pv (.int .i64 i))]) (fun _ => []) (fun i => i ≤ l.length ∧ nameF l.length 0 l = nameF l.length i (l.drop i)) (fun i ⟨hi, he⟩ r => ?_) 0 ⟨Nat.zero_le _, rfl⟩ ⟨rfl, rfl, by rw [← hsz]; rfl, rfl, trivial⟩ rfl
    refine boolK_dec (fun hc => ?_) (fun hc => ?_)
    · have hlt : i < l.length := by omega
      obtain ⟨c, hcg⟩ : ∃ c, l[i]? = some c := ⟨_, List.getElem?_eq_getElem hlt⟩
      refine needK_has (by simp; omega) ?_
      refine getK_has hcg ?_
      have hns := nameF_step (n := l.length) hcg
      rw [hns] at he
      have hok : okc l.length i c = decide (plainc c ∨ c.toNat = 45) := by
        unfold okc
        rw [Bool.eq_iff_iff, decide_eq_true_iff, decide_eq_true_iff]
        refine or_congr Iff.rfl ⟨fun h => h.1, fun h => ⟨h, fun h0 => ?_, fun h0 => ?_⟩⟩
        · subst h0; exact h3 c hcg h
        · exact h4 c (by rw [show l.length - 1 = i by omega]; exact hcg) h
      repeat' (first
        | refine boolK_dec (fun _ => ?_) (fun _ => ?_)
        | refine boolK_bne (fun _ => ?_) (fun _ => ?_)
        | fail)
      all_goals first
        | (exfalso; omega)
        | (refine Has.intro (Has.intro (.inl ⟨rfl, ⟨rfl, trivial⟩, rfl, nameB_f ?_⟩))
           rw [he, hok, decide_eq_false (by unfold plainc; omega)]; rfl)
        | (refine eqK_has_eq _ (i64_succ (by omega)) ?_
           refine Has.intro ⟨i + 1, ⟨hlt, ?_⟩, by omega, ⟨rfl, rfl, rfl, rfl, trivial⟩, rfl⟩
           rw [he, hok, decide_eq_true (by unfold plainc; omega)]; rfl)
    · have : i = l.length := by omega
      subst this
      rw [List.drop_length] at he
      refine Has.intro (Has.intro (.inr ⟨rfl, trivial, rfl, ?_⟩))
      unfold nameB
      rw [he, decide_eq_true (show 0 < l.length by omega), decide_eq_true (show l.length < 17 by omega)]; rfl
  · rw [h]
    exact Has.intro (Has.intro rfl)
  · rw [h]
    exact Has.intro (Has.intro rfl)
end Go.Proofs.Ytkkpkoekbmgabaa
