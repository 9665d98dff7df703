/-
  The document's next step: an item of a phase, a phase, all.
-/
import Derived.Test.YtaiomdfajdeacaaPlD
set_option linter.all false
set_option linter.unusedVariables false
set_option linter.unusedSimpArgs false
set_option linter.unusedSectionVars false
namespace Go.Proofs.Ytaiomdfajdeacaa
open Go Go.VM

theorem two_new (J : Heap) (z z' a b : HObj) : hget (hset (hset (J ++ [z] ++ [z']) J.length a) (J ++ [z]).length b) J.length = a ∧ hget (hset (hset (J ++ [z] ++ [z']) J.length a) (J ++ [z]).length b) (J ++ [z]).length = b ∧ J.length ≠ (J ++ [z]).length := by
  have hne : J.length ≠ (J ++ [z]).length := by simp
  refine ⟨?_, ?_, hne⟩
  · rw [hget_hset_ne _ _ hne]
    exact hget_hset_same _ (by simp)
  · exact hget_hset_same _ (by rw [hset_len]; simp)
theorem two_set {J : Heap} {p q : Nat} {a b a' b' : HObj} (hp : hget J p = a) (hq : hget J q = b) (ha : a ≠ .dead) (hb : b ≠ .dead) (hne : p ≠ q) : hget (hset (hset J p a') q b') p = a' ∧ hget (hset (hset J p a') q b') q = b' := by
  refine ⟨?_, ?_⟩
  · rw [hget_hset_ne _ _ hne]
    exact hget_hset_same _ (hget_lt hp ha)
  · exact hget_hset_same _ (by rw [hset_len]; exact hget_lt hq hb)

section
variable (pod podTo : Kn) (x y : Ext) (now to : List Kn) (hlen : now.length = to.length) (hl : now.length ≤ 9223372036854775807) (o : List Int) (ho : o.length ≤ 4) (ph : Int) (hph : ph = 1 ∨ ph = 2 ∨ ph = 3 ∨ ph = 4 ∨ ph = 5)
def item (i : Nat) : Option Stp :=
  if i < now.length then (if skp ph i then none else fstG i (gt now i) (gt to i) o ph) else (if skp ph (-1) then none else fstG (-1) pod podTo o ph)
def Lx (i : AV) : List (Nat × AV) := Lr (.pv (.sl x now.length (kns now))) (.pv (.sl y to.length (kns to))) (.ptr 0 0) (.ptr 1 0) (.pv (.int .i64 now.length)) o ph i
def Fs (s : Stp) : Heap := [.pcells (kn pod), .pcells (kn podTo), .pcells (sc s)]
include hlen hl ho hph in
set_option maxHeartbeats 1000000 in
theorem item_ok (r : Regs) (J : Heap) (i : Nat) (hi : i ≤ now.length) :
    Has (evK env (EE env) B3 Res (setL r (Lx x y now to o ph (.pv (.int .i64 i)))) (Fs pod podTo z3 ++ J) doneK)
      (fun w => match item pod podTo now to o ph i with
        | none => w.1 = .normal ∧ Agr w.2.1 (Lx x y now to o ph (.pv (.int .i64 i))) ∧ ∃ J', w.2.2 = Fs pod podTo z3 ++ J'
        | some s => w.1 = .ret ∧ w.2.1 8 = .ptr 2 0 ∧ w.2.1 9 = .pv (.bool true) ∧ ∃ J', w.2.2 = Fs pod podTo s ++ J') := by
  show Has (evK env (EE env) (B3.at [0]) Res _ _ (blockK 3 doneK)) _
  refine seq_st (σ := Heap × Nat × Nat) (fun s => (14, .ptr (s.2.1 + 3) 0) :: (15, .ptr (s.2.2 + 3) 0) :: (16, .pv (.int .i64 (-1))) :: Lx x y now to o ph (.pv (.int .i64 i))) (fun s => Fs pod podTo z3 ++ s.1)
    (fun s => hget s.1 s.2.1 = .pcells (kn pod) ∧ hget s.1 s.2.2 = .pcells (kn podTo) ∧ s.2.1 ≠ s.2.2) ?_ (fun ⟨J1, p, q⟩ ⟨hp, hq, hne⟩ r => ?_)
  · refine hgetK_has _ rfl ?_
    refine secK_has (v := kn pod) rfl (Nat.le_refl _) ?_
    refine hgetK_has _ rfl ?_
    refine secK_has (v := kn podTo) rfl (Nat.le_refl _) ?_
    refine hgetK_has (.pcells (kn z5)) ((hget_app (H := Fs pod podTo z3 ++ J ++ [HObj.pcells (kn z5)]) _ (by simp)).trans (hget_append_same (Fs pod podTo z3 ++ J) _)) ?_
    refine needK_has rfl ?_
    refine eqK_has_eq (kn pod) rfl ?_
    refine hgetK_has (.pcells (kn z5)) ((hget_hset_ne _ _ (by simp)).trans (hget_append_same (Fs pod podTo z3 ++ J ++ [HObj.pcells (kn z5)]) _)) ?_
    refine needK_has rfl ?_
    refine eqK_has_eq (kn podTo) rfl ?_
    refine sameK_has rfl rfl ?_
    exact Has.intro ⟨rfl, (_, J.length, (J ++ [HObj.pcells (kn z5)]).length), two_new J (.pcells (kn z5)) (.pcells (kn z5)) (.pcells (kn pod)) (.pcells (kn podTo)), ⟨rfl, rfl, rfl, rfl, rfl, rfl, rfl, rfl, rfl, rfl, rfl, rfl, trivial⟩, rfl⟩
  dsimp only at hp hq hne ⊢
  -- the items
  have main : ∀ (who : Int) (a b : Kn) (J2 : Heap) (r : Regs), hget J2 p = .pcells (kn a) → hget J2 q = .pcells (kn b) → item pod podTo now to o ph i = (if skp ph who then none else fstG who a b o ph) →
      Has (evK env (EE env) (B3.at [0, 1, 1]) Res (setL r ((14, .ptr (p + 3) 0) :: (15, .ptr (q + 3) 0) :: (16, .pv (.int .i64 who)) :: Lx x y now to o ph (.pv (.int .i64 i)))) (Fs pod podTo z3 ++ J2) (blockK 3 doneK))
        (fun w => match item pod podTo now to o ph i with
          | none => w.1 = .normal ∧ Agr w.2.1 (Lx x y now to o ph (.pv (.int .i64 i))) ∧ ∃ J', w.2.2 = Fs pod podTo z3 ++ J'
          | some s => w.1 = .ret ∧ w.2.1 8 = .ptr 2 0 ∧ w.2.1 9 = .pv (.bool true) ∧ ∃ J', w.2.2 = Fs pod podTo s ++ J') := by
    intro who a b J2 r ha hb hit
    rw [hit]
    refine seq_join (fun e r h => ((¬ skp ph who ∧ e = .normal) ∨ (skp ph who ∧ e = .exit 3)) ∧ Agr r ((14, .ptr (p + 3) 0) :: (15, .ptr (q + 3) 0) :: (16, .pv (.int .i64 who)) :: Lx x y now to o ph (.pv (.int .i64 i))) ∧ h = Fs pod podTo z3 ++ J2) ?_ (fun e r h hj => ?_)
    · rcases hph with rfl | rfl | rfl | rfl | rfl
      all_goals
        repeat' (first
          | refine boolK_has_true rfl ?_
          | refine boolK_has_false rfl ?_
          | refine boolK_dec (fun _ => ?_) (fun _ => ?_))
        all_goals first
          | (exfalso; omega)
          | exact Has.intro ⟨.inl ⟨by unfold skp; omega, rfl⟩, ⟨rfl, rfl, rfl, rfl, rfl, rfl, rfl, rfl, rfl, rfl, rfl, rfl, trivial⟩, rfl⟩
          | exact Has.intro ⟨.inr ⟨by unfold skp; omega, rfl⟩, ⟨rfl, rfl, rfl, rfl, rfl, rfl, rfl, rfl, rfl, rfl, rfl, rfl, trivial⟩, rfl⟩
    · obtain ⟨hs, hA, rfl⟩ := hj
      rw [← hA.eq]
      rcases hs with ⟨hs, rfl⟩ | ⟨hs, rfl⟩
      · rw [if_neg hs]
        refine evK_split (c := INN) ?_
        refine (inn4 (.pv (.sl x now.length (kns now))) (.pv (.sl y to.length (kns to))) (.ptr 0 0) (.ptr 1 0) (.pv (.int .i64 now.length)) (.pv (.int .i64 i)) o ho ph hph r (Fs pod podTo z3 ++ J2) (p + 3) (q + 3) a b who ha hb rfl).mono fun w hw => ?_
        obtain ⟨e, r', h'⟩ := w
        cases hq : fstG who a b o ph with
        | none =>
          rw [hq] at hw
          obtain ⟨h1, h2, h3⟩ := hw
          dsimp only at h1 h2 h3
          subst h1; subst h3
          exact Has.intro ⟨rfl, h2, _, rfl⟩
        | some s =>
          rw [hq] at hw
          obtain ⟨h1, h2, h3, h4⟩ := hw
          dsimp only at h1 h2 h3 h4
          subst h1; subst h4
          exact Has.intro ⟨rfl, h2, h3, _, rfl⟩
      · rw [if_pos hs]
        exact Has.intro ⟨rfl, ⟨rfl, rfl, rfl, rfl, rfl, rfl, rfl, rfl, rfl, trivial⟩, _, rfl⟩
  rcases Nat.lt_or_ge i now.length with hlt | hge
  · obtain ⟨k, hk⟩ : ∃ k, now[i]? = some k := ⟨now[i], List.getElem?_eq_getElem hlt⟩
    obtain ⟨k2, hk2⟩ : ∃ k, to[i]? = some k := ⟨to[i]'(by omega), List.getElem?_eq_getElem (by omega)⟩
    obtain ⟨g1, g2⟩ := kns_get hk
    obtain ⟨g3, g4⟩ := kns_get hk2
    have h2 := two_set (a' := .pcells (kn k)) (b' := .pcells (kn k2)) hp hq (by intro h; cases h) (by intro h; cases h) hne
    refine seq_on ((14, .ptr (p + 3) 0) :: (15, .ptr (q + 3) 0) :: (16, .pv (.int .i64 i)) :: Lx x y now to o ph (.pv (.int .i64 i))) (Fs pod podTo z3 ++ hset (hset J1 p (.pcells (kn k))) q (.pcells (kn k2))) ?_ (fun r => ?_)
    · refine boolK_dec_t (by omega) ?_
      refine needK_has (by (first | rfl | (simp; done) | (simp; omega))) ?_
      refine secK_has g1 g2 ?_
      refine needK_has (by (first | rfl | (simp; done) | (simp; omega))) ?_
      refine secK_has g3 g4 ?_
      refine hgetK_has _ hp ?_
      refine needK_has rfl ?_
      refine eqK_has_eq (kn k) rfl ?_
      refine hgetK_has (.pcells (kn podTo)) (show hget (hset (Fs pod podTo z3 ++ J1) (p + 3) (.pcells (kn k))) (q + 3) = _ from (hget_hset_ne _ _ (by omega)).trans hq) ?_
      refine needK_has rfl ?_
      refine eqK_has_eq (kn k2) rfl ?_
      exact Has.intro ⟨rfl, ⟨rfl, rfl, rfl, rfl, rfl, rfl, rfl, rfl, rfl, rfl, rfl, rfl, trivial⟩, rfl⟩
    · exact main i k k2 _ r h2.1 h2.2 (by unfold item; rw [if_pos hlt, gt_eq hk, gt_eq hk2])
  · refine seq_on ((14, .ptr (p + 3) 0) :: (15, .ptr (q + 3) 0) :: (16, .pv (.int .i64 (-1))) :: Lx x y now to o ph (.pv (.int .i64 i))) (Fs pod podTo z3 ++ J1) ?_ (fun r => ?_)
    · refine boolK_dec_f (by omega) ?_
      exact Has.intro ⟨rfl, ⟨rfl, rfl, rfl, rfl, rfl, rfl, rfl, rfl, rfl, rfl, rfl, rfl, trivial⟩, rfl⟩
    · exact main (-1) pod podTo _ r hp hq (by unfold item; rw [if_neg (by omega)])
end
end Go.Proofs.Ytaiomdfajdeacaa
