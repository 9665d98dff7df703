/-
  The document's next step: all phases.
-/
import Derived.Test.YtaiomdfajdeacaaPlE
set_option linter.all false
set_option linter.unusedVariables false
set_option linter.unusedSimpArgs false
set_option linter.unusedSectionVars false
namespace Go.Proofs.Ytaiomdfajdeacaa
open Go Go.VM

theorem seq_joinR {R : Type} {Q : R → Prop} {env : Env} {E : Orc} {a b : VCode} {r : Regs} {h : Heap} {k : Ex → Regs → Heap → Option R} (J : Res → Prop)
    (ha : Has (evK env E a Res r h doneK) J) (hb : ∀ e r h, J (e, r, h) → Has (seqK (evK env E b R) k e r h) Q) : Has (evK env E (.seq a b) R r h k) Q :=
  seq_join (fun e r h => J (e, r, h)) ha hb
section
variable (pod podTo : Kn) (x y : Ext) (now to : List Kn) (hlen : now.length = to.length) (hl : now.length < 9223372036854775807) (o : List Int) (ho : o.length ≤ 4) (ph : Int) (hph : ph = 1 ∨ ph = 2 ∨ ph = 3 ∨ ph = 4 ∨ ph = 5)
def phase : Option Stp := (List.range (now.length + 1)).findSome? (item pod podTo now to o ph)
def Lp : List (Nat × AV) := [(2, .pv (.sl x now.length (kns now))), (3, .pv (.sl y to.length (kns to))), (4, .ptr 0 0), (5, .ptr 1 0), (8, .ptr 2 0), (10, .pv (.int .i64 now.length)), (11, .pv (.int .i64 ph))]
include hlen hl ho hph in
set_option maxHeartbeats 1000000 in
theorem loop2_ok (r : Regs) (J : Heap) :
    Has (evK env (EE env) LP2 Res (setL r (Lx x y now to o ph (.pv (.int .i64 0)))) (Fs pod podTo z3 ++ J) doneK)
      (fun w => match phase pod podTo now to o ph with
        | none => w.1 = .normal ∧ Agr w.2.1 (Lp x y now to ph) ∧ ∃ J', w.2.2 = Fs pod podTo z3 ++ J'
        | some s => w.1 = .ret ∧ w.2.1 8 = .ptr 2 0 ∧ w.2.1 9 = .pv (.bool true) ∧ ∃ J', w.2.2 = Fs pod podTo s ++ J') := by
  refine loopK_has ?_
  refine iterE_loopJ (σ := Nat) (fun m => now.length + 1 - m) (fun m => Lx x y now to o ph (.pv (.int .i64 m))) (fun _ => Fs pod podTo z3) (fun m => m ≤ now.length + 1 ∧ ∀ j, j < m → item pod podTo now to o ph j = none) (fun m ⟨hm, hno⟩ r J => ?_) 0 ⟨Nat.zero_le _, fun j hj => by omega⟩ J ⟨rfl, rfl, rfl, rfl, rfl, rfl, rfl, rfl, rfl, trivial⟩ rfl
  show Has (evK env (EE env) (LP2.at [0, 0]) Res (setL r (Lx x y now to o ph (.pv (.int .i64 m)))) (Fs pod podTo z3 ++ J) doneK) _
  rcases Nat.lt_or_ge m (now.length + 1) with hlt | hge
  · refine seq_on (Lx x y now to o ph (.pv (.int .i64 m))) (Fs pod podTo z3 ++ J) ?_ (fun r => ?_)
    · refine boolK_dec_t (by omega) ?_
      exact Has.intro ⟨rfl, ⟨rfl, rfl, rfl, rfl, rfl, rfl, rfl, rfl, rfl, trivial⟩, rfl⟩
    refine seq_joinR _ (item_ok pod podTo x y now to hlen (by omega) o ho ph hph r J m (by omega)) (fun e r h hj => ?_)
    cases hq : item pod podTo now to o ph m with
    | none =>
      rw [hq] at hj
      obtain ⟨rfl, hA, J', hh⟩ := hj
      dsimp only at hA hh
      subst hh
      rw [← hA.eq]
      refine eqK_has_eq _ (i64_succ (by omega)) ?_
      refine Has.intro ⟨m + 1, ⟨hlt, fun j hj => ?_⟩, by omega, ⟨rfl, rfl, rfl, rfl, rfl, rfl, rfl, rfl, rfl, trivial⟩, J', rfl⟩
      by_cases e : j = m
      · subst e; exact hq
      · exact hno j (by omega)
    | some s =>
      rw [hq] at hj
      obtain ⟨rfl, h1, h2, J', h3⟩ := hj
      refine Has.intro (Has.intro ?_)
      have : phase pod podTo now to o ph = some s := range_some hno hlt hq
      rw [this]
      exact ⟨rfl, h1, h2, J', h3⟩
  · have : m = now.length + 1 := by omega
    subst this
    refine boolK_dec_f (by omega) ?_
    refine Has.intro (Has.intro ?_)
    have : phase pod podTo now to o ph = none := range_none hno
    rw [this]
    exact ⟨rfl, ⟨rfl, rfl, rfl, rfl, rfl, rfl, rfl, trivial⟩, J, rfl⟩
end

def ord (ph : Int) : List Int := if ph = 3 ∨ ph = 4 then upw else if ph = 2 then [1] else dn
section
variable (pod podTo : Kn) (x y : Ext) (now to : List Kn) (hlen : now.length = to.length) (hl : now.length < 9223372036854775807)
include hlen hl in
set_option maxHeartbeats 1000000 in
theorem phase_ok (ph : Int) (hph : ph = 1 ∨ ph = 2 ∨ ph = 3 ∨ ph = 4 ∨ ph = 5) (r : Regs) (J : Heap) :
    Has (evK env (EE env) (PH.at [1, 0]) Res (setL r (Lp x y now to ph)) (Fs pod podTo z3 ++ J) doneK)
      (fun w => match phase pod podTo now to (ord ph) ph with
        | none => w.1 = .normal ∧ Agr w.2.1 (Lp x y now to ph) ∧ ∃ J', w.2.2 = Fs pod podTo z3 ++ J'
        | some s => w.1 = .ret ∧ w.2.1 8 = .ptr 2 0 ∧ w.2.1 9 = .pv (.bool true) ∧ ∃ J', w.2.2 = Fs pod podTo s ++ J') := by
  show Has (evK env (EE env) (PH.at [1, 0, 0]) Res _ _ (blockK 1 doneK)) _
  have ho : (ord ph).length ≤ 4 := by unfold ord; split; decide; split <;> decide
  refine seq_on ((12, .pv (.sl .nnx dn.length (ints dn))) :: Lp x y now to ph) (Fs pod podTo z3 ++ J) (Has.intro ⟨rfl, ⟨rfl, rfl, rfl, rfl, rfl, rfl, rfl, rfl, trivial⟩, rfl⟩) (fun r => ?_)
  have tail : ∀ r, Has (evK env (EE env) (PH.at [1, 0, 0, 1, 1, 1]) Res (setL r ((12, .pv (.sl .nnx (ord ph).length (ints (ord ph)))) :: Lp x y now to ph)) (Fs pod podTo z3 ++ J) (blockK 1 doneK))
      (fun w => match phase pod podTo now to (ord ph) ph with
        | none => w.1 = .normal ∧ Agr w.2.1 (Lp x y now to ph) ∧ ∃ J', w.2.2 = Fs pod podTo z3 ++ J'
        | some s => w.1 = .ret ∧ w.2.1 8 = .ptr 2 0 ∧ w.2.1 9 = .pv (.bool true) ∧ ∃ J', w.2.2 = Fs pod podTo s ++ J') := by
    intro r
    refine seq_on (Lx x y now to (ord ph) ph (.pv (.int .i64 0))) (Fs pod podTo z3 ++ J) (Has.intro ⟨rfl, ⟨rfl, rfl, rfl, rfl, rfl, rfl, rfl, rfl, rfl, trivial⟩, rfl⟩) (fun r => ?_)
    refine evK_split (c := LP2) ?_
    refine (loop2_ok pod podTo x y now to hlen hl (ord ph) ho ph hph r J).mono fun w hw => ?_
    obtain ⟨e, r', h'⟩ := w
    cases hq : phase pod podTo now to (ord ph) ph with
    | none =>
      rw [hq] at hw
      obtain ⟨h1, h2⟩ := hw
      dsimp only at h1 h2
      subst h1
      exact Has.intro ⟨rfl, h2⟩
    | some s =>
      rw [hq] at hw
      obtain ⟨h1, h2⟩ := hw
      dsimp only at h1 h2
      subst h1
      exact Has.intro ⟨rfl, h2⟩
  refine seq_on ((12, .pv (.sl .nnx (if ph = 3 ∨ ph = 4 then upw else dn).length (ints (if ph = 3 ∨ ph = 4 then upw else dn)))) :: Lp x y now to ph) (Fs pod podTo z3 ++ J) ?_ (fun r => ?_)
  · rcases hph with rfl | rfl | rfl | rfl | rfl
    all_goals
      repeat' (first
        | refine boolK_has_true rfl ?_
        | refine boolK_has_false rfl ?_)
      exact Has.intro ⟨rfl, ⟨rfl, rfl, rfl, rfl, rfl, rfl, rfl, rfl, trivial⟩, rfl⟩
  refine seq_on ((12, .pv (.sl .nnx (ord ph).length (ints (ord ph)))) :: Lp x y now to ph) (Fs pod podTo z3 ++ J) ?_ (fun r => tail r)
  rcases hph with rfl | rfl | rfl | rfl | rfl
  all_goals
    repeat' (first
      | refine boolK_has_true rfl ?_
      | refine boolK_has_false rfl ?_)
    exact Has.intro ⟨rfl, ⟨rfl, rfl, rfl, rfl, rfl, rfl, rfl, rfl, trivial⟩, rfl⟩

def rnx : Option Stp := (List.range 5).findSome? fun (j : Nat) => phase pod podTo now to (ord ((j + 1 : Nat) : Int)) ((j + 1 : Nat) : Int)
include hlen hl in
set_option maxHeartbeats 1000000 in
theorem rnext_ok' : EP (EE env) 8 [.agg (kn pod), .agg (kn podTo), .sl x now.length (kns now), .sl y to.length (kns to)] = some (op (rnx pod podTo now to)) := by
  refine Has.eq (EP_has (fn_has rfl ?_))
  refine seq_on [(2, .pv (.sl x now.length (kns now))), (3, .pv (.sl y to.length (kns to))), (4, .ptr 0 0), (5, .ptr 1 0), (8, .ptr 2 0)] (Fs pod podTo z3) (Has.intro ⟨rfl, ⟨rfl, rfl, rfl, rfl, rfl, trivial⟩, rfl⟩) (fun r => ?_)
  refine seq_on [(2, .pv (.sl x now.length (kns now))), (3, .pv (.sl y to.length (kns to))), (4, .ptr 0 0), (5, .ptr 1 0), (8, .ptr 2 0)] (Fs pod podTo z3) ?_ (fun r => ?_)
  · refine boolK_bne_f (by omega) ?_
    (refine Has.intro ⟨rfl, ?_, rfl⟩; (repeat (first | exact trivial | refine ⟨rfl, ?_⟩)))
  refine seq_on [(2, .pv (.sl x now.length (kns now))), (3, .pv (.sl y to.length (kns to))), (4, .ptr 0 0), (5, .ptr 1 0), (8, .ptr 2 0), (10, .pv (.int .i64 now.length))] (Fs pod podTo z3) (Has.intro ⟨rfl, ⟨rfl, rfl, rfl, rfl, rfl, rfl, trivial⟩, rfl⟩) (fun r => ?_)
  refine loopK_has ?_
  refine iterE_loopJ (σ := Nat) (fun m => 5 - m) (fun m => Lp x y now to ((m + 1 : Nat) : Int)) (fun _ => Fs pod podTo z3) (fun m => m ≤ 5 ∧ ∀ j, j < m → phase pod podTo now to (ord ((j + 1 : Nat) : Int)) ((j + 1 : Nat) : Int) = none) (fun m ⟨hm, hno⟩ r J => ?_) 0 ⟨Nat.zero_le _, fun j hj => by omega⟩ [] ⟨rfl, rfl, rfl, rfl, rfl, rfl, rfl, trivial⟩ rfl
  show Has (evK env (EE env) PH Res (setL r (Lp x y now to ((m + 1 : Nat) : Int))) (Fs pod podTo z3 ++ J) doneK) _
  rcases Nat.lt_or_ge m 5 with hlt | hge
  · refine seq_on (Lp x y now to ((m + 1 : Nat) : Int)) (Fs pod podTo z3 ++ J) ?_ (fun r => ?_)
    · refine boolK_dec_t (by omega) ?_
      exact Has.intro ⟨rfl, ⟨rfl, rfl, rfl, rfl, rfl, rfl, rfl, trivial⟩, rfl⟩
    refine seq_joinR _ (phase_ok pod podTo x y now to hlen hl ((m + 1 : Nat) : Int) (by omega) r J) (fun e r h hj => ?_)
    cases hq : phase pod podTo now to (ord ((m + 1 : Nat) : Int)) ((m + 1 : Nat) : Int) with
    | none =>
      rw [hq] at hj
      obtain ⟨rfl, hA, J', hh⟩ := hj
      dsimp only at hA hh
      subst hh
      rw [← hA.eq]
      refine eqK_has_eq _ (i64_succ (by omega)) ?_
      refine Has.intro ⟨m + 1, ⟨hlt, fun j hj => ?_⟩, by omega, ⟨rfl, rfl, rfl, rfl, rfl, rfl, rfl, trivial⟩, J', rfl⟩
      by_cases e : j = m
      · subst e; exact hq
      · exact hno j (by omega)
    | some s =>
      rw [hq] at hj
      obtain ⟨rfl, h1, h2, J', h3⟩ := hj
      dsimp only at h1 h2 h3
      subst h3
      have hA : Agr r [(8, .ptr 2 0), (9, .pv (.bool true))] := ⟨h1, h2, trivial⟩
      rw [← hA.eq]
      refine Has.intro ?_
      refine hgetK_has _ rfl ?_
      refine secK_has (v := sc s) rfl (Nat.le_refl 3) ?_
      (refine Has.intro (Has.intro ?_))
      have : rnx pod podTo now to = some s := range_some hno hlt hq
      rw [this]; rfl
  · have : m = 5 := by omega
    subst this
    refine boolK_dec_f (by omega) ?_
    refine Has.intro ?_
    (repeat (first | refine hgetK_last ?_ | refine hgetK_set ?_ | refine hgetK_has _ rfl ?_ | refine needK_has rfl ?_ | refine getK_has rfl ?_ | refine secK_has rfl (by first | exact Nat.le_refl _ | decide) ?_ | refine eqK_has ?_))
    (refine Has.intro (Has.intro ?_))
    have : rnx pod podTo now to = none := range_none hno
    rw [this]; rfl
end
end Go.Proofs.Ytaiomdfajdeacaa
