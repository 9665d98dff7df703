/-
  Both next steps are one; a step applied.
-/
import Derived.Test.YtaiomdfajdeacaaPlF
set_option linter.all false
set_option linter.unusedVariables false
set_option linter.unusedSimpArgs false
set_option linter.unusedSectionVars false
namespace Go.Proofs.Ytaiomdfajdeacaa
open Go Go.VM

theorem find_congr' {α β : Type} {f g : α → Option β} : ∀ {l : List α}, (∀ x ∈ l, f x = g x) → l.findSome? f = l.findSome? g := by
  intro l
  induction l with
  | nil => intro _; rfl
  | cons a l ih =>
    intro h
    rw [List.findSome?_cons, List.findSome?_cons, h a (List.mem_cons_self ..), ih fun x hx => h x (List.mem_cons_of_mem _ hx)]
theorem fstG_fst {who : Int} {a b : Kn} {o : List Int} {ph way : Int} (h : ∀ x y, hitG ph x y ↔ goes way x y) : fstG who a b o ph = fst who a b o way := by
  unfold fstG fst
  refine find_congr' fun f _ => ?_
  by_cases hh : goes way (at_ a f) (at_ b f)
  · rw [if_pos hh, if_pos ((h _ _).2 hh)]
  · rw [if_neg hh, if_neg (fun h' => hh ((h _ _).1 h'))]
theorem phase_split (pod podTo : Kn) (now to : List Kn) (o : List Int) (ph : Int) : phase pod podTo now to o ph =
    ((List.range now.length).findSome? fun (i : Nat) => if skp ph i then none else fstG i (gt now i) (gt to i) o ph).or (if skp ph (-1) then none else fstG (-1) pod podTo o ph) := by
  unfold phase
  rw [List.range_succ, List.findSome?_append]
  congr 1
  · refine find_congr' fun i hi => ?_
    unfold item
    rw [if_pos (List.mem_range.1 hi)]
  · rw [List.findSome?_cons]
    unfold item
    rw [if_neg (Nat.lt_irrefl _)]
    split <;> rename_i h
    · exact h.symm
    · rw [h]; rfl
theorem rnx_nxt (pod podTo : Kn) (now to : List Kn) (hlen : now.length = to.length) : rnx pod podTo now to = nxt pod podTo now to := by
  have none_or : ∀ {α : Type} (o : Option α), (none : Option α).or o = o := fun o => by cases o <;> rfl
  have or_none : ∀ {α : Type} (o : Option α), o.or none = o := fun o => by cases o <;> rfl
  have p1 : phase pod podTo now to (ord 1) 1 = smf now to dn 0 := by
    rw [phase_split, if_pos (by unfold skp; omega), or_none]
    exact find_congr' fun i _ => by
      rw [if_neg (by unfold skp; omega)]
      exact fstG_fst (way := 0) fun x y => by unfold hitG goes; omega
  have p2 : phase pod podTo now to (ord 2) 2 = wgt pod podTo now to := by
    have h1 : ∀ who (a b : Kn), fstG who a b [1] 2 = if a.w ≠ b.w then some ⟨who, 1, b.w⟩ else none := fun who a b => by
      unfold fstG
      rw [List.findSome?_cons, List.findSome?_nil]
      have ea : at_ a 1 = a.w := rfl
      have eb : at_ b 1 = b.w := rfl
      rw [ea, eb]
      by_cases h : a.w ≠ b.w
      · rw [if_pos h, if_pos (by unfold hitG; omega)]
      · rw [if_neg h, if_neg (by unfold hitG; omega)]
    rw [phase_split, if_neg (by unfold skp; omega)]
    show (List.findSome? _ _).or (fstG (-1) pod podTo [1] 2) = (wgc now to).or _
    rw [h1]
    congr 1
    refine find_congr' fun i _ => ?_
    rw [if_neg (by unfold skp; omega)]
    exact h1 _ _ _
  have p3 : phase pod podTo now to (ord 3) 3 = fst (-1) pod podTo upw 1 := by
    rw [phase_split, if_neg (by unfold skp; omega), range_none fun j _ => if_pos (by unfold skp; omega), none_or]
    exact fstG_fst (way := 1) fun x y => by unfold hitG goes; omega
  have p4 : phase pod podTo now to (ord 4) 4 = smf now to upw 1 := by
    rw [phase_split, if_pos (by unfold skp; omega), or_none]
    exact find_congr' fun i _ => by
      rw [if_neg (by unfold skp; omega)]
      exact fstG_fst (way := 1) fun x y => by unfold hitG goes; omega
  have p5 : phase pod podTo now to (ord 5) 5 = fst (-1) pod podTo dn 0 := by
    rw [phase_split, if_neg (by unfold skp; omega), range_none fun j _ => if_pos (by unfold skp; omega), none_or]
    exact fstG_fst (way := 0) fun x y => by unfold hitG goes; omega
  unfold nxt
  rw [if_neg (fun h => h hlen), ← p1, ← p2, ← p3, ← p4, ← p5]
  have five : ∀ (g : Nat → Option Stp), (List.range 5).findSome? g = (g 0).or ((g 1).or ((g 2).or ((g 3).or (g 4)))) := fun g => by
    show List.findSome? g [0, 1, 2, 3, 4] = _
    simp only [List.findSome?_cons, List.findSome?_nil]
    cases g 0 <;> cases g 1 <;> cases g 2 <;> cases g 3 <;> cases g 4 <;> rfl
  exact five _
theorem rnext_ok (pod podTo : Kn) (x y : Ext) (now to : List Kn) (hl : now.length < 9223372036854775807) :
    EP (EE env) 8 [.agg (kn pod), .agg (kn podTo), .sl x now.length (kns now), .sl y to.length (kns to)] = some (op (nxt pod podTo now to)) := by
  by_cases hlen : now.length = to.length
  · rw [rnext_ok' pod podTo x y now to hlen hl, rnx_nxt pod podTo now to hlen]
  · refine Has.eq (EP_has ?_)
    refine boolK_bne_t (by omega) ?_
    (repeat (first | refine hgetK_last ?_ | refine hgetK_set ?_ | refine hgetK_has _ rfl ?_ | refine needK_has rfl ?_ | refine getK_has rfl ?_ | refine secK_has rfl (by first | exact Nat.le_refl _ | decide) ?_ | refine eqK_has ?_))
    (refine Has.intro (Has.intro ?_))
    unfold nxt
    rw [if_pos hlen]; rfl

/-! ### a step applied -/
def ap (pod : Kn) (now : List Kn) (s : Stp) : Kn × List Kn :=
  if s.who = -1 then (with_ pod s.f s.n, now) else if 0 ≤ s.who ∧ s.who < now.length then (pod, now.set s.who.toNat (with_ (gt now s.who.toNat) s.f s.n)) else (pod, now)
theorem kns_set {l : List Kn} {i : Nat} (k : Kn) (h : i < l.length) : (kns l).take (i * 5) ++ kn k ++ (kns l).drop (i * 5 + 5) = kns (l.set i k) := by
  induction l generalizing i with
  | nil => simp at h
  | cons a l ih =>
    cases i with
    | zero => rfl
    | succ i =>
      have e : (i + 1) * 5 = (kn a).length + i * 5 := by show _ = 5 + _; omega
      show ((kn a ++ kns l).take ((i + 1) * 5) ++ kn k ++ (kn a ++ kns l).drop ((i + 1) * 5 + 5)) = kn a ++ kns (l.set i k)
      rw [← ih (by simpa using h), e, List.take_append, List.take_of_length_le (by omega), Nat.add_sub_cancel_left, Nat.add_assoc, List.drop_append, List.drop_of_length_le (by omega), Nat.add_sub_cancel_left]
      simp
theorem kns_flat (l : List Kn) : (kns l).all PV.flat = true := by
  rw [List.all_eq_true]
  intro p hp
  unfold kns at hp
  obtain ⟨c, hc, hp⟩ := List.mem_flatten.1 hp
  obtain ⟨k, _, rfl⟩ := List.mem_map.1 hc
  have : p ∈ [PV.int .i64 k.c, .int .i64 k.w, .int .i64 k.mn, .int .i64 k.mx, .int .i64 k.hg] := hp
  simp at this
  rcases this with rfl | rfl | rfl | rfl | rfl <;> rfl
end Go.Proofs.Ytaiomdfajdeacaa
