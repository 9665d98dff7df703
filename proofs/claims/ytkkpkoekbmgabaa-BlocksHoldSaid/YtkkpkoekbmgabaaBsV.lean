/-
  Blocks: the laws' arguments; operations, one after the other.
-/
import Derived.Test.YtkkpkoekbmgabaaBsU
set_option linter.all false
set_option linter.unusedVariables false
set_option linter.unusedSimpArgs false
set_option linter.unusedSectionVars false
namespace Go.Proofs.Ytkkpkoekbmgabaa
open Go Go.VM
variable {H : Heap} {p m : Nat} {zs : List Zn} {L : List Rw}

abbrev TI : Ty := .int .i64
abbrev TZ : Ty := .st [(2, .arr 2 1 TI), (2, .arr 2 1 TI)]
abbrev TO : Ty := .st [(1, .str), (1, .str), (1, TI)]
abbrev TS : Ty := .arr 8 1 TI
abbrev TOp : Ty := .st [(1, TI), (1, TI), (3, TO), (8, TS)]
theorem els_dec {α : Type} {f : α → List PV} {P : α → Prop} {T : Ty} {es : Nat} (hd : ∀ cs, HasTy T cs → ∃ a, cs = f a ∧ P a) : ∀ (n : Nat) (cs : List PV), Els (HasTy T) es n cs → ∃ l : List α, l.length = n ∧ cs = l.flatMap f ∧ ∀ a ∈ l, P a := by
  intro n
  induction n with
  | zero => intro cs h; exact ⟨[], rfl, h, fun a ha => by cases ha⟩
  | succ n ih =>
    intro cs h
    obtain ⟨x, y, rfl, _, h1, h2⟩ := h
    obtain ⟨a, rfl, ha⟩ := hd _ h1
    obtain ⟨l, rfl, rfl, hl⟩ := ih _ h2
    refine ⟨a :: l, rfl, by simp, fun b hb => ?_⟩
    rcases List.mem_cons.1 hb with rfl | hb
    · exact ha
    · exact hl b hb
theorem dec_str (s : ByteArray) : ∃ l : List UInt8, PV.str s = sv l ∧ l.length = s.size := ⟨s.data.toList, rfl, rfl⟩
theorem dec_z {cs : List PV} (h : HasTy TZ cs) : ∃ z, cs = zc z ∧ True := by
  obtain ⟨_, _, rfl, _, ⟨_, _, rfl, _, ⟨a, rfl, _⟩, _, _, rfl, _, ⟨b, rfl, _⟩, rfl⟩, _, _, rfl, _, ⟨_, _, rfl, _, ⟨c, rfl, _⟩, _, _, rfl, _, ⟨d, rfl, _⟩, rfl⟩, rfl⟩ := h
  exact ⟨⟨a, b, c, d⟩, rfl, trivial⟩
def okO (o : Ow) : Prop := o.pod.length ≤ maxLen ∧ o.ct.length ≤ maxLen
theorem dec_o {cs : List PV} (h : HasTy TO cs) : ∃ o, cs = oc o ∧ okO o := by
  obtain ⟨_, _, rfl, _, ⟨s, rfl, hs⟩, _, _, rfl, _, ⟨t, rfl, ht⟩, _, _, rfl, _, ⟨k, rfl, _⟩, rfl⟩ := h
  obtain ⟨l, h1, h2⟩ := dec_str s
  obtain ⟨l', h3, h4⟩ := dec_str t
  rw [h1, h3]
  exact ⟨⟨l, l', k⟩, rfl, by show l.length ≤ _; omega, by show l'.length ≤ _; omega⟩
theorem dec_s {cs : List PV} (h : HasTy TS cs) : ∃ s, cs = sc s := by
  obtain ⟨_, _, rfl, _, ⟨a0, rfl, _⟩, _, _, rfl, _, ⟨a1, rfl, _⟩, _, _, rfl, _, ⟨a2, rfl, _⟩, _, _, rfl, _, ⟨a3, rfl, _⟩, _, _, rfl, _, ⟨a4, rfl, _⟩, _, _, rfl, _, ⟨a5, rfl, _⟩, _, _, rfl, _, ⟨a6, rfl, _⟩, _, _, rfl, _, ⟨a7, rfl, _⟩, rfl⟩ := h
  exact ⟨⟨a0, a1, a2, a3, a4, a5, a6, a7⟩, rfl⟩
theorem dec_op {cs : List PV} (h : HasTy TOp cs) : ∃ x, cs = opc x ∧ okO x.o := by
  obtain ⟨_, _, rfl, _, ⟨k, rfl, _⟩, _, _, rfl, _, ⟨a, rfl, _⟩, _, _, rfl, _, ho, _, _, rfl, _, hs, rfl⟩ := h
  obtain ⟨o, rfl, h1⟩ := dec_o ho
  obtain ⟨s, rfl⟩ := dec_s hs
  exact ⟨⟨k, a, o, s⟩, by simp [opc], h1⟩
theorem arg_zs {p : PV} (h : HasArg (.sl 4 TZ) p) : ∃ x l, p = .sl x l.length (zcs l) ∧ l.length ≤ maxLen := by
  obtain ⟨x, n, cells, h1, _, hn, he⟩ := h
  injection h1 with h1
  obtain ⟨cs, rfl, rfl, hc⟩ := els_dec (fun _ h => dec_z h) n cells he
  exact ⟨x, cs, h1, hn⟩
theorem arg_ops {p : PV} (h : HasArg (.sl 13 TOp) p) : ∃ x l, p = .sl x l.length (ops l) ∧ l.length ≤ maxLen ∧ ∀ x ∈ l, okO x.o := by
  obtain ⟨x, n, cells, h1, _, hn, he⟩ := h
  injection h1 with h1
  obtain ⟨cs, rfl, rfl, hc⟩ := els_dec (fun _ h => dec_op h) n cells he
  exact ⟨x, cs, h1, hn, hc⟩
/-! ### rows that hold something -/
def NZ (L : List Rw) : Prop := ∀ r ∈ L, r.2 ≠ s0
theorem NZ.sub {A L : List Rw} (h : NZ L) (hs : A.Sublist L) : NZ A := fun r hr => h r (hs.subset hr)
theorem NZ.put (h : NZ L) (o : Ow) (s : Sd) : NZ (putS zs L o s) := by
  unfold putS
  split
  · split
    · exact h.sub (without_sub L o)
    · rename_i hs
      intro r hr
      rcases List.mem_cons.1 ((insR_perm _ _).subset hr) with rfl | hr
      · exact hs
      · exact h.sub (without_sub L o) r hr
  · exact h
theorem put_len (o : Ow) (s : Sd) : (putS zs L o s).length ≤ L.length + 1 := by
  unfold putS
  have := (without_sub L o).length_le
  split
  · split
    · omega
    · rw [(insR_perm _ _).length_eq, List.length_cons]; omega
  · omega
/-! ### operations, one after the other -/
def runA (f : Int → Bool) (zs : List Zn) : List Rw → List Op → List Rw
  | L, [] => L
  | L, x :: l => runA f zs (if f x.kind = true then others L x.o.pod else putS zs L x.o x.s) l
theorem runA_len (f : Int → Bool) (zs : List Zn) : ∀ (l : List Op) (L : List Rw), (runA f zs L l).length ≤ L.length + l.length := by
  intro l
  induction l with
  | nil => intro L; exact Nat.le_refl _
  | cons x l ih =>
    intro L
    have h1 := ih (if f x.kind = true then others L x.o.pod else putS zs L x.o x.s)
    have h2 : (if f x.kind = true then others L x.o.pod else putS zs L x.o x.s).length ≤ L.length + 1 := by
      split
      · have := (others_sub L x.o.pod).length_le; omega
      · exact put_len _ _
    rw [List.length_cons]
    show (runA f zs _ l).length ≤ _
    omega
theorem runA_step {f : Int → Bool} {zs : List Zn} : ∀ {l : List Op} {L : List Rw} {i : Nat} {x : Op}, l[i]? = some x → runA f zs L (l.take (i + 1)) = (if f x.kind = true then others (runA f zs L (l.take i)) x.o.pod else putS zs (runA f zs L (l.take i)) x.o x.s) := by
  intro l
  induction l with
  | nil => intro L i x h; cases h
  | cons a l ih =>
    intro L i x h
    cases i with
    | zero => simp at h; subst h; rfl
    | succ i =>
      rw [List.take_succ_cons, List.take_succ_cons]
      exact ih (by simpa using h)
end Go.Proofs.Ytkkpkoekbmgabaa
