/-
  Functions of the library that are known by what they do: a map's copy; a sort by a function that compares.
-/
import Derived.Test.YtkkpkoekbmgabaaV12
import Derived.Shelf.SlSortCmp.NoneTotal
import Derived.Shelf.SlMaps.Clone
set_option linter.all false
set_option linter.unusedVariables false
set_option linter.unusedSimpArgs false
set_option linter.unusedSectionVars false
namespace Go.VM
open Go Go.Shelf Go.RowKit Go.Lib Go.Sort Go.Proofs

section
variable {Γ : Ctx}
/-- A function does what is told of it. -/
def PrimOK (Γ : Ctx) (f : FuncId) (p : PrimH) : Prop :=
  FnOK Γ.P f ∧ ∀ E, OrcOK Γ E → ∀ args H v H', primK p E args H = some (v, H') → ∀ base κ w vs, SRel Γ base κ H w → VRels κ args vs → CallsIn Fence.wide 0 Γ.P f vs.toArray w (Out Γ base κ H w v H')
theorem clone_prim {f : FuncId} (hf : FnOK Γ.P f) (c1 : ∀ (b : Nat) (es : Array MapEntry) (clk : Nat) (w : World), w.heap[b]? = some (.map es clk) → Calls Γ.P f #[.map (some b)] w fun e w' => e = .returned (.map (some w.heap.size)) ∧ w' = w.alloc (.map es clk))
    (c2 : ∀ w, Calls Γ.P f #[.map none] w fun e w' => e = .returned (.map none) ∧ w' = w) : PrimOK Γ f .clone := by
  refine ⟨hf, fun E hE args H v H' he base κ w vs hs ha => ?_⟩
  simp only [primK] at he
  split at he
  · rename_i id
    split at he
    · rename_i clk es hg
      injection he with he; injection he with e1 e2; subst e1; subst e2
      cases ha with
      | cons _ v0 _ _ h1 h2 =>
        cases h2
        cases h1 with
        | map _ kb hl =>
          obtain ⟨_, hob⟩ := hs.obj id kb (by rw [hg]; exact hl)
          rw [hg] at hob
          obtain ⟨ents, hw, hm⟩ := hob
          refine (callsIn_wide.2 (c1 kb ents clk w hw)).mono ?_
          rintro e w' ⟨rfl, rfl⟩
          obtain ⟨s1, g1⟩ := hs.turnNew (.map clk es) w.heap.size (Same.alloc w (.map ents clk)) (κ.le_at (k := w.heap.size) (hs.fresh _ (Nat.le_refl _)).1) (fun i hi => by simp [K.at, hi]) (fun _ _ => rfl)
            (fun k hk => Go.heap_alloc_old w _ hk) (fun _ _ h => .inl h) (by simp [place, K.at]) (Nat.le_refl _) ⟨ents, Go.heap_alloc_new w _, hm⟩
          exact ⟨_, .map _ _ (K.at_same _ _ _), s1, g1⟩
    · cases he
  · injection he with he; injection he with e1 e2; subst e1; subst e2
    cases ha with
    | cons _ v0 _ _ h1 h2 =>
      cases h2
      cases h1 with
      | pv _ _ hp =>
        cases hp
        refine (callsIn_wide.2 (c2 w)).mono ?_
        rintro e w' ⟨rfl, rfl⟩
        exact ⟨κ, .pv _ _ .nilm, hs, Grow.refl _ _ _⟩
  · cases he

/-! ### a sort -/
/-- What the library's sort does, at elements of k cells. -/
def SortSpec (P : Program) (f : FuncId) (k : Nat) : Prop :=
  (∀ (p : Option Addr) (cap : Nat) (fv : Value) (w : World), Calls P f #[.slice p 0 cap, fv] w fun e w' => e = .returned (.tuple #[]) ∧ w' = w) ∧
  ∀ (α : Type) [Inhabited α] (enc : α → List Value), (∀ x, (enc x).length = k) → (∀ x, ∀ v ∈ enc x, v.oneCell' = true) → ∀ (cf : α → α → Int), SWO (ltOf cf) → ∀ (g : Nat) (cb : Array Value) (blk off cap : Nat) (d : Array α) (w : World),
    (∀ args w, (callFunc g args).run P w = .ok (.enter g args) w) → CmpLays P g cb enc k cf blk off d.size w → HoldsK enc k w blk off d → blk < w.heap.size → d.size < 4611686018427387904 →
    Calls P f #[.slice (some ⟨blk, off, none⟩) d.size cap, .func (.func g) #[] cb] w fun e w' => e = .returned (.tuple #[]) ∧ ∃ d' n os, PermIn 0 d.size d d' ∧ SortedIn (ltOf cf) 0 d.size d' ∧ w' = sortWorldK enc k w blk off n d' os

/-- A value that names nothing. -/
def flatV : PV → Value
  | .bool b => .bool b
  | .int k n => .int k n
  | .str s => .string s
  | .nilp => .pointer none
  | .nilm => .map none
  | .nilf => .nilFunc
  | _ => .nilIface
theorem flatV_rel {I : Imm} {p : PV} (h : p.flat = true) : PRel I p (flatV p) := by
  cases p <;> first | (cases h; done) | constructor
theorem flatV_eq {I : Imm} {p : PV} {v : Value} (h : p.flat = true) (hr : PRel I p v) : v = flatV p := by
  cases hr <;> first | (cases h; done) | rfl
theorem flatVs_rel {I : Imm} : ∀ {l : List PV}, l.all PV.flat = true → PRels I l (l.map flatV) := by
  intro l
  induction l with
  | nil => intro _; exact .nil
  | cons p l ih => intro h; rw [List.all_cons, Bool.and_eq_true] at h; exact .cons _ _ _ _ (flatV_rel h.1) (ih h.2)
theorem flatVs_eq {I : Imm} : ∀ {l : List PV} {vs : List Value}, l.all PV.flat = true → PRels I l vs → vs = l.map flatV := by
  intro l
  induction l with
  | nil => intro vs _ hr; cases hr; rfl
  | cons p l ih => intro vs h hr; rw [List.all_cons, Bool.and_eq_true] at h; cases hr with | cons _ _ _ _ h1 h2 => rw [flatV_eq h.1 h1, ih h.2 h2]; rfl
theorem flatV_one {p : PV} (h : p.flat = true) : (flatV p).oneCell' = true := by
  cases p <;> first | (cases h; done) | rfl
theorem perm_map_inv {α β : Type} {f : α → β} : ∀ {l l2 : List β}, l.Perm l2 → ∀ m : List α, l2 = m.map f → ∃ m' : List α, m'.Perm m ∧ l = m'.map f := by
  intro l l2 h
  induction h with
  | nil => intro m hm; cases m with
    | nil => exact ⟨[], .refl _, rfl⟩
    | cons a m => cases hm
  | cons x _ ih =>
    intro m hm
    cases m with
    | nil => cases hm
    | cons a m =>
      rw [List.map_cons] at hm
      injection hm with h1 h2
      obtain ⟨m', g1, g2⟩ := ih m h2
      exact ⟨a :: m', g1.cons a, by rw [List.map_cons, ← h1, g2]⟩
  | swap x y l =>
    intro m hm
    cases m with
    | nil => cases hm
    | cons a m => cases m with
      | nil => cases hm
      | cons b m =>
        rw [List.map_cons, List.map_cons] at hm
        injection hm with h1 h2; injection h2 with h2 h3
        exact ⟨b :: a :: m, .swap _ _ _, by rw [List.map_cons, List.map_cons, ← h1, ← h2, ← h3]⟩
  | trans _ _ ih1 ih2 =>
    intro m hm
    obtain ⟨m2, g1, g2⟩ := ih2 m hm
    obtain ⟨m', g3, g4⟩ := ih1 m2 g2
    exact ⟨m', g3.trans g1, g4⟩

/-- A call by itself, of flat values, from any world in which what stays stays. -/
theorem flat_call {E : Orc} (hE : OrcOK Γ E) {κ : K} {W : World} (hs : SRel Γ W.heap.size κ.alone [] W) {g : FuncId} {a b : List PV} (ha : a.all PV.flat = true) (hb : b.all PV.flat = true) {c : Int} (he : EP E g [.agg a, .agg b] = some (.int .i64 c)) :
    Calls Γ.P g (#[.agg (a.map flatV).toArray, .agg (b.map flatV).toArray] ++ #[]) W fun e w' => e = .returned (.int .i64 c) ∧ ∃ q os', w' = grow (W.drewN q) os' := by
  unfold EP at he
  obtain ⟨⟨v0, h0⟩, h1, h2⟩ := some_bind he
  have ones : ∀ {l : List PV}, l.all PV.flat = true → Ones (l.map flatV) := fun hl v hv => by
    obtain ⟨p, hp, rfl⟩ := List.mem_map.1 hv
    exact flatV_one (List.all_eq_true.1 hl p hp)
  have hargs : VRels κ.alone ([PV.agg a, PV.agg b].map .pv) [.agg (a.map flatV).toArray, .agg (b.map flatV).toArray] :=
    .cons _ _ _ _ (.pv _ _ (.agg _ _ (flatVs_rel ha) (ones ha))) (.cons _ _ _ _ (.pv _ _ (.agg _ _ (flatVs_rel hb) (ones hb))) .nil)
  refine (callsIn_wide.1 (hE.fn _ _ _ _ _ h1 W.heap.size κ.alone W _ hs hargs)).mono ?_
  intro e w' ho
  cases e with
  | returned u =>
    obtain ⟨κ1, g1, g2, g3⟩ := ho
    have := out_rel (κ := κ) g2 h2 g1
    cases this
    refine ⟨rfl, w'.drawn - W.drawn, w'.heap.extract W.heap.size w'.heap.size, ?_⟩
    have hd := g3.drawn
    have hheap : w'.heap = W.heap ++ w'.heap.extract W.heap.size w'.heap.size := by
      have hsz := g3.size
      apply Array.ext_getElem?
      intro j
      rcases Nat.lt_or_ge j W.heap.size with h | h
      · rw [Array.getElem?_append_left h]
        exact g3.frame j h fun id hp => (alone_place hp).elim
      · rw [Array.getElem?_append_right h, Array.getElem?_extract]
        rcases Nat.lt_or_ge j w'.heap.size with h2 | h2
        · rw [if_pos (by omega)]; congr 1; omega
        · rw [if_neg (by omega), Array.getElem?_eq_none h2]
    obtain ⟨wh, wt, wd, wo, wu⟩ := w'
    have e1 := g3.tape
    have e2 := g3.os
    have e3 := g3.output
    dsimp only at hheap hd e1 e2 e3
    unfold grow World.drewN
    dsimp only
    rw [← hheap, e1, e2, e3]
    congr 1
    omega
  | panicked _ => exact ho.elim
  | outgrown => exact ho.elim
end
end Go.VM
