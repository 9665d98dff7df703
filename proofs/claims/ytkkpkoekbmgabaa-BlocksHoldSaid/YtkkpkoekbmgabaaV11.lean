/-
  Part 11 of an abstract machine that answers as the model does.
  The least oracle: what the code answers under it, it answers.
  Arguments of plain data, as the abstract machine's values.
  From the abstract machine's answer to a law's statement.
  A law's statement, from the abstract machine's answer.
  Stepping through the abstract machine's evaluation: an answer that has a property.
  Bytes and whole numbers of some bits; arguments that are bytes.
  Whole numbers of 64 bits, as numbers and as bits.
  Tables of cells.
  Stepping by cases: what a test tells, as a proposition.
  Texts as lists of bytes.
  Short hands for stepping; parts of tables.
-/
import Derived.Test.YtkkpkoekbmgabaaV10
import Derived.ProofKit
import Derived.Laws.Strings
set_option linter.all false
set_option linter.unusedVariables false
set_option linter.unusedSimpArgs false
set_option linter.unusedSectionVars false
namespace Go.VM
open Go

/-- What is answered is answered in the end. -/
def Conv {α : Type} (x : Option α) (xs : Nat → Option α) : Prop := ∀ y, x = some y → ∃ n, ∀ m, n ≤ m → xs m = some y

section
variable {R : Type} {env : Env} {E : Orc} {Es : Nat → Orc}

theorem Conv.const {α : Type} (x : Option α) : Conv x (fun _ => x) := fun _ h => ⟨0, fun _ _ => h⟩
theorem operK_pair_conv (hE : ∀ t args h, Conv (E t args h) (fun m => Es m t args h)) (o : VOp) (r : Regs) (h : Heap) : Conv (operK env E o r h fun v h => some (v, h)) (fun m => operK env (Es m) o r h fun v h => some (v, h)) := by
  have sk : ∀ {S : Type} (t : Tgt) (args : List AV) (h : Heap) (F : AV → Heap → Option S), Conv (callSK E t args h F) (fun m => callSK (Es m) t args h F) := by
    intro S t args h F y hy
    simp only [callSK_def] at hy ⊢
    obtain ⟨p, h1, h2⟩ := some_bind hy
    obtain ⟨n, hn⟩ := hE t args h p h1
    try dsimp only at hn
    exact ⟨n, fun m hm => by rw [hn m hm]; exact h2⟩
  have pk : ∀ {S : Type} (f : FuncId) (ps : List PV) (F : PV → Option S), Conv (callPK E f ps F) (fun m => callPK (Es m) f ps F) := by
    intro S f ps F y hy
    simp only [callPK_def, EP] at hy ⊢
    obtain ⟨p, h1, h2⟩ := some_bind hy
    obtain ⟨q, h3, h4⟩ := some_bind h1
    obtain ⟨n, hn⟩ := hE _ _ _ q h3
    try dsimp only at hn
    exact ⟨n, fun m hm => by rw [hn m hm]; simp only [Option.bind_some]; rw [h4]; exact h2⟩
  have lk : ∀ (l : List AV) (F : List PV → Option (AV × Heap)) (Fs : Nat → List PV → Option (AV × Heap)), (∀ ps, Conv (F ps) (fun m => Fs m ps)) → Conv (lendsK h l F) (fun m => lendsK h l (Fs m)) := by
    intro l
    induction l with
    | nil => intro F Fs hF; exact hF []
    | cons a l ih =>
      intro F Fs hF
      simp only [lendsK]
      split
      · exact ih _ _ fun ps => hF _
      · split
        · rename_i es id off len cap _
          simp only [hgetK_def]
          split
          · rename_i cs _
            simp only [secK_def]
            cases Nat.ble (off + len * es) cs.length
            · exact Conv.const _
            · exact ih _ _ fun ps => hF _
          · exact Conv.const _
        · exact Conv.const _
  have ck : ∀ (env : Env) (t : Tgt) (args : List AV), Conv (callK env E t args h fun v h => some (v, h)) (fun m => callK env (Es m) t args h fun v h => some (v, h)) := by
    intro env t args
    cases t with
    | yield id => exact sk _ _ _ _
    | fn f =>
      simp only [callK]
      split
      · exact sk _ _ _ _
      · split
        · exact pk _ _ _
        · exact Conv.const _
      · split
        · exact sk _ _ _ _
        · exact Conv.const _
      · split
        · exact sk _ _ _ _
        · exact Conv.const _
      · exact lk _ _ _ fun ps => sk _ _ _ _
  cases o
  case call m f xs =>
    simp only [operK]
    exact ck _ _ _
  case callV f xs =>
    simp only [operK]
    split
    · exact ck _ _ _
    · exact ck _ _ _
    · exact sk _ _ _ _
    · exact Conv.const _
  all_goals exact Conv.const _

theorem operK_split (env : Env) (E : Orc) (o : VOp) (r : Regs) (h : Heap) (F : AV → Heap → Option R) : operK env E o r h F = (operK env E o r h fun v h => some (v, h)).bind fun p => F p.1 p.2 := by rw [operK_bind]; rfl

theorem EP_conv (hE : ∀ t args h, Conv (E t args h) (fun m => Es m t args h)) (f : FuncId) (ps : List PV) : Conv (EP E f ps) (fun m => EP (Es m) f ps) := by
  intro y hy
  simp only [EP] at hy ⊢
  obtain ⟨q, h3, h4⟩ := some_bind hy
  obtain ⟨n, hn⟩ := hE _ _ _ q h3
  try dsimp only at hn
  exact ⟨n, fun m hm => by rw [hn m hm]; exact h4⟩
theorem upTo_conv {P : Nat → Nat → Prop} : ∀ n, (∀ i, i < n → ∃ N, ∀ m, N ≤ m → P i m) → ∃ N, ∀ m, N ≤ m → ∀ i, i < n → P i m := by
  intro n
  induction n with
  | zero => intro _; exact ⟨0, fun m _ i h => by omega⟩
  | succ n ih =>
    intro h
    obtain ⟨N1, h1⟩ := ih fun i hi => h i (by omega)
    obtain ⟨N2, h2⟩ := h n (by omega)
    refine ⟨max N1 N2, fun m hm i hi => ?_⟩
    rcases Nat.lt_or_ge i n with h3 | h3
    · exact h1 m (by omega) i h3
    · have : i = n := by omega
      subst this; exact h2 m (by omega)
theorem OrdBy.conv (hE : ∀ t args h, Conv (E t args h) (fun m => Es m t args h)) {g : FuncId} {l : List (List PV)} (h : OrdBy E g l) : ∃ N, ∀ m, N ≤ m → OrdBy (Es m) g l := by
  obtain ⟨N, hN⟩ := upTo_conv (P := fun i m => ∀ j, j < l.length → ∀ a b, l[i]? = some a → l[j]? = some b → ∃ c : Int, EP (Es m) g [.agg a, .agg b] = some (.int .i64 c) ∧ (c < 0 ↔ i < j)) l.length fun i hi => by
    refine upTo_conv (P := fun j m => ∀ a b, l[i]? = some a → l[j]? = some b → ∃ c : Int, EP (Es m) g [.agg a, .agg b] = some (.int .i64 c) ∧ (c < 0 ↔ i < j)) l.length fun j hj => ?_
    obtain ⟨c, h1, h2⟩ := h i j _ _ (List.getElem?_eq_getElem hi) (List.getElem?_eq_getElem hj)
    obtain ⟨n, hn⟩ := EP_conv hE g _ _ h1
    refine ⟨n, fun m hm a b ha hb => ⟨c, ?_, h2⟩⟩
    rw [List.getElem?_eq_getElem hi] at ha; rw [List.getElem?_eq_getElem hj] at hb
    injection ha with ha; injection hb with hb
    subst ha; subst hb
    exact hn m hm
  refine ⟨N, fun m hm i j a b ha hb => hN m hm i (List.getElem?_eq_some_iff.1 ha).1 j (List.getElem?_eq_some_iff.1 hb).1 a b ha hb⟩
theorem primK_conv (hE : ∀ t args h, Conv (E t args h) (fun m => Es m t args h)) (p : PrimH) (args : List AV) (h : Heap) : Conv (primK p E args h) (fun m => primK p (Es m) args h) := by
  unfold primK
  repeat' split
  all_goals try exact Conv.const _
  all_goals
    intro y hy
    dsimp only at hy ⊢
    rw [Bool.cond_eq_ite] at hy
    split at hy
    · rename_i hc
      simp only [Option.map_eq_some_iff] at hy
      obtain ⟨l', h1, h2⟩ := hy
      obtain ⟨g1, g2⟩ := sortedK_some h1
      obtain ⟨N, hN⟩ := g2.conv hE
      refine ⟨N, fun m hm => ?_⟩
      rw [hc, cond_true, sortedK_intro g1 (hN m hm)]
      simp only [Option.map_some, h2]
    · cases hy
theorem operK_conv (hE : ∀ t args h, Conv (E t args h) (fun m => Es m t args h)) {o : VOp} {r : Regs} {h : Heap} {F : AV → Heap → Option R} {Fs : Nat → AV → Heap → Option R} (hF : ∀ v h, Conv (F v h) (fun m => Fs m v h)) :
    Conv (operK env E o r h F) (fun m => operK env (Es m) o r h (Fs m)) := by
  intro y hy
  obtain ⟨v, h', h1, h2⟩ := operK_inv hy
  obtain ⟨n, hn⟩ := operK_pair_conv hE o r h _ h1
  try dsimp only at hn
  obtain ⟨n', hn'⟩ := hF v h' y h2
  try dsimp only at hn'
  refine ⟨max n n', fun m hm => ?_⟩
  show operK env (Es m) o r h (Fs m) = some y
  rw [operK_split, hn m (by omega)]
  exact hn' m (by omega)

theorem operG_conv (hE : ∀ t args h, Conv (E t args h) (fun m => Es m t args h)) {o : VOper} {r : Regs} {h : Heap} {F : AV → Heap → Option R} {Fs : Nat → AV → Heap → Option R} (hF : ∀ v h, Conv (F v h) (fun m => Fs m v h)) :
    Conv (operG env E o r h F) (fun m => operG env (Es m) o r h (Fs m)) := by
  unfold operG
  cases badG r o.guard with
  | true => exact Conv.const _
  | false => exact operK_conv hE hF
theorem evOps_conv (hE : ∀ t args h, Conv (E t args h) (fun m => Es m t args h)) : ∀ (l : List VOper) (r : Regs) (h : Heap) (k : Regs → Heap → Option R) (ks : Nat → Regs → Heap → Option R), (∀ r h, Conv (k r h) (fun m => ks m r h)) →
    Conv (evOps env E l r h k) (fun m => evOps env (Es m) l r h (ks m)) := by
  intro l
  induction l with
  | nil => intro r h k ks hk; exact hk r h
  | cons o l ih =>
    intro r h k ks hk
    simp only [evOps_nil, evOps_cons]
    cases wantedV r o.guard with
    | true =>
      simp only [cond_true]
      refine operG_conv hE fun v h => ?_
      simp only [forceK_def, putK_def]
      exact ih _ _ _ _ hk
    | false =>
      simp only [cond_false, putK_def]
      exact ih _ _ _ _ hk

theorem evDraw_conv (hE : ∀ t args h, Conv (E t args h) (fun m => Es m t args h)) (pairs : List (Nat × Nat)) : ∀ (l : List VOper) (i : Nat) (r : Regs) (h : Heap) (ls : List (Nat × AV × Option Nat)) (es : List (Nat × Heap × Heap)) (k : Regs → Heap → List (Nat × AV × Option Nat) → List (Nat × Heap × Heap) → Option R) (ks : Nat → Regs → Heap → List (Nat × AV × Option Nat) → List (Nat × Heap × Heap) → Option R),
    (∀ r h ls es, Conv (k r h ls es) (fun m => ks m r h ls es)) → Conv (evDraw env E pairs l i r h ls es k) (fun m => evDraw env (Es m) pairs l i r h ls es (ks m)) := by
  intro l
  induction l with
  | nil => intro i r h ls es k ks hk; exact hk r h ls es
  | cons o l ih =>
    intro i r h ls es k ks hk
    simp only [evDraw_nil, evDraw_cons]
    cases wantedV r o.guard with
    | true =>
      simp only [cond_true]
      refine operG_conv hE fun v h' => ?_
      simp only [forceK_def, putK_def]
      exact ih _ _ _ _ _ _ _ hk
    | false =>
      simp only [cond_false, putK_def]
      exact ih _ _ _ _ _ _ _ hk

theorem checkBox_conv (ls : List (Nat × AV × Option Nat)) {x : Option R} {xs : Nat → Option R} (hx : Conv x xs) : ∀ l, Conv (checkBox ls l x) (fun m => checkBox ls l (xs m)) := by
  intro l
  induction l with
  | nil => exact hx
  | cons a l ih =>
    obtain ⟨i, p⟩ := a
    simp only [checkBox]
    split
    · simp only [sameK_def]
      split
      · exact ih
      · exact Conv.const _
    · exact Conv.const _
theorem conts_conv (hE : ∀ t args h, Conv (E t args h) (fun m => Es m t args h)) : ∀ (al : List (Nat × AlS)) (r : Regs) (h : Heap) (k : List (Nat × HSh × List PV) → List (Nat × PV) → Option R) (ks : Nat → List (Nat × HSh × List PV) → List (Nat × PV) → Option R), (∀ a zs, Conv (k a zs) (fun m => ks m a zs)) →
    Conv (conts env E al r h k) (fun m => conts env (Es m) al r h (ks m)) := by
  intro al
  induction al with
  | nil => intro r h k ks hk; exact hk _ _
  | cons x al ih =>
    intro r h k ks hk
    obtain ⟨t, s⟩ := x
    cases s with
    | z z => simp only [conts]; exact ih r h _ _ fun a zs => hk _ _
    | m i pre es z v =>
      simp only [conts]
      refine evOps_conv hE pre r h _ _ fun r' h' => ?_
      split
      · rename_i kd n _
        simp only [needK_def, eqK_def]
        cases (decide (0 ≤ n) && decide (n ≤ 1099511627776))
        · exact Conv.const _
        · exact ih r h _ _ fun a zs => hk _ _
      · exact Conv.const _
    | x i pre v =>
      simp only [conts]
      refine evOps_conv hE pre r h _ _ fun r' h' => ?_
      split
      · split
        · exact ih r h _ _ fun a zs => hk _ _
        · exact Conv.const _
      · exact Conv.const _

theorem checkPairs_conv (ls : List (Nat × AV × Option Nat)) (es : List (Nat × Heap × Heap)) {x : Option R} {xs : Nat → Option R} (hx : Conv x xs) : ∀ l, Conv (checkPairs ls es l x) (fun m => checkPairs ls es l (xs m)) := by
  intro l
  induction l with
  | nil => exact hx
  | cons a l ih =>
    obtain ⟨a, b⟩ := a
    simp only [checkPairs]
    split
    · split
      · simp only [sameK_def]
        split
        · exact ih
        · exact Conv.const _
      · exact ih
      · simp only [sameK_def]
        split
        · exact ih
        · exact Conv.const _
      · exact Conv.const _
    · exact ih

theorem Conv.bind {α β : Type} {x : Option α} {xs : Nat → Option α} (h : Conv x xs) {F : α → Option β} {Fs : Nat → α → Option β} (hF : ∀ a, Conv (F a) (fun m => Fs m a)) : Conv (x.bind F) (fun m => (xs m).bind (Fs m)) := by
  intro y hy
  obtain ⟨a, h1, h2⟩ := some_bind hy
  obtain ⟨n, hn⟩ := h a h1
  obtain ⟨n', hn'⟩ := hF a y h2
  refine ⟨max n n', fun m hm => ?_⟩
  have e1 := hn m (by omega)
  have e2 := hn' m (by omega)
  dsimp only at e1 e2 ⊢
  rw [e1]; exact e2
theorem gatherM_conv {f : Regs → Heap → Option (List Res)} {fs : Nat → Regs → Heap → Option (List Res)} (hf : ∀ r h, Conv (f r h) (fun m => fs m r h)) : ∀ l, Conv (gatherM l f) (fun m => gatherM l (fs m)) := by
  intro l
  induction l with
  | nil => exact Conv.const _
  | cons p l ih => exact (hf p.1 p.2).bind fun a => ih.bind fun b => Conv.const _
theorem runM_conv {b : Regs → Heap → Option Res} {bs : Nat → Regs → Heap → Option Res} (hb : ∀ r h, Conv (b r h) (fun m => bs m r h)) (it nx : Nat) : ∀ (n : Nat) (r : Regs) (h : Heap), Conv (runM b it nx n r h) (fun m => runM (bs m) it nx n r h) := by
  intro n
  induction n with
  | zero => intro r h; exact Conv.const _
  | succ n ih =>
    intro r h
    simp only [runM]
    refine (Conv.const _).bind fun l => gatherM_conv (fun r h => (hb r h).bind fun x => ?_) l
    obtain ⟨e, r', h'⟩ := x
    cases e with
    | normal => exact ih r' h'
    | exit id => exact Conv.const _
    | ret => exact Conv.const _
theorem gatherM_mono {f g : Regs → Heap → Option (List Res)} (hfg : ∀ r h x, f r h = some x → g r h = some x) : ∀ l x, gatherM l f = some x → gatherM l g = some x := by
  intro l
  induction l with
  | nil => intro x h; exact h
  | cons p l ih =>
    intro x h
    simp only [gatherM] at h ⊢
    obtain ⟨a, h1, h2⟩ := some_bind h
    obtain ⟨b, h3, h4⟩ := some_bind h2
    rw [hfg _ _ _ h1, Option.bind_some, ih _ h3]; exact h4
theorem runM_mono (b : Regs → Heap → Option Res) (it nx : Nat) : ∀ (n : Nat) (r : Regs) (h : Heap) (x : List Res), runM b it nx n r h = some x → runM b it nx (n + 1) r h = some x := by
  intro n
  induction n with
  | zero => intro r h x hx; cases hx
  | succ n ih =>
    intro r h x hx
    simp only [runM] at hx
    obtain ⟨l, h1, h2⟩ := some_bind hx
    rw [runM, h1, Option.bind_some]
    refine gatherM_mono (fun r h y hy => ?_) l x h2
    obtain ⟨q, g1, g2⟩ := some_bind hy
    rw [g1, Option.bind_some]
    obtain ⟨e, r', h'⟩ := q
    cases e with
    | normal => exact ih r' h' y g2
    | exit id => exact g2
    | ret => exact g2
theorem endsM_conv {b : Regs → Heap → Option Res} {bs : Nat → Regs → Heap → Option Res} (hb : ∀ r h, Conv (b r h) (fun m => bs m r h)) (it nx : Nat) (r : Regs) (h : Heap) : Conv (endsM b it nx r h) (fun m => endsM (bs m) it nx r h) := by
  unfold endsM
  split
  · refine Conv.bind (fun L hL => ?_) fun a => Conv.const _
    obtain ⟨n, hn⟩ := lim_some hL
    obtain ⟨N, hN⟩ := runM_conv hb it nx n r h L hn
    exact ⟨N, fun m hm => lim_eq (f := fun n => runM (bs m) it nx n r h) (fun n x hx => runM_mono _ it nx n r h x hx) (hN m hm)⟩
  · exact Conv.const _

theorem iterN_mono (b : Regs → Heap → Option Res) : ∀ (n : Nat) (r : Regs) (h : Heap) (x : Res), iterN n b r h = some x → iterN (n + 1) b r h = some x := by
  intro n
  induction n with
  | zero => intro r h x hx; cases hx
  | succ n ih =>
    intro r h x hx
    simp only [iterN] at hx ⊢
    obtain ⟨p, h1, h2⟩ := some_bind hx
    rw [h1]
    obtain ⟨e, r', h'⟩ := p
    cases e with
    | normal => simpa [iterN] using ih r' h' x h2
    | exit id => exact h2
    | ret => exact h2
theorem iterE_intro {b : Regs → Heap → Option Res} {n : Nat} {r : Regs} {h : Heap} {x : Res} (hx : iterN n b r h = some x) : iterE b r h = some x :=
  lim_eq (f := fun n => iterN n b r h) (fun n x hx => iterN_mono b n r h x hx) hx

theorem iterE_conv {b : Regs → Heap → Option Res} {bs : Nat → Regs → Heap → Option Res} (hb : ∀ r h, Conv (b r h) (fun m => bs m r h)) (r : Regs) (h : Heap) : Conv (iterE b r h) (fun m => iterE (bs m) r h) := by
  intro x hx
  obtain ⟨n, hn⟩ := lim_some hx
  have key : ∀ (n : Nat) (r : Regs) (h : Heap), iterN n b r h = some x → ∃ N, ∀ m, N ≤ m → iterN n (bs m) r h = some x := by
    intro n
    induction n with
    | zero => intro r h hx; cases hx
    | succ n ih =>
      intro r h hx
      simp only [iterN] at hx ⊢
      obtain ⟨p, h1, h2⟩ := some_bind hx
      obtain ⟨N, hN⟩ := hb r h p h1
      try dsimp only at hN
      obtain ⟨e, r', h'⟩ := p
      cases e with
      | normal =>
        obtain ⟨N', hN'⟩ := ih r' h' h2
        exact ⟨max N N', fun m hm => by rw [hN m (by omega)]; exact hN' m (by omega)⟩
      | exit id => exact ⟨N, fun m hm => by rw [hN m hm]; exact h2⟩
      | ret => exact ⟨N, fun m hm => by rw [hN m hm]; exact h2⟩
  obtain ⟨N, hN⟩ := key n r h hn
  exact ⟨N, fun m hm => iterE_intro (hN m hm)⟩

theorem stepO_conv (hE : ∀ t args h, Conv (E t args h) (fun m => Es m t args h)) (o : VOper) (r : Regs) (h : Heap) : Conv (stepO env E o r h) (fun m => stepO env (Es m) o r h) := by
  unfold stepO guardK
  cases wantedV r o.guard with
  | true =>
    simp only [cond_true]
    refine operG_conv hE fun v h => ?_
    exact Conv.const _
  | false => exact Conv.const _
theorem AllEnd.conv (hE : ∀ t args h, Conv (E t args h) (fun m => Es m t args h)) {l : List VOper} {deps : List (List Nat)} {p : Regs × Heap} : ∀ {n : Nat} {S : Nat → Bool} {r : Regs} {h : Heap}, AllEnd env E l deps p n S r h →
    ∃ N, ∀ m, N ≤ m → AllEnd env (Es m) l deps p n S r h := by
  intro n
  induction n with
  | zero => intro S r h A; exact ⟨0, fun _ _ => A⟩
  | succ n ih =>
    intro S r h A
    obtain ⟨h1, h2⟩ := A
    have key : ∀ is : List Nat, (∀ i ∈ is, ∃ o r' h', l[i]? = some o ∧ stepO env E o r h = some (r', h') ∧ AllEnd env E l deps p n (fun j => S j || Nat.beq j i) r' h') →
        ∃ N, ∀ m, N ≤ m → ∀ i ∈ is, ∃ o r' h', l[i]? = some o ∧ stepO env (Es m) o r h = some (r', h') ∧ AllEnd env (Es m) l deps p n (fun j => S j || Nat.beq j i) r' h' := by
      intro is
      induction is with
      | nil => intro _; exact ⟨0, fun _ _ i hi => by cases hi⟩
      | cons a is ihs =>
        intro hall
        obtain ⟨N1, hN1⟩ := ihs fun i hi => hall i (List.mem_cons_of_mem _ hi)
        obtain ⟨o, r', h', g1, g2, g3⟩ := hall a (List.mem_cons_self ..)
        obtain ⟨N2, hN2⟩ := stepO_conv hE o r h _ g2
        obtain ⟨N3, hN3⟩ := ih g3
        refine ⟨max N1 (max N2 N3), fun m hm i hi => ?_⟩
        rcases List.mem_cons.1 hi with e | e
        · subst e; exact ⟨o, r', h', g1, hN2 m (by omega), hN3 m (by omega)⟩
        · exact hN1 m (by omega) i e
    obtain ⟨N, hN⟩ := key _ h2
    exact ⟨N, fun m hm => ⟨h1, hN m hm⟩⟩
theorem endsN_conv (hE : ∀ t args h, Conv (E t args h) (fun m => Es m t args h)) (l : List VOper) (deps : List (List Nat)) (r : Regs) (h : Heap) : Conv (endsN env E l deps r h) (fun m => endsN env (Es m) l deps r h) := by
  intro p hp
  obtain ⟨N, hN⟩ := (endsN_some hp).conv hE
  exact ⟨N, fun m hm => endsN_intro (hN m hm)⟩

theorem evK_conv (hE : ∀ t args h, Conv (E t args h) (fun m => Es m t args h)) : ∀ (c : VCode) {R : Type} (r : Regs) (h : Heap) (k : Ex → Regs → Heap → Option R) (ks : Nat → Ex → Regs → Heap → Option R), (∀ e r h, Conv (k e r h) (fun m => ks m e r h)) →
    Conv (evK env E c R r h k) (fun m => evK env (Es m) c R r h (ks m)) := by
  intro c
  induction c with
  | skip => intro R r h k ks hk; exact hk _ _ _
  | ops l => intro R r h k ks hk; exact evOps_conv hE l r h _ _ fun r h => hk .normal r h
  | draw al l pairs =>
    intro R r h k ks hk
    simp only [evK_skip, evK_ops, evK_draw, evK_seq, evK_cond, evK_block, evK_loop, evK_rangeFunc, evK_exit, evK_ret, hoist_eq]
    refine conts_conv hE al r h _ _ fun al zs => ?_
    exact evDraw_conv hE pairs l 0 _ _ _ _ _ _ fun r h ls es => checkPairs_conv ls es (checkBox_conv ls (hk .normal r h) zs) pairs
  | seq a b iha ihb =>
    intro R r h k ks hk
    simp only [evK_skip, evK_ops, evK_draw, evK_seq, evK_cond, evK_block, evK_loop, evK_rangeFunc, evK_exit, evK_ret]
    refine iha r h _ _ fun e r h => ?_
    cases e with
    | normal => exact ihb r h k ks hk
    | exit id => exact hk _ _ _
    | ret => exact hk _ _ _
  | cond c a b iha ihb =>
    intro R r h k ks hk
    simp only [evK_skip, evK_ops, evK_draw, evK_seq, evK_cond, evK_block, evK_loop, evK_rangeFunc, evK_exit, evK_ret]
    split
    · rename_i b' _
      cases b' with
      | true => exact iha r h k ks hk
      | false => exact ihb r h k ks hk
    · exact Conv.const _
  | block id c ih =>
    intro R r h k ks hk
    simp only [evK_skip, evK_ops, evK_draw, evK_seq, evK_cond, evK_block, evK_loop, evK_rangeFunc, evK_exit, evK_ret]
    refine ih r h _ _ fun e r h => ?_
    cases e with
    | exit j =>
      simp only
      cases Nat.beq j id with
      | true => exact hk _ _ _
      | false => exact hk _ _ _
    | normal => exact hk _ _ _
    | ret => exact hk _ _ _
  | loop c ih =>
    intro R r h k ks hk
    simp only [evK_skip, evK_ops, evK_draw, evK_seq, evK_cond, evK_block, evK_loop, evK_rangeFunc, evK_exit, evK_ret, loopK_def]
    intro y hy
    obtain ⟨x, h1, h2⟩ := some_bind hy
    obtain ⟨n, hn⟩ := iterE_conv (bs := fun m r h => evK env (Es m) c Res r h fun e r h => some (e, r, h)) (fun r h => ih r h _ _ fun e r h => Conv.const _) r h x h1
    obtain ⟨n', hn'⟩ := hk _ _ _ y h2
    try dsimp only at hn'
    exact ⟨max n n', fun m hm => by have h5 := hn m (by omega); dsimp only at h5 ⊢; rw [h5]; exact hn' m (by omega)⟩
  | rangeFunc f ps asg bo _ _ =>
    intro R r h k ks hk
    have go : ∀ (g : FuncId) (a b : List AV), Conv
        (callSK E (.fn g) (a ++ .yield h.length :: b) (h ++ [.loop ⟨.ready, r, ps, asg, bo⟩]) fun _ h2 => hgetK h2 h.length fun o => match o with
          | .loop lo => match lo.state with
            | .ready => k .normal r (hset h2 h.length .dead)
            | .done e => k e r (hset h2 h.length .dead)
            | .busy => none
          | _ => none)
        (fun m => callSK (Es m) (.fn g) (a ++ .yield h.length :: b) (h ++ [.loop ⟨.ready, r, ps, asg, bo⟩]) fun _ h2 => hgetK h2 h.length fun o => match o with
          | .loop lo => match lo.state with
            | .ready => ks m .normal r (hset h2 h.length .dead)
            | .done e => ks m e r (hset h2 h.length .dead)
            | .busy => none
          | _ => none) := by
      intro g a b y hy
      obtain ⟨v, h2, h1, h3⟩ := callSK_inv hy
      obtain ⟨n, hn⟩ := hE _ _ _ _ h1
      try dsimp only at hn
      have hc : Conv (hgetK h2 h.length fun o => match o with
          | .loop lo => match lo.state with
            | .ready => k .normal r (hset h2 h.length .dead)
            | .done e => k e r (hset h2 h.length .dead)
            | .busy => none
          | _ => none)
          (fun m => hgetK h2 h.length fun o => match o with
          | .loop lo => match lo.state with
            | .ready => ks m .normal r (hset h2 h.length .dead)
            | .done e => ks m e r (hset h2 h.length .dead)
            | .busy => none
          | _ => none) := by
        simp only [hgetK_def]
        split
        · split
          · exact hk _ _ _
          · exact hk _ _ _
          · exact Conv.const _
        · exact Conv.const _
      obtain ⟨n', hn'⟩ := hc y h3
      try dsimp only at hn'
      exact ⟨max n n', fun m hm => by dsimp only; rw [callSK_def, hn m (by omega)]; exact hn' m (by omega)⟩
    simp only [evK_skip, evK_ops, evK_draw, evK_seq, evK_cond, evK_block, evK_loop, evK_rangeFunc, evK_exit, evK_ret]
    split
    · exact go _ _ _
    · exact go _ _ _
    · exact Conv.const _
  | exit id => intro R r h k ks hk; exact hk _ _ _
  | ret => intro R r h k ks hk; exact hk _ _ _
  | loopM it nx c ih =>
    intro R r h k ks hk
    simp only [evK_loopM, loopMK_def]
    exact (endsM_conv (fun r h => ih r h _ _ fun e r h => Conv.const _) it nx r h).bind fun x => hk _ _ _
  | drawN l deps =>
    intro R r h k ks hk
    rw [evK_drawN]
    intro y hy
    cases hp : endsN env E l deps r h with
    | none => rw [hp] at hy; cases hy
    | some p =>
      rw [hp] at hy; simp only [Option.bind_some] at hy
      obtain ⟨N1, h1⟩ := endsN_conv hE l deps r h p hp
      obtain ⟨N2, h2⟩ := hk _ _ _ y hy
      refine ⟨max N1 N2, fun m hm => ?_⟩
      show evK env (Es m) (.drawN l deps) R r h (ks m) = some y
      have e1 := h1 m (by omega)
      have e2 := h2 m (by omega)
      dsimp only at e1 e2
      rw [evK_drawN, e1]
      exact e2

theorem evTgtK_conv (hE : ∀ t args h, Conv (E t args h) (fun m => Es m t args h)) (t : Tgt) (args : List AV) (h : Heap) (F : AV → Heap → Option R) : Conv (evTgtK env E t args h F) (fun m => evTgtK env (Es m) t args h F) := by
  cases t with
  | fn f =>
    simp only [evTgtK]
    split
    · exact evK_conv hE _ _ _ _ _ fun e r h => by cases e <;> exact Conv.const _
    · split
      · split
        · exact Conv.const _
        · exact Conv.const _
      · split
        · rename_i p _
          simp only [bindK_def]
          exact (primK_conv hE p args h).bind fun q => Conv.const _
        · exact Conv.const _
  | yield id =>
    simp only [evTgtK, hgetK_def]
    split
    · split
      · rename_i lo _ _ _
        cases Nat.beq args.length lo.params.length with
        | false => exact Conv.const _
        | true =>
          simp only [cond_true]
          refine evK_conv hE _ _ _ _ _ fun e r h1 => ?_
          cases e with
          | normal =>
            simp only
            split
            · split
              · exact evK_conv hE _ _ _ _ _ fun e _ h2 => Conv.const _
              · exact Conv.const _
            · exact Conv.const _
          | exit _ => exact Conv.const _
          | ret => exact Conv.const _
      · exact Conv.const _
    · exact Conv.const _

theorem evN_mono (env : Env) : ∀ (n : Nat) (t : Tgt) (args : List AV) (h : Heap) (x : AV × Heap), evN env n t args h = some x → evN env (n + 1) t args h = some x := by
  intro n
  induction n with
  | zero => intro t args h x hx; cases hx
  | succ n ih =>
    intro t args h x hx
    have hc := evTgtK_conv (env := env) (E := evN env n) (Es := fun _ => evN env (n + 1)) (fun t args h y hy => ⟨0, fun _ _ => ih t args h y hy⟩) t args h (fun v h => some (v, h)) x hx
    obtain ⟨N, hN⟩ := hc
    try dsimp only at hN
    exact hN N (Nat.le_refl _)

theorem evN_up (env : Env) {n m : Nat} (h : n ≤ m) {t : Tgt} {args : List AV} {H : Heap} {x : AV × Heap} (hx : evN env n t args H = some x) : evN env m t args H = some x := by
  induction h with
  | refl => exact hx
  | step _ ih => exact evN_mono env _ _ _ _ _ ih

theorem EE_conv (env : Env) (t : Tgt) (args : List AV) (h : Heap) : Conv (EE env t args h) (fun m => evN env m t args h) := by
  intro x hx
  obtain ⟨n, hn⟩ := lim_some hx
  exact ⟨n, fun m hm => evN_up env hm hn⟩

/-- A call is what its code answers, its own calls being such calls. -/
theorem EE_intro {env : Env} {t : Tgt} {args : List AV} {h : Heap} {x : AV × Heap} (hx : evTgtK env (EE env) t args h (fun v h => some (v, h)) = some x) : EE env t args h = some x := by
  obtain ⟨n, hn⟩ := evTgtK_conv (Es := fun m => evN env m) (EE_conv env) t args h (fun v h => some (v, h)) x hx
  try dsimp only at hn
  exact lim_eq (f := fun n => evN env n t args h) (fun n x hx => evN_mono env n t args h x hx) (n := n + 1) (hn n (Nat.le_refl _))
end
end Go.VM

namespace Go.VM
open Go

/-- Types of plain data. -/
inductive Ty where
  | bool
  | int (k : IntKind)
  | str
  | sl (es : Nat) (e : Ty)
  | st (fs : List (Nat × Ty))
  | arr (n es : Nat) (e : Ty)

/-- So many elements, one behind the other. -/
def Els (p : List PV → Prop) (es : Nat) : Nat → List PV → Prop
  | 0, cs => cs = []
  | n + 1, cs => ∃ a b, cs = a ++ b ∧ a.length = es ∧ p a ∧ Els p es n b

mutual
def HasTy : Ty → List PV → Prop
  | .bool, cs => ∃ b, cs = [.bool b]
  | .int k, cs => ∃ n, cs = [.int k n] ∧ (Lit.int k n).wf = true
  | .str, cs => ∃ s : ByteArray, cs = [.str s] ∧ s.size ≤ maxLen
  | .sl es e, cs => ∃ x len cells, cs = [.sl x len cells] ∧ ((x = .nil ∧ len = 0 ∧ cells = []) ∨ x = .nn) ∧ len ≤ maxLen ∧ Els (HasTy e) es len cells
  | .st fs, cs => HasFs fs cs
  | .arr n es e, cs => Els (HasTy e) es n cs
def HasFs : List (Nat × Ty) → List PV → Prop
  | [], cs => cs = []
  | (n, t) :: fs, cs => ∃ a b, cs = a ++ b ∧ a.length = n ∧ HasTy t a ∧ HasFs fs b
end

section
variable (P : Program)
def tyFs (g : TypeId → Option Ty) : List Field → Nat → Nat → Option (List (Nat × Ty))
  | [], off, all => bif Nat.beq off all then some [] else none
  | f :: fs, off, all => match g f.type, tyFs g fs (off + P.cellsOf f.type) all with
    | some t, some r => bif Nat.beq f.offset off then some ((P.cellsOf f.type, t) :: r) else none
    | _, _ => none
def tyOf : Nat → TypeId → Option Ty
  | 0, _ => none
  | d + 1, t => match P.underlying t with
    | some .bool => some .bool
    | some (.int k) => some (.int k)
    | some .string => some .str
    | some (.slice e) => (tyOf d e).map (.sl (P.cellsOf e))
    | some (.struct fs) => (tyFs P (tyOf d) fs.toList 0 (P.cellsOf t)).map .st
    | some (.array n e) => match tyOf d e with
      | some T => bif Nat.beq (P.cellsOf t) (n * P.cellsOf e) then some (.arr n (P.cellsOf e) T) else none
      | none => none
    | _ => none
def tysOf (d : Nat) : List TypeId → Option (List Ty)
  | [] => some []
  | t :: ts => match tyOf P d t, tysOf d ts with | some T, some r => some (T :: r) | _, _ => none
end

theorem mapM_opt {α β : Type} {f : α → Option β} : ∀ {l : List α} {r : List β}, l.mapM f = some r → ∀ x ∈ l, ∃ y, f x = some y := by
  intro l
  induction l with
  | nil => intro r _ x hx; cases hx
  | cons a l ih =>
    intro r h x hx
    rw [List.mapM_cons] at h
    obtain ⟨y, h1, h2⟩ := some_bind h
    obtain ⟨ys, h3, h4⟩ := some_bind h2
    rcases List.mem_cons.1 hx with e | e
    · subst e; exact ⟨y, h1⟩
    · exact ih h3 x e
theorem mapM_get {β : Type} {f : Nat → Option β} : ∀ {l : List Nat} {r : List β}, l.mapM f = some r → r.length = l.length ∧ ∀ (j : Nat) (x : Nat), l[j]? = some x → f x = r[j]? := by
  intro l
  induction l with
  | nil => intro r h; simp at h; subst h; exact ⟨rfl, fun j x hx => by simp at hx⟩
  | cons a l ih =>
    intro r h
    rw [List.mapM_cons] at h
    obtain ⟨y, h1, h2⟩ := some_bind h
    obtain ⟨ys, h3, h4⟩ := some_bind h2
    injection h4 with h4; subst h4
    obtain ⟨g1, g2⟩ := ih h3
    refine ⟨by simp [g1], fun j x hx => ?_⟩
    cases j with
    | zero => simp at hx; subst hx; simpa using h1
    | succ j => simp at hx; simpa using g2 j x hx

theorem cells?_get {w : World} {base : Nat} {a : Addr} {n : Nat} {cs : List Value} (h : w.cells? base a n = some cs) : cs.length = n ∧ ∀ (j : Nat) (v : Value), cs[j]? = some v → w.cell? (a.add j) = some v := by
  unfold World.cells? at h
  split at h
  · obtain ⟨h1, h2⟩ := mapM_get h
    simp only [List.length_range] at h1
    refine ⟨h1, fun j v hj => ?_⟩
    have hlt : j < n := by rw [← h1]; exact (List.getElem?_eq_some_iff.1 hj).1
    rw [h2 j j (by simp [hlt])]
    exact hj
  · cases h

section
variable {H : Type} {enc : TypeId × Value → H} {P : Program} {w : World} {sp : Nat → Bool} {hd : Bool}

def Imm.of (w : World) : Imm := fun a => w.cell? a

/-- What reading found, one after the other. -/
theorem els_read {fuel : Nat} {e : TypeId} {T : Ty} {a : Addr} {es : Nat} (ih : ∀ (cs : List Value) (x : DataW H × List MemPlace), DataW.trod enc P w 0 sp hd fuel e cs = some x → ∃ ps, PRels (Imm.of w) ps cs ∧ Ones cs ∧ HasTy T ps) :
    ∀ (n i : Nat), (∀ j, i ≤ j → j < i + n → ∃ x, ((w.cells? 0 (a.add (j * es)) es).bind (DataW.trod enc P w 0 sp hd fuel e)) = some x) →
    ∃ ps vs, PRels (Imm.of w) ps vs ∧ Ones vs ∧ Els (HasTy T) es n ps ∧ ∀ (j : Nat) (v : Value), vs[j]? = some v → w.cell? (a.add (i * es + j)) = some v := by
  intro n
  induction n with
  | zero => intro i _; exact ⟨[], [], .nil, .nil, rfl, fun j v h => by simp at h⟩
  | succ n ihn =>
    intro i h
    obtain ⟨x, hx⟩ := h i (Nat.le_refl _) (by omega)
    obtain ⟨c, h1, h2⟩ := some_bind hx
    obtain ⟨ps, g1, g2, g3⟩ := ih c x h2
    obtain ⟨c1, c2⟩ := cells?_get h1
    obtain ⟨qs, vs, k1, k2, k3, k4⟩ := ihn (i + 1) fun j hj hlt => h j (by omega) (by omega)
    refine ⟨ps ++ qs, c ++ vs, g1.append k1, g2.append k2, ⟨ps, qs, rfl, by rw [g1.length, c1], g3, k3⟩, fun j v hj => ?_⟩
    by_cases hlt : j < c.length
    · rw [List.getElem?_append_left hlt] at hj
      rw [← addr_add_add]
      exact c2 j v hj
    · rw [List.getElem?_append_right (by omega)] at hj
      have := k4 _ v hj
      rw [c1] at this hlt
      rw [show i * es + j = (i + 1) * es + (j - es) by rw [Nat.add_mul]; omega]
      exact this

theorem segs_read {fuel : Nat} {e : TypeId} {T : Ty} {es : Nat} (ih : ∀ (cs : List Value) (x : DataW H × List MemPlace), DataW.trod enc P w 0 sp hd fuel e cs = some x → ∃ ps, PRels (Imm.of w) ps cs ∧ Ones cs ∧ HasTy T ps) (cs : List Value) :
    ∀ (n i : Nat), cs.length = (i + n) * es → (∀ j, i ≤ j → j < i + n → ∃ x, DataW.trod enc P w 0 sp hd fuel e ((cs.drop (j * es)).take es) = some x) →
    ∃ ps, PRels (Imm.of w) ps (cs.drop (i * es)) ∧ Ones (cs.drop (i * es)) ∧ Els (HasTy T) es n ps := by
  intro n
  induction n with
  | zero => intro i hl _; rw [Nat.add_zero] at hl; exact ⟨[], by rw [List.drop_of_length_le (by omega)]; exact .nil, by rw [List.drop_of_length_le (by omega)]; exact .nil, rfl⟩
  | succ n ihn =>
    intro i hl h
    obtain ⟨x, hx⟩ := h i (Nat.le_refl _) (by omega)
    obtain ⟨ps, g1, g2, g3⟩ := ih _ x hx
    obtain ⟨qs, k1, k2, k3⟩ := ihn (i + 1) (by rw [hl]; congr 1; omega) fun j hj hlt => h j (by omega) (by omega)
    have e1 : cs.drop (i * es) = (cs.drop (i * es)).take es ++ cs.drop ((i + 1) * es) := by
      conv => lhs; rw [← List.take_append_drop es (cs.drop (i * es))]
      rw [List.drop_drop, Nat.add_mul, Nat.one_mul]
    have hle : (i + 1) * es ≤ cs.length := by rw [hl]; exact Nat.mul_le_mul_right _ (by omega)
    have hlen : ((cs.drop (i * es)).take es).length = es := by
      rw [List.length_take, List.length_drop]
      rw [Nat.add_mul] at hle
      omega
    rw [e1]
    exact ⟨ps ++ qs, g1.append k1, g2.append k2, ps, qs, rfl, by rw [g1.length, hlen], g3, k3⟩

theorem fs_read {fuel : Nat} {g : TypeId → Option Ty} (ih : ∀ (t : TypeId) (T : Ty) (cs : List Value) (x : DataW H × List MemPlace), g t = some T → DataW.trod enc P w 0 sp hd fuel t cs = some x → ∃ ps, PRels (Imm.of w) ps cs ∧ Ones cs ∧ HasTy T ps) (cs : List Value) :
    ∀ (fs : List Field) (off : Nat) (L : List (Nat × Ty)), tyFs P g fs off cs.length = some L → off ≤ cs.length → (∀ f ∈ fs, ∃ x, DataW.trod enc P w 0 sp hd fuel f.type ((cs.drop f.offset).take (P.cellsOf f.type)) = some x) →
    ∃ ps, PRels (Imm.of w) ps (cs.drop off) ∧ Ones (cs.drop off) ∧ HasFs L ps := by
  intro fs
  induction fs with
  | nil =>
    intro off L h hle _
    simp only [tyFs] at h
    cases hb : Nat.beq off cs.length with
    | false => rw [hb] at h; cases h
    | true =>
      rw [hb] at h; injection h with h; subst h
      have := Nat.eq_of_beq_eq_true hb
      rw [List.drop_of_length_le (by omega)]
      exact ⟨[], .nil, .nil, by simp [HasFs]⟩
  | cons f fs ihf =>
    intro off L h hle hx
    simp only [tyFs] at h
    split at h
    · rename_i t r h1 h2
      cases hb : Nat.beq f.offset off with
      | false => rw [hb] at h; cases h
      | true =>
        rw [hb] at h; injection h with h; subst h
        have ho := Nat.eq_of_beq_eq_true hb
        obtain ⟨x, hx1⟩ := hx f (by simp)
        rw [ho] at hx1
        obtain ⟨ps, g1, g2, g3⟩ := ih _ t _ x h1 hx1
        have hle2 : off + P.cellsOf f.type ≤ cs.length := by
          have : ∀ (fs : List Field) (o : Nat) (L : List (Nat × Ty)), tyFs P g fs o cs.length = some L → o ≤ cs.length := by
            intro fs
            induction fs with
            | nil =>
              intro o L h
              simp only [tyFs] at h
              cases hb : Nat.beq o cs.length with
              | false => rw [hb] at h; cases h
              | true => exact Nat.le_of_eq (Nat.eq_of_beq_eq_true hb)
            | cons f fs ih2 =>
              intro o L h
              simp only [tyFs] at h
              split at h
              · rename_i t' r' _ h3
                have := ih2 _ _ h3
                omega
              · cases h
          exact this fs _ _ h2
        obtain ⟨qs, k1, k2, k3⟩ := ihf _ r h2 hle2 fun f' hf' => hx f' (by simp [hf'])
        have e1 : cs.drop off = (cs.drop off).take (P.cellsOf f.type) ++ cs.drop (off + P.cellsOf f.type) := by
          conv => lhs; rw [← List.take_append_drop (P.cellsOf f.type) (cs.drop off)]
          rw [List.drop_drop]
        have hlen : ((cs.drop off).take (P.cellsOf f.type)).length = P.cellsOf f.type := by
          rw [List.length_take, List.length_drop]; omega
        rw [e1]
        refine ⟨ps ++ qs, g1.append k1, g2.append k2, ?_⟩
        simp only [HasFs]
        exact ⟨ps, qs, rfl, by rw [g1.length, hlen], g3, k3⟩
    · cases h

theorem read : ∀ (fuel d : Nat) (t : TypeId) (T : Ty) (cs : List Value) (x : DataW H × List MemPlace), tyOf P d t = some T → DataW.trod enc P w 0 sp hd fuel t cs = some x → ∃ ps, PRels (Imm.of w) ps cs ∧ Ones cs ∧ HasTy T ps := by
  intro fuel
  induction fuel with
  | zero => intro d t T cs x _ h; simp [DataW.trod] at h
  | succ fuel ih =>
    intro d t T cs x hT hx
    cases d with
    | zero => cases hT
    | succ d =>
      simp only [tyOf] at hT
      have ihc : ∀ (t : TypeId) (T : Ty) (cs : List Value) (x : DataW H × List MemPlace), tyOf P d t = some T → DataW.trod enc P w 0 sp hd fuel t cs = some x → ∃ ps, PRels (Imm.of w) ps cs ∧ Ones cs ∧ HasTy T ps := fun t T cs x h1 h2 => ih d t T cs x h1 h2
      simp only [DataW.trod] at hx
      split at hx
      case h_1 hu =>
        rw [hu] at hT; injection hT with hT; subst hT
        exact ⟨[.bool _], .cons _ _ _ _ (.bool _) .nil, .cons rfl .nil, by simp [HasTy]⟩
      case h_2 k k' m hu =>
        rw [hu] at hT; injection hT with hT; subst hT
        split at hx
        · rename_i hc
          obtain ⟨rfl, hw⟩ := hc
          exact ⟨[.int _ _], .cons _ _ _ _ (.int _ _) .nil, .cons rfl .nil, by simp [HasTy, hw]⟩
        · cases hx
      case h_4 s hu =>
        rw [hu] at hT; injection hT with hT; subst hT
        split at hx
        · rename_i hc
          exact ⟨[.str _], .cons _ _ _ _ (.str _) .nil, .cons rfl .nil, by simp [HasTy, hc]⟩
        · cases hx
      case h_7 e hu =>
        rw [hu] at hT
        obtain ⟨E, _, rfl⟩ := map_some hT
        refine ⟨[.sl .nil 0 []], .cons _ _ _ _ (.slNil _ (by simp) (by simp)) .nil, .cons rfl .nil, ?_⟩
        simp only [HasTy]
        exact ⟨.nil, 0, [], rfl, .inl ⟨rfl, rfl, rfl⟩, Nat.zero_le _, rfl⟩
      case h_8 e a len cap hu =>
        rw [hu] at hT
        obtain ⟨E, hE, rfl⟩ := map_some hT
        split at hx
        · rename_i hc
          obtain ⟨elems, h1, _⟩ := some_bind hx
          have hall := mapM_opt h1
          obtain ⟨ps, vs, g1, g2, g3, g4⟩ := els_read (a := a) (es := P.cellsOf e) (fun cs x h => ihc e E cs x hE h) len 0 fun j _ hj => by
            obtain ⟨y, hy⟩ := hall j (by simp; omega)
            exact ⟨y, hy⟩
          refine ⟨[.sl .nn len ps], .cons _ _ _ _ (.sl .nn len ps a cap vs (by simp) (by simp) hc.2.1 g1 (fun j v hj => by simpa [Imm.of] using g4 j v hj) g2) .nil, .cons rfl .nil, ?_⟩
          simp only [HasTy]
          exact ⟨.nn, len, ps, rfl, .inr rfl, Nat.le_trans hc.2.1 hc.2.2, g3⟩
        · cases hx
      case h_9 cs _ _ fs hu =>
        rw [hu] at hT
        obtain ⟨L, hL, rfl⟩ := map_some hT
        split at hx
        · rename_i hc
          obtain ⟨xs, h1, _⟩ := map_some hx
          rw [← hc] at hL
          obtain ⟨ps, g1, g2, g3⟩ := fs_read (g := tyOf P d) (fun t T cs x h1 h2 => ihc t T cs x h1 h2) cs fs.toList 0 L hL (Nat.zero_le _) fun f hf => mapM_opt h1 f hf
          refine ⟨ps, by simpa using g1, by simpa using g2, ?_⟩
          simp only [HasTy]
          exact g3
        · cases hx
      case h_10 cs _ _ n e hu =>
        rw [hu] at hT
        simp only at hT
        split at hT
        · rename_i E hE
          cases hb : Nat.beq (P.cellsOf t) (n * P.cellsOf e) with
          | false => rw [hb] at hT; cases hT
          | true =>
            rw [hb] at hT; injection hT with hT; subst hT
            split at hx
            · rename_i hc
              obtain ⟨xs, h1, _⟩ := map_some hx
              have hl : cs.length = (0 + n) * P.cellsOf e := by rw [hc, Nat.eq_of_beq_eq_true hb, Nat.zero_add]
              obtain ⟨ps, g1, g2, g3⟩ := segs_read (es := P.cellsOf e) (fun cs x h => ihc e E cs x hE h) cs n 0 hl fun j _ hj => mapM_opt h1 j (by simp; omega)
              refine ⟨ps, by simpa using g1, by simpa using g2, ?_⟩
              simp only [HasTy]
              exact g3
            · cases hx
        · cases hT
      all_goals first
        | (rename_i hu; rw [hu] at hT; cases hT; done)
        | (cases hx; done)
        | skip
end
end Go.VM

namespace Go.VM
open Go Go.RowKit

/-- An argument of plain data. -/
def HasArg (T : Ty) (p : PV) : Prop := match T with
  | .st fs => ∃ ps, p = .agg ps ∧ HasFs fs ps
  | .arr n es e => ∃ ps, p = .agg ps ∧ Els (HasTy e) es n ps
  | T => HasTy T [p]
def HasArgs : List Ty → List PV → Prop
  | [], ps => ps = []
  | T :: Ts, ps => ∃ p qs, ps = p :: qs ∧ HasArg T p ∧ HasArgs Ts qs

section
variable {H : Type} {enc : TypeId × Value → H} {P : Program} {W : World}

theorem tyOf_agg {d : Nat} {t : TypeId} {T : Ty} (h : tyOf P d t = some T) : (∃ fs, P.underlying t = some (.struct fs) ∧ ∃ L, T = .st L) ∨ (∃ n e, P.underlying t = some (.array n e) ∧ ∃ a b c, T = .arr a b c) ∨
    ((∀ fs, P.underlying t ≠ some (.struct fs)) ∧ (∀ n e, P.underlying t ≠ some (.array n e)) ∧ (∀ L, T ≠ .st L) ∧ (∀ a b c, T ≠ .arr a b c)) := by
  cases d with
  | zero => cases h
  | succ d =>
    simp only [tyOf] at h
    split at h
    · rename_i hu; injection h with h; subst h; exact .inr (.inr ⟨by simp [hu], by simp [hu], by simp, by simp⟩)
    · rename_i hu; injection h with h; subst h; exact .inr (.inr ⟨by simp [hu], by simp [hu], by simp, by simp⟩)
    · rename_i hu; injection h with h; subst h; exact .inr (.inr ⟨by simp [hu], by simp [hu], by simp, by simp⟩)
    · rename_i hu; obtain ⟨_, _, rfl⟩ := map_some h; exact .inr (.inr ⟨by simp [hu], by simp [hu], by simp, by simp⟩)
    · rename_i fs hu; obtain ⟨L, _, rfl⟩ := map_some h; exact .inl ⟨fs, hu, L, rfl⟩
    · rename_i n e hu
      split at h
      · rw [Bool.cond_eq_ite] at h
        split at h
        · injection h with h; subst h; exact .inr (.inl ⟨n, e, hu, _, _, _, rfl⟩)
        · cases h
      · cases h
    · cases h

theorem okWide_plain {base : Nat} {t : TypeId} {v : Value} (h : Value.okWide P W .any base t v) (h1 : ∀ fs, P.underlying t ≠ some (.struct fs)) (h2 : ∀ n e, P.underlying t ≠ some (.array n e)) : ∀ cs, v ≠ .agg cs := by
  intro cs e
  subst e
  unfold Value.okWide at h
  split at h
  · rename_i hu; exact h1 _ hu
  · rename_i hu; exact h2 _ _ hu
  · unfold Cell.okWide at h
    split at h
    all_goals first
      | (rename_i hv; cases hv; done)
      | (rename_i _ hv; cases hv; done)
      | (rename_i _ _ hv; cases hv; done)
      | skip
    unfold Cell.ok at h
    split at h
    all_goals first
      | (rename_i hv; cases hv; done)
      | (rename_i _ hv; cases hv; done)
      | (rename_i _ _ hv; cases hv; done)
      | exact h

theorem read_arg {d : Nat} {t : TypeId} {T : Ty} {base : Nat} {v : Value} {dd : DataW H} {pl : List MemPlace} {sp : Nat → Bool} {hd : Bool} (hT : tyOf P d t = some T) (hok : Value.okWide P W .any base t v) (h : DataW.Trod enc P W 0 sp hd t v dd pl) :
    ∃ p, PRel (Imm.of W) p v ∧ HasArg T p := by
  obtain ⟨fuel, h⟩ := h
  obtain ⟨ps, h1, h2, h3⟩ := read fuel d t T _ _ hT h
  have single : ∀ (q : PV), ps = [q] → (∀ cs, v ≠ .agg cs) → PRel (Imm.of W) q v := by
    intro q hq hv
    subst hq
    have hc : v.cells = #[v] := by cases v <;> first | rfl | exact absurd rfl (hv _)
    rw [hc] at h1
    cases h1 with | cons _ _ _ _ g1 _ => exact g1
  rcases tyOf_agg hT with ⟨fs, hu, L, rfl⟩ | ⟨n, e, hu, a, b, c, rfl⟩ | ⟨k1, k2, k3, k4⟩
  · unfold Value.okWide at hok
    rw [hu] at hok
    obtain ⟨cs, rfl, _⟩ := hok
    simp only [HasTy] at h3
    refine ⟨.agg ps, ?_, ps, rfl, h3⟩
    have := PRel.agg ps cs.toList (by simpa [Value.cells] using h1) (by simpa [Value.cells] using h2)
    simpa using this
  · unfold Value.okWide at hok
    rw [hu] at hok
    obtain ⟨cs, rfl, _⟩ := hok
    simp only [HasTy] at h3
    refine ⟨.agg ps, ?_, ps, rfl, h3⟩
    have := PRel.agg ps cs.toList (by simpa [Value.cells] using h1) (by simpa [Value.cells] using h2)
    simpa using this
  · have hv := okWide_plain hok k1 k2
    cases T with
    | st L => exact absurd rfl (k3 L)
    | arr a b c => exact absurd rfl (k4 a b c)
    | bool =>
      have h3' := h3
      simp only [HasTy] at h3
      obtain ⟨b, rfl⟩ := h3
      exact ⟨_, single _ rfl hv, h3'⟩
    | int k =>
      have h3' := h3
      simp only [HasTy] at h3
      obtain ⟨b, rfl, _⟩ := h3
      exact ⟨_, single _ rfl hv, h3'⟩
    | str =>
      have h3' := h3
      simp only [HasTy] at h3
      obtain ⟨b, rfl, _⟩ := h3
      exact ⟨_, single _ rfl hv, h3'⟩
    | sl es e =>
      have h3' := h3
      simp only [HasTy] at h3
      obtain ⟨x, len, cells, rfl, _⟩ := h3
      exact ⟨_, single _ rfl hv, h3'⟩

theorem read_args {d : Nat} {base : Nat} {sp : Nat → Bool} {hd : Bool} : ∀ {ts : List TypeId} {Ts : List Ty} {vs : List Value} {ds : List (DataW H)} {pl : List MemPlace}, tysOf P d ts = some Ts → (∀ (j : Nat) (t : TypeId) (v : Value), ts[j]? = some t → vs[j]? = some v → Value.okWide P W .any base t v) → DataW.TrodAll enc P W 0 sp hd ts vs ds pl →
    ∃ ps, PRels (Imm.of W) ps vs ∧ HasArgs Ts ps := by
  intro ts
  induction ts with
  | nil =>
    intro Ts vs ds pl hT hok h
    simp [tysOf] at hT; subst hT
    cases vs with
    | nil => exact ⟨[], .nil, rfl⟩
    | cons _ _ => cases ds <;> exact h.elim
  | cons t ts ih =>
    intro Ts vs ds pl hT hok h
    simp only [tysOf] at hT
    split at hT
    · rename_i T r h1 h2
      injection hT with hT; subst hT
      cases vs with
      | nil => cases ds <;> exact h.elim
      | cons v vs =>
        cases ds with
        | nil => exact h.elim
        | cons dd ds =>
          obtain ⟨p, q, g1, g2, _⟩ := h
          obtain ⟨x, k1, k2⟩ := read_arg h1 (hok 0 t v rfl rfl) g1
          obtain ⟨xs, k3, k4⟩ := ih h2 (fun j t' v' hj hv => hok (j + 1) t' v' (by simpa using hj) (by simpa using hv)) g2
          exact ⟨x :: xs, .cons _ _ _ _ k1 k3, x, xs, rfl, k2, k4⟩
    · cases hT
end

/-- The whole world, as it lies: nothing of it is the abstract machine's own. -/
theorem SRel.world (Γ : Ctx) (W : World) (hG : Γ.gi.le (Imm.of W)) (hN : ∀ a, Γ.gn a = true → a.block < W.heap.size ∧ W.cell? a = none) : SRel Γ W.heap.size { loc := fun _ => none, imm := Imm.of W, tl := fun _ _ => none } [] W := by
  have hp : ∀ id, place { loc := fun _ => none, imm := Imm.of W, tl := fun _ _ => none } id (hget [] id) = none := fun id => by rw [hget_ge (by simp)]; rfl
  exact ⟨fun _ _ h => h, fun id k hk => (by rw [hp] at hk; cases hk), fun id _ k hk => (by rw [hp] at hk; cases hk), fun _ _ => ⟨rfl, fun _ => rfl⟩, Nat.le_refl _, hG, hN⟩

/-- What the abstract machine answers on the arguments, the model answers, and leaves all that was as it was. -/
theorem calls_of_EE {Γ : Ctx} {env : Env} (hV : EnvOK Γ env) {f : FuncId} {ps : List PV} {p : PV} {H' : Heap} (h : EE env (.fn f) (ps.map .pv) [] = some (.pv p, H')) {W : World} (hG : Γ.gi.le (Imm.of W)) (hN : ∀ a, Γ.gn a = true → a.block < W.heap.size ∧ W.cell? a = none) {args : Array Value} (ha : PRels (Imm.of W) ps args.toList) :
    Calls Γ.P f args W fun e W' => ∃ v, e = .returned v ∧ (∃ I, PRel I p v) ∧ Below W.heap.size W W' := by
  have := (EE_ok hV).fn _ _ _ _ _ h W.heap.size _ W args.toList (SRel.world Γ W hG hN) (VRels.of_pv ha)
  rw [Array.toArray_toList] at this
  refine (callsIn_wide.1 this).mono fun e W' ho => ?_
  cases e with
  | returned v =>
    obtain ⟨κ', h1, h2, h3⟩ := ho
    refine ⟨v, rfl, ?_, h3.os, h3.tape, h3.output, h3.size, fun k hk => h3.frame k hk fun id hp => ?_⟩
    · cases h1 with | pv _ _ h1 => exact ⟨_, h1⟩
    · rw [hget_ge (by simp)] at hp; cases hp
  | panicked _ => exact ho.elim
  | outgrown => exact ho.elim
end Go.VM

namespace Go.VM
open Go Go.RowKit Go.ChangeShapes Go.WideShapes

section
variable {H : Type} {enc : TypeId × Value → H} {P : Program}

theorem TrodAll_stays (hl : laidOutB P = true) {W W' : World} {sp' : Nat → Bool} : ∀ {ts : List TypeId} {vs : List Value} {ds : List (DataW H)} {ps : List MemPlace}, (∀ t ∈ ts, P.readableRec t = true ∧ t < P.types.size) →
    DataW.TrodAll enc P W 0 (fun _ => true) true ts vs ds ps → (∀ p ∈ ps, W.sameAt W' p) → (∀ p ∈ ps, sp' p.block = true) → DataW.TrodAll enc P W' 0 sp' true ts vs ds ps := by
  intro ts
  induction ts with
  | nil =>
    intro vs ds ps _ h _ _
    cases vs <;> cases ds <;> first | exact h | exact h.elim
  | cons t ts ih =>
    intro vs ds ps hr h hs hp
    cases vs with
    | nil => cases ds <;> exact h.elim
    | cons v vs =>
      cases ds with
      | nil => exact h.elim
      | cons d ds =>
        obtain ⟨p, q, g1, g2, rfl⟩ := h
        have ht := hr t (by simp)
        exact ⟨p, q, WideElems.Trod_stays hl ht.1 ht.2 g1 (fun x hx => hs x (by simp [hx])) (fun x hx => hp x (by simp [hx])),
          ih (fun t' h' => hr t' (by simp [h'])) g2 (fun x hx => hs x (by simp [hx])) (fun x hx => hp x (by simp [hx])), rfl⟩

/-- What a law must leave. -/
theorem law_post {fn : Func} {s : ChangeSpec} {apart fresh handsOn : Bool} {W W' : World} {args : Array Value} {ds gs : List (DataW H)} {before : List MemPlace} {tb : TypeId}
    (hl : laidOutB P = true) (hr : fn.params.toList.all (fun t => P.readableRec t && decide (t < P.types.size)) = true) (hvars : s.vars = []) (hrt : fn.resultTypes = #[tb]) (htb : P.underlying tb = some .bool)
    (hfn : ∀ ds : List (DataW H), ds.length = fn.params.size → s.fn H ds = { results := [.lit (.bool true)], args := ds })
    (hlen : ds.length = fn.params.size) (hW : DataW.Whole enc P fn.params.toList s.vars apart W args.toList ds gs before) (hb : Below W.heap.size W W') : s.post enc P fn apart fresh handsOn false W args (.bool true) W' := by
  have hW' := hW
  obtain ⟨p, q, h1, h2, rfl, _, _⟩ := hW
  rw [hvars] at h2
  obtain ⟨rfl, rfl⟩ := trodVars_none h2
  have hlt := hW'.lt
  have hr' : ∀ t ∈ fn.params.toList, P.readableRec t = true ∧ t < P.types.size := fun t ht => by
    have := List.all_eq_true.1 hr t ht
    rw [Bool.and_eq_true, decide_eq_true_eq] at this
    exact this
  have hf := hfn ds hlen
  have hb' := hb.frame (fun x => x ∈ p ++ [] ∧ (x ∈ ([] : List MemPlace) ∨ x ∈ p ∨ x ∈ ([] : List MemPlace)))
  refine ⟨ds, [], p ++ [], [], p, [], hW', ?_, ?_, ?_, hb', fun h => by cases h⟩
  · rw [List.append_nil, hf, hrt]
    exact trodAll_mk1 ⟨1, by simp [DataW.trod, Value.cells, htb]⟩
  · rw [List.append_nil, hf]
    exact TrodAll_stays hl hr' h1 (fun x hx => hb.same (hlt x (by simp [hx]))) (fun x hx => by simpa using hlt x (by simp [hx]))
  · rw [List.append_nil, hf, hvars]
    rfl

theorem trodAll_length {w : World} {base : Nat} {sp : Nat → Bool} {hd : Bool} : ∀ {ts : List TypeId} {vs : List Value} {ds : List (DataW H)} {ps : List MemPlace}, DataW.TrodAll enc P w base sp hd ts vs ds ps → ds.length = ts.length := by
  intro ts
  induction ts with
  | nil => intro vs ds ps h; cases vs <;> cases ds <;> first | rfl | exact h.elim
  | cons t ts ih =>
    intro vs ds ps h
    cases vs with
    | nil => cases ds <;> exact h.elim
    | cons v vs => cases ds with
      | nil => exact h.elim
      | cons d ds => obtain ⟨p, q, _, g2, _⟩ := h; simp [ih g2]
end

/-- A law that answers true in the abstract machine, whatever its arguments. -/
theorem law_lifted {C : Checked} {md : FuncId → Mode} {env : Env} (hV : EnvOK ⟨C.prog, md, fun _ => none, fun _ => false⟩ env) {f : FuncId} {fn : Func} {s : ChangeSpec} {conds : List PathCond} {apart fresh handsOn : Bool} {tb : TypeId} {Ts : List Ty}
    (own : ownKnob C.prog.godebug = none) {os : Os} (started : os.Started) (noInit : C.prog.inits.idxOf? f = none) (hf : C.prog.funcs[f]? = some fn) {H : Type} {enc : TypeId × Value → H}
    (witness : ∃ (w : World) (tape : Tape) (i : Input), w.os = os ∧ (w.forCall tape i).Shaped C.prog ∧ i.vars = [] ∧ Input.okWide C.prog (w.forCall tape i) .any w.heap.size f i ∧
      s.pre6 enc C.prog fn conds apart (w.forCall tape i).memory i.args ∧ ({} : Assume).holds C.prog (lone (Frame.enter C.prog f i.args .normal) [] (w.forCall tape i)))
    (hl : laidOutB C.prog = true) (hr : fn.params.toList.all (fun t => C.prog.readableRec t && decide (t < C.prog.types.size)) = true) (hvars : s.vars = []) (hrt : fn.resultTypes = #[tb]) (htb : C.prog.underlying tb = some .bool)
    (hfn : ∀ ds : List (DataW H), ds.length = fn.params.size → s.fn H ds = { results := [.lit (.bool true)], args := ds })
    (hT : tysOf C.prog 40 fn.params.toList = some Ts) (law : ∀ ps, HasArgs Ts ps → ∃ H', EE env (.fn f) (ps.map .pv) [] = some (.pv (.bool true), H')) :
    ReturnsInHanded {} C os f .any (s.pre6 enc C.prog fn conds apart) (s.post enc C.prog fn apart fresh handsOn false) := by
  refine returnsInHanded_of_change own started noInit hf witness ?_
  intro W base args ds gs before hval hW _ _
  have hW0 := hW
  obtain ⟨p, q, h1, _⟩ := hW
  obtain ⟨ps, g1, g2⟩ := read_args hT (fun j t v ht hv => hval j t v (by rw [← Array.getElem?_toList]; exact ht) (by rw [← Array.getElem?_toList]; exact hv)) h1
  obtain ⟨H', hE⟩ := law ps g2
  refine (calls_of_EE hV hE (fun a v hv => by cases hv) (fun a ha => by cases ha) g1).mono fun e W' ⟨v, he, ⟨I, hv⟩, hb⟩ => ⟨v, he, ?_⟩
  cases hv
  exact law_post hl hr hvars hrt htb hfn (by rw [trodAll_length h1]; simp) hW0 hb
end Go.VM

namespace Go.VM
open Go

/-- There is an answer, and it is so. -/
def Has {α : Type} (o : Option α) (Q : α → Prop) : Prop := ∃ x, o = some x ∧ Q x

section
variable {R α : Type} {Q : R → Prop}
theorem Has.intro {x : R} (h : Q x) : Has (some x) Q := ⟨x, rfl, h⟩
theorem Has.mono {o : Option R} {Q' : R → Prop} (h : Has o Q) (hq : ∀ x, Q x → Q' x) : Has o Q' := by
  obtain ⟨x, h1, h2⟩ := h; exact ⟨x, h1, hq x h2⟩
theorem Has.eq {o : Option R} {x : R} (h : Has o (fun y => y = x)) : o = some x := by obtain ⟨y, h1, h2⟩ := h; rw [h1, h2]
theorem needK_has {p : Bool} {x : Option R} (h : p = true) (hx : Has x Q) : Has (needK p x) Q := by rw [needK_def, h]; exact hx
theorem boolK_has {b : Bool} {F : Bool → Option R} (ht : b = true → Has (F true) Q) (hf : b = false → Has (F false) Q) : Has (boolK b F) Q := by
  rw [boolK_def]; cases b; exact hf rfl; exact ht rfl
theorem boolK_has_true {b : Bool} {F : Bool → Option R} (h : b = true) (ht : Has (F true) Q) : Has (boolK b F) Q := by rw [boolK_def, h]; exact ht
theorem boolK_has_false {b : Bool} {F : Bool → Option R} (h : b = false) (ht : Has (F false) Q) : Has (boolK b F) Q := by rw [boolK_def, h]; exact ht
theorem boolK_has_eq {b c : Bool} {F : Bool → Option R} (e : b = c) (ht : Has (F c) Q) : Has (boolK b F) Q := by rw [boolK_def, e]; exact ht
theorem eqK_has {x : α} {F : α → Option R} (h : Has (F x) Q) : Has (eqK x F) Q := by rw [eqK_def]; exact h
theorem eqK_has_eq {x : α} {F : α → Option R} (x' : α) (e : x = x') (h : Has (F x') Q) : Has (eqK x F) Q := by rw [eqK_def, e]; exact h
theorem getK_has {l : List α} {i : Nat} {F : α → Option R} {v : α} (e : l[i]? = some v) (h : Has (F v) Q) : Has (getK l i F) Q := by rw [getK_def, e]; exact h
theorem secK_has {l : List α} {i n : Nat} {F : List α → Option R} {v : List α} (e : (l.drop i).take n = v) (hn : i + n ≤ l.length) (h : Has (F v) Q) : Has (secK l i n F) Q := by
  rw [secK_def, e, show Nat.ble (i + n) l.length = true from Nat.ble_eq_true_of_le hn]; exact h
theorem bindK_has {x : Option α} {F : α → Option R} {v : α} (e : x = some v) (h : Has (F v) Q) : Has (bindK x F) Q := by rw [bindK_def, e]; exact h
theorem hgetK_has {H : Heap} {id : Nat} {F : HObj → Option R} (o : HObj) (e : hget H id = o) (h : Has (F o) Q) : Has (hgetK H id F) Q := by rw [hgetK_def, e]; exact h
theorem callPK_has {E : Orc} {f : FuncId} {ps : List PV} {F : PV → Option R} {p : PV} (e : EP E f ps = some p) (h : Has (F p) Q) : Has (callPK E f ps F) Q := by rw [callPK_def, e]; exact h
theorem callPK_has' {E : Orc} {f : FuncId} {ps : List PV} {F : PV → Option R} (e : Has (EP E f ps) fun p => Has (F p) Q) : Has (callPK E f ps F) Q := by
  rw [callPK_def]; obtain ⟨p, h1, h2⟩ := e; rw [h1]; exact h2
theorem callSK_has {E : Orc} {t : Tgt} {args : List AV} {h : Heap} {F : AV → Heap → Option R} {v : AV} {h' : Heap} (e : E t args h = some (v, h')) (hy : Has (F v h') Q) : Has (callSK E t args h F) Q := by
  rw [callSK_def, e]; exact hy
theorem callSK_has' {E : Orc} {t : Tgt} {args : List AV} {h : Heap} {F : AV → Heap → Option R} (e : Has (E t args h) fun p => Has (F p.1 p.2) Q) : Has (callSK E t args h F) Q := by
  rw [callSK_def]; obtain ⟨p, h1, h2⟩ := e; rw [h1]; exact h2
theorem sameK_has {a b : Option AV} {x : Option R} (h : a = b) (hs : a.isSome = true) (hx : Has x Q) : Has (sameK a b x) Q := by rw [sameK_def, if_pos ⟨h, hs⟩]; exact hx
theorem loopK_has {b : Regs → Heap → Option Res} {r : Regs} {h : Heap} {F : Ex → Regs → Heap → Option R} (e : Has (iterE b r h) fun x => Has (F x.1 x.2.1 x.2.2) Q) : Has (loopK b r h F) Q := by
  rw [loopK_def]; obtain ⟨p, h1, h2⟩ := e; rw [h1]; exact h2
theorem EE_has {env : Env} {t : Tgt} {args : List AV} {h : Heap} {Q : AV × Heap → Prop} (hx : Has (evTgtK env (EE env) t args h (fun v h => some (v, h))) Q) : Has (EE env t args h) Q := by
  obtain ⟨x, h1, h2⟩ := hx; exact ⟨x, EE_intro h1, h2⟩
theorem EP_has {env : Env} {f : FuncId} {ps : List PV} {Q : PV → Prop} (hx : Has (evTgtK env (EE env) (.fn f) (ps.map .pv) [] (fun v h => some (v, h))) fun x => Has (out x.2 x.1) Q) : Has (EP (EE env) f ps) Q := by
  obtain ⟨x, h1, p, h2, h3⟩ := hx
  refine ⟨p, ?_, h3⟩
  rw [EP, EE_intro h1]; exact h2
end

/-! ### registers of which something is known -/
def Agr (r : Regs) : List (Nat × AV) → Prop
  | [] => True
  | (t, v) :: l => r t = v ∧ Agr r l
def setL (r : Regs) : List (Nat × AV) → Regs
  | [] => r
  | (t, v) :: l => upd (setL r l) t v
theorem Agr.eq {r : Regs} {l : List (Nat × AV)} (h : Agr r l) : setL r l = r := by
  induction l with
  | nil => rfl
  | cons x l ih =>
    obtain ⟨t, v⟩ := x
    obtain ⟨h1, h2⟩ := h
    show upd (setL r l) t v = r
    rw [ih h2]
    funext i
    unfold upd
    cases hb : Nat.beq i t with
    | false => rfl
    | true => rw [Nat.eq_of_beq_eq_true hb, h1]; rfl

theorem iterE_step {b : Regs → Heap → Option Res} {r : Regs} {h : Heap} {Q : Res → Prop} (hx : Has (b r h) fun x => match x.1 with | .normal => Has (iterE b x.2.1 x.2.2) Q | _ => Q x) : Has (iterE b r h) Q := by
  obtain ⟨⟨e, r', h'⟩, h1, h2⟩ := hx
  cases e with
  | normal =>
    obtain ⟨y, h3, h4⟩ := h2
    obtain ⟨n, hn⟩ := lim_some h3
    refine ⟨y, iterE_intro (n := n + 1) ?_, h4⟩
    simp only [iterN, h1, Option.bind_some]
    exact hn
  | exit id => exact ⟨_, iterE_intro (n := 1) (by simp only [iterN, h1, Option.bind_some]), h2⟩
  | ret => exact ⟨_, iterE_intro (n := 1) (by simp only [iterN, h1, Option.bind_some]), h2⟩

/-- A loop, round by round: what is known at a round's head is told by a state, of which a number falls. -/
theorem iterE_loop {σ : Type} {b : Regs → Heap → Option Res} {Q : Res → Prop} (m : σ → Nat) (L : σ → List (Nat × AV)) (Hp : σ → Heap) (Ok : σ → Prop)
    (step : ∀ s, Ok s → ∀ r, Has (b (setL r (L s)) (Hp s)) fun x => match x.1 with | .normal => ∃ s', Ok s' ∧ m s' < m s ∧ Agr x.2.1 (L s') ∧ x.2.2 = Hp s' | _ => Q x)
    (s : σ) (hs : Ok s) {r : Regs} {h : Heap} (ha : Agr r (L s)) (hh : h = Hp s) : Has (iterE b r h) Q := by
  have key : ∀ (n : Nat) (s : σ), m s < n → Ok s → ∀ r, Agr r (L s) → Has (iterE b r (Hp s)) Q := by
    intro n
    induction n with
    | zero => intro s h; omega
    | succ n ih =>
      intro s hm ho r ha
      have h1 := step s ho r
      rw [ha.eq] at h1
      refine iterE_step (h1.mono fun x hx => ?_)
      obtain ⟨e, r', h'⟩ := x
      cases e with
      | normal =>
        obtain ⟨s', g1, g2, g3, g4⟩ := hx
        dsimp only at g3 g4 ⊢
        rw [g4]
        exact ih s' (by omega) g1 r' g3
      | exit id => exact hx
      | ret => exact hx
  subst hh
  exact key (m s + 1) s (Nat.lt_succ_self _) hs r ha

theorem ft_cons {f g : FuncId} {vf vg : VFunc} {rest : Option VFunc} (h : (bif Nat.beq f g then some vg else rest) = some vf) : (f = g ∧ vf = vg) ∨ rest = some vf := by
  cases hb : Nat.beq f g with
  | true => rw [hb] at h; injection h with h; exact .inl ⟨Nat.eq_of_beq_eq_true hb, h.symm⟩
  | false => rw [hb] at h; exact .inr h
end Go.VM

namespace Go.VM
open Go
/-- A byte row's cells. -/
def bc (bs : List UInt8) : List PV := bs.map fun b => .int .u8 b.toNat
theorem wrap_i64 {n : Int} (h0 : -9223372036854775808 ≤ n) (h1 : n ≤ 9223372036854775807) : IntKind.i64.wrap n = n := by
  unfold IntKind.wrap
  simp only [IntKind.bits, IntKind.signed, Bool.true_and, Nat.reduceSub, Int.reducePow]
  by_cases h : 0 ≤ n
  · have e : n % 18446744073709551616 = n := Int.emod_eq_of_lt h (by omega)
    simp only [e]
    split
    · rename_i h; simp at h; omega
    · rfl
  · have e : n % 18446744073709551616 = n + 18446744073709551616 := by omega
    simp only [e]
    split
    · omega
    · rename_i h; simp at h; omega
theorem i64_succ {i : Nat} (h : i < 9223372036854775807) : IntKind.i64.wrap ((i : Int) + 1) = ((i + 1 : Nat) : Int) := by
  rw [wrap_i64 (by omega) (by omega)]; rfl
/-! ### arguments that are bytes -/
theorem maxLen_eq : maxLen = 9223372036854775807 := rfl
end Go.VM

namespace Go.VM
open Go

def i64 (x : BitVec 64) : PV := .int .i64 x.toInt
def u64 (x : BitVec 64) : PV := .int .u64 (x.toNat : Int)

/-! ### arguments that are whole numbers -/
end Go.VM

namespace Go.VM
open Go

/-! ### numbers as digits of sixteen bits -/
def sh (a i : Nat) : Nat := a / 65536 ^ i
end Go.VM

namespace Go.VM
open Go

section
variable {R : Type} {Q : R → Prop}
theorem boolK_dec {p : Prop} [Decidable p] {F : Bool → Option R} (ht : p → Has (F true) Q) (hf : ¬ p → Has (F false) Q) : Has (boolK (decide p) F) Q :=
  boolK_has (fun h => ht (of_decide_eq_true h)) (fun h => hf (of_decide_eq_false h))
theorem boolK_dec_t {p : Prop} [Decidable p] {F : Bool → Option R} (h : p) (ht : Has (F true) Q) : Has (boolK (decide p) F) Q := boolK_has_true (decide_eq_true h) ht
theorem boolK_dec_f {p : Prop} [Decidable p] {F : Bool → Option R} (h : ¬ p) (hf : Has (F false) Q) : Has (boolK (decide p) F) Q := boolK_has_false (decide_eq_false h) hf
theorem boolK_beq {a b : Int} {F : Bool → Option R} (ht : a = b → Has (F true) Q) (hf : a ≠ b → Has (F false) Q) : Has (boolK (a == b) F) Q :=
  boolK_has (fun h => ht (by simpa using h)) (fun h => hf (by simpa using h))
theorem boolK_beq_t {a b : Int} {F : Bool → Option R} (h : a = b) (ht : Has (F true) Q) : Has (boolK (a == b) F) Q := boolK_has_true (by simpa using h) ht
theorem boolK_bne {a b : Int} {F : Bool → Option R} (ht : a ≠ b → Has (F true) Q) (hf : a = b → Has (F false) Q) : Has (boolK (a != b) F) Q :=
  boolK_has (fun h => ht (by simpa using h)) (fun h => hf (by simpa using h))
theorem boolK_bne_t {a b : Int} {F : Bool → Option R} (h : a ≠ b) (ht : Has (F true) Q) : Has (boolK (a != b) F) Q := boolK_has_true (by simpa using h) ht
theorem boolK_bne_f {a b : Int} {F : Bool → Option R} (h : a = b) (hf : Has (F false) Q) : Has (boolK (a != b) F) Q := boolK_has_false (by simpa using h) hf
/-- A call that answers whether something is so. -/
theorem callPK_dec {E : Orc} {f : FuncId} {ps : List PV} {F : PV → Option R} {p : Prop} [Decidable p] (e : EP E f ps = some (.bool (decide p))) (ht : p → Has (F (.bool true)) Q) (hf : ¬ p → Has (F (.bool false)) Q) : Has (callPK E f ps F) Q := by
  by_cases h : p
  · exact callPK_has (e.trans (by rw [decide_eq_true h])) (ht h)
  · exact callPK_has (e.trans (by rw [decide_eq_false h])) (hf h)
theorem no {p : Prop} [Decidable p] (h : ¬ p) : PV.bool false = PV.bool (decide p) := by rw [decide_eq_false h]
/-- A law's end. -/
theorem law_end {env : Env} {f : FuncId} {ps : List PV} (h : Has (EE env (.fn f) (ps.map .pv) []) (fun x => x.1 = .pv (.bool true))) : ∃ H', EE env (.fn f) (ps.map .pv) [] = some (.pv (.bool true), H') := by
  obtain ⟨⟨v, H'⟩, g1, g2⟩ := h
  exact ⟨H', by rw [g1]; simp only at g2; rw [g2]⟩
end
end Go.VM

namespace Go.VM
open Go

/-- A text. -/
def sv (l : List UInt8) : PV := .str ⟨l.toArray⟩
theorem sv_size (l : List UInt8) : (⟨l.toArray⟩ : ByteArray).size = l.length := by simp [ByteArray.size]
theorem sv_list (l : List UInt8) : (⟨l.toArray⟩ : ByteArray).toList = l := by rw [ByteArray.toList_eq]
section
variable {R : Type} {Q : R → Prop}
theorem boolK_seq {a b : List UInt8} {F : Bool → Option R} (ht : a = b → Has (F true) Q) (hf : a ≠ b → Has (F false) Q) : Has (boolK ((⟨a.toArray⟩ : ByteArray).toList == (⟨b.toArray⟩ : ByteArray).toList) F) Q := by
  rw [sv_list, sv_list]
  exact boolK_has (fun h => ht (by simpa using h)) (fun h => hf (by simpa using h))
theorem boolK_sne {a b : List UInt8} {F : Bool → Option R} (ht : a ≠ b → Has (F true) Q) (hf : a = b → Has (F false) Q) : Has (boolK (!((⟨a.toArray⟩ : ByteArray).toList == (⟨b.toArray⟩ : ByteArray).toList)) F) Q := by
  rw [sv_list, sv_list]
  exact boolK_has (fun h => ht (by simpa using h)) (fun h => hf (by simpa using h))
end
end Go.VM

namespace Go.VM
open Go

end Go.VM
