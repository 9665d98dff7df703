/-
  Part 6 of an abstract machine that answers as the model does.
  Every operation that calls nothing.
  Every operation that calls nothing: the others, and all of them.
  Every operation that calls nothing: indices, slices, functions, built-in calls; and all of them.
-/
import Derived.Test.YtkkpkoekbmgabaaV5
set_option linter.all false
set_option linter.unusedVariables false
set_option linter.unusedSimpArgs false
set_option linter.unusedSectionVars false
namespace Go.VM
open Go

section
variable {Γ : Ctx} {base : Nat} {κ : K} {H H' : Heap} {w : World} {o : Oper} {a : Act} {v : AV} {r : Regs}

theorem map_some {α β : Type} {x : Option α} {f : α → β} {y : β} (h : x.map f = some y) : ∃ a, x = some a ∧ f a = y := by
  cases x with
  | none => cases h
  | some a => exact ⟨a, rfl, by simpa using h⟩

/-! ### plain values out of others -/
theorem down1_rel {κ : K} {a : AV} {p : PV} {v : Value} (hd : down1 a = some p) (h : VRel κ a v) : PRel κ.imm p v := by
  unfold down1 at hd
  split at hd
  · injection hd with hd; subst hd; cases h with | pv _ _ h => exact h
  · injection hd with hd; subst hd; exact tsl_plain h
  · cases hd
theorem downL_rel {κ : K} : ∀ {l : List AV} {ps : List PV} {vs : List Value}, downL l = some ps → VRels κ l vs → PRels κ.imm ps vs := by
  intro l
  induction l with
  | nil => intro ps vs hd h; simp [downL] at hd; subst hd; cases h; exact .nil
  | cons a l ih =>
    intro ps vs hd h
    simp only [downL] at hd
    split at hd
    · rename_i p qs h1 h2
      injection hd with hd; subst hd
      cases h with | cons _ v _ vs g1 g2 => exact .cons _ _ _ _ (down1_rel h1 g1) (ih h2 g2)
    · cases hd
theorem down2_rel {κ : K} {a : AV} {p : PV} {v : Value} (hd : down2 a = some p) (h : VRel κ a v) : PRel κ.imm p v := by
  unfold down2 at hd
  split at hd
  · injection hd with hd; subst hd; cases h with | pv _ _ h => exact h
  · injection hd with hd; subst hd; exact tsl_plain h
  · rename_i l
    obtain ⟨ps, h1, rfl⟩ := map_some hd
    cases h with | agg _ vs g1 g2 => exact .agg _ _ (downL_rel h1 g1) g2
  · cases hd
theorem partsDown_rel {κ : K} {place : Nat → Option (Nat × Nat)} : ∀ {l : List (Nat × Nat × AV)} {m : List (Nat × Value)} {ps : List (Nat × Nat × PV)}, partsDown l = some ps → PartsRel κ place l m → PartsRel κ place (ps.map fun (o, n, p) => (o, n, AV.pv p)) m ∧ (∀ most, (∀ p ∈ l, p.1 + p.2.1 ≤ most) → ∀ p ∈ ps, p.1 + p.2.1 ≤ most) := by
  intro l
  induction l with
  | nil => intro m ps h hp; simp [partsDown] at h; subst h; cases hp; exact ⟨.nil, fun _ _ p hp => by cases hp⟩
  | cons q l ih =>
    intro m ps h hp
    obtain ⟨o, n, a⟩ := q
    simp only [partsDown] at h
    split at h
    · rename_i p qs h1 h2
      injection h with h; subst h
      cases hp with
      | cons i _ _ _ v _ m h3 h4 h5 =>
        obtain ⟨g1, g2⟩ := ih h2 h5
        refine ⟨.cons i _ _ _ v _ _ h3 (.pv _ _ (down2_rel h1 h4)) g1, fun most hm x hx => ?_⟩
        rcases List.mem_cons.1 hx with e | e
        · subst e; exact hm (o, n, a) (by simp)
        · exact g2 most (fun y hy => hm y (by simp [hy])) x e
    · cases h

theorem RunOK.op {s : Sem Value} (he : execOp a.eval o = (do pure (Next.value (← s)))) (h : RunOK Γ base κ H w s v H') : OpOK Γ base κ H w o a v H' := by
  obtain ⟨v', κ', w', h1, h2, h3, h4⟩ := h
  refine ⟨.value v', v', κ', w', ?_, .inl rfl, h2, h3, h4⟩
  rw [he]
  simp [h1]

theorem bind_pair {α : Type} {x : Option α} {f : α → AV × Heap} {y : AV × Heap} (h : x.bind (fun p => some (f p)) = some y) : ∃ p, x = some p ∧ f p = y := by
  cases x with
  | none => cases h
  | some p => exact ⟨p, rfl, by simpa using h⟩

/-- One value, and the heap as it was. -/
theorem RunOK.keep {s : Sem Value} (hs : SRel Γ base κ H w) {x : Option AV} (he : x.bind (fun v => some (v, H)) = some (v, H'))
    (h : x = some v → ∃ v', s.run Γ.P w = .ok v' w ∧ VRel κ v v') : RunOK Γ base κ H w s v H' := by
  obtain ⟨p, h1, h2⟩ := bind_pair he
  injection h2 with h2 h3; subst h2; subst h3
  exact RunOK.same hs (h h1)

theorem opt_ORel {κ : K} {r : Regs} {a : Act} (hr : RRel κ r a) {x : Option Operand} {y : Option Opd} (h : compOpt x = some y) : ORel κ (y.map (Opd.ev r)) (x.map a.eval) := by
  rcases opt_rel hr h with ⟨rfl, rfl⟩ | ⟨u, v, rfl, rfl, hv⟩
  · trivial
  · exact hv

theorem parts_bound {r : Regs} {most : Nat} {ps : List (Nat × Nat × Opd)} (h : ∀ p ∈ ps, p.1 + p.2.1 ≤ most) : ∀ p ∈ ps.map (fun (o, n, x) => (o, n, x.ev r)), p.1 + p.2.1 ≤ most := by
  intro p hp
  obtain ⟨q, hq, rfl⟩ := List.mem_map.1 hp
  exact h q hq
theorem parts_bound' {most : Nat} {ps : List (Nat × Nat × PV)} (h : ∀ p ∈ ps.map (fun (o, n, x) => (o, n, AV.pv x)), p.1 + p.2.1 ≤ most) : ∀ p ∈ ps, p.1 + p.2.1 ≤ most := by
  intro p hp
  exact h _ (List.mem_map.2 ⟨p, hp, rfl⟩)

/-- The cells that are filled, from plain parts or from any. -/
theorem fills {place : Nat → Option (Nat × Nat)} {r : Regs} {ps : List (Nat × Nat × Opd)} {m : List (Nat × Value)} {z : List PV} {cells : List Value}
    (hp : PartsRel κ place (ps.map fun (o, n, x) => (o, n, x.ev r)) m) (hb : ∀ p ∈ ps, p.1 + p.2.1 ≤ z.length) (hz : PRels κ.imm z cells) (h1 : Ones cells) :
    (∀ qs l, partsPV (ps.map fun (o, n, x) => (o, n, x.ev r)) = some qs → fill z qs = some l → ∃ c, Instr.fill place cells.toArray m = some c.toArray ∧ PRels κ.imm l c ∧ Ones c ∧ l.length = z.length) ∧
    (∀ l, fillA (z.map .pv) (ps.map fun (o, n, x) => (o, n, x.ev r)) = some l → ∃ c, Instr.fill place cells.toArray m = some c.toArray ∧ VRels κ l c ∧ Ones c ∧ l.length = z.length) := by
  constructor
  · intro qs l hq hf
    have e := partsPV_eq hq
    have hb2 := parts_bound (r := r) hb
    rw [e] at hp hb2
    exact fill_rel qs m place z l cells hp (parts_bound' hb2) hz h1 hf
  · intro l hf
    have := fillA_rel (ps.map fun (o, n, x) => (o, n, x.ev r)) m place (z.map .pv) l cells hp (by rw [List.length_map]; exact parts_bound hb) (VRels.of_pv hz) h1 hf
    simpa using this

theorem run_places (P : Program) (w : World) : ∀ (fs : List Field), (∀ f ∈ fs, (sizeT P f.type).isSome = true) →
    (fs.mapM (fun f : Field => (do pure (f.offset, ← sizeOf f.type) : Sem (Nat × Nat)))).run P w = .ok (fs.map fun f => (f.offset, (sizeT P f.type).getD 0)) w := by
  intro fs
  induction fs with
  | nil => intro _; rfl
  | cons f fs ih =>
    intro h
    obtain ⟨n, hn⟩ := Option.isSome_iff_exists.1 (h f (by simp))
    rw [List.mapM_cons]
    simp only [Sem.run_bind, run_sizeOf' hn, Result.andThen_ok, Sem.run_pure, ih (fun g hg => h g (by simp [hg])), List.map_cons, hn, Option.getD_some]

theorem build_run {t : TypeId} {z : List PV} (hz : zeroT Γ.P t = some z) {parts : List (Nat × Value)} (place : Nat → Option (Nat × Nat)) {c : List Value}
    (hpl : (∃ fs, Γ.P.underlying t = some (.struct fs) ∧ (∀ f ∈ fs.toList, (sizeT Γ.P f.type).isSome = true) ∧ place = structPlace Γ.P fs.toList) ∨
      (∃ n e m, Γ.P.underlying t = some (.array n e) ∧ sizeT Γ.P e = some m ∧ place = fun i => some (i * m, m)))
    (hf : ∀ i zv, Γ.P.info? t = some i → i.zero = some zv → Instr.fill place zv.cells.toList.toArray parts = some c.toArray) : (Instr.build t parts.toArray).run Γ.P w = .ok (.agg c.toArray) w := by
  obtain ⟨i, zv, hi, hzz, _, _, _⟩ := zeroT_rel (Γ := Γ) (κ := ⟨fun _ => none, fun _ => none, fun _ _ => none⟩) hz
  have hf := hf i zv hi hzz
  simp only [Array.toArray_toList] at hf
  rcases hpl with ⟨fs, hu, hall, rfl⟩ | ⟨n, e, m, hu, hm, rfl⟩
  · have hpm : (fs.mapM (fun f : Field => (do pure (f.offset, ← sizeOf f.type) : Sem (Nat × Nat)))).run Γ.P w = .ok (fs.map fun f => (f.offset, (sizeT Γ.P f.type).getD 0)) w := by
      rw [Array.mapM_eq_mapM_toList]
      have := run_places Γ.P w fs.toList hall
      rw [Sem.run_map, this, Result.andThen_ok]
      congr 1
      apply Array.ext'
      simp
    have hpe : (fun i => (fs.map fun f => (f.offset, (sizeT Γ.P f.type).getD 0))[i]?) = structPlace Γ.P fs.toList := by
      funext j
      unfold structPlace
      rw [Array.getElem?_map, ← Array.getElem?_toList]
      cases hj : fs.toList[j]? with
      | none => rfl
      | some f =>
        obtain ⟨n, hn⟩ := Option.isSome_iff_exists.1 (hall f (List.mem_of_getElem? hj))
        simp [hn]
    simp only [Instr.build, Sem.run_bind, run_zeroValue' hi hzz, Result.andThen_ok, run_underlying hu]
    simp only [hpm, Result.andThen_ok]
    rw [hpe, hf]
    rfl
  · simp only [Instr.build, Sem.run_bind, run_zeroValue' hi hzz, Result.andThen_ok, run_underlying hu, run_sizeOf' hm]
    rw [hf]
    rfl

theorem as_some {α : Type} {x : Option α} {F : α → Option (AV × Heap)} {y : AV × Heap} (h : x.bind F = some y) : ∃ p, x = some p ∧ F p = some y := by
  cases x with
  | none => cases h
  | some p => exact ⟨p, rfl, h⟩

theorem op_move (hs : SRel Γ base κ H w) (hr : RRel κ r a) {x : Operand} {y : Opd} (hy : compOpd x = some y) (hop : execOp a.eval o = pure (.value (a.eval x))) (he : opK (.mov y) r H (fun v h => some (v, h)) = some (v, H')) :
    OpOK Γ base κ H w o a v H' := by
  simp only [opK] at he
  injection he with he; injection he with h1 h2; subst h1; subst h2
  exact OpOK.same hs (by rw [hop]; rfl) (opd_rel hr hy)

theorem op_pick (hs : SRel Γ base κ H w) (hr : RRel κ r a) {c x y : Operand} {c' x' y' : Opd} (hc : compOpd c = some c') (hx : compOpd x = some x') (hy : compOpd y = some y') (hop : o.op = .pick c x y)
    (he : opK (.pick c' x' y') r H (fun v h => some (v, h)) = some (v, H')) : OpOK Γ base κ H w o a v H' := by
  simp only [opK] at he
  have h1 := opd_rel hr hc
  split at he
  · rename_i b hb
    rw [hb] at h1
    have hcv := bool_rel h1
    cases b with
    | true =>
      simp only [cond_true] at he
      injection he with he; injection he with e1 e2; subst e1; subst e2
      exact OpOK.same hs (by simp [execOp, hop, hcv, asBool]) (opd_rel hr hx)
    | false =>
      simp only [cond_false] at he
      injection he with he; injection he with e1 e2; subst e1; subst e2
      exact OpOK.same hs (by simp [execOp, hop, hcv, asBool]) (opd_rel hr hy)
  · cases he

theorem op_alloc (hs : SRel Γ base κ H w) {t : TypeId} {z : List PV} (hz : zeroT Γ.P t = some z) (hop : o.op = .alloc t)
    (he : opK (.alloc z) r H (fun v h => some (v, h)) = some (v, H')) : OpOK Γ base κ H w o a v H' := by
  simp only [opK] at he
  injection he with he; injection he with e1 e2; subst e1; subst e2
  obtain ⟨i, zv, hi, hzz, hzr, hz1, _⟩ := zeroT_rel (Γ := Γ) (κ := κ) hz
  have := hs.newP z zv.cells.toList [] t hzr hz1
  simp only [List.append_nil, Array.toArray_toList] at this
  refine RunOK.op (s := Instr.alloc t true (.tuple #[])) (by simp only [execOp, hop]) ⟨.pointer (some ⟨w.heap.size, 0, none⟩), _, _, ?_, .ptr _ _ _ (K.at_same _ _ _), this.1, this.2⟩
  simp [Instr.alloc, run_zeroValue' hi hzz, newVar, run_newRow']

theorem op_box (hs : SRel Γ base κ H w) (hr : RRel κ r a) {t : TypeId} {x : Operand} {y : Opd} (hy : compOpd x = some y) (hop : o.op = .box t x)
    (he : opK (.box y) r H (fun v h => some (v, h)) = some (v, H')) : OpOK Γ base κ H w o a v H' := by
  simp only [opK] at he
  have hv := opd_rel hr hy
  cases hb : boxOf (y.ev r) with
  | none => rw [hb] at he; cases he
  | some ob =>
    rw [hb] at he; simp only at he
    injection he with he; injection he with e1 e2; subst e1; subst e2
    have hrun : (Instr.box t (a.eval x)).run Γ.P w = .ok (.pointer (some ⟨w.heap.size, 0, none⟩)) (w.alloc (.cells (a.eval x).cells t)) := by
      simp [Instr.box, newVar, run_newRow']
    have fin : SRel Γ base (κ.at H.length w.heap.size) (H ++ [ob]) (w.alloc (.cells (a.eval x).cells t)) ∧ Grow κ H w (κ.at H.length w.heap.size) (H ++ [ob]) (w.alloc (.cells (a.eval x).cells t)) := by
      have plain : ∀ ps, ob = .pcells ps → PRels κ.imm ps (a.eval x).cells.toList → Ones (a.eval x).cells.toList → SRel Γ base (κ.at H.length w.heap.size) (H ++ [ob]) (w.alloc (.cells (a.eval x).cells t)) ∧ Grow κ H w (κ.at H.length w.heap.size) (H ++ [ob]) (w.alloc (.cells (a.eval x).cells t)) := by
        intro ps e h1 h2
        subst e
        have := hs.newP ps (a.eval x).cells.toList [] t h1 h2
        simpa using this
      have any : ∀ ps, ob = .cells ps → VRels κ ps (a.eval x).cells.toList → Ones (a.eval x).cells.toList → SRel Γ base (κ.at H.length w.heap.size) (H ++ [ob]) (w.alloc (.cells (a.eval x).cells t)) ∧ Grow κ H w (κ.at H.length w.heap.size) (H ++ [ob]) (w.alloc (.cells (a.eval x).cells t)) := by
        intro ps e h1 h2
        subst e
        have := hs.newC ps (a.eval x).cells.toList [] t h1 h2
        simpa using this
      generalize y.ev r = u at hv hb
      have hnt : u.isTup = false := by
        cases u with
        | pv p => cases p <;> first | rfl | simp [boxOf] at hb
        | tup => simp [boxOf] at hb
        | any => simp [boxOf] at hb
        | _ => rfl
      obtain ⟨g1, g2⟩ := cellsOf_rel hv hnt
      cases u with
      | pv p =>
        cases p with
        | agg ps =>
          simp only [boxOf] at hb
          injection hb with hb
          exact plain ps hb.symm (VRels.to_pv g1) g2
        | tup => simp [boxOf] at hb
        | _ =>
          simp only [boxOf] at hb
          injection hb with hb
          exact plain _ hb.symm (VRels.to_pv g1) g2
      | agg cs =>
        simp only [boxOf] at hb
        injection hb with hb
        exact any cs hb.symm g1 g2
      | tup => simp [boxOf] at hb
      | any => simp [boxOf] at hb
      | _ =>
        simp only [boxOf] at hb
        injection hb with hb
        exact any _ hb.symm g1 g2
    exact RunOK.op (s := Instr.box t (a.eval x)) (by simp only [execOp, hop]) ⟨_, _, _, hrun, .ptr _ _ _ (K.at_same _ _ _), fin.1, fin.2⟩

theorem op_build (hs : SRel Γ base κ H w) (hr : RRel κ r a) {t : TypeId} {z : List PV} (hz : zeroT Γ.P t = some z) {parts : Array (Nat × Operand)} {ps : List (Nat × Nat × Opd)} (place : Nat → Option (Nat × Nat))
    (hpl : (∃ fs, Γ.P.underlying t = some (.struct fs) ∧ (∀ f ∈ fs.toList, (sizeT Γ.P f.type).isSome = true) ∧ place = structPlace Γ.P fs.toList) ∨
      (∃ n e m, Γ.P.underlying t = some (.array n e) ∧ sizeT Γ.P e = some m ∧ place = fun i => some (i * m, m)))
    (hc : compParts place z.length parts.toList = some ps) (hop : o.op = .build t parts)
    (he : opK (.build z ps) r H (fun v h => some (v, h)) = some (v, H')) : OpOK Γ base κ H w o a v H' := by
  simp only [opK] at he
  obtain ⟨hp, hb⟩ := compParts_rel hr hc
  have hparts : (parts.map fun (i, x) => (i, a.eval x)) = (parts.toList.map fun (i, x) => (i, a.eval x)).toArray := by
    apply Array.ext'; simp
  have hrun : ∀ (c : List Value), (∀ i zv, Γ.P.info? t = some i → i.zero = some zv → Instr.fill place zv.cells.toList.toArray (parts.toList.map fun (i, x) => (i, a.eval x)) = some c.toArray) →
      (Instr.build t (parts.map fun (i, x) => (i, a.eval x))).run Γ.P w = .ok (.agg c.toArray) w := by
    intro c hf
    rw [hparts]
    exact build_run hz place hpl hf
  obtain ⟨i, zv, hi, hzz, hzr, hz1, _⟩ := zeroT_rel (Γ := Γ) (κ := κ) hz
  obtain ⟨f1, f2⟩ := fills hp hb hzr hz1
  have uniq : ∀ (c : List Value), Instr.fill place zv.cells.toList.toArray (parts.toList.map fun (i, x) => (i, a.eval x)) = some c.toArray → ∀ i' zv', Γ.P.info? t = some i' → i'.zero = some zv' →
      Instr.fill place zv'.cells.toList.toArray (parts.toList.map fun (i, x) => (i, a.eval x)) = some c.toArray := by
    intro c h i' zv' hi' hz'
    rw [hi] at hi'; injection hi' with hi'; subst hi'
    rw [hzz] at hz'; injection hz' with hz'; subst hz'
    exact h
  refine RunOK.op (s := Instr.build t (parts.map fun (i, x) => (i, a.eval x))) (by simp only [execOp, hop]) ?_
  cases hq : partsPV (ps.map fun (o, n, x) => (o, n, x.ev r)) with
  | some qs =>
    rw [hq] at he; simp only at he
    cases hl : fill z qs with
    | none => rw [hl] at he; cases he
    | some l =>
      rw [hl] at he; simp only at he
      injection he with he; injection he with e1 e2; subst e1; subst e2
      obtain ⟨c, h1, h2, h3, _⟩ := f1 qs l hq hl
      exact RunOK.same hs ⟨_, hrun c (uniq c h1), .pv _ _ (.agg _ _ h2 h3)⟩
  | none =>
    rw [hq] at he; simp only at he
    cases hl : fillA (z.map .pv) (ps.map fun (o, n, x) => (o, n, x.ev r)) with
    | none => rw [hl] at he; cases he
    | some l =>
      rw [hl] at he; simp only at he
      injection he with he; injection he with e1 e2; subst e1; subst e2
      obtain ⟨c, h1, h2, h3, _⟩ := f2 l hl
      exact RunOK.same hs ⟨_, hrun c (uniq c h1), .agg _ _ h2 h3⟩

theorem op_buildG (hs : SRel Γ base κ H w) (hr : RRel κ r a) {t e : TypeId} (ht : Γ.P.underlying t = some (.slice e)) {z : List PV} (hz : zeroT Γ.P e = some z) {n len : Nat} (hn : sizeT Γ.P e = some n) (hl : len * n ≤ 16777216) (hn0 : 0 < n)
    {parts : Array (Nat × Operand)} {ps : List (Nat × Nat × Opd)} (hc : compParts (fun i => some (i * n, n)) (len * n) parts.toList = some ps) (hop : o.op = .buildSlice t len parts)
    (he : opK (.buildG n len (zerosOf z len) ps) r H (fun v h => some (v, h)) = some (v, H')) : OpOK Γ base κ H w o a v H' := by
  simp only [opK] at he
  obtain ⟨hp, hb⟩ := compParts_rel hr hc
  obtain ⟨i, zv, hi, hzz, hzr, hz1, hzl⟩ := zeroT_rel (Γ := Γ) (κ := κ) hz
  have hin : i.size = n := by simp [sizeT, hi] at hn; exact hn
  have hzs : zv.cells.toList.length = n := by rw [← hzr.length, hzl, hin]
  have hparts : (parts.map fun (i, x) => (i, a.eval x)).toList = parts.toList.map fun (i, x) => (i, a.eval x) := by simp
  have hzn : (zerosOf z len).length = len * n := by rw [zerosOf_flat]; simp [hzr.length, hzs]
  have hcells : ((Array.range (len * n)).map ((if len * n = 0 then (#[] : Array Value) else zv.cells)[· % (if len * n = 0 then (#[] : Array Value) else zv.cells).size]!)) = ((List.replicate len zv.cells.toList).flatten).toArray := by
    by_cases hz0 : len * n = 0
    · rw [hz0]
      apply Array.ext'
      have : (List.replicate len zv.cells.toList).flatten = [] := by
        apply List.eq_nil_of_length_eq_zero
        simp only [List.length_flatten, List.map_replicate, List.sum_replicate_nat, hzs]
        exact hz0
      rw [this]
      simp
    · simp only [hz0, if_false]
      apply Array.ext'
      have := zeros_cells zv.cells.toList len
      simp only [hzs, Array.toArray_toList] at this
      simpa using this
  have hrun : ∀ (c : List Value), Instr.fill (fun i => some (i * n, n)) ((List.replicate len zv.cells.toList).flatten).toArray (parts.toList.map fun (i, x) => (i, a.eval x)) = some c.toArray →
      (Instr.buildSlice t len (parts.map fun (i, x) => (i, a.eval x))).run Γ.P w = .ok (.slice (some ⟨w.heap.size, 0, none⟩) len len) (w.alloc (.cells c.toArray e)) := by
    intro c hf
    have hle : ¬ (len * n > 2 ^ 24) := by omega
    simp only [Instr.buildSlice, Sem.run_bind, run_underlying ht, Result.andThen_ok, run_sizeOf' hn, hle, if_false, hparts]
    by_cases hz0 : len * n = 0
    · simp only [hz0, if_true] at hcells ⊢
      simp only [Sem.run_bind, Sem.run_pure, Result.andThen_ok]
      rw [hcells, hf]
      rfl
    · simp only [hz0, if_false] at hcells ⊢
      simp only [Sem.run_bind, Sem.run_pure, Result.andThen_ok, run_zeroValue' hi hzz]
      rw [hcells, hf]
      rfl
  obtain ⟨f1, f2⟩ := fills (m := parts.toList.map fun (i, x) => (i, a.eval x)) (z := zerosOf z len) (cells := (List.replicate len zv.cells.toList).flatten) hp (by rw [hzn]; exact hb) (by rw [zerosOf_flat]; exact hzr.flat _) (hz1.flat _)
  refine RunOK.op (s := Instr.buildSlice t len (parts.map fun (i, x) => (i, a.eval x))) (by simp only [execOp, hop]) ?_
  cases hlf : fillA ((zerosOf z len).map .pv) (ps.map fun (o, n, x) => (o, n, x.ev r)) with
  | none => rw [hlf] at he; cases he
  | some l =>
    rw [hlf] at he; simp only at he
    obtain ⟨c, h1, h2, h3, h4⟩ := f2 l hlf
    injection he with he; injection he with e1 e2; subst e1; subst e2
    have hlen : len ≤ maxLen := by
      have := Nat.mul_le_mul_left len hn0
      have : maxLen = 2 ^ 63 - 1 := rfl
      omega
    have := hs.newRowG (n := len) (es := n) (cap := len) (rest := []) (e := e) h2 h3 (by rw [h4, hzn]) (by rw [List.append_nil, ← h2.length, h4, hzn]) hlen (Nat.le_refl _)
    simp only [List.append_nil] at this
    exact ⟨_, _, _, hrun c h1, .gs _ _ w.heap.size len (K.tok_same _ _ _ _) (Nat.le_refl _), this.1, this.2⟩

theorem op_buildSlice (hs : SRel Γ base κ H w) (hr : RRel κ r a) {t e : TypeId} (ht : Γ.P.underlying t = some (.slice e)) {z : List PV} (hz : zeroT Γ.P e = some z) {n len : Nat} (hn : sizeT Γ.P e = some n) (hl : len * n ≤ 16777216) (hn0 : 0 < n)
    {parts : Array (Nat × Operand)} {ps : List (Nat × Nat × Opd)} (hc : compParts (fun i => some (i * n, n)) (len * n) parts.toList = some ps) (hop : o.op = .buildSlice t len parts) {mu : Bool}
    (he : opK (.buildSlice mu n len (zerosOf z len) ps) r H (fun v h => some (v, h)) = some (v, H')) : OpOK Γ base κ H w o a v H' := by
  simp only [opK] at he
  obtain ⟨hp, hb⟩ := compParts_rel hr hc
  obtain ⟨i, zv, hi, hzz, hzr, hz1, hzl⟩ := zeroT_rel (Γ := Γ) (κ := κ) hz
  have hin : i.size = n := by simp [sizeT, hi] at hn; exact hn
  have hzs : zv.cells.toList.length = n := by rw [← hzr.length, hzl, hin]
  have hparts : (parts.map fun (i, x) => (i, a.eval x)).toList = parts.toList.map fun (i, x) => (i, a.eval x) := by simp
  have hzn : (zerosOf z len).length = len * n := by rw [zerosOf_flat]; simp [hzr.length, hzs]
  have hcells : ((Array.range (len * n)).map ((if len * n = 0 then (#[] : Array Value) else zv.cells)[· % (if len * n = 0 then (#[] : Array Value) else zv.cells).size]!)) = ((List.replicate len zv.cells.toList).flatten).toArray := by
    by_cases hz0 : len * n = 0
    · rw [hz0]
      apply Array.ext'
      have : (List.replicate len zv.cells.toList).flatten = [] := by
        apply List.eq_nil_of_length_eq_zero
        simp only [List.length_flatten, List.map_replicate, List.sum_replicate_nat, hzs]
        exact hz0
      rw [this]
      simp
    · simp only [hz0, if_false]
      apply Array.ext'
      have := zeros_cells zv.cells.toList len
      simp only [hzs, Array.toArray_toList] at this
      simpa using this
  have hrun : ∀ (c : List Value), Instr.fill (fun i => some (i * n, n)) ((List.replicate len zv.cells.toList).flatten).toArray (parts.toList.map fun (i, x) => (i, a.eval x)) = some c.toArray →
      (Instr.buildSlice t len (parts.map fun (i, x) => (i, a.eval x))).run Γ.P w = .ok (.slice (some ⟨w.heap.size, 0, none⟩) len len) (w.alloc (.cells c.toArray e)) := by
    intro c hf
    have hle : ¬ (len * n > 2 ^ 24) := by omega
    simp only [Instr.buildSlice, Sem.run_bind, run_underlying ht, Result.andThen_ok, run_sizeOf' hn, hle, if_false, hparts]
    by_cases hz0 : len * n = 0
    · simp only [hz0, if_true] at hcells ⊢
      simp only [Sem.run_bind, Sem.run_pure, Result.andThen_ok]
      rw [hcells, hf]
      rfl
    · simp only [hz0, if_false] at hcells ⊢
      simp only [Sem.run_bind, Sem.run_pure, Result.andThen_ok, run_zeroValue' hi hzz]
      rw [hcells, hf]
      rfl
  obtain ⟨f1, f2⟩ := fills (m := parts.toList.map fun (i, x) => (i, a.eval x)) (z := zerosOf z len) (cells := (List.replicate len zv.cells.toList).flatten) hp (by rw [hzn]; exact hb) (by rw [zerosOf_flat]; exact hzr.flat _) (hz1.flat _)
  refine RunOK.op (s := Instr.buildSlice t len (parts.map fun (i, x) => (i, a.eval x))) (by simp only [execOp, hop]) ?_
  cases mu with
  | true =>
    simp only at he
    cases hq : partsPV (ps.map fun (o, n, x) => (o, n, x.ev r)) with
    | some qs =>
      rw [hq] at he; simp only at he
      cases hlf : fill (zerosOf z len) qs with
      | none => rw [hlf] at he; cases he
      | some l =>
        rw [hlf] at he; simp only at he
        obtain ⟨c, h1, h2, h3, h4⟩ := f1 qs l hq hlf
        injection he with he; injection he with e1 e2; subst e1; subst e2
        have := hs.newP l c [] e h2 h3
        simp only [List.append_nil] at this
        exact ⟨_, _, _, hrun c h1, .hs _ _ _ _ _ w.heap.size len (K.at_same _ _ _) (Nat.le_refl _) (Nat.le_refl _), this.1, this.2⟩
    | none =>
      rw [hq] at he; simp only at he
      cases hlf : fillA ((zerosOf z len).map .pv) (ps.map fun (o, n, x) => (o, n, x.ev r)) with
      | none => rw [hlf] at he; cases he
      | some l =>
        rw [hlf] at he; simp only at he
        obtain ⟨c, h1, h2, h3, h4⟩ := f2 l hlf
        injection he with he; injection he with e1 e2; subst e1; subst e2
        have := hs.newC l c [] e h2 h3
        simp only [List.append_nil] at this
        exact ⟨_, _, _, hrun c h1, .hs _ _ _ _ _ w.heap.size len (K.at_same _ _ _) (Nat.le_refl _) (Nat.le_refl _), this.1, this.2⟩
  | false =>
    simp only at he
    cases hq : partsDown (ps.map fun (o, n, x) => (o, n, x.ev r)) with
    | none => rw [hq] at he; cases he
    | some qs =>
      rw [hq] at he; simp only at he
      cases hlf : fill (zerosOf z len) qs with
      | none => rw [hlf] at he; cases he
      | some l =>
        rw [hlf] at he; simp only at he
        obtain ⟨d1, d2⟩ := partsDown_rel hq hp
        obtain ⟨c, h1, h2, h3, h4⟩ := fill_rel qs _ _ (zerosOf z len) l _ d1 (d2 _ (by rw [hzn]; exact parts_bound hb)) (by rw [zerosOf_flat]; exact hzr.flat _) (hz1.flat _) hlf
        injection he with he; injection he with e1 e2; subst e1; subst e2
        obtain ⟨g1, g2, g3⟩ := hs.newRow c e (0, 0)
        exact ⟨_, _, _, hrun c h1, .pv _ _ (.sl _ _ _ _ _ c (by simp) (fun _ => rfl) (Nat.le_refl _) (h2.mono (κ.le_keep _ _ _).imm) g3 h3), g1, g2⟩
end
end Go.VM

namespace Go.VM
open Go

section
variable {Γ : Ctx} {base : Nat} {κ : K} {H H' : Heap} {w : World} {o : Oper} {a : Act} {v : AV} {r : Regs}

theorem op_load1 (hs : SRel Γ base κ H w) (hr : RRel κ r a) {t : TypeId} {x : Operand} {y : Opd} (hy : compOpd x = some y) (ht : aggT Γ.P t = some false) (hop : o.op = .load t x)
    (he : opK (.load1 y) r H (fun v h => some (v, h)) = some (v, H')) : OpOK Γ base κ H w o a v H' := by
  simp only [opK] at he
  refine RunOK.op (s := Instr.loadAt t (a.eval x)) (by simp only [execOp, hop]) (RunOK.keep hs (x := load1K (y.ev r) H some) ?_ fun h => load1_rel hs (opd_rel hr hy) h ht)
  rw [load1K_bind]; exact he
theorem op_loadN (hs : SRel Γ base κ H w) (hr : RRel κ r a) {t : TypeId} {x : Operand} {y : Opd} (hy : compOpd x = some y) (ht : aggT Γ.P t = some true) {n : Nat} (hn : sizeT Γ.P t = some n) (hop : o.op = .load t x)
    (he : opK (.loadN n y) r H (fun v h => some (v, h)) = some (v, H')) : OpOK Γ base κ H w o a v H' := by
  simp only [opK] at he
  refine RunOK.op (s := Instr.loadAt t (a.eval x)) (by simp only [execOp, hop]) (RunOK.keep hs (x := loadNK n (y.ev r) H some) ?_ fun h => loadN_rel hs (opd_rel hr hy) h ht hn)
  rw [loadNK_bind]; exact he

theorem op_stored {t : TypeId} {x z : Operand} (hop : o.op = .store t x z) (h : ∃ w', (Instr.storeAt t (a.eval x) (a.eval z)).run Γ.P w = .ok () w' ∧ SRel Γ base κ H' w' ∧ Grow κ H w κ H' w') : OpOK Γ base κ H w o a undefV H' := by
  obtain ⟨w', h1, h2, h3⟩ := h
  refine ⟨.skip, undef, κ, w', ?_, .inr ⟨rfl, rfl⟩, undefV_rel _, h2, h3⟩
  simp [execOp, hop, h1]
theorem op_store1 (hs : SRel Γ base κ H w) (hr : RRel κ r a) {t : TypeId} {x z : Operand} {y u : Opd} (hy : compOpd x = some y) (hu : compOpd z = some u) (hn : sizeT Γ.P t = some 1) (hop : o.op = .store t x z)
    (he : opK (.store1 y u) r H (fun v h => some (v, h)) = some (v, H')) : OpOK Γ base κ H w o a v H' := by
  simp only [opK] at he
  have e : (store1K (y.ev r) (u.ev r) H some).bind (fun h => some (undefV, h)) = some (v, H') := by rw [store1K_bind]; exact he
  obtain ⟨p, h1, h2⟩ := bind_pair e
  injection h2 with h2 h3; subst h2; subst h3
  exact op_stored hop (store1_rel hs (opd_rel hr hy) (opd_rel hr hu) h1 hn)
theorem op_storeN (hs : SRel Γ base κ H w) (hr : RRel κ r a) {t : TypeId} {x z : Operand} {y u : Opd} {n : Nat} (hy : compOpd x = some y) (hu : compOpd z = some u) (hn : sizeT Γ.P t = some n) (hop : o.op = .store t x z)
    (he : opK (.storeN n y u) r H (fun v h => some (v, h)) = some (v, H')) : OpOK Γ base κ H w o a v H' := by
  simp only [opK] at he
  have e : (storeNK n (y.ev r) (u.ev r) H some).bind (fun h => some (undefV, h)) = some (v, H') := by rw [storeNK_bind]; exact he
  obtain ⟨p, h1, h2⟩ := bind_pair e
  injection h2 with h2 h3; subst h2; subst h3
  exact op_stored hop (storeN_rel hs (opd_rel hr hy) (opd_rel hr hu) h1 hn)

theorem op_nilCheck (hs : SRel Γ base κ H w) (hr : RRel κ r a) {x : Operand} {y : Opd} (hy : compOpd x = some y) (hop : o.op = .nilCheck x)
    (he : opK (.nilCheck y) r H (fun v h => some (v, h)) = some (v, H')) : OpOK Γ base κ H w o a v H' := by
  simp only [opK] at he
  have hv := opd_rel hr hy
  split at he
  · rename_i id off hy2
    rw [hy2] at hv
    injection he with he; injection he with e1 e2; subst e1; subst e2
    obtain ⟨p, hp⟩ := ptr_val hv
    exact OpOK.same hs (v' := a.eval x) (by simp [execOp, hop, hp]) hv
  · rename_i cs off hy2
    rw [hy2] at hv
    injection he with he; injection he with e1 e2; subst e1; subst e2
    obtain ⟨p, hp⟩ := rptr_val hv
    exact OpOK.same hs (v' := a.eval x) (by simp [execOp, hop, hp]) hv
  · rename_i id n off hy2
    rw [hy2] at hv
    injection he with he; injection he with e1 e2; subst e1; subst e2
    obtain ⟨p, hp⟩ : ∃ p, a.eval x = .pointer (some p) := by
      generalize a.eval x = vx at hv
      cases hv with | gptr => exact ⟨_, rfl⟩
    exact OpOK.same hs (v' := a.eval x) (by simp [execOp, hop, hp]) hv
  · cases he

theorem op_binOf (hs : SRel Γ base κ H w) (hr : RRel κ r a) {op : BinOp} {t u : TypeId} {x z : Operand} {y q : Opd} {k : BK} (hop : o.op = .binOp op t x z u)
    (he : opK (.bin k op y q) r H (fun v h => some (v, h)) = some (v, H'))
    (h : ∀ p, binK k op (y.ev r) (q.ev r) (fun p => some (AV.pv p)) = some p → ∃ v', (do eqGuard op t x z (a.eval x) (a.eval z); binOp op t (a.eval x) (a.eval z) : Sem Value).run Γ.P w = .ok v' w ∧ VRel κ p v') : OpOK Γ base κ H w o a v H' := by
  simp only [opK] at he
  refine RunOK.op (s := do eqGuard op t x z (a.eval x) (a.eval z); binOp op t (a.eval x) (a.eval z)) (by simp only [execOp, hop]) (RunOK.keep hs (x := binK k op (y.ev r) (q.ev r) fun p => some (AV.pv p)) ?_ fun h' => h v h')
  rw [binK_bind]; exact he

theorem op_binNum (hs : SRel Γ base κ H w) (hr : RRel κ r a) {op : BinOp} {t u : TypeId} {x z : Operand} {y q : Opd} (hy : compOpd x = some y) (hq : compOpd z = some q) (hop : o.op = .binOp op t x z u)
    (he : opK (.bin .num op y q) r H (fun v h => some (v, h)) = some (v, H')) : OpOK Γ base κ H w o a v H' := by
  refine op_binOf hs hr hop he fun p hp => ?_
  have h1 := opd_rel hr hy
  have h2 := opd_rel hr hq
  simp only [binK] at hp
  split at hp
  · rename_i k m hm
    split at hp
    · rename_i k' n hn
      rw [hm] at h1; rw [hn] at h2
      rw [int_rel h1, int_rel h2]
      have hg := eqGuard_plain (Γ := Γ) (w := w) (va := .int k m) (vb := .int k' n) (by simp) (by simp) op t x z
      cases hsh : isShift op with
      | true =>
        rw [hsh] at hp; simp only [cond_true] at hp
        obtain ⟨v', g1, g2⟩ := shift_rel (Γ := Γ) (w := w) (κ := κ) (k' := k') hp t
        exact ⟨v', by simp [hg, g1], g2⟩
      | false =>
        rw [hsh] at hp; simp only [cond_false] at hp
        cases hk : kindEq k k' with
        | false => rw [hk] at hp; cases hp
        | true =>
          rw [hk] at hp; simp only [cond_true] at hp
          have := kindEq_eq hk
          subst this
          obtain ⟨v', g1, g2⟩ := intBin_rel (Γ := Γ) (w := w) (κ := κ) hsh hp t
          exact ⟨v', by simp [hg, g1], g2⟩
    · cases hp
  · rename_i s hm
    split at hp
    · rename_i s2 hn
      rw [hm] at h1; rw [hn] at h2
      rw [str_rel h1, str_rel h2]
      have hg := eqGuard_plain (Γ := Γ) (w := w) (va := .string s) (vb := .string s2) (by simp) (by simp) op t x z
      obtain ⟨v', g1, g2⟩ := strBin_rel (Γ := Γ) (w := w) (κ := κ) hp t
      exact ⟨v', by simp [hg, g1], g2⟩
    · cases hp
  · cases hp

theorem op_binBool (hs : SRel Γ base κ H w) (hr : RRel κ r a) {op : BinOp} {t u : TypeId} {x z : Operand} {y q : Opd} (hy : compOpd x = some y) (hq : compOpd z = some q) (ht : Γ.P.underlying t = some .bool) (hop : o.op = .binOp op t x z u)
    (he : opK (.bin .bool op y q) r H (fun v h => some (v, h)) = some (v, H')) : OpOK Γ base κ H w o a v H' := by
  refine op_binOf hs hr hop he fun p hp => ?_
  have h1 := opd_rel hr hy
  have h2 := opd_rel hr hq
  simp only [binK] at hp
  split at hp
  · rename_i m hm
    split at hp
    · rename_i n hn
      rw [hm] at h1; rw [hn] at h2
      rw [bool_rel h1, bool_rel h2]
      have hg := eqGuard_plain (Γ := Γ) (w := w) (va := .bool m) (vb := .bool n) (by simp) (by simp) op t x z
      obtain ⟨v', g1, g2⟩ := boolBin_rel (Γ := Γ) (w := w) (κ := κ) hp ht
      exact ⟨v', by simp [hg, g1], g2⟩
    · cases hp
  · cases hp

theorem op_binAgg (hs : SRel Γ base κ H w) (hr : RRel κ r a) {op : BinOp} {t u : TypeId} {x z : Operand} {y q : Opd} (hy : compOpd x = some y) (hq : compOpd z = some q) {sh : List SK} (hsh : shapeT Γ.P 20 t = some sh) (ha : aggT Γ.P t = some true)
    (hgd : Γ.P.eqGuardType Γ.P.depth t = false) (hop : o.op = .binOp op t x z u)
    (he : opK (.bin (.agg sh) op y q) r H (fun v h => some (v, h)) = some (v, H')) : OpOK Γ base κ H w o a v H' := by
  refine op_binOf hs hr hop he fun p hp => ?_
  have h1 := opd_rel hr hy
  have h2 := opd_rel hr hq
  simp only [binK] at hp
  split at hp
  · rename_i as hm
    split at hp
    · rename_i bs hn
      rw [hm] at h1; rw [hn] at h2
      have key : ∀ c, aggEq sh as bs = some c → (Op.equal t (a.eval x) (a.eval z)).run Γ.P w = .ok c w ∧ ∃ xs ys, a.eval x = .agg xs ∧ a.eval z = .agg ys := by
        intro c hc
        generalize a.eval x = vx at h1
        generalize a.eval z = vy at h2
        cases h1 with
        | pv _ _ h1 => cases h1 with
          | agg _ us g1 g2 => cases h2 with
            | pv _ _ h2 => cases h2 with
              | agg _ us2 g3 g4 =>
                have := (shapeT_ok (I := κ.imm) 20 t sh hsh (9999 + 1) (by omega)).1 w as bs us us2 (.agg us.toArray) (.agg us2.toArray) c g1 g3 hc (.inl ⟨ha, rfl⟩) (.inl ⟨ha, rfl⟩)
                exact ⟨by rw [equal_once]; exact this, _, _, rfl, rfl⟩
      cases hc : aggEq sh as bs with
      | none =>
        split at hp
        · rw [bindK_def, hc] at hp; cases hp
        · rw [bindK_def, hc] at hp; cases hp
        · cases hp
      | some c =>
        obtain ⟨k1, xs, ys, k2, k3⟩ := key c hc
        have hg : (eqGuard op t x z (a.eval x) (a.eval z)).run Γ.P w = .ok () w := by
          rw [k2, k3]
          simp only [eqGuard]
          split <;> simp [hgd]
        rw [k2, k3] at k1 hg ⊢
        split at hp
        · rw [bindK_def, hc] at hp
          simp only [Option.bind_some, boolK_def] at hp
          injection hp with hp; subst hp
          exact ⟨.bool c, by simp only [Sem.run_bind, hg, Result.andThen_ok]; simp [binOp, k1], .pv _ _ (.bool _)⟩
        · rw [bindK_def, hc] at hp
          simp only [Option.bind_some, boolK_def] at hp
          injection hp with hp; subst hp
          exact ⟨.bool !c, by simp only [Sem.run_bind, hg, Result.andThen_ok]; simp [binOp, k1], .pv _ _ (.bool _)⟩
        · cases hp
    · cases hp
  · cases hp

theorem op_binNil (hs : SRel Γ base κ H w) (hr : RRel κ r a) {op : BinOp} {t u : TypeId} {x z : Operand} {y q : Opd} (hy : compOpd x = some y) (hq : compOpd z = some q) {k : BK}
    (ht : (k = .ptr → ∃ e j, Γ.P.underlying t = some (.pointer e) ∧ Γ.P.info? e = some j) ∧ (k = .sl → ∃ e, Γ.P.underlying t = some (.slice e)) ∧ (k = .map → ∃ e f, Γ.P.underlying t = some (.map e f)) ∧ (k = .fn → ∃ e f g, Γ.P.underlying t = some (.func e f g)))
    (hk : k = .ptr ∨ k = .sl ∨ k = .map ∨ k = .fn) (hop : o.op = .binOp op t x z u)
    (he : opK (.bin k op y q) r H (fun v h => some (v, h)) = some (v, H')) : OpOK Γ base κ H w o a v H' := by
  refine op_binOf hs hr hop he fun p hp => ?_
  have h1 := opd_rel hr hy
  have h2 := opd_rel hr hq
  have hp : nilBinK k op (y.ev r) (q.ev r) (fun p => some (AV.pv p)) = some p := by rcases hk with rfl | rfl | rfl | rfl <;> exact hp
  unfold nilBinK at hp
  split at hp
  · cases hc : nilEq k (y.ev r) (q.ev r) with
    | none => rw [hc] at hp; cases hp
    | some c =>
      rw [hc] at hp; simp only at hp
      injection hp with hp; subst hp
      obtain ⟨g1, g2, g3⟩ := nilEq_rel (Γ := Γ) (w := w) h1 h2 hc ht
      exact ⟨.bool c, by simp only [Sem.run_bind, g2, Result.andThen_ok, g3 .eql (.inl rfl)]; simp [g1], .pv _ _ (.bool _)⟩
  · cases hc : nilEq k (y.ev r) (q.ev r) with
    | none => rw [hc] at hp; cases hp
    | some c =>
      rw [hc] at hp; simp only at hp
      injection hp with hp; subst hp
      obtain ⟨g1, g2, g3⟩ := nilEq_rel (Γ := Γ) (w := w) h1 h2 hc ht
      exact ⟨.bool !c, by simp only [Sem.run_bind, g2, Result.andThen_ok, g3 .neq (.inr rfl)]; simp [g1], .pv _ _ (.bool _)⟩
  · cases hp

theorem op_un (hs : SRel Γ base κ H w) (hr : RRel κ r a) {op : UnOp} {t : TypeId} {x : Operand} {y : Opd} (hy : compOpd x = some y) (hop : o.op = .unOp op t x)
    (he : opK (.un op y) r H (fun v h => some (v, h)) = some (v, H')) : OpOK Γ base κ H w o a v H' := by
  simp only [opK] at he
  have h1 := opd_rel hr hy
  refine RunOK.op (s := Op.unary op (a.eval x)) (by simp only [execOp, hop]) (RunOK.keep hs (x := unK op (y.ev r) fun p => some (AV.pv p)) ?_ fun h => ?_)
  · rw [unK_bind]; exact he
  · unfold unK at h
    split at h
    · rename_i hm
      rw [hm] at h1; rw [int_rel h1]
      rw [eqK_def] at h
      injection h with h; subst h
      exact ⟨_, by simp [Op.unary, Op.intArith], .pv _ _ (.int _ _)⟩
    · rename_i hm
      rw [hm] at h1; rw [int_rel h1]
      rw [eqK_def] at h
      injection h with h; subst h
      exact ⟨_, by simp [Op.unary, Op.intBits], .pv _ _ (.int _ _)⟩
    · rename_i hm
      rw [hm] at h1; rw [bool_rel h1]
      injection h with h; subst h
      exact ⟨_, by simp [Op.unary], .pv _ _ (.bool _)⟩
    · cases h

theorem op_conv (hs : SRel Γ base κ H w) (hr : RRel κ r a) {s d : TypeId} {x : Operand} {y : Opd} (hy : compOpd x = some y) {ks k : IntKind} (hsrc : Γ.P.underlying s = some (.int ks)) (hd : Γ.P.underlying d = some (.int k)) (hop : o.op = .convert s d x)
    (he : opK (.conv k y) r H (fun v h => some (v, h)) = some (v, H')) : OpOK Γ base κ H w o a v H' := by
  simp only [opK] at he
  have h1 := opd_rel hr hy
  split at he
  · rename_i k' n hm
    rw [hm] at h1
    rw [eqK_def] at he
    injection he with he; injection he with e1 e2; subst e1; subst e2
    refine RunOK.op (s := convert s d (a.eval x)) (by simp only [execOp, hop]) (RunOK.same hs ⟨.int k (k.wrap n), ?_, .pv _ _ (.int _ _)⟩)
    rw [int_rel h1]
    simp [convert, run_underlying hsrc, run_underlying hd, Conv.intToInt]
  · cases he
theorem op_ident (hs : SRel Γ base κ H w) (hr : RRel κ r a) {s d : TypeId} {x : Operand} {y : Opd} (hy : compOpd x = some y) (hsrc : Γ.P.underlying s = some .string) (hd : Γ.P.underlying d = some .string) (hop : o.op = .convert s d x)
    (he : opK (.ident y) r H (fun v h => some (v, h)) = some (v, H')) : OpOK Γ base κ H w o a v H' := by
  simp only [opK] at he
  have h1 := opd_rel hr hy
  split at he
  · rename_i b hm
    rw [hm] at h1
    injection he with he; injection he with e1 e2; subst e1; subst e2
    refine RunOK.op (s := convert s d (a.eval x)) (by simp only [execOp, hop]) (RunOK.same hs ⟨.string b, ?_, .pv _ _ (.str _)⟩)
    rw [str_rel h1]
    simp [convert, run_underlying hsrc, run_underlying hd]
  · cases he
theorem op_bytesOf (hs : SRel Γ base κ H w) (hr : RRel κ r a) {s d e : TypeId} {x : Operand} {y : Opd} (hy : compOpd x = some y) (hsrc : Γ.P.underlying s = some .string) (hd : Γ.P.underlying d = some (.slice e)) (hde : Γ.P.underlying e = some (.int .u8)) (hop : o.op = .convert s d x)
    (he : opK (.bytesOf y) r H (fun v h => some (v, h)) = some (v, H')) : OpOK Γ base κ H w o a v H' := by
  simp only [opK] at he
  have h1 := opd_rel hr hy
  split at he
  · rename_i b hm
    rw [hm] at h1
    rw [eqK_def] at he
    injection he with he; injection he with e1 e2; subst e1; subst e2
    refine RunOK.op (s := convert s d (a.eval x)) (by simp only [execOp, hop]) ?_
    rw [str_rel h1]
    obtain ⟨v', κ', w', g1, g2, g3, g4⟩ := bytesOf_rel hs e b
    exact ⟨v', κ', w', by simp [convert, run_underlying hsrc, run_underlying hd, run_underlying hde, g1], g2, g3, g4⟩
  · cases he
theorem op_settle (hs : SRel Γ base κ H w) (hr : RRel κ r a) {x : Operand} {y : Opd} (hy : compOpd x = some y) (hop : execOp a.eval o = pure (.value (a.eval x))) (he : opK (.settle y) r H (fun v h => some (v, h)) = some (v, H')) :
    OpOK Γ base κ H w o a v H' := by
  simp only [opK] at he
  have h1 := opd_rel hr hy
  split at he
  · rename_i p hm
    injection he with he; injection he with e1 e2; subst e1; subst e2
    exact OpOK.same hs (by rw [hop]; rfl) (by rw [← hm]; exact h1)
  · rename_i n t cs hm
    injection he with he; injection he with e1 e2; subst e1; subst e2
    exact OpOK.same hs (by rw [hop]; rfl) (.pv _ _ (tsl_plain (by rw [hm] at h1; exact h1)))
  · rename_i es id off n cap hm
    rw [hm] at h1
    generalize hev : a.eval x = vx at h1
    cases h1 with
    | hs _ _ _ _ _ k cap' hl h2 h3 =>
      rw [hgetK_def] at he
      split at he
      · rename_i cs hg
        rw [secK_def] at he
        cases hc : Nat.ble (off + mulE n es) cs.length with
        | false => rw [hc] at he; cases he
        | true =>
          rw [hc] at he; simp only [cond_true] at he
          injection he with he; injection he with e1 e2; subst e1; subst e2
          obtain ⟨c, rest, e0, hw, hrel, hones, g1, g2, g3⟩ := hs.retire' hl hg
          refine RunOK.op (s := pure (a.eval x)) (by rw [hop]; rfl) ⟨.slice (some ⟨k, off, none⟩) n cap', _, _, by rw [hev]; rfl,
            .pv _ _ (.sl .nn n _ ⟨k, off, none⟩ cap' ((c.drop off).take (mulE n es)) (by simp) (by simp) (by omega) (((hrel.drop off).take _).mono (κ.le_keep _ _ _).imm) (fun j v hj => ?_) ((hones.drop _).take _)), g1, g2⟩
          rw [addr_add_lit']
          rw [List.getElem?_take] at hj
          split at hj
          · rw [List.getElem?_drop] at hj
            exact g3 _ _ hj
          · cases hj
      · cases he
  · cases he
theorem op_freeze (hs : SRel Γ base κ H w) (hr : RRel κ r a) {s d e' e : TypeId} {x : Operand} {y : Opd} (hy : compOpd x = some y) (hsrc : Γ.P.underlying s = some (.slice e')) (hd : Γ.P.underlying d = some (.slice e)) (hde : Γ.P.underlying e = some (.int .u8)) (hsd : s = d) (hop : o.op = .convert s d x)
    (he : opK (.freeze y) r H (fun v h => some (v, h)) = some (v, H')) : OpOK Γ base κ H w o a v H' := by
  simp only [opK] at he
  have h1 := opd_rel hr hy
  split at he
  · rename_i es id off n cap hm
    rw [hm] at h1
    generalize hev : a.eval x = vx at h1
    cases h1 with
    | hs _ _ _ _ _ k cap' hl h2 h3 =>
      rw [hgetK_def] at he
      split at he
      · rename_i cs hg
        have hq := needK_inv he
        clear he
        obtain ⟨hc, he⟩ := hq
        rw [Bool.and_eq_true] at hc
        have h0 := Nat.eq_of_beq_eq_true hc.1
        subst h0
        injection he with he; injection he with e1 e2; subst e1; subst e2
        obtain ⟨c, rest, e0, hw, hrel, hones, g1, g2, g3⟩ := hs.retire hl hg
        refine RunOK.op (s := convert s d (a.eval x)) (by simp only [execOp, hop]) ?_
        rw [hev]
        have hsh : w.shape? (⟨k, 0, none⟩ : Addr).block = some (e0, (c ++ rest).length) := by
          unfold World.shape?
          rw [hw]
          simp
        have hrun := run_markStringish Γ.P w ⟨k, 0, none⟩ hsh
        refine ⟨.slice (some ⟨k, 0, none⟩) n cap', _, _, ?_, .pv _ _ (.sl .nn n cs ⟨k, 0, none⟩ cap' c (by simp) (by simp) (by omega) (hrel.mono (κ.le_keep _ _ _).imm) (fun j v hj => ?_) hones), g1, g2⟩
        · subst hsd
          have hee : e' = e := by rw [hsrc] at hd; injection hd with hd; injection hd
          subst hee
          simp [-bind_pure_comp, convert, run_underlying hsrc, run_underlying hde, hrun]
        · rw [addr_add_lit]; exact g3 j v hj
      · cases he
  · cases he
theorem op_strOf (hs : SRel Γ base κ H w) (hr : RRel κ r a) {s d e : TypeId} {x : Operand} {y : Opd} (hy : compOpd x = some y) (hsrc : Γ.P.underlying s = some (.slice e)) (hd : Γ.P.underlying d = some .string) (hde : Γ.P.underlying e = some (.int .u8)) (hop : o.op = .convert s d x)
    (he : opK (.strOf y) r H (fun v h => some (v, h)) = some (v, H')) : OpOK Γ base κ H w o a v H' := by
  simp only [opK] at he
  have h1 := opd_rel hr hy
  split at he
  · cases he
  · rename_i hns
    cases hn : srcLen (y.ev r) with
    | none => rw [hn] at he; cases he
    | some n =>
      rw [hn] at he; simp only at he
      refine RunOK.op (s := convert s d (a.eval x)) (by simp only [execOp, hop]) (RunOK.keep hs (x := srcK H (y.ev r) fun cs => needK (Nat.beq cs.length n) (bindK (strOfCells cs) fun l => some (AV.pv (.str ⟨l.toArray⟩)))) ?_ fun h => ?_)
      · rw [srcK_bind]; simp only [needK_bind, bindK_bind]; exact he
      · have hq := srcK_inv hs h1 hn h
        obtain ⟨new, news, _, hsrc', _⟩ := hq
        obtain ⟨v', g1, g2⟩ := strOf_rel hs h1 (fun s hs' => hns s hs') hn h
        refine ⟨v', ?_, g2⟩
        rcases hsrc'.form with ⟨b, hb, _, _⟩ | ⟨hb, _, _⟩ | ⟨p, c, hb, _⟩
        · exfalso
          rw [hb] at h1
          generalize y.ev r = u at h1 hns hn
          cases h1 with
          | pv p _ hp => cases hp with | str s => exact hns _ rfl
          | any => cases hn
        · rw [hb] at g1 ⊢
          simpa [convert, run_underlying hsrc, run_underlying hd, run_underlying hde] using g1
        · rw [hb] at g1 ⊢
          simpa [convert, run_underlying hsrc, run_underlying hd, run_underlying hde] using g1

theorem op_strOfP (hs : SRel Γ base κ H w) (hr : RRel κ r a) {s d e : TypeId} {x : Operand} {y : Opd} (hy : compOpd x = some y) (hsrc : Γ.P.underlying s = some (.slice e)) (hd : Γ.P.underlying d = some .string) (hde : Γ.P.underlying e = some (.int .u8)) (hop : o.op = .convert s d x)
    (he : opK (.strOfP y) r H (fun v h => some (v, h)) = some (v, H')) : OpOK Γ base κ H w o a v H' := by
  refine op_strOf hs hr hy hsrc hd hde hop ?_
  simp only [opK] at he ⊢
  split at he
  · rename_i h; rw [h]; exact he
  · rename_i h; rw [h]; exact he
  · cases he

theorem op_fieldAddr (hs : SRel Γ base κ H w) (hr : RRel κ r a) {t : TypeId} {x : Operand} {y : Opd} (hy : compOpd x = some y) {fs : Array Field} (ht : Γ.P.underlying t = some (.struct fs)) {i : Nat} {f : Field} (hf : fs.toList[i]? = some f)
    {n : Nat} (hn : sizeT Γ.P f.type = some n) (hn0 : Nat.beq n 0 = false) (hop : o.op = .fieldAddr t x i)
    (he : opK (.fieldAddr f.offset y) r H (fun v h => some (v, h)) = some (v, H')) : OpOK Γ base κ H w o a v H' := by
  simp only [opK, addO_eq] at he
  have h1 := opd_rel hr hy
  have hf' : fs[i]? = some f := by rw [← Array.getElem?_toList]; exact hf
  have hz : n ≠ 0 := fun e => by subst e; simp at hn0
  have hrun : ∀ ad : Addr, a.eval x = .pointer (some ad) → (Instr.fieldAt t (a.eval x) i).run Γ.P w = .ok (.pointer (some (ad.add f.offset))) w := by
    intro ad e
    rw [e]
    simp [Instr.fieldAt, run_underlying ht, hf', Instr.sureAddr, fieldPlace, run_sizeOf' hn, hz]
  split at he
  · rename_i id off hm
    rw [hm] at h1
    injection he with he; injection he with e1 e2; subst e1; subst e2
    refine RunOK.op (s := Instr.fieldAt t (a.eval x) i) (by simp only [execOp, hop]) (RunOK.same hs ?_)
    generalize a.eval x = vx at h1 hrun
    cases h1 with
    | ptr _ _ k hl => exact ⟨_, hrun _ rfl, by rw [addr_add_lit']; exact .ptr _ _ _ hl⟩
  · rename_i cs off hm
    rw [hm] at h1
    injection he with he; injection he with e1 e2; subst e1; subst e2
    refine RunOK.op (s := Instr.fieldAt t (a.eval x) i) (by simp only [execOp, hop]) (RunOK.same hs ?_)
    generalize a.eval x = vx at h1 hrun
    cases h1 with
    | rptr _ _ ad vs g1 g2 g3 => exact ⟨_, hrun _ rfl, by rw [addr_add_add]; exact .rptr _ _ _ vs g1 g2 g3⟩
  · rename_i id m off hm
    rw [hm] at h1
    injection he with he; injection he with e1 e2; subst e1; subst e2
    refine RunOK.op (s := Instr.fieldAt t (a.eval x) i) (by simp only [execOp, hop]) (RunOK.same hs ?_)
    generalize a.eval x = vx at h1 hrun
    cases h1 with
    | gptr _ _ _ k cap hl => exact ⟨_, hrun _ rfl, by rw [addr_add_lit']; exact .gptr _ _ _ _ _ hl⟩
  · cases he

theorem run_part1 {t : TypeId} (ht : aggT Γ.P t = some false) {cs : List Value} {off : Nat} {u : Value} (h : cs[off]? = some u) : (part t cs.toArray off).run Γ.P w = .ok u w := by
  simp [part, run_isAgg' ht, h]
theorem run_partN {t : TypeId} (ht : aggT Γ.P t = some true) {cs : List Value} {off n : Nat} (hn : sizeT Γ.P t = some n) : (part t cs.toArray off).run Γ.P w = .ok (.agg ((cs.drop off).take n).toArray) w := by
  simp [part, run_isAgg' ht, run_sizeOf' hn]

theorem op_field1 (hs : SRel Γ base κ H w) (hr : RRel κ r a) {t : TypeId} {x : Operand} {y : Opd} (hy : compOpd x = some y) {fs : Array Field} (ht : Γ.P.underlying t = some (.struct fs)) {i : Nat} {f : Field} (hf : fs.toList[i]? = some f)
    (hg : aggT Γ.P f.type = some false) (hop : o.op = .field t x i)
    (he : opK (.field1 f.offset y) r H (fun v h => some (v, h)) = some (v, H')) : OpOK Γ base κ H w o a v H' := by
  simp only [opK] at he
  have h1 := opd_rel hr hy
  have hf' : fs[i]? = some f := by rw [← Array.getElem?_toList]; exact hf
  have hrun : ∀ (cs : List Value) u, a.eval x = .agg cs.toArray → cs[f.offset]? = some u → (Instr.field t (a.eval x) i).run Γ.P w = .ok u w := by
    intro cs u e hu
    rw [e]
    simp only [Instr.field, Sem.run_bind, run_underlying ht, Result.andThen_ok, hf', asAgg, Sem.run_pure]
    exact run_part1 hg hu
  refine RunOK.op (s := Instr.field t (a.eval x) i) (by simp only [execOp, hop]) ?_
  generalize a.eval x = vx at h1 hrun
  split at he
  · rename_i cs hm
    rw [hm] at h1
    rw [getK_def] at he
    obtain ⟨p, hp, he⟩ := as_some he
    injection he with he; injection he with e1 e2; subst e1; subst e2
    cases h1 with
    | pv _ _ h1 => cases h1 with
      | agg _ us g1 g2 =>
        obtain ⟨u, hu, hr'⟩ := g1.get hp
        exact RunOK.same hs ⟨u, hrun us u rfl hu, .pv _ _ hr'⟩
  · rename_i cs hm
    rw [hm] at h1
    cases hp : lget cs f.offset with
    | none => rw [hp] at he; cases he
    | some p =>
      rw [hp] at he; simp only at he
      injection he with he; injection he with e1 e2; subst e1; subst e2
      cases h1 with
      | agg _ us g1 g2 =>
        obtain ⟨u, hu, hr'⟩ := g1.get hp
        exact RunOK.same hs ⟨u, hrun us u rfl hu, hr'⟩
  · cases he
theorem op_fieldN (hs : SRel Γ base κ H w) (hr : RRel κ r a) {t : TypeId} {x : Operand} {y : Opd} (hy : compOpd x = some y) {fs : Array Field} (ht : Γ.P.underlying t = some (.struct fs)) {i : Nat} {f : Field} (hf : fs.toList[i]? = some f)
    {n : Nat} (hn : sizeT Γ.P f.type = some n) (hg : aggT Γ.P f.type = some true) (hop : o.op = .field t x i)
    (he : opK (.fieldN f.offset n y) r H (fun v h => some (v, h)) = some (v, H')) : OpOK Γ base κ H w o a v H' := by
  simp only [opK] at he
  have h1 := opd_rel hr hy
  have hf' : fs[i]? = some f := by rw [← Array.getElem?_toList]; exact hf
  have hrun : ∀ (cs : List Value), a.eval x = .agg cs.toArray → (Instr.field t (a.eval x) i).run Γ.P w = .ok (.agg ((cs.drop f.offset).take n).toArray) w := by
    intro cs e
    rw [e]
    simp only [Instr.field, Sem.run_bind, run_underlying ht, Result.andThen_ok, hf', asAgg, Sem.run_pure]
    exact run_partN hg hn
  refine RunOK.op (s := Instr.field t (a.eval x) i) (by simp only [execOp, hop]) ?_
  generalize a.eval x = vx at h1 hrun
  split at he
  · rename_i cs hm
    rw [hm] at h1
    rw [secK_def] at he
    cases hb : Nat.ble (f.offset + n) cs.length with
    | false => rw [hb] at he; cases he
    | true =>
      rw [hb] at he; simp only [cond_true] at he
      injection he with he; injection he with e1 e2; subst e1; subst e2
      cases h1 with
      | pv _ _ h1 => cases h1 with
        | agg _ us g1 g2 => exact RunOK.same hs ⟨_, hrun us rfl, .pv _ _ (.agg _ _ ((g1.drop _).take _) ((g2.drop _).take _))⟩
  · rename_i cs hm
    rw [hm] at h1
    cases hb : Nat.ble (f.offset + n) cs.length with
    | false => rw [hb] at he; cases he
    | true =>
      rw [hb] at he; simp only [cond_true] at he
      injection he with he; injection he with e1 e2; subst e1; subst e2
      cases h1 with
      | agg _ us g1 g2 => exact RunOK.same hs ⟨_, hrun us rfl, mkAgg_rel ((g1.drop _).take _) ((g2.drop _).take _)⟩
  · cases he
end
end Go.VM

namespace Go.VM
open Go

section
variable {Γ : Ctx} {base : Nat} {κ : K} {H H' : Heap} {w : World} {o : Oper} {a : Act} {v : AV} {r : Regs}

theorem run_indexAt_arr {t e : TypeId} {len n : Nat} (ht : Γ.P.underlying t = some (.array len e)) (hn : sizeT Γ.P e = some n) {p : Addr} {k : IntKind} {j : Int} (h0 : 0 ≤ j) (h1 : j < (len : Int)) :
    (Instr.indexAt t (.pointer (some p)) (.int k j)).run Γ.P w = .ok (.pointer (some (p.add (j.toNat * n)))) w := by
  simp [Instr.indexAt, asIntOf, run_underlying ht, Instr.sureAddr, h0, h1, run_sizeOf' hn]
theorem run_indexAt_sl {t e : TypeId} {len cap n : Nat} (ht : Γ.P.underlying t = some (.slice e)) (hn : sizeT Γ.P e = some n) {p : Addr} {k : IntKind} {j : Int} (h0 : 0 ≤ j) (h1 : j < (len : Int)) :
    (Instr.indexAt t (.slice (some p) len cap) (.int k j)).run Γ.P w = .ok (.pointer (some (p.add (j.toNat * n)))) w := by
  simp [Instr.indexAt, asIntOf, run_underlying ht, h0, h1, run_sizeOf' hn]

theorem op_idxAddrA (hs : SRel Γ base κ H w) (hr : RRel κ r a) {t e : TypeId} {x z : Operand} {y q : Opd} (hy : compOpd x = some y) (hq : compOpd z = some q) {len n : Nat} (ht : Γ.P.underlying t = some (.array len e)) (hn : sizeT Γ.P e = some n) (hop : o.op = .indexAddr t x z)
    (he : opK (.idxAddrA len n y q) r H (fun v h => some (v, h)) = some (v, H')) : OpOK Γ base κ H w o a v H' := by
  simp only [opK] at he
  have h1 := opd_rel hr hy
  have h2 := opd_rel hr hq
  refine RunOK.op (s := Instr.indexAt t (a.eval x) (a.eval z)) (by simp only [execOp, hop]) ?_
  generalize a.eval x = vx at h1
  split at he
  · rename_i id off hm
    rw [hm] at h1
    obtain ⟨k, j, hj, g0, g1, he⟩ := idxK_inv he
    rw [hj] at h2; rw [int_rel h2]
    simp only [addO_eq, mulE_eq] at he
    injection he with he; injection he with e1 e2; subst e1; subst e2
    cases h1 with
    | ptr _ _ b hl => exact RunOK.same hs ⟨_, run_indexAt_arr ht hn g0 g1, by rw [addr_add_lit']; exact .ptr _ _ _ hl⟩
  · rename_i cs off hm
    rw [hm] at h1
    obtain ⟨k, j, hj, g0, g1, he⟩ := idxK_inv he
    rw [hj] at h2; rw [int_rel h2]
    simp only [addO_eq, mulE_eq] at he
    injection he with he; injection he with e1 e2; subst e1; subst e2
    cases h1 with
    | rptr _ _ ad vs k1 k2 k3 => exact RunOK.same hs ⟨_, run_indexAt_arr ht hn g0 g1, by rw [addr_add_add]; exact .rptr _ _ _ vs k1 k2 k3⟩
  · cases he

theorem op_idxAddrS (hs : SRel Γ base κ H w) (hr : RRel κ r a) {t e : TypeId} {x z : Operand} {y q : Opd} (hy : compOpd x = some y) (hq : compOpd z = some q) {n : Nat} (ht : Γ.P.underlying t = some (.slice e)) (hn : sizeT Γ.P e = some n) (hop : o.op = .indexAddr t x z)
    (he : opK (.idxAddrS n y q) r H (fun v h => some (v, h)) = some (v, H')) : OpOK Γ base κ H w o a v H' := by
  simp only [opK] at he
  have h1 := opd_rel hr hy
  have h2 := opd_rel hr hq
  refine RunOK.op (s := Instr.indexAt t (a.eval x) (a.eval z)) (by simp only [execOp, hop]) ?_
  generalize a.eval x = vx at h1
  unfold idxAddrSK at he
  split at he
  · rename_i ex m cs hm
    rw [hm] at h1
    obtain ⟨k, j, hj, g0, g1, he⟩ := idxK_inv he
    rw [hj] at h2; rw [int_rel h2]
    simp only [mulE_eq] at he
    injection he with he; injection he with e1 e2; subst e1; subst e2
    cases h1 with
    | pv _ _ h1 => cases h1 with
      | slNil => omega
      | sl _ _ _ ad cap vs k1 k2 k3 k4 k5 k6 => exact RunOK.same hs ⟨_, run_indexAt_sl ht hn g0 g1, .rptr _ _ _ vs k4 k5 k6⟩
  · rename_i tk m cs hm
    rw [hm] at h1
    obtain ⟨k, j, hj, g0, g1, he⟩ := idxK_inv he
    rw [hj] at h2; rw [int_rel h2]
    simp only [mulE_eq] at he
    injection he with he; injection he with e1 e2; subst e1; subst e2
    cases h1 with
    | tsl _ _ _ b cap vs k1 k2 k3 k4 k5 => exact RunOK.same hs ⟨_, run_indexAt_sl ht hn g0 g1, .rptr _ _ ⟨b, 0, none⟩ vs k3 (fun j v hj => by rw [addr_add_lit]; exact k4 j v hj) k5⟩
  · rename_i es id off m cap hm
    rw [hm] at h1
    obtain ⟨k, j, hj, g0, g1, he⟩ := idxK_inv he
    rw [hj] at h2; rw [int_rel h2]
    simp only [addO_eq, mulE_eq] at he
    injection he with he; injection he with e1 e2; subst e1; subst e2
    cases h1 with
    | hs _ _ _ _ _ b cap' k1 k2 k3 => exact RunOK.same hs ⟨_, run_indexAt_sl ht hn g0 g1, by rw [addr_add_lit']; exact .ptr _ _ _ k1⟩
  · rename_i id m hm
    rw [hm] at h1
    obtain ⟨k, j, hj, g0, g1, he⟩ := idxK_inv he
    rw [hj] at h2; rw [int_rel h2]
    simp only [mulE_eq] at he
    injection he with he; injection he with e1 e2; subst e1; subst e2
    cases h1 with
    | gs _ _ b cap k1 k2 => exact RunOK.same hs ⟨_, run_indexAt_sl ht hn g0 g1, by rw [addr_add_lit]; exact .gptr _ _ _ _ _ k1⟩
  · cases he

theorem op_idxA1 (hs : SRel Γ base κ H w) (hr : RRel κ r a) {t e : TypeId} {x z : Operand} {y q : Opd} (hy : compOpd x = some y) (hq : compOpd z = some q) {len : Nat} (ht : Γ.P.underlying t = some (.array len e)) (hn : sizeT Γ.P e = some 1) (hg : aggT Γ.P e = some false) (hop : o.op = .index t x z)
    (he : opK (.idxA1 len y q) r H (fun v h => some (v, h)) = some (v, H')) : OpOK Γ base κ H w o a v H' := by
  simp only [opK] at he
  have h1 := opd_rel hr hy
  have h2 := opd_rel hr hq
  refine RunOK.op (s := Instr.index t (a.eval x) (a.eval z)) (by simp only [execOp, hop]) ?_
  generalize a.eval x = vx at h1
  have hrun : ∀ (cs : List Value) (k : IntKind) (j : Int) u, 0 ≤ j → j < (len : Int) → cs[j.toNat]? = some u → (Instr.index t (.agg cs.toArray) (.int k j)).run Γ.P w = .ok u w := by
    intro cs k j u g0 g1 hu
    simp only [Instr.index, asIntOf, Sem.run_bind, Sem.run_pure, Result.andThen_ok, run_underlying ht, g0, g1, and_self, if_true, run_sizeOf' hn, Nat.mul_one]
    exact run_part1 hg hu
  split at he
  · rename_i cs hm
    rw [hm] at h1
    obtain ⟨k, j, hj, g0, g1, he⟩ := idxK_inv he
    rw [hj] at h2; rw [int_rel h2]
    rw [getK_def] at he
    obtain ⟨p, hp, he⟩ := as_some he
    injection he with he; injection he with e1 e2; subst e1; subst e2
    cases h1 with
    | pv _ _ h1 => cases h1 with
      | agg _ us k1 k2 =>
        obtain ⟨u, hu, hr'⟩ := k1.get hp
        exact RunOK.same hs ⟨u, hrun us k j u g0 g1 hu, .pv _ _ hr'⟩
  · rename_i cs hm
    rw [hm] at h1
    obtain ⟨k, j, hj, g0, g1, he⟩ := idxK_inv he
    rw [hj] at h2; rw [int_rel h2]
    cases hp : lget cs j.toNat with
    | none => rw [hp] at he; cases he
    | some p =>
      rw [hp] at he; simp only at he
      injection he with he; injection he with e1 e2; subst e1; subst e2
      cases h1 with
      | agg _ us k1 k2 =>
        obtain ⟨u, hu, hr'⟩ := k1.get hp
        exact RunOK.same hs ⟨u, hrun us k j u g0 g1 hu, hr'⟩
  · cases he

theorem op_idxAN (hs : SRel Γ base κ H w) (hr : RRel κ r a) {t e : TypeId} {x z : Operand} {y q : Opd} (hy : compOpd x = some y) (hq : compOpd z = some q) {len n : Nat} (ht : Γ.P.underlying t = some (.array len e)) (hn : sizeT Γ.P e = some n) (hg : aggT Γ.P e = some true) (hop : o.op = .index t x z)
    (he : opK (.idxAN len n y q) r H (fun v h => some (v, h)) = some (v, H')) : OpOK Γ base κ H w o a v H' := by
  simp only [opK] at he
  have h1 := opd_rel hr hy
  have h2 := opd_rel hr hq
  refine RunOK.op (s := Instr.index t (a.eval x) (a.eval z)) (by simp only [execOp, hop]) ?_
  generalize a.eval x = vx at h1
  split at he
  · rename_i cs hm
    rw [hm] at h1
    obtain ⟨k, j, hj, g0, g1, he⟩ := idxK_inv he
    rw [hj] at h2; rw [int_rel h2]
    rw [secK_def] at he
    cases hb : Nat.ble (j.toNat * n + n) cs.length with
    | false => rw [hb] at he; cases he
    | true =>
      rw [hb] at he; simp only [cond_true] at he
      injection he with he; injection he with e1 e2; subst e1; subst e2
      cases h1 with
      | pv _ _ h1 => cases h1 with
        | agg _ us k1 k2 =>
          refine RunOK.same hs ⟨.agg ((us.drop (j.toNat * n)).take n).toArray, ?_, .pv _ _ (.agg _ _ ((k1.drop _).take _) ((k2.drop _).take _))⟩
          simp only [Instr.index, asIntOf, Sem.run_bind, Sem.run_pure, Result.andThen_ok, run_underlying ht, g0, g1, and_self, if_true, run_sizeOf' hn]
          exact run_partN hg hn
  · cases he

theorem op_idxStr (hs : SRel Γ base κ H w) (hr : RRel κ r a) {t : TypeId} {x z : Operand} {y q : Opd} (hy : compOpd x = some y) (hq : compOpd z = some q) (ht : Γ.P.underlying t = some .string) (hop : o.op = .index t x z)
    (he : opK (.idxStr y q) r H (fun v h => some (v, h)) = some (v, H')) : OpOK Γ base κ H w o a v H' := by
  simp only [opK] at he
  have h1 := opd_rel hr hy
  have h2 := opd_rel hr hq
  refine RunOK.op (s := Instr.index t (a.eval x) (a.eval z)) (by simp only [execOp, hop]) ?_
  split at he
  · rename_i s hm
    rw [hm] at h1; rw [str_rel h1]
    obtain ⟨k, j, hj, g0, g1, he⟩ := idxK_inv he
    rw [hj] at h2; rw [int_rel h2]
    rw [getK_def] at he
    obtain ⟨b, hb, he⟩ := as_some he
    injection he with he; injection he with e1 e2; subst e1; subst e2
    have hb' : s[j.toNat]? = some b := by
      rw [Array.getElem?_toList] at hb
      obtain ⟨hlt, hb⟩ := Array.getElem?_eq_some_iff.1 hb
      have hlt' : j.toNat < s.size := hlt
      rw [getElem?_pos s j.toNat hlt']
      exact congrArg some hb
    exact RunOK.same hs ⟨.int .u8 b.toNat, by simp [Instr.index, asIntOf, run_underlying ht, g0, hb'], .pv _ _ (.int _ _)⟩
  · cases he

theorem op_slice {t : TypeId} {x : Operand} {lo hi mx : Option Operand} (hop : o.op = .slice t x lo hi mx) (h : RunOK Γ base κ H w (Instr.sliceAt t (a.eval x) (lo.map a.eval) (hi.map a.eval) (mx.map a.eval)) v H') : OpOK Γ base κ H w o a v H' :=
  RunOK.op (s := Instr.sliceAt t (a.eval x) (lo.map a.eval) (hi.map a.eval) (mx.map a.eval)) (by simp only [execOp, hop]) h

theorem op_sliceStr (hs : SRel Γ base κ H w) (hr : RRel κ r a) {t : TypeId} {x : Operand} {lo hi : Option Operand} {y : Opd} {lo' hi' : Option Opd} (hy : compOpd x = some y) (hl : compOpt lo = some lo') (hh : compOpt hi = some hi') (ht : Γ.P.underlying t = some .string)
    (hop : o.op = .slice t x lo hi none) (he : opK (.sliceStr y lo' hi') r H (fun v h => some (v, h)) = some (v, H')) : OpOK Γ base κ H w o a v H' := by
  simp only [opK] at he
  refine op_slice hop (RunOK.keep hs (x := sliceStrK (y.ev r) (lo'.map (Opd.ev r)) (hi'.map (Opd.ev r)) some) ?_ fun h => sliceStr_rel ht (opd_rel hr hy) (opt_ORel hr hl) (opt_ORel hr hh) h)
  rw [sliceStrK_bind]; exact he
theorem op_sliceS (hs : SRel Γ base κ H w) (hr : RRel κ r a) {t e : TypeId} {x : Operand} {lo hi mx : Option Operand} {y : Opd} {lo' hi' mx' : Option Opd} (hy : compOpd x = some y) (hl : compOpt lo = some lo') (hh : compOpt hi = some hi') (hm : compOpt mx = some mx') (ht : Γ.P.underlying t = some (.slice e)) {n : Nat} (hn : sizeT Γ.P e = some n)
    (hop : o.op = .slice t x lo hi mx) (he : opK (.sliceS n y lo' hi' mx') r H (fun v h => some (v, h)) = some (v, H')) : OpOK Γ base κ H w o a v H' := by
  simp only [opK] at he
  refine op_slice hop (RunOK.keep hs (x := sliceSK n (y.ev r) (lo'.map (Opd.ev r)) (hi'.map (Opd.ev r)) (mx'.map (Opd.ev r)) some) ?_ fun h => sliceS_rel ht hn (opd_rel hr hy) (opt_ORel hr hl) (opt_ORel hr hh) (opt_ORel hr hm) h)
  rw [sliceSK_bind]; exact he
theorem op_sliceA (hs : SRel Γ base κ H w) (hr : RRel κ r a) {t e : TypeId} {x : Operand} {lo hi : Option Operand} {y : Opd} {lo' hi' : Option Opd} (hy : compOpd x = some y) (hl : compOpt lo = some lo') (hh : compOpt hi = some hi') {len n : Nat} (ht : Γ.P.underlying t = some (.array len e)) (hn : sizeT Γ.P e = some n)
    (hop : o.op = .slice t x lo hi none) (he : opK (.sliceA len n y lo' hi') r H (fun v h => some (v, h)) = some (v, H')) : OpOK Γ base κ H w o a v H' := by
  simp only [opK] at he
  have h1 := opd_rel hr hy
  split at he
  · rename_i id off hm
    rw [hm] at h1
    refine op_slice hop (RunOK.keep hs (x := boundK (hi'.map (Opd.ev r)) len len fun hb => boundK (lo'.map (Opd.ev r)) 0 hb fun l => needK (Nat.blt l len || Nat.beq l 0) (some (AV.hs n id (addO off (mulE l n)) (hb - l) (len - l)))) ?_ fun h => sliceA_rel ht hn h1 (opt_ORel hr hl) (opt_ORel hr hh) h)
    simp only [boundK_bind, needK_bind, Option.bind_some]; exact he
  · cases he
theorem toArrK_eq {n : Nat} {y : Opd} {F : AV → Heap → Option (AV × Heap)} : opK (.toArr n y) r H F = (toArrV n (y.ev r)).bind fun v => F v H := by
  simp only [opK, toArrV]
  generalize y.ev r = u
  cases u <;> (try rfl) <;> (try simp only [needK_bind, Option.bind_some, Option.bind_none])
  rename_i p
  cases p <;> (try rfl)
  rename_i e _ _
  cases e <;> simp only [needK_bind, Option.bind_some, Option.bind_none]
theorem op_toArr (hs : SRel Γ base κ H w) (hr : RRel κ r a) {t e : TypeId} {x : Operand} {y : Opd} (hy : compOpd x = some y) {n : Nat} (ht : Γ.P.underlying t = some (.array n e)) (hop : o.op = .sliceToArrayPointer t x)
    (he : opK (.toArr n y) r H (fun v h => some (v, h)) = some (v, H')) : OpOK Γ base κ H w o a v H' := by
  have h1 := opd_rel hr hy
  refine RunOK.op (s := Instr.arrayAt t (a.eval x)) (by simp only [execOp, hop]) (RunOK.keep hs (x := toArrV n (y.ev r)) ?_ fun h => toArr_rel ht h1 h)
  rw [toArrK_eq] at he; exact he

theorem op_mkFn (hs : SRel Γ base κ H w) (hr : RRel κ r a) {f : FuncId} {p q : Array Operand} {x y : List Opd} (hx : compOpds p.toList = some x) (hy : compOpds q.toList = some y) (hop : o.op = .makeFunc (.func f) p q)
    (he : opK (.mkFn f x y) r H (fun v h => some (v, h)) = some (v, H')) : OpOK Γ base κ H w o a v H' := by
  simp only [opK] at he
  have h1 := opds_rel hr hx
  have h2 := opds_rel hr hy
  have hrun : (Instr.makeFunc (.func f) (p.map a.eval) (q.map a.eval)).run Γ.P w = .ok (.func (.func f) (p.toList.map a.eval).toArray (q.toList.map a.eval).toArray) w := by
    simp only [Instr.makeFunc, Sem.run_pure]
    congr 2 <;> apply Array.ext' <;> simp
  refine RunOK.op (s := Instr.makeFunc (.func f) (p.map a.eval) (q.map a.eval)) (by simp only [execOp, hop]) ?_
  split at he
  · rename_i as bs ha hb
    injection he with he; injection he with e1 e2; subst e1; subst e2
    rw [allPV_eq ha] at h1
    rw [allPV_eq hb] at h2
    exact RunOK.same hs ⟨_, hrun, .pv _ _ (.fn _ _ _ _ _ h1.to_pv h2.to_pv)⟩
  · injection he with he; injection he with e1 e2; subst e1; subst e2
    exact RunOK.same hs ⟨_, hrun, .fn _ _ _ _ _ h1 h2⟩

theorem op_mkSlice (hs : SRel Γ base κ H w) (hr : RRel κ r a) {t e : TypeId} (ht : Γ.P.underlying t = some (.slice e)) {x z : Operand} {y q : Opd} (hy : compOpd x = some y) (hq : compOpd z = some q) {zp : List PV} (hz : zeroT Γ.P e = some zp) {i : TypeInfo} (hi : Γ.P.info? e = some i) (hby : i.bytes ≤ 256)
    {mu : Bool} (hop : o.op = .makeSlice t x z) (he : opK (.mkSlice mu i.size zp y q) r H (fun v h => some (v, h)) = some (v, H')) : OpOK Γ base κ H w o a v H' := by
  simp only [opK] at he
  have h1 := opd_rel hr hy
  have h2 := opd_rel hr hq
  refine RunOK.op (s := Instr.makeSlice t (a.eval x) (a.eval z)) (by simp only [execOp, hop]) ?_
  split at he
  · rename_i k l k' c hm hm2
    rw [hm] at h1; rw [int_rel h1]
    rw [hm2] at h2; rw [int_rel h2]
    obtain ⟨hc, he⟩ := needK_inv he
    simp only [Bool.and_eq_true, decide_eq_true_eq] at hc
    rw [eqK_def] at he
    obtain ⟨cs, g1, g2, g3⟩ := mkSlice_rel (Γ := Γ) (κ := κ) (w := w) ht hi hz hby (k := k) (k' := k') hc.1.1 hc.1.2 hc.2
    have hlc : l.toNat ≤ c.toNat := by omega
    cases mu with
    | true =>
      simp only [cond_true] at he
      injection he with he; injection he with e1 e2; subst e1; subst e2
      have := hs.newP _ cs [] e g1 g2
      simp only [List.append_nil] at this
      exact ⟨_, _, _, g3, .hs _ _ _ _ _ _ _ (K.at_same _ _ _) hlc (Nat.le_refl _), this.1, this.2⟩
    | false =>
      simp only [cond_false] at he
      obtain ⟨hd, he⟩ := needK_inv he
      have hlc : l = c := by simpa using hd
      subst hlc
      injection he with he; injection he with e1 e2; subst e1; subst e2
      obtain ⟨k1, k2, k3⟩ := hs.newRow cs e (0, 0)
      exact ⟨_, _, _, g3, .pv _ _ (.sl _ _ _ _ _ cs (by simp) (fun _ => rfl) (Nat.le_refl _) (g1.mono (κ.le_keep _ _ _).imm) k3 g2), k1, k2⟩
  · cases he

theorem op_extract (hs : SRel Γ base κ H w) (hr : RRel κ r a) {x : Operand} {y : Opd} (hy : compOpd x = some y) {i : Nat} (hop : o.op = .extract x i)
    (he : opK (.extract i y) r H (fun v h => some (v, h)) = some (v, H')) : OpOK Γ base κ H w o a v H' := by
  simp only [opK] at he
  have h1 := opd_rel hr hy
  refine RunOK.op (s := Instr.extract (a.eval x) i) (by simp only [execOp, hop]) ?_
  generalize a.eval x = vx at h1
  split at he
  · rename_i l hm
    rw [hm] at h1
    cases hp : lget l i with
    | none => rw [hp] at he; cases he
    | some p =>
      rw [hp] at he; simp only at he
      injection he with he; injection he with e1 e2; subst e1; subst e2
      cases h1 with
      | pv _ _ h1 => cases h1 with
        | tup _ us g1 =>
          have hp' : l[i]? = some p := by rw [← lget_eq]; exact hp
          obtain ⟨u, hu, hr'⟩ := g1.get hp'
          exact RunOK.same hs ⟨u, by simp [Instr.extract, hu], .pv _ _ hr'⟩
  · rename_i l hm
    rw [hm] at h1
    cases hp : lget l i with
    | none => rw [hp] at he; cases he
    | some p =>
      rw [hp] at he; simp only at he
      injection he with he; injection he with e1 e2; subst e1; subst e2
      cases h1 with
      | tup _ us g1 =>
        obtain ⟨u, hu, hr'⟩ := g1.get hp
        exact RunOK.same hs ⟨u, by simp [Instr.extract, hu], hr'⟩
  · cases he

theorem op_builtin {b : Builtin} {args : Array Operand} {ts : Array TypeId} {s : Sem Value} {c : Call} (hop : o.op = .call c) (hc : c = ⟨.builtin b, args, ts⟩) (hb : ∀ consts, builtin b ts o.type consts (args.map a.eval) = (do pure (.value (← s)))) (h : RunOK Γ base κ H w s v H') : OpOK Γ base κ H w o a v H' := by
  subst hc
  refine RunOK.op (s := s) ?_ h
  simp only [execOp, hop, resolve, pure_bind, invoke]
  exact hb _

theorem vlist1 {κ : K} {x : AV} {vs : List Value} (h : VRels κ [x] vs) : ∃ v, vs = [v] ∧ VRel κ x v := by
  cases h with | cons _ v _ _ h1 h2 => cases h2; exact ⟨v, rfl, h1⟩
theorem vlist2 {κ : K} {x y : AV} {vs : List Value} (h : VRels κ [x, y] vs) : ∃ v u, vs = [v, u] ∧ VRel κ x v ∧ VRel κ y u := by
  cases h with | cons _ v _ _ h1 h2 => obtain ⟨u, rfl, h3⟩ := vlist1 h2; exact ⟨v, u, rfl, h1, h3⟩
theorem map_toArray {α β : Type} (f : α → β) (xs : Array α) : xs.map f = (xs.toList.map f).toArray := by apply Array.ext'; simp

theorem ofStr_true {x : AV} (h : ofStr true x = true) : ∃ s, x = .pv (.str s) := by
  unfold ofStr at h
  split at h
  · exact ⟨_, rfl⟩
  · simp_all
theorem ofStr_false {x : AV} (h : ofStr false x = true) : ∀ s, x ≠ .pv (.str s) := by
  intro s e
  subst e
  simp [ofStr] at h
theorem not_str {κ : K} {x : AV} {v : Value} (h : VRel κ x v) (hna : x ≠ .any) (hx : ∀ s, x ≠ .pv (.str s)) : ¬ ∃ b, v = .string b := by
  rintro ⟨b, rfl⟩
  cases h with
  | pv p _ hp => cases hp with | str s => exact hx _ rfl
  | any => exact absurd rfl hna

theorem app_any {R : Type} {mu : Bool} {es bytes : Nat} {s x : AV} {h : Heap} {F : AV → Heap → Option R} {y : R} (he : appendK mu es bytes s x h F = some y) : x ≠ .any := by
  rintro rfl
  unfold appendK at he
  cases hg : s.isGs with
  | true =>
    rw [hg] at he; simp only [cond_true] at he
    unfold growK at he
    split at he <;> cases he
  | false => rw [hg] at he; cases he
theorem copy_any {R : Type} {es : Nat} {d s : AV} {h : Heap} {F : AV → Heap → Option R} {y : R} (he : copyK es d s h F = some y) : s ≠ .any := by
  rintro rfl
  unfold copyK at he
  split at he <;> cases he
/-- Built-in calls. -/
theorem op_callB (hs : SRel Γ base κ H w) (hr : RRel κ r a) {args : Array Operand} {ts : Array TypeId} {b : Builtin} (hop : o.op = .call ⟨.builtin b, args, ts⟩) {vo : VOp} {xs : List Opd} (hx : compOpds args.toList = some xs)
    {mu g : Bool} (hc : compBuiltin Γ.P mu g b xs ts.toList = some vo)
    (he : opK vo r H (fun v h => some (v, h)) = some (v, H')) : OpOK Γ base κ H w o a v H' := by
  have hargs := opds_rel hr hx
  clear hx
  unfold compBuiltin at hc
  have ham : args.map a.eval = (args.toList.map a.eval).toArray := map_toArray _ _
  have tsof : ∀ l, ts.toList = l → ts = l.toArray := fun l h => by rw [← h]
  split at hc
  · rename_i x t hts
    obtain ⟨vx, hvx, hrx⟩ := vlist1 hargs
    have hfin : ∀ n : Nat, (Builtin.len_ #[t] o.type #[vx]).run Γ.P w = .ok (goInt n) w → v = .pv (.int .i64 n) → H' = H → OpOK Γ base κ H w o a v H' := by
      intro n hrun e1 e2
      subst e1; subst e2
      refine op_builtin (s := Builtin.len_ #[t] o.type #[vx]) hop rfl (fun consts => by rw [ham, hvx, tsof _ hts]; rfl) (RunOK.same hs ⟨_, hrun, ?_⟩)
      exact .pv _ _ (.int _ _)
    split at hc
    · rename_i hu
      injection hc with hc; subst hc
      simp only [opK] at he
      split at he
      · rename_i s hm
        have hrx : VRel κ (x.ev r) vx := hrx
        rw [hm] at hrx
        injection he with he; injection he with e1 e2
        rw [str_rel hrx] at hfin
        exact hfin s.size (by simp [Builtin.len_, run_underlying hu]) e1.symm e2.symm
      · cases he
    · rename_i e hu
      injection hc with hc; subst hc
      simp only [opK] at he
      cases hn : lenOfS (x.ev r) with
      | none => rw [hn] at he; cases he
      | some n =>
        rw [hn] at he; simp only at he
        injection he with he; injection he with e1 e2
        have hrx : VRel κ (x.ev r) vx := hrx
        have hvs : ∃ ad cap, vx = .slice ad n cap := by
          generalize x.ev r = u at hrx hn
          cases hrx with
          | pv p _ hp => cases hp <;> simp [lenOfS] at hn
                         · subst hn; exact ⟨_, _, rfl⟩
                         · subst hn; exact ⟨_, _, rfl⟩
          | tsl => simp [lenOfS] at hn; subst hn; exact ⟨_, _, rfl⟩
          | hs => simp [lenOfS] at hn; subst hn; exact ⟨_, _, rfl⟩
          | gs => simp [lenOfS] at hn; subst hn; exact ⟨_, _, rfl⟩
          | _ => simp [lenOfS] at hn
        obtain ⟨ad, cap, hvs⟩ := hvs
        exact hfin n (by rw [hvs]; simp [Builtin.len_, run_underlying hu]) e1.symm e2.symm
    · rename_i n e hu
      injection hc with hc; subst hc
      simp only [opK, Opd.ev] at he
      injection he with he; injection he with e1 e2
      exact hfin n (by simp [Builtin.len_, run_underlying hu]) e1.symm e2.symm
    · rename_i mk me hu
      injection hc with hc; subst hc
      simp only [opK] at he
      refine op_builtin (s := Builtin.len_ #[t] o.type #[vx]) hop rfl (fun consts => by rw [ham, hvx, tsof _ hts]; rfl) (RunOK.keep hs (x := lenK (x.ev r) H fun p => some (AV.pv p)) ?_ fun h => len_rel hs hu #[t] rfl o.type hrx h)
      rw [lenK_bind]; exact he
    · rename_i p hu
      split at hc
      · rename_i n e hu2
        injection hc with hc; subst hc
        simp only [opK, Opd.ev] at he
        injection he with he; injection he with e1 e2
        exact hfin n (by simp [Builtin.len_, run_underlying hu, run_underlying hu2]) e1.symm e2.symm
      · cases hc
    · cases hc
  · rename_i s x t u hts
    obtain ⟨vs, vx, hvs, hrs, hrx⟩ := vlist2 hargs
    split at hc
    · rename_i e ku ht hu
      split at hc
      · rename_i i z hi hz
        cases hcond : (Nat.blt 0 i.bytes && (Nat.blt 0 i.size && Nat.ble i.bytes 256)) with
        | false => rw [hcond] at hc; cases hc
        | true =>
          rw [hcond] at hc; simp only [cond_true] at hc
          injection hc with hc; subst hc
          rw [Bool.and_eq_true, Bool.and_eq_true] at hcond
          simp only [opK] at he
          split at he
          · rename_i kx l hm
            have hrx : VRel κ (x.ev r) vx := hrx
            rw [hm] at hrx
            have hvx := int_rel hrx
            refine op_builtin (s := Builtin.append_ #[t, u] o.type #[vs, vx]) hop rfl (fun consts => by rw [ham, hvs, tsof _ hts]; rfl) ?_
            rw [hvx]
            cases mu with
            | false =>
              simp only at he
              obtain ⟨hc2, he⟩ := needK_inv he
              rw [Bool.and_eq_true] at hc2
              rw [eqK_def, appS_def] at he
              exact append_zero_rel hs ht hu hi hz (blt_lt hcond.1) (blt_lt hcond.2.1) (Nat.le_of_ble_eq_true hcond.2.2) hrs (of_decide_eq_true hc2.1) (of_decide_eq_true hc2.2) he
            | true =>
              simp only at he
              split at he
              · rename_i ext n cs hms
                have hq := needK_inv he
                clear he
                obtain ⟨hc2, he⟩ := hq
                simp only [Bool.and_eq_true] at hc2
                obtain ⟨⟨⟨⟨⟨q1, q2⟩, q3⟩, q4⟩, q5⟩, q6⟩ := hc2
                have hrs : VRel κ (s.ev r) vs := hrs
                rw [hms] at hrs
                have hn0 := Nat.eq_of_beq_eq_true q4
                subst hn0
                have hcs := List.eq_nil_of_length_eq_zero (Nat.eq_of_beq_eq_true q5)
                subst hcs
                injection he with he; injection he with e1 e2
                subst e1; subst e2
                have q6' : (0 + l.toNat) * i.bytes ≤ mostBytes := Nat.le_of_ble_eq_true q6
                exact append_room_rel hs ht hu hi hz (blt_lt hcond.1) (blt_lt hcond.2.1) (Nat.le_of_ble_eq_true hcond.2.2) hrs (of_decide_eq_true q1) (of_decide_eq_true q2) (by simpa using q3) q6'
              · cases he
          · cases he
      · cases hc
    · rename_i e d _ ht hu
      split at hc
      · rename_i i z b hi hz hd
        cases hcond : (Nat.blt 0 i.bytes && (!b || Nat.beq i.size 1)) with
        | false => rw [hcond] at hc; cases hc
        | true =>
          rw [hcond] at hc; simp only [cond_true] at hc
          have hdd : d = .string ∨ ∃ e', d = .slice e' := by
            cases d <;> simp [strT] at hd
            · exact .inl rfl
            · exact .inr ⟨_, rfl⟩
          cases hgb : (g && !b) with
          | true =>
            rw [hgb] at hc; simp only [cond_true] at hc
            injection hc with hc; subst hc
            rw [Bool.and_eq_true] at hcond
            rw [Bool.and_eq_true] at hgb
            simp only [opK] at he
            refine op_builtin (s := Builtin.append_ #[t, u] o.type #[vs, vx]) hop rfl (fun consts => by rw [ham, hvs, tsof _ hts]; rfl) ?_
            refine appB_rel hs ht hu ?_ hi hz (blt_lt hcond.1) hrs hrx he
            rcases hdd with rfl | h
            · simp [strT] at hd; subst hd; simp at hgb
            · exact h
          | false =>
          rw [hgb] at hc; simp only [cond_false] at hc
          injection hc with hc; subst hc
          rw [Bool.and_eq_true] at hcond
          simp only [opK] at he
          cases hstr : ofStr b (x.ev r) with
          | false => rw [hstr] at he; cases he
          | true =>
            rw [hstr] at he; simp only [cond_true] at he
            have hd1 : d = .string → i.size = 1 := by
              intro e; subst e
              simp [strT] at hd; subst hd
              simpa using hcond.2
            refine op_builtin (s := Builtin.append_ #[t, u] o.type #[vs, vx]) hop rfl (fun consts => by rw [ham, hvs, tsof _ hts]; rfl) ?_
            rw [appS_def] at he
            refine append_rel hs ht hu hdd hi hz (blt_lt hcond.1) hd1 hrs hrx ⟨?_, ?_⟩ he
            · rintro ⟨q, rfl⟩
              rcases hdd with h | ⟨e', rfl⟩
              · exact h
              · simp [strT] at hd; subst hd
                exact absurd ⟨q, rfl⟩ (not_str hrx (app_any he) (ofStr_false hstr))
            · intro hno
              rcases hdd with rfl | h
              · simp [strT] at hd; subst hd
                obtain ⟨q, hq⟩ := ofStr_true hstr
                have hrx : VRel κ (x.ev r) vx := hrx
                rw [hq] at hrx
                exact absurd ⟨q, str_rel hrx⟩ hno
              · exact h
      · cases hc
    · cases hc
  · rename_i x t hts
    obtain ⟨vx, hvx, hrx⟩ := vlist1 hargs
    split at hc
    · rename_i e hu
      injection hc with hc; subst hc
      simp only [opK] at he
      split at he
      · rename_i ext n cs hm
        have hrx : VRel κ (x.ev r) vx := hrx
        rw [hm] at hrx
        cases hext : ext.noApp with
        | true => rw [hext] at he; cases he
        | false =>
          rw [hext] at he; simp only [cond_false] at he
          injection he with he; injection he with e1 e2
          subst e1; subst e2
          have hvs : ∃ ad, vx = .slice ad n n := by
            cases hrx with
            | pv p _ hp =>
              cases hp with
              | slNil => exact ⟨none, rfl⟩
              | sl _ _ _ a cap us h1 h2 h3 h4 h5 h6 =>
                have hcap : cap = n := by
                  cases ext with
                  | unk => cases hext
                  | nn => cases hext
                  | exact => exact h2 (.inl rfl)
                  | nnx => exact h2 (.inr rfl)
                  | nil => exact absurd rfl h1
                exact ⟨some a, by rw [hcap]⟩
          obtain ⟨ad, hvs⟩ := hvs
          refine op_builtin (s := Builtin.cap_ #[t] o.type #[vx]) hop rfl (fun consts => by rw [ham, hvx, tsof _ hts]; rfl) (RunOK.same hs ⟨.int .i64 n, by rw [hvs]; simp [Builtin.cap_, run_underlying hu, goInt], .pv _ _ (.int _ _)⟩)
      · cases he
    · cases hc
  · rename_i d s t u hts
    obtain ⟨vd, vs, hvs, hrd, hrs⟩ := vlist2 hargs
    split at hc
    · rename_i e d' ht hu
      split at hc
      · rename_i n b hn hd
        cases hcond : (!b || Nat.beq n 1) with
        | false => rw [hcond] at hc; cases hc
        | true =>
          rw [hcond] at hc; simp only [cond_true] at hc
          injection hc with hc; subst hc
          simp only [opK] at he
          cases hstr : ofStr b (s.ev r) with
          | false => rw [hstr] at he; cases he
          | true =>
            rw [hstr] at he; simp only [cond_true] at he
            refine op_builtin (s := Builtin.copy_ #[t, u] o.type #[vd, vs]) hop rfl (fun consts => by rw [ham, hvs, tsof _ hts]; rfl) ?_
            refine copy_rel hs ht hn hrd hrs ?_ he
            rintro ⟨q, rfl⟩
            cases b with
            | true => simpa using hcond
            | false => exact absurd ⟨q, rfl⟩ (not_str hrs (copy_any he) (ofStr_false hstr))
      · cases hc
    · cases hc
  · rename_i m k t ts' hts
    obtain ⟨vm, vk, hvs, hrm, hrk⟩ := vlist2 hargs
    split at hc
    · rename_i kt et hu
      obtain ⟨kk, hk, rfl⟩ := map_some hc
      simp only [opK] at he
      have e : (delK kk (m.ev r) (k.ev r) H some).bind (fun h => some (undefV, h)) = some (v, H') := by rw [delK_bind]; exact he
      obtain ⟨p, h1, h2⟩ := bind_pair e
      injection h2 with h2 h3; subst h2; subst h3
      obtain ⟨w', g1, g2, g3⟩ := del_rel hs hu hk ts (by rw [tsof _ hts]; rfl) o.type hrm hrk h1
      refine op_builtin (s := Builtin.delete_ ts o.type #[vm, vk]) hop rfl (fun consts => by rw [ham, hvs]; rfl) ⟨.tuple #[], κ, w', g1, .pv _ _ (.tup [] [] .nil), g2, g3⟩
    · cases hc
  · rename_i l ts' hl
    split at hc
    · rename_i y ys
      injection hc with hc; subst hc
      simp only [opK] at he
      split at he
      · rename_i k n l hm
        rw [hm] at hargs
        cases hvs : args.toList.map a.eval with
        | nil => rw [hvs] at hargs; cases hargs
        | cons v0 vs0 =>
          rw [hvs] at hargs
          cases hargs with
          | cons _ _ _ _ g1 g2 =>
            rw [int_rel g1] at hvs
            refine op_builtin (s := Builtin.min_ ts o.type (Value.int k n :: vs0).toArray) hop rfl (fun consts => by rw [ham, hvs]; rfl) (RunOK.keep hs (x := minmaxK false n k l fun p => some (AV.pv p)) ?_ fun h => ?_)
            · rw [minmaxK_bind]; exact he
            · simpa [Builtin.min_] using minmax_rel (Γ := Γ) (w := w) false l vs0 k n v g2 h
      · cases he
    · cases hc
  · rename_i l ts' hl
    split at hc
    · rename_i y ys
      injection hc with hc; subst hc
      simp only [opK] at he
      split at he
      · rename_i k n l hm
        rw [hm] at hargs
        cases hvs : args.toList.map a.eval with
        | nil => rw [hvs] at hargs; cases hargs
        | cons v0 vs0 =>
          rw [hvs] at hargs
          cases hargs with
          | cons _ _ _ _ g1 g2 =>
            rw [int_rel g1] at hvs
            refine op_builtin (s := Builtin.max_ ts o.type (Value.int k n :: vs0).toArray) hop rfl (fun consts => by rw [ham, hvs]; rfl) (RunOK.keep hs (x := minmaxK true n k l fun p => some (AV.pv p)) ?_ fun h => ?_)
            · rw [minmaxK_bind]; exact he
            · simpa [Builtin.max_] using minmax_rel (Γ := Γ) (w := w) true l vs0 k n v g2 h
      · cases he
    · cases hc
  · cases hc
theorem op_mkMap (hs : SRel Γ base κ H w) {t : TypeId} (hop : o.op = .makeMap t none)
    (he : opK .mkMap r H (fun v h => some (v, h)) = some (v, H')) : OpOK Γ base κ H w o a v H' := by
  simp only [opK] at he
  injection he with he; injection he with e1 e2; subst e1; subst e2
  have := hs.newMap
  refine RunOK.op (s := Instr.makeMap t none) (by simp only [execOp, hop]; rfl) ⟨.map (some w.heap.size), _, _, ?_, .map _ _ (K.at_same _ _ _), this.1, this.2⟩
  simp [Instr.makeMap]
theorem op_lookM (hs : SRel Γ base κ H w) (hr : RRel κ r a) {t kt et : TypeId} (ht : Γ.P.underlying t = some (.map kt et)) {kk : KT} (hk : keyT Γ.P kt = some kk) {z : PV} (hz : zeroPV Γ.P et = some z) {ok : Bool}
    {x k : Operand} {y q : Opd} (hy : compOpd x = some y) (hq : compOpd k = some q) (hop : o.op = .lookup t x k ok)
    (he : opK (.lookM ok kk z y q) r H (fun v h => some (v, h)) = some (v, H')) : OpOK Γ base κ H w o a v H' := by
  simp only [opK] at he
  refine RunOK.op (s := Instr.lookup t (a.eval x) (a.eval k) ok) (by simp only [execOp, hop]) (RunOK.keep hs (x := lookK ok kk z (y.ev r) (q.ev r) H fun p => some (AV.pv p)) ?_ fun h => look_rel hs ht hk hz (opd_rel hr hy) (opd_rel hr hq) h)
  rw [lookK_bind]; exact he
theorem op_rangeM (hs : SRel Γ base κ H w) (hr : RRel κ r a) {t kt et : TypeId} (ht : Γ.P.underlying t = some (.map kt et)) {x : Operand} {y : Opd} (hy : compOpd x = some y) (hop : o.op = .range t x)
    (he : opK (.rangeM y) r H (fun v h => some (v, h)) = some (v, H')) : OpOK Γ base κ H w o a v H' := by
  simp only [opK] at he
  obtain ⟨v', κ', w', h1, h2, h3, h4⟩ := range_rel hs ht (opd_rel hr hy) he
  exact RunOK.op (s := Instr.range t (a.eval x)) (by simp only [execOp, hop]) ⟨v', κ', w', h1, h2, h3, h4⟩
theorem op_entryM (hs : SRel Γ base κ H w) (hr : RRel κ r a) {x : Operand} {y : Opd} (hy : compOpd x = some y) (hop : o.op = .entry x)
    (he : opK (.entryM y) r H (fun v h => some (v, h)) = some (v, H')) : OpOK Γ base κ H w o a v H' := by
  simp only [opK] at he
  refine RunOK.op (s := Instr.entry (a.eval x)) (by simp only [execOp, hop]) (RunOK.keep hs (x := entryK (y.ev r) H fun p => some (AV.pv p)) ?_ fun h => entry_rel hs (opd_rel hr hy) h)
  rw [entryK_bind]; exact he
theorem op_updM (hs : SRel Γ base κ H w) (hr : RRel κ r a) {t : TypeId} {x k u : Operand} {vo : VOp} (hc : compUpd Γ.P t x k u = some vo) (hop : o.op = .mapUpdate t x k u ∨ o.op = .insert t x k u)
    (he : opK vo r H (fun v h => some (v, h)) = some (v, H')) : OpOK Γ base κ H w o a v H' := by
  unfold compUpd at hc
  split at hc
  · rename_i b c d kt et hy hq hu ht
    obtain ⟨kk, hk, rfl⟩ := map_some hc
    simp only [opK] at he
    have e : (updK kk (b.ev r) (c.ev r) (d.ev r) H some).bind (fun h => some (undefV, h)) = some (v, H') := by rw [updK_bind]; exact he
    obtain ⟨p, h1, h2⟩ := bind_pair e
    injection h2 with h2 h3; subst h2; subst h3
    obtain ⟨w', g1, g2, g3⟩ := upd_rel hs ht hk (opd_rel hr hy) (opd_rel hr hq) (opd_rel hr hu) h1
    refine ⟨.skip, undef, κ, w', ?_, .inr ⟨rfl, rfl⟩, undefV_rel _, g2, g3⟩
    rcases hop with hop | hop <;> simp [execOp, hop, g1]
  · cases hc
end
end Go.VM
