/-
  Part 4 of an abstract machine that answers as the model does.
  Copying, making, bytes and strings, arrays' parts, the least and the most.
  A continuation may be carried out later.
  Every operation that calls nothing.
  Every operation that calls nothing: the others, and all of them.
-/
import Derived.Test.YtnkdddlkghkpjaaV3
set_option linter.all false
set_option linter.unusedVariables false
set_option linter.unusedSimpArgs false
set_option linter.unusedSectionVars false
namespace Go.VM
open Go

section
variable {Γ : Ctx} {base : Nat} {κ : K} {H : Heap} {w : World}

theorem SRel.newRow' (h : SRel Γ base κ H w) {w' : World} (hsame : Same w w') (hold : ∀ k, k < w.heap.size → w'.heap[k]? = w.heap[k]?) (c : List Value) {e : TypeId} {fr : Nat × Nat} (hnew : w'.heap[w.heap.size]? = some (.cells c.toArray e fr)) :
    SRel Γ base (κ.keep w.heap.size c.length c) H w' ∧ Grow κ H w (κ.keep w.heap.size c.length c) H w' ∧
      ∀ (j : Nat) (v : Value), c[j]? = some v → (κ.keep w.heap.size c.length c).imm ((⟨w.heap.size, 0, none⟩ : Addr).add j) = some v := by
  have hg := h.turnNone (κ' := κ.keep w.heap.size c.length c) hsame (κ.le_keep _ _ _) rfl rfl hold (fun a v hv => by
    rcases K.keep_some hv with h1 | ⟨h1, h2, _, h4⟩
    · exact .inl h1
    · refine .inr ⟨by omega, ?_⟩
      unfold World.cell?
      rw [h1, hnew]
      simp [h2, h4])
  refine ⟨hg.1, hg.2, fun j v hv => ?_⟩
  rw [addr_add_lit]
  exact K.keep_at (h.imm_none _ (by simp)) (List.getElem?_eq_some_iff.1 hv).1 hv

theorem freeze_new (w : World) (c : Array Value) (e : TypeId) : (w.alloc (.cells c e)).freeze ⟨w.heap.size, c.size, none⟩ 1 = w.alloc (.cells c e (c.size, c.size + 1)) := by
  unfold World.freeze World.alloc
  simp only [Nat.one_ne_zero, if_false]
  congr 1
  apply Array.ext
  · simp
  · intro i h1 h2
    simp only [Array.getElem_modify, Array.getElem_push]
    split
    · rename_i hi
      subst hi
      simp
    · rename_i hi
      have : i < w.heap.size := by simp at h2; omega
      simp [this]

theorem run_newRow' (P : Program) (w : World) (e : TypeId) (c : Array Value) : (newRow e c).run P w = .ok ⟨w.heap.size, 0, none⟩ (w.alloc (.cells c e)) := rfl
theorem run_markStringish (P : Program) (w : World) (a : Addr) {t : TypeId} {n : Nat} (h : w.shape? a.block = some (t, n)) : (markStringish a).run P w = .ok () (w.freeze ⟨a.block, n, none⟩ 1) := by
  have e : (markStringish a).run P w = (match w.shape? a.block with | some (_, n) => freeze { block := a.block, off := n } 1 | _ => pure () : Sem Unit).run P w := rfl
  rw [e, h]
  rfl
theorem shape_new (w : World) (c : Array Value) (e : TypeId) (fr : Nat × Nat) : (w.alloc (.cells c e fr)).shape? w.heap.size = some (e, c.size) := by
  unfold World.shape?
  rw [heap_alloc_new]

theorem freeze_at {w : World} {k n : Nat} {c : Array Value} {e : TypeId} (h : w.heap[k]? = some (.cells c e (0, 0))) :
    (w.freeze ⟨k, n, none⟩ 1).heap[k]? = some (.cells c e (n, n + 1)) ∧ (∀ j, j ≠ k → (w.freeze ⟨k, n, none⟩ 1).heap[j]? = w.heap[j]?) ∧ Same w (w.freeze ⟨k, n, none⟩ 1) := by
  unfold World.freeze
  simp only [Nat.one_ne_zero, if_false]
  refine ⟨?_, fun j hj => ?_, rfl, rfl, rfl, by simp⟩
  · simp [Array.getElem?_modify, h]
  · simp [Array.getElem?_modify, Ne.symm hj]

/-- A block that is written no more. -/
theorem SRel.retire (h : SRel Γ base κ H w) {id k : Nat} (hl : κ.loc id = some k) {cs : List PV} (hg : hget H id = .pcells cs) :
    ∃ (c rest : List Value) (e : TypeId), w.heap[k]? = some (.cells (c ++ rest).toArray e (0, 0)) ∧ PRels κ.imm cs c ∧ Ones c ∧
      SRel Γ base (κ.keep k c.length c) (hset H id .dead) (w.freeze ⟨k, (c ++ rest).length, none⟩ 1) ∧ Grow κ H w (κ.keep k c.length c) (hset H id .dead) (w.freeze ⟨k, (c ++ rest).length, none⟩ 1) ∧
      ∀ (j : Nat) (v : Value), c[j]? = some v → (κ.keep k c.length c).imm ⟨k, j, none⟩ = some v := by
  have hp : place κ id (hget H id) = some k := by rw [hg]; exact hl
  obtain ⟨_, ho⟩ := h.obj id k hp
  rw [hg] at ho
  obtain ⟨c, rest, e, hw, hr, himm, hones⟩ := ho
  obtain ⟨f1, f2, f3⟩ := freeze_at (n := (c ++ rest).length) hw
  have hcell : ∀ a : Addr, a.block ≠ k → (w.freeze ⟨k, (c ++ rest).length, none⟩ 1).cell? a = w.cell? a := fun a ha => by
    unfold World.cell?; rw [f2 _ ha]
  obtain ⟨g1, g2⟩ := h.turnOne (κ' := κ.keep k c.length c) id .dead k k f3 (κ.le_keep _ _ _) hp rfl (fun _ _ => rfl) (fun j _ hj => f2 j hj)
    (fun a v hv => by
      rcases K.keep_some hv with h1 | ⟨h1, h2, h3, h4⟩
      · have hne : a.block ≠ k := fun e => by rw [himm a e] at h1; cases h1
        exact ⟨(hcell a hne).trans (h.imm a v h1), .inl h1⟩
      · refine ⟨?_, .inr (.inr h1)⟩
        unfold World.cell?
        rw [h1, f1]
        have h5 : (c ++ rest)[a.off]? = some v := by rw [List.getElem?_append_left h3]; exact h4
        simpa [h2] using h5)
    (fun k' hk' => by cases hk') (.inl rfl) trivial
  exact ⟨c, rest, e, hw, hr, hones, g1, g2, fun j v hv => K.keep_at (himm _ rfl) (List.getElem?_eq_some_iff.1 hv).1 hv⟩

/-- The same, the world as it was. -/
theorem SRel.retire' (h : SRel Γ base κ H w) {id k : Nat} (hl : κ.loc id = some k) {cs : List PV} (hg : hget H id = .pcells cs) :
    ∃ (c rest : List Value) (e : TypeId), w.heap[k]? = some (.cells (c ++ rest).toArray e (0, 0)) ∧ PRels κ.imm cs c ∧ Ones c ∧
      SRel Γ base (κ.keep k c.length c) (hset H id .dead) w ∧ Grow κ H w (κ.keep k c.length c) (hset H id .dead) w ∧
      ∀ (j : Nat) (v : Value), c[j]? = some v → (κ.keep k c.length c).imm ⟨k, j, none⟩ = some v := by
  have hp : place κ id (hget H id) = some k := by rw [hg]; exact hl
  obtain ⟨_, ho⟩ := h.obj id k hp
  rw [hg] at ho
  obtain ⟨c, rest, e, hw, hr, himm, hones⟩ := ho
  obtain ⟨g1, g2⟩ := h.turnOne (κ' := κ.keep k c.length c) id .dead k k (Same.refl w) (κ.le_keep _ _ _) hp rfl (fun _ _ => rfl) (fun _ _ _ => rfl)
    (fun a v hv => by
      rcases K.keep_some hv with h1 | ⟨h1, h2, h3, h4⟩
      · exact ⟨h.imm a v h1, .inl h1⟩
      · refine ⟨?_, .inr (.inr h1)⟩
        unfold World.cell?
        rw [h1, hw]
        have h5 : (c ++ rest)[a.off]? = some v := by rw [List.getElem?_append_left h3]; exact h4
        simpa [h2] using h5)
    (fun k' hk' => by cases hk') (.inl rfl) trivial
  exact ⟨c, rest, e, hw, hr, hones, g1, g2, fun j v hv => K.keep_at (himm _ rfl) (List.getElem?_eq_some_iff.1 hv).1 hv⟩

theorem bytesOf_rel (hs : SRel Γ base κ H w) (e : TypeId) (s : ByteArray) : RunOK Γ base κ H w (Conv.stringToBytes e s) (.pv (.sl .nn s.size (bytesCells s))) H := by
  have hcap := grownCap_ge w s.size 0 e
  obtain ⟨c, hcd⟩ : ∃ c : List Value, c = byteCells s ++ List.replicate (grownCap w s.size 0 e - s.size) (.int .u8 0) := ⟨_, rfl⟩
  have hc : (s.data.map (fun b => Value.int .u8 b.toNat) ++ Array.replicate (grownCap w s.size 0 e - s.size) (Value.int .u8 0)) = c.toArray := by
    apply Array.ext'; simp [hcd, byteCells]
  have hrun : (Conv.stringToBytes e s).run Γ.P w = .ok (.slice (some ⟨w.heap.size, 0, none⟩) s.size (grownCap w s.size 0 e)) (w.drew.alloc (.cells c.toArray e (c.toArray.size, c.toArray.size + 1))) := by
    have h1 : (choose (.appendCap s.size 0 e)).run Γ.P w = .ok (grownCap w s.size 0 e) w.drew := rfl
    have h2 := run_newRow' Γ.P w.drew e c.toArray
    have h3 := run_markStringish Γ.P (w.drew.alloc (.cells c.toArray e)) ⟨w.drew.heap.size, 0, none⟩ (shape_new w.drew c.toArray e _)
    simp only [Conv.stringToBytes, Sem.run_bind, h1, Result.andThen_ok, hc, h2, h3, Sem.run_pure]
    rw [freeze_new w.drew c.toArray e]
    rfl
  obtain ⟨g1, g2, g3⟩ := hs.newRow' (w' := w.drew.alloc (.cells c.toArray e (c.toArray.size, c.toArray.size + 1))) ⟨rfl, rfl, rfl, by simp⟩ (fun k hk => heap_alloc_old w.drew _ k hk) c (heap_alloc_new w.drew _)
  refine ⟨_, _, _, hrun, .pv _ _ (.sl .nn _ _ _ _ (byteCells s) (by simp) (by simp) hcap (bytesCells_rel _ s) (fun j v hj => g3 j v ?_) (byteCells_ones s)), g1, g2⟩
  rw [hcd]
  exact app_get hj

theorem strOfCells_inv {I : Imm} : ∀ (cs : List PV) (vs : List Value) (l : List UInt8), PRels I cs vs → strOfCells cs = some l → ∃ ns : List Int, vs = ns.map (Value.int .u8) ∧ l = ns.map fun n => UInt8.ofNat n.toNat := by
  intro cs
  induction cs with
  | nil => intro vs l h he; cases h; simp [strOfCells] at he; subst he; exact ⟨[], rfl, rfl⟩
  | cons p cs ih =>
    intro vs l h he
    cases h with
    | cons _ v _ vs hp hr =>
      cases p with
      | int k n =>
        cases k <;> simp only [strOfCells] at he <;> try (cases he; done)
        simp only [Option.map_eq_some_iff] at he
        obtain ⟨l', h1, rfl⟩ := he
        obtain ⟨ns, rfl, rfl⟩ := ih vs l' hr h1
        cases hp
        exact ⟨n :: ns, rfl, rfl⟩
      | _ => simp [strOfCells] at he
theorem push_fold (ns : List Int) : ∀ (s : ByteArray), ns.foldl (fun r n => r.push (UInt8.ofNat n.toNat)) s = ⟨s.data ++ (ns.map fun n => UInt8.ofNat n.toNat).toArray⟩ := by
  induction ns with
  | nil => intro s; simp
  | cons n ns ih =>
    intro s
    rw [List.foldl_cons, ih]
    congr 1
    apply Array.ext'
    simp [ByteArray.push]
theorem strOf_rel (hs : SRel Γ base κ H w) {x : AV} {vx : Value} (hx : VRel κ x vx) (hns : ∀ s, x ≠ .pv (.str s)) {n : Nat} (hn : srcLen x = some n) {v : AV}
    (he : srcK H x (fun cs => needK (Nat.beq cs.length n) (bindK (strOfCells cs) fun l => some (AV.pv (.str ⟨l.toArray⟩)))) = some v) :
    ∃ v', (Conv.bytesToString vx).run Γ.P w = .ok v' w ∧ VRel κ v v' := by
  have hq0 := srcK_inv hs hx hn he
  clear he
  obtain ⟨new, news, he, hsrc, _⟩ := hq0
  have hq0 := needK_inv he
  clear he
  obtain ⟨hl, he⟩ := hq0
  rw [bindK_def] at he
  cases hq : strOfCells new with
  | none => rw [hq] at he; simp at he
  | some l =>
    rw [hq] at he; simp only [Option.bind_some] at he
    injection he with he; subst he
    obtain ⟨ns, rfl, rfl⟩ := strOfCells_inv _ _ _ hsrc.rel hq
    have hlen : ns.length = n := by
      have := hsrc.rel.length
      rw [Nat.eq_of_beq_eq_true hl] at this
      simpa using this.symm
    rcases hsrc.form with ⟨s, rfl, _, _⟩ | ⟨rfl, _, h2⟩ | ⟨a, c, rfl, hc⟩
    · exfalso
      cases hx with
      | pv p _ hp => cases hp with | str s => exact hns _ rfl
    · have : ns = [] := by simpa using h2
      subst this
      exact ⟨_, rfl, .pv _ _ (.str _)⟩
    · have hload := run_loadCells_list (P := Γ.P) w a (ns.map (Value.int .u8)) hc
      rw [List.length_map, hlen] at hload
      refine ⟨_, run_bytesToString w a n c ns hload, ?_⟩
      rw [push_fold]
      have e : (⟨ByteArray.empty.data ++ (ns.map fun n => UInt8.ofNat n.toNat).toArray⟩ : ByteArray) = ⟨(ns.map fun n => UInt8.ofNat n.toNat).toArray⟩ := by
        congr 1
        apply Array.ext'
        simp [ByteArray.empty, ByteArray.emptyWithCapacity]
        try rfl
      rw [e]
      exact .pv _ _ (.str _)

theorem minmax_rel (mx : Bool) : ∀ (l : List AV) (vs : List Value) (k : IntKind) (a : Int) (v : AV), VRels κ l vs → minmaxK mx a k l (fun p => some (AV.pv p)) = some v →
    ∃ v', (vs.foldlM (if mx then Builtin.max2 else Builtin.min2) (.int k a)).run Γ.P w = .ok v' w ∧ VRel κ v v' := by
  intro l
  induction l with
  | nil =>
    intro vs k a v h he
    cases h
    simp [minmaxK] at he; subst he
    exact ⟨.int k a, by simp, .pv _ _ (.int _ _)⟩
  | cons x l ih =>
    intro vs k a v h he
    cases h with
    | cons _ u _ us hx hr =>
      cases x with
      | pv p =>
        cases p with
        | int k2 b =>
          have := int_rel hx
          subst this
          simp only [minmaxK, eqK_def] at he
          obtain ⟨v', h1, h2⟩ := ih us k _ v hr he
          refine ⟨v', ?_, h2⟩
          rw [List.foldlM_cons]
          cases mx
          · simp only [Builtin.min2, Sem.run_bind, Sem.run_pure, Result.andThen_ok, Bool.false_eq_true, if_false] at h1 ⊢
            exact h1
          · simp only [Builtin.max2, Sem.run_bind, Sem.run_pure, Result.andThen_ok, if_true] at h1 ⊢
            exact h1
        | _ => simp [minmaxK] at he
      | _ => simp [minmaxK] at he

theorem wrap_small {n : Int} (h0 : 0 ≤ n) (h1 : n ≤ 9223372036854775807) : IntKind.i64.wrap n = n := by
  unfold IntKind.wrap
  simp only [IntKind.bits, IntKind.signed, Bool.true_and, Nat.reduceSub, Int.reducePow]
  have e : n % 18446744073709551616 = n := Int.emod_eq_of_lt h0 (by omega)
  simp only [e]
  split
  · rename_i h; simp at h; omega
  · rfl

theorem mkSlice_rel {t e : TypeId} (ht : Γ.P.underlying t = some (.slice e)) {i : TypeInfo} (hi : Γ.P.info? e = some i) {zp : List PV} (hz : zeroT Γ.P e = some zp) (hby : i.bytes ≤ 256)
    {l c : Int} {k k' : IntKind} (h0 : 0 ≤ l) (hlc : l ≤ c) (hc : c ≤ 1099511627776) :
    ∃ (cs : List Value), PRels κ.imm (zerosOf zp c.toNat) cs ∧ Ones cs ∧ (Instr.makeSlice t (.int k l) (.int k' c)).run Γ.P w = .ok (.slice (some ⟨w.heap.size, 0, none⟩) l.toNat c.toNat) (w.alloc (.cells cs.toArray e)) := by
  obtain ⟨i', z, hi', hzz, hzr, hz1, hzl⟩ := zeroT_rel (Γ := Γ) (κ := κ) hz
  rw [hi] at hi'; injection hi' with hi'; subst hi'
  have hzs : z.cells.size = i.size := by rw [← Array.length_toList, ← hzr.length]; exact hzl
  refine ⟨(List.replicate c.toNat z.cells.toList).flatten, by rw [zerosOf_flat]; exact hzr.flat _, hz1.flat _, ?_⟩
  have w1 := wrap_small h0 (by omega)
  have w2 := wrap_small (n := c) (by omega) (by omega)
  have hbc : (i.bytes : Int) * c ≤ 281474976710656 := by
    have : (i.bytes : Int) * c ≤ 256 * c := Int.mul_le_mul_of_nonneg_right (by omega) (by omega)
    omega
  have t1 : ¬ (c < 0 ∨ (i.bytes : Int) * c > 281474976710656) := by omega
  have hcells : (((Array.range (c.toNat * i.size)).map fun j => (if c.toNat * i.size = 0 then (#[] : Array Value) else z.cells)[j % (if c.toNat * i.size = 0 then (#[] : Array Value) else z.cells).size]!)) = ((List.replicate c.toNat z.cells.toList).flatten).toArray := by
    by_cases hz0 : c.toNat * i.size = 0
    · rw [hz0]
      apply Array.ext'
      have : (List.replicate c.toNat z.cells.toList).flatten = [] := by
        apply List.eq_nil_of_length_eq_zero
        simp [hzs, hz0]
      rw [this]
      simp
    · simp only [hz0, if_false]
      apply Array.ext'
      have := zeros_cells z.cells.toList c.toNat
      simp only [Array.length_toList, hzs, Array.toArray_toList] at this
      rw [hzs, this]
  have hask : ∀ n (w : World), (askRoom n).run Γ.P w = .ok () w := by
    intro n w
    unfold askRoom
    split <;> rfl
  simp only [Instr.makeSlice, Sem.run_bind, run_underlying ht, Result.andThen_ok, asInt, asIntOf, Sem.run_pure, run_typeInfo w hi, w1, w2]
  have c1 : (decide (c < 0) || decide ((i.bytes : Int) * c > 2 ^ 48) || decide (l < 0) || decide (l > c)) = false := by
    simp only [Bool.or_eq_false_iff, decide_eq_false_iff_not]
    omega
  have hsz : sizeT Γ.P e = some i.size := by simp [sizeT, hi]
  have hzv : (zeroValue e).run Γ.P w = .ok z w := run_zeroValue' hi hzz
  simp only [c1, Bool.false_eq_true, if_false, Sem.run_bind, hask, Result.andThen_ok, run_sizeOf' hsz]
  by_cases hz0 : c.toNat * i.size = 0
  · simp only [hz0, if_true] at hcells ⊢
    simp only [Sem.run_bind, Sem.run_pure, Result.andThen_ok, run_newRow', hcells]
  · simp only [hz0, if_false] at hcells ⊢
    simp only [Sem.run_bind, Sem.run_pure, Result.andThen_ok, hzv, run_newRow', hcells]

theorem firstCells_take {size n m : Nat} {x : AV} {vx : Value} {new : List PV} {news : List Value} (h : SrcRel Γ κ w x vx m new news) (hl : news.length = m * size) (hn : n ≤ m) (h1 : (∃ s, vx = .string s) → size = 1) :
    (Builtin.firstCells size n vx).run Γ.P w = .ok (news.take (n * size)).toArray w := by
  rcases h.form with ⟨s, rfl, rfl, rfl⟩ | ⟨rfl, rfl, rfl⟩ | ⟨a, c, rfl, hc⟩
  · have := h1 ⟨s, rfl⟩
    subst this
    simp only [Builtin.firstCells, Sem.run_pure]
    congr 1
    apply Array.ext'
    simp [byteCells, ByteArray.data_extract]
  · have : n = 0 := by omega
    subst this
    simp [Builtin.firstCells]
  · have hle : n * size ≤ m * size := Nat.mul_le_mul_right _ hn
    have := run_loadCells_list (P := Γ.P) w a (news.take (n * size)) (fun j v hj => by
      rw [List.getElem?_take] at hj
      split at hj
      · exact hc j v hj
      · cases hj)
    rw [List.length_take, Nat.min_eq_left (by omega)] at this
    simpa [Builtin.firstCells] using this

theorem copy_rel (hs : SRel Γ base κ H w) {t u ty e : TypeId} {es : Nat} (ht : Γ.P.underlying t = some (.slice e)) (hn : sizeT Γ.P e = some es) {d s v : AV} {vd vs : Value} {H' : Heap} (hd : VRel κ d vd) (hsv : VRel κ s vs)
    (hstr : (∃ b, vs = .string b) → es = 1) (he : copyK es d s H (fun v h => some (v, h)) = some (v, H')) : RunOK Γ base κ H w (Builtin.copy_ #[t, u] ty #[vd, vs]) v H' := by
  unfold copyK at he
  split at he
  · rename_i es' id off n cap
    cases hd with
    | hs _ _ _ _ _ k cap' hl h2 h3 =>
      cases hm : srcLen s with
      | none => rw [hm] at he; simp at he
      | some m =>
        rw [hm] at he; simp only at he
        have hq := srcK_inv hs hsv hm he
        clear he
        obtain ⟨new, news, he, hsrc, _⟩ := hq
        rw [hgetK_def] at he
        split at he
        · rename_i cs hg
          have hq := needK_inv he
          clear he
          obtain ⟨hc, he⟩ := hq
          rw [eqK_def, eqK_def] at he
          simp only [mulE_eq] at he
          injection he with he; injection he with e1 e2
          subst e1; subst e2
          rw [Bool.and_eq_true] at hc
          have hle := Nat.le_of_ble_eq_true hc.1
          have hnl : news.length = m * es := by rw [← hsrc.rel.length, ← mulE_eq]; exact Nat.eq_of_beq_eq_true hc.2
          obtain ⟨c, rest, e', hw, hr, hones, _⟩ := (ptr_cells hs hl).1 cs hg
          have hmul : min m n * es ≤ n * es := Nat.mul_le_mul_right _ (Nat.min_le_right _ _)
          have hmul2 : min m n * es ≤ m * es := Nat.mul_le_mul_right _ (Nat.min_le_left _ _)
          have htl : (news.take (min m n * es)).length = min m n * es := by rw [List.length_take]; omega
          have hf := firstCells_take hsrc hnl (Nat.min_le_left m n) hstr
          have hst := run_storeCells_at Γ.P k off e' (news.take (min m n * es)) 0 (c ++ rest).toArray w hw (by
            have := hr.length
            simp only [List.size_toArray, List.length_append]; omega) (hsrc.ones.take _)
          have hcl := hr.length
          have t1 : (c ++ rest).take off = c.take off := by rw [List.take_append_of_le_length (by omega)]
          have t2 : (c ++ rest).drop (off + min m n * es) = c.drop (off + min m n * es) ++ rest := by rw [List.drop_append_of_le_length (by omega)]
          simp only [Nat.add_zero, htl] at hst
          rw [t1, t2, ← List.append_assoc] at hst
          obtain ⟨g1, g2⟩ := hs.write hl (.inr ⟨cs, hg⟩) hw (.inr ⟨_, rfl, hr.splice (hsrc.rel.take (min m n * es)) off (min m n * es)⟩) (hones.splice (hsrc.ones.take _) off (min m n * es))
          have hlen : (Builtin.lenOf vs).run Γ.P w = .ok m w := by
            rcases hsrc.form with ⟨s, rfl, _, rfl⟩ | ⟨rfl, rfl, _⟩ | ⟨a, c, rfl, _⟩ <;> rfl
          refine ⟨.int .i64 (min m n : Nat), κ, _, ?_, .pv _ _ (.int _ _), g1, g2⟩
          have hmin : Nat.min m n = min m n := rfl
          rw [List.append_assoc, List.append_assoc] at hst
          simp [Builtin.copy_, run_underlying ht, hlen, run_sizeOf' hn, hmin, hf, hst, goInt]
        · cases he
  · rename_i ext n cs
    cases hm : srcLen s with
    | none => rw [hm] at he; simp at he
    | some m =>
      rw [hm] at he; simp only at he
      have hq := srcK_inv hs hsv hm he
      clear he
      obtain ⟨new, news, he, hsrc, _⟩ := hq
      have hq := needK_inv he
      clear he
      obtain ⟨hc, he⟩ := hq
      rw [Bool.and_eq_true] at hc
      have hn0 := Nat.eq_of_beq_eq_true hc.1
      subst hn0
      injection he with he; injection he with e1 e2
      subst e1; subst e2
      have hnl : news.length = m * es := by rw [← hsrc.rel.length, ← mulE_eq]; exact Nat.eq_of_beq_eq_true hc.2
      have hf := firstCells_take hsrc hnl (Nat.zero_le m) hstr
      have hlen : (Builtin.lenOf vs).run Γ.P w = .ok m w := by
        rcases hsrc.form with ⟨s, rfl, _, rfl⟩ | ⟨rfl, rfl, _⟩ | ⟨a, c, rfl, _⟩ <;> rfl
      obtain ⟨a, cap, hvd⟩ : ∃ a cap, vd = .slice a 0 cap := by
        cases hd with
        | pv _ _ hp =>
          cases hp with
          | slNil => exact ⟨_, _, rfl⟩
          | sl => exact ⟨_, _, rfl⟩
      refine ⟨.int .i64 0, κ, w, ?_, .pv _ _ (.int _ _), hs, Grow.refl _ _ _⟩
      rw [hvd]
      simp only [Nat.zero_mul, List.take_zero] at hf
      cases a <;> simp [Builtin.copy_, run_underlying ht, hlen, run_sizeOf' hn, hf, goInt, storeCells]
  · cases he

theorem sliceA_rel {t e : TypeId} {len es : Nat} (ht : Γ.P.underlying t = some (.array len e)) (hn : sizeT Γ.P e = some es) {x : AV} {vx : Value} (hx : VRel κ x vx)
    {lo hi : Option AV} {vlo vhi : Option Value} (hl : ORel κ lo vlo) (hh : ORel κ hi vhi) {v : AV}
    (he : (match x with
      | .ptr id o => boundK hi len len fun hb => boundK lo 0 hb fun l => needK (Nat.blt l len || Nat.beq l 0) (some (AV.hs es id (addO o (mulE l es)) (hb - l) (len - l)))
      | _ => none) = some v) : ∃ v', (Instr.sliceAt t vx vlo vhi none).run Γ.P w = .ok v' w ∧ VRel κ v v' := by
  cases hx with
  | ptr id o k hk =>
    simp only at he
    obtain ⟨h, l, hlh, hhn, _, hF, hr⟩ := run_bounds (Γ := Γ) (w := w) hl hh false (Nat.le_refl len) rfl he
    obtain ⟨hb, hF⟩ := needK_inv hF
    simp only [mulE_eq, addO_eq] at hF
    injection hF with hF; subst hF
    have hor : l < len ∨ l = 0 := by
      rw [Bool.or_eq_true] at hb
      rcases hb with hb | hb
      · exact .inl (blt_lt hb)
      · exact .inr (Nat.eq_of_beq_eq_true hb)
    refine ⟨.slice (some (if len = l then ⟨k, o, none⟩ else (⟨k, o, none⟩ : Addr).add (l * es))) (h - l) (len - l), ?_, ?_⟩
    · simp [Instr.sliceAt, run_underlying ht, Instr.sureAddr, hr, run_sizeOf' hn]
    · by_cases hml : len = l
      · rw [if_pos hml]
        have : l = 0 := by omega
        subst this
        simpa using VRel.hs (κ := κ) es id o (h - 0) (len - 0) k (len - 0) hk (by omega) (Nat.le_refl _)
      · rw [if_neg hml, addr_add_lit']
        exact .hs _ _ _ _ _ k _ hk (by omega) (Nat.le_refl _)
  | _ => simp at he

theorem sliceStr_rel {t : TypeId} (ht : Γ.P.underlying t = some .string) {x : AV} {vx : Value} (hx : VRel κ x vx) {lo hi : Option AV} {vlo vhi : Option Value} (hl : ORel κ lo vlo) (hh : ORel κ hi vhi) {v : AV}
    (he : sliceStrK x lo hi (fun v => some v) = some v) : ∃ v', (Instr.sliceAt t vx vlo vhi none).run Γ.P w = .ok v' w ∧ VRel κ v v' := by
  unfold sliceStrK at he
  split at he
  · rename_i s
    have := str_rel hx
    subst this
    obtain ⟨h, l, hlh, hhn, _, hF, hr⟩ := run_bounds (Γ := Γ) (w := w) hl hh false (Nat.le_refl s.size) rfl he
    rw [eqK_def] at hF
    injection hF with hF; subst hF
    refine ⟨.string (s.extract l h), ?_, .pv _ _ (.str _)⟩
    simp [Instr.sliceAt, run_underlying ht, Instr.slice, hr]
  · cases he

noncomputable def toArrV (n : Nat) (x : AV) : Option AV := match x with
  | .pv (.sl e m cs) => (match e with | .nil => none | _ => needK (Nat.ble n m && Nat.blt 0 n) (some (AV.rptr cs 0)))
  | .tsl _ m cs => needK (Nat.ble n m) (some (AV.rptr cs 0))
  | .hs _ id off m _ => needK (Nat.ble n m) (some (AV.ptr id off))
  | _ => none

theorem toArr_rel {t e : TypeId} {n : Nat} (ht : Γ.P.underlying t = some (.array n e)) {x : AV} {vx : Value} (hx : VRel κ x vx) {v : AV}
    (he : toArrV n x = some v) : ∃ v', (Instr.arrayAt t vx).run Γ.P w = .ok v' w ∧ VRel κ v v' := by
  have go : ∀ (a : Option Addr) (m cap : Nat), vx = .slice a m cap → n ≤ m → (Instr.arrayAt t vx).run Γ.P w = .ok (.pointer a) w := by
    intro a m cap e hle
    subst e
    have : ¬ m < n := by omega
    simp [Instr.arrayAt, run_underlying ht, this]
  unfold toArrV at he
  split at he
  · rename_i e m cs
    cases hx with
    | pv _ _ hx =>
      split at he
      · cases he
      · obtain ⟨hc, he⟩ := needK_inv he
        injection he with he; subst he
        rw [Bool.and_eq_true] at hc
        have h1 := Nat.le_of_ble_eq_true hc.1
        have h2 := blt_lt hc.2
        cases hx with
        | slNil => omega
        | sl _ _ _ a cap vs g1 g2 g3 g4 g5 g6 =>
          refine ⟨_, go _ _ _ rfl h1, ?_⟩
          have := VRel.rptr (κ := κ) cs 0 a vs g4 g5 g6
          simpa [Addr.add] using this
  · rename_i tk m cs
    obtain ⟨hc, he⟩ := needK_inv he
    injection he with he; subst he
    cases hx with
    | tsl _ _ _ k cap vs h1 h2 h3 h4 h5 =>
      refine ⟨_, go _ _ _ rfl (Nat.le_of_ble_eq_true hc), ?_⟩
      have := VRel.rptr (κ := κ) cs 0 ⟨k, 0, none⟩ vs h3 (fun j v hj => by rw [addr_add_lit]; exact h4 j v hj) h5
      simpa [Addr.add] using this
  · rename_i es id off m cap
    obtain ⟨hc, he⟩ := needK_inv he
    injection he with he; subst he
    cases hx with
    | hs _ _ _ _ _ k cap' h1 h2 h3 => exact ⟨_, go _ _ _ rfl (Nat.le_of_ble_eq_true hc), .ptr _ _ _ h1⟩
  · cases he
end
end Go.VM

namespace Go.VM
open Go

section
variable {R S α : Type}
theorem needK_bind (p : Bool) (x : Option R) (F : R → Option S) : (needK p x).bind F = needK p (x.bind F) := by simp only [needK_def]; cases p <;> rfl
theorem boolK_bind (b : Bool) (G : Bool → Option R) (F : R → Option S) : (boolK b G).bind F = boolK b fun c => (G c).bind F := by simp only [boolK_def]
theorem eqK_bind (x : α) (G : α → Option R) (F : R → Option S) : (eqK x G).bind F = eqK x fun c => (G c).bind F := by simp only [eqK_def]
theorem getK_bind (l : List α) (i : Nat) (G : α → Option R) (F : R → Option S) : (getK l i G).bind F = getK l i fun c => (G c).bind F := by
  simp only [getK_def]; cases l[i]? <;> rfl
theorem secK_bind (l : List α) (i n : Nat) (G : List α → Option R) (F : R → Option S) : (secK l i n G).bind F = secK l i n fun c => (G c).bind F := by
  simp only [secK_def]; cases Nat.ble (i + n) l.length <;> rfl
theorem bindK_bind (x : Option α) (G : α → Option R) (F : R → Option S) : (bindK x G).bind F = bindK x fun c => (G c).bind F := by
  simp only [bindK_def]; cases x <;> rfl
theorem hgetK_bind (h : Heap) (id : Nat) (G : HObj → Option R) (F : R → Option S) : (hgetK h id G).bind F = hgetK h id fun c => (G c).bind F := by simp only [hgetK_def]
theorem cond_bind (b : Bool) (x y : Option R) (F : R → Option S) : (bif b then x else y).bind F = bif b then x.bind F else y.bind F := by cases b <;> rfl
end

section
variable {R S : Type}
theorem intBinK_bind (op : BinOp) (k : IntKind) (a b : Int) (G : PV → Option R) (F : R → Option S) : (intBinK op k a b G).bind F = intBinK op k a b fun p => (G p).bind F := by
  cases op <;> simp only [intBinK, needK_bind, eqK_bind, boolK_bind] <;> rfl
theorem shiftK_bind (op : BinOp) (k : IntKind) (a b : Int) (G : PV → Option R) (F : R → Option S) : (shiftK op k a b G).bind F = shiftK op k a b fun p => (G p).bind F := by
  cases op <;> simp only [shiftK, needK_bind, eqK_bind] <;> rfl
theorem strBinK_bind (op : BinOp) (a b : ByteArray) (G : PV → Option R) (F : R → Option S) : (strBinK op a b G).bind F = strBinK op a b fun p => (G p).bind F := by
  cases op <;> simp only [strBinK, needK_bind, eqK_bind, boolK_bind] <;> rfl
theorem boolBinK_bind (op : BinOp) (a b : Bool) (G : PV → Option R) (F : R → Option S) : (boolBinK op a b G).bind F = boolBinK op a b fun p => (G p).bind F := by
  cases op <;> simp only [boolBinK, boolK_bind] <;> rfl
theorem nilBinK_bind (k : BK) (op : BinOp) (x y : AV) (G : PV → Option R) (F : R → Option S) : (nilBinK k op x y G).bind F = nilBinK k op x y fun p => (G p).bind F := by
  cases op <;> simp only [nilBinK] <;> (try rfl) <;> (cases nilEq k x y <;> rfl)
theorem binK_bind (k : BK) (op : BinOp) (x y : AV) (G : PV → Option R) (F : R → Option S) : (binK k op x y G).bind F = binK k op x y fun p => (G p).bind F := by
  cases k with
  | num =>
    cases x with
    | pv p =>
      cases p with
      | int k a =>
        cases y with
        | pv q => cases q <;> simp only [binK, cond_bind, shiftK_bind, intBinK_bind] <;> rfl
        | _ => rfl
      | str a =>
        cases y with
        | pv q => cases q <;> simp only [binK, strBinK_bind] <;> rfl
        | _ => rfl
      | _ => rfl
    | _ => rfl
  | bool =>
    cases x with
    | pv p =>
      cases p with
      | bool a =>
        cases y with
        | pv q => cases q <;> simp only [binK, boolBinK_bind] <;> rfl
        | _ => rfl
      | _ => rfl
    | _ => rfl
  | agg sh =>
    cases x with
    | pv p =>
      cases p with
      | agg a =>
        cases y with
        | pv q => cases q <;> (try rfl) <;> (cases op <;> simp only [binK, bindK_bind, boolK_bind] <;> rfl)
        | _ => rfl
      | _ => rfl
    | _ => rfl
  | _ => exact nilBinK_bind _ _ _ _ _ _
theorem unK_bind (op : UnOp) (x : AV) (G : PV → Option R) (F : R → Option S) : (unK op x G).bind F = unK op x fun p => (G p).bind F := by
  cases op <;> cases x <;> (try rfl) <;> (rename_i p; cases p <;> simp only [unK, eqK_bind] <;> rfl)
theorem load1K_bind (p : AV) (h : Heap) (G : AV → Option R) (F : R → Option S) : (load1K p h G).bind F = load1K p h fun v => (G v).bind F := by
  cases p <;> simp only [load1K, getK_bind, hgetK_bind] <;> (try rfl)
  congr 1; funext o; cases o <;> simp only [getK_bind] <;> (try rfl)
  cases lget _ _ <;> rfl
theorem loadNK_bind (n : Nat) (p : AV) (h : Heap) (G : AV → Option R) (F : R → Option S) : (loadNK n p h G).bind F = loadNK n p h fun v => (G v).bind F := by
  cases p <;> simp only [loadNK, secK_bind, hgetK_bind] <;> (try rfl)
  congr 1; funext o; cases o <;> simp only [secK_bind, cond_bind] <;> rfl
theorem store1K_bind (p v : AV) (h : Heap) (G : Heap → Option R) (F : R → Option S) : (store1K p v h G).bind F = store1K p v h fun v => (G v).bind F := by
  cases p <;> simp only [store1K, hgetK_bind] <;> (try rfl)
  congr 1; funext o; cases o <;> simp only [cond_bind] <;> (try rfl)
  cases v <;> simp only [cond_bind, needK_bind, eqK_bind] <;> rfl
theorem storeNK_bind (n : Nat) (p v : AV) (h : Heap) (G : Heap → Option R) (F : R → Option S) : (storeNK n p v h G).bind F = storeNK n p v h fun v => (G v).bind F := by
  cases p <;> simp only [storeNK, hgetK_bind] <;> (try rfl)
  congr 1; funext o; cases o <;> (try rfl) <;> (cases v <;> simp only [cond_bind] <;> (try rfl) <;> (rename_i q; cases q <;> simp only [cond_bind, needK_bind, eqK_bind] <;> rfl))
theorem idxK_bind (i : AV) (len : Nat) (G : Nat → Option R) (F : R → Option S) : (idxK i len G).bind F = idxK i len fun v => (G v).bind F := by
  cases i <;> (try rfl) <;> (rename_i p; cases p <;> simp only [idxK, needK_bind] <;> rfl)
theorem idxAddrSK_bind (es : Nat) (x i : AV) (G : AV → Option R) (F : R → Option S) : (idxAddrSK es x i G).bind F = idxAddrSK es x i fun v => (G v).bind F := by
  cases x <;> simp only [idxAddrSK, idxK_bind] <;> (try rfl) <;> (rename_i p; cases p <;> simp only [idxK_bind] <;> rfl)
theorem boundK_bind (x : Option AV) (d y : Nat) (G : Nat → Option R) (F : R → Option S) : (boundK x d y G).bind F = boundK x d y fun v => (G v).bind F := by
  cases x with
  | none => rfl
  | some x => cases x <;> (try rfl) <;> (rename_i p; cases p <;> simp only [boundK, needK_bind] <;> rfl)
theorem sliceStrK_bind (x : AV) (lo hi : Option AV) (G : AV → Option R) (F : R → Option S) : (sliceStrK x lo hi G).bind F = sliceStrK x lo hi fun v => (G v).bind F := by
  cases x <;> (try rfl) <;> (rename_i p; cases p <;> simp only [sliceStrK, boundK_bind, eqK_bind] <;> rfl)
theorem sliceSK_bind (es : Nat) (x : AV) (lo hi mx : Option AV) (G : AV → Option R) (F : R → Option S) : (sliceSK es x lo hi mx G).bind F = sliceSK es x lo hi mx fun v => (G v).bind F := by
  unfold sliceSK
  split
  · split
    · simp only [boundK_bind, eqK_bind]
    · split <;> simp only [needK_bind, boundK_bind, eqK_bind, Option.bind_none]
  · split
    · simp only [boundK_bind, eqK_bind]
    · split <;> simp only [needK_bind, boundK_bind, eqK_bind, Option.bind_none]
  · split
    · simp only [needK_bind, boundK_bind]
    · rfl
  · split
    · split
      · simp only [boundK_bind, needK_bind]
      · rfl
    · rfl
  · rfl
theorem srcK_bind (h : Heap) (x : AV) (G : List PV → Option R) (F : R → Option S) : (srcK h x G).bind F = srcK h x fun v => (G v).bind F := by
  unfold srcK
  split <;> (try rfl)
  simp only [hgetK_bind]
  congr 1; funext o; cases o <;> simp only [secK_bind] <;> rfl
theorem appendTo_bind (mu : Bool) (es bytes m : Nat) (new : List PV) (s : AV) (h : Heap) (G : AV → Heap → Option R) (F : R → Option S) : (appendTo mu es bytes m new s h G).bind F = appendTo mu es bytes m new s h fun v h => (G v h).bind F := by
  unfold appendTo
  split
  · simp only [boolK_bind, cond_bind, needK_bind, eqK_bind, Option.bind_none]
  · simp only [hgetK_bind]
    congr 1; funext o; cases o <;> simp only [needK_bind, eqK_bind, Option.bind_none]
  · simp only [needK_bind, hgetK_bind]
    congr 1; congr 1; funext o; cases o <;> simp only [needK_bind, eqK_bind, Option.bind_none]
  · rfl
theorem appendK_bind (mu : Bool) (es bytes : Nat) (s x : AV) (h : Heap) (G : AV → Heap → Option R) (F : R → Option S) : (appendK mu es bytes s x h G).bind F = appendK mu es bytes s x h fun v h => (G v h).bind F := by
  unfold appendK
  cases srcLen x with
  | none => rfl
  | some m => simp only [srcK_bind, appendTo_bind]
theorem appS_bind (mu : Bool) (es bytes : Nat) (s x : AV) (h : Heap) (G : AV → Heap → Option R) (F : R → Option S) : (appS mu es bytes s x h G).bind F = appS mu es bytes s x h fun v h => (G v h).bind F := by
  rw [appS_def, appS_def]; exact appendK_bind ..
theorem copyK_bind (es : Nat) (d s : AV) (h : Heap) (G : AV → Heap → Option R) (F : R → Option S) : (copyK es d s h G).bind F = copyK es d s h fun v h => (G v h).bind F := by
  unfold copyK
  split
  · cases srcLen s with
    | none => rfl
    | some m =>
      simp only [srcK_bind, hgetK_bind]
      congr 1; funext new; congr 1; funext o; cases o <;> simp only [needK_bind, eqK_bind, Option.bind_none]
  · cases srcLen s with
    | none => rfl
    | some m => simp only [srcK_bind, needK_bind]
  · rfl
theorem minmaxK_bind (mx : Bool) (l : List AV) : ∀ (a : Int) (k : IntKind) (G : PV → Option R) (F : R → Option S), (minmaxK mx a k l G).bind F = minmaxK mx a k l fun v => (G v).bind F := by
  induction l with
  | nil => intro a k G F; rfl
  | cons x l ih =>
    intro a k G F
    cases x <;> (try rfl) <;> (rename_i p; cases p <;> (try rfl) <;> simp only [minmaxK, eqK_bind, ih])

theorem opK_bind (o : VOp) (r : Regs) (h : Heap) (G : AV → Heap → Option R) (F : R → Option S) : (opK o r h G).bind F = opK o r h fun v h => (G v h).bind F := by
  cases o
  case strOf x =>
    simp only [opK]
    split
    · rfl
    · split
      · simp only [srcK_bind, needK_bind, bindK_bind]
      · rfl
  case strOfP x =>
    simp only [opK]
    split
    · simp only [needK_bind, bindK_bind]
    · simp only [needK_bind, bindK_bind]
    · rfl
  case build => simp only [opK]; split <;> split <;> rfl
  case appendZ mu _ _ _ _ _ =>
    simp only [opK]
    split
    · cases mu
      · simp only [needK_bind, eqK_bind, appS_bind]
      · simp only
        split
        · simp only [needK_bind]
        · rfl
    · rfl
  case capS =>
    simp only [opK]
    split
    · simp only [cond_bind, Option.bind_none]
    · rfl
  case buildSlice mu _ _ _ _ =>
    cases mu
    · simp only [opK]; split <;> (try rfl); split <;> rfl
    · simp only [opK]; split <;> split <;> rfl
  case mkFn => simp only [opK]; split <;> rfl
  case idxA1 => 
    simp only [opK]
    split
    · simp only [idxK_bind, getK_bind]
    · simp only [idxK_bind]
      congr 1; funext j; split <;> rfl
    · rfl
  case field1 => 
    simp only [opK]
    split
    · simp only [getK_bind]
    · split <;> rfl
    · rfl
  case settle =>
    simp only [opK]
    split
    · rfl
    · rfl
    · rw [hgetK_bind]
      congr 1; funext o; cases o <;> simp only [secK_bind, Option.bind_none]
    · rfl
  case freeze =>
    simp only [opK]
    split
    · rw [hgetK_bind]
      congr 1; funext o; cases o <;> simp only [needK_bind, Option.bind_none]
    · rfl
  case extract =>
    simp only [opK]
    split
    · split <;> rfl
    · split <;> rfl
    · rfl
  case toArr =>
    simp only [opK]
    split
    · split <;> simp only [needK_bind, Option.bind_none]
    · simp only [needK_bind]
    · simp only [needK_bind]
    · rfl
  all_goals
    simp only [opK, load1K_bind, loadNK_bind, store1K_bind, storeNK_bind, binK_bind, unK_bind, idxAddrSK_bind, sliceStrK_bind, sliceSK_bind, appS_bind, copyK_bind, cond_bind, Option.bind_none]
  all_goals
    try (split <;> simp only [eqK_bind, cond_bind, getK_bind, secK_bind, idxK_bind, boundK_bind, needK_bind, minmaxK_bind, Option.bind_none]; done)
  all_goals rfl
end
end Go.VM

namespace Go.VM
open Go

section
variable {Γ : Ctx} {base : Nat} {κ : K} {H H' : Heap} {w : World} {o : Oper} {a : Act} {v : AV} {r : Regs}

theorem map_some {α β : Type} {x : Option α} {f : α → β} {y : β} (h : x.map f = some y) : ∃ a, x = some a ∧ f a = y := by
  cases x with
  | none => cases h
  | some a => exact ⟨a, rfl, by simpa using h⟩

/-! ### plain values out of others -/
theorem down1_rel {κ : K} {a : AV} {p : PV} {v : Value} (hd : down1 a = some p) (h : VRel κ a v) : PRel κ.imm p v := by
  unfold down1 at hd
  split at hd
  · injection hd with hd; subst hd; cases h with | pv _ _ h => exact h
  · injection hd with hd; subst hd; exact tsl_plain h
  · cases hd
theorem downL_rel {κ : K} : ∀ {l : List AV} {ps : List PV} {vs : List Value}, downL l = some ps → VRels κ l vs → PRels κ.imm ps vs := by
  intro l
  induction l with
  | nil => intro ps vs hd h; simp [downL] at hd; subst hd; cases h; exact .nil
  | cons a l ih =>
    intro ps vs hd h
    simp only [downL] at hd
    split at hd
    · rename_i p qs h1 h2
      injection hd with hd; subst hd
      cases h with | cons _ v _ vs g1 g2 => exact .cons _ _ _ _ (down1_rel h1 g1) (ih h2 g2)
    · cases hd
theorem down2_rel {κ : K} {a : AV} {p : PV} {v : Value} (hd : down2 a = some p) (h : VRel κ a v) : PRel κ.imm p v := by
  unfold down2 at hd
  split at hd
  · injection hd with hd; subst hd; cases h with | pv _ _ h => exact h
  · injection hd with hd; subst hd; exact tsl_plain h
  · rename_i l
    obtain ⟨ps, h1, rfl⟩ := map_some hd
    cases h with | agg _ vs g1 g2 => exact .agg _ _ (downL_rel h1 g1) g2
  · cases hd
theorem partsDown_rel {κ : K} {place : Nat → Option (Nat × Nat)} : ∀ {l : List (Nat × Nat × AV)} {m : List (Nat × Value)} {ps : List (Nat × Nat × PV)}, partsDown l = some ps → PartsRel κ place l m → PartsRel κ place (ps.map fun (o, n, p) => (o, n, AV.pv p)) m ∧ (∀ most, (∀ p ∈ l, p.1 + p.2.1 ≤ most) → ∀ p ∈ ps, p.1 + p.2.1 ≤ most) := by
  intro l
  induction l with
  | nil => intro m ps h hp; simp [partsDown] at h; subst h; cases hp; exact ⟨.nil, fun _ _ p hp => by cases hp⟩
  | cons q l ih =>
    intro m ps h hp
    obtain ⟨o, n, a⟩ := q
    simp only [partsDown] at h
    split at h
    · rename_i p qs h1 h2
      injection h with h; subst h
      cases hp with
      | cons i _ _ _ v _ m h3 h4 h5 =>
        obtain ⟨g1, g2⟩ := ih h2 h5
        refine ⟨.cons i _ _ _ v _ _ h3 (.pv _ _ (down2_rel h1 h4)) g1, fun most hm x hx => ?_⟩
        rcases List.mem_cons.1 hx with e | e
        · subst e; exact hm (o, n, a) (by simp)
        · exact g2 most (fun y hy => hm y (by simp [hy])) x e
    · cases h

theorem RunOK.op {s : Sem Value} (he : execOp a.eval o = (do pure (Next.value (← s)))) (h : RunOK Γ base κ H w s v H') : OpOK Γ base κ H w o a v H' := by
  obtain ⟨v', κ', w', h1, h2, h3, h4⟩ := h
  refine ⟨.value v', v', κ', w', ?_, .inl rfl, h2, h3, h4⟩
  rw [he]
  simp [h1]

theorem bind_pair {α : Type} {x : Option α} {f : α → AV × Heap} {y : AV × Heap} (h : x.bind (fun p => some (f p)) = some y) : ∃ p, x = some p ∧ f p = y := by
  cases x with
  | none => cases h
  | some p => exact ⟨p, rfl, by simpa using h⟩

/-- One value, and the heap as it was. -/
theorem RunOK.keep {s : Sem Value} (hs : SRel Γ base κ H w) {x : Option AV} (he : x.bind (fun v => some (v, H)) = some (v, H'))
    (h : x = some v → ∃ v', s.run Γ.P w = .ok v' w ∧ VRel κ v v') : RunOK Γ base κ H w s v H' := by
  obtain ⟨p, h1, h2⟩ := bind_pair he
  injection h2 with h2 h3; subst h2; subst h3
  exact RunOK.same hs (h h1)

theorem opt_ORel {κ : K} {r : Regs} {a : Act} (hr : RRel κ r a) {x : Option Operand} {y : Option Opd} (h : compOpt x = some y) : ORel κ (y.map (Opd.ev r)) (x.map a.eval) := by
  rcases opt_rel hr h with ⟨rfl, rfl⟩ | ⟨u, v, rfl, rfl, hv⟩
  · trivial
  · exact hv

theorem parts_bound {r : Regs} {most : Nat} {ps : List (Nat × Nat × Opd)} (h : ∀ p ∈ ps, p.1 + p.2.1 ≤ most) : ∀ p ∈ ps.map (fun (o, n, x) => (o, n, x.ev r)), p.1 + p.2.1 ≤ most := by
  intro p hp
  obtain ⟨q, hq, rfl⟩ := List.mem_map.1 hp
  exact h q hq
theorem parts_bound' {most : Nat} {ps : List (Nat × Nat × PV)} (h : ∀ p ∈ ps.map (fun (o, n, x) => (o, n, AV.pv x)), p.1 + p.2.1 ≤ most) : ∀ p ∈ ps, p.1 + p.2.1 ≤ most := by
  intro p hp
  exact h _ (List.mem_map.2 ⟨p, hp, rfl⟩)

/-- The cells that are filled, from plain parts or from any. -/
theorem fills {place : Nat → Option (Nat × Nat)} {r : Regs} {ps : List (Nat × Nat × Opd)} {m : List (Nat × Value)} {z : List PV} {cells : List Value}
    (hp : PartsRel κ place (ps.map fun (o, n, x) => (o, n, x.ev r)) m) (hb : ∀ p ∈ ps, p.1 + p.2.1 ≤ z.length) (hz : PRels κ.imm z cells) (h1 : Ones cells) :
    (∀ qs l, partsPV (ps.map fun (o, n, x) => (o, n, x.ev r)) = some qs → fill z qs = some l → ∃ c, Instr.fill place cells.toArray m = some c.toArray ∧ PRels κ.imm l c ∧ Ones c ∧ l.length = z.length) ∧
    (∀ l, fillA (z.map .pv) (ps.map fun (o, n, x) => (o, n, x.ev r)) = some l → ∃ c, Instr.fill place cells.toArray m = some c.toArray ∧ VRels κ l c ∧ Ones c ∧ l.length = z.length) := by
  constructor
  · intro qs l hq hf
    have e := partsPV_eq hq
    have hb2 := parts_bound (r := r) hb
    rw [e] at hp hb2
    exact fill_rel qs m place z l cells hp (parts_bound' hb2) hz h1 hf
  · intro l hf
    have := fillA_rel (ps.map fun (o, n, x) => (o, n, x.ev r)) m place (z.map .pv) l cells hp (by rw [List.length_map]; exact parts_bound hb) (VRels.of_pv hz) h1 hf
    simpa using this

theorem run_places (P : Program) (w : World) : ∀ (fs : List Field), (∀ f ∈ fs, (sizeT P f.type).isSome = true) →
    (fs.mapM (fun f : Field => (do pure (f.offset, ← sizeOf f.type) : Sem (Nat × Nat)))).run P w = .ok (fs.map fun f => (f.offset, (sizeT P f.type).getD 0)) w := by
  intro fs
  induction fs with
  | nil => intro _; rfl
  | cons f fs ih =>
    intro h
    obtain ⟨n, hn⟩ := Option.isSome_iff_exists.1 (h f (by simp))
    rw [List.mapM_cons]
    simp only [Sem.run_bind, run_sizeOf' hn, Result.andThen_ok, Sem.run_pure, ih (fun g hg => h g (by simp [hg])), List.map_cons, hn, Option.getD_some]

theorem build_run {t : TypeId} {z : List PV} (hz : zeroT Γ.P t = some z) {parts : List (Nat × Value)} (place : Nat → Option (Nat × Nat)) {c : List Value}
    (hpl : (∃ fs, Γ.P.underlying t = some (.struct fs) ∧ (∀ f ∈ fs.toList, (sizeT Γ.P f.type).isSome = true) ∧ place = structPlace Γ.P fs.toList) ∨
      (∃ n e m, Γ.P.underlying t = some (.array n e) ∧ sizeT Γ.P e = some m ∧ place = fun i => some (i * m, m)))
    (hf : ∀ i zv, Γ.P.info? t = some i → i.zero = some zv → Instr.fill place zv.cells.toList.toArray parts = some c.toArray) : (Instr.build t parts.toArray).run Γ.P w = .ok (.agg c.toArray) w := by
  obtain ⟨i, zv, hi, hzz, _, _, _⟩ := zeroT_rel (Γ := Γ) (κ := ⟨fun _ => none, fun _ => none, fun _ _ => none⟩) hz
  have hf := hf i zv hi hzz
  simp only [Array.toArray_toList] at hf
  rcases hpl with ⟨fs, hu, hall, rfl⟩ | ⟨n, e, m, hu, hm, rfl⟩
  · have hpm : (fs.mapM (fun f : Field => (do pure (f.offset, ← sizeOf f.type) : Sem (Nat × Nat)))).run Γ.P w = .ok (fs.map fun f => (f.offset, (sizeT Γ.P f.type).getD 0)) w := by
      rw [Array.mapM_eq_mapM_toList]
      have := run_places Γ.P w fs.toList hall
      rw [Sem.run_map, this, Result.andThen_ok]
      congr 1
      apply Array.ext'
      simp
    have hpe : (fun i => (fs.map fun f => (f.offset, (sizeT Γ.P f.type).getD 0))[i]?) = structPlace Γ.P fs.toList := by
      funext j
      unfold structPlace
      rw [Array.getElem?_map, ← Array.getElem?_toList]
      cases hj : fs.toList[j]? with
      | none => rfl
      | some f =>
        obtain ⟨n, hn⟩ := Option.isSome_iff_exists.1 (hall f (List.mem_of_getElem? hj))
        simp [hn]
    simp only [Instr.build, Sem.run_bind, run_zeroValue' hi hzz, Result.andThen_ok, run_underlying hu]
    simp only [hpm, Result.andThen_ok]
    rw [hpe, hf]
    rfl
  · simp only [Instr.build, Sem.run_bind, run_zeroValue' hi hzz, Result.andThen_ok, run_underlying hu, run_sizeOf' hm]
    rw [hf]
    rfl

theorem as_some {α : Type} {x : Option α} {F : α → Option (AV × Heap)} {y : AV × Heap} (h : x.bind F = some y) : ∃ p, x = some p ∧ F p = some y := by
  cases x with
  | none => cases h
  | some p => exact ⟨p, rfl, h⟩

theorem op_move (hs : SRel Γ base κ H w) (hr : RRel κ r a) {x : Operand} {y : Opd} (hy : compOpd x = some y) (hop : execOp a.eval o = pure (.value (a.eval x))) (he : opK (.mov y) r H (fun v h => some (v, h)) = some (v, H')) :
    OpOK Γ base κ H w o a v H' := by
  simp only [opK] at he
  injection he with he; injection he with h1 h2; subst h1; subst h2
  exact OpOK.same hs (by rw [hop]; rfl) (opd_rel hr hy)

theorem op_pick (hs : SRel Γ base κ H w) (hr : RRel κ r a) {c x y : Operand} {c' x' y' : Opd} (hc : compOpd c = some c') (hx : compOpd x = some x') (hy : compOpd y = some y') (hop : o.op = .pick c x y)
    (he : opK (.pick c' x' y') r H (fun v h => some (v, h)) = some (v, H')) : OpOK Γ base κ H w o a v H' := by
  simp only [opK] at he
  have h1 := opd_rel hr hc
  split at he
  · rename_i b hb
    rw [hb] at h1
    have hcv := bool_rel h1
    cases b with
    | true =>
      simp only [cond_true] at he
      injection he with he; injection he with e1 e2; subst e1; subst e2
      exact OpOK.same hs (by simp [execOp, hop, hcv, asBool]) (opd_rel hr hx)
    | false =>
      simp only [cond_false] at he
      injection he with he; injection he with e1 e2; subst e1; subst e2
      exact OpOK.same hs (by simp [execOp, hop, hcv, asBool]) (opd_rel hr hy)
  · cases he

theorem op_alloc (hs : SRel Γ base κ H w) {t : TypeId} {z : List PV} (hz : zeroT Γ.P t = some z) (hop : o.op = .alloc t)
    (he : opK (.alloc z) r H (fun v h => some (v, h)) = some (v, H')) : OpOK Γ base κ H w o a v H' := by
  simp only [opK] at he
  injection he with he; injection he with e1 e2; subst e1; subst e2
  obtain ⟨i, zv, hi, hzz, hzr, hz1, _⟩ := zeroT_rel (Γ := Γ) (κ := κ) hz
  have := hs.newP z zv.cells.toList [] t hzr hz1
  simp only [List.append_nil, Array.toArray_toList] at this
  refine RunOK.op (s := Instr.alloc t true (.tuple #[])) (by simp only [execOp, hop]) ⟨.pointer (some ⟨w.heap.size, 0, none⟩), _, _, ?_, .ptr _ _ _ (K.at_same _ _ _), this.1, this.2⟩
  simp [Instr.alloc, run_zeroValue' hi hzz, newVar, run_newRow']

theorem op_box (hs : SRel Γ base κ H w) (hr : RRel κ r a) {t : TypeId} {x : Operand} {y : Opd} (hy : compOpd x = some y) (hop : o.op = .box t x)
    (he : opK (.box y) r H (fun v h => some (v, h)) = some (v, H')) : OpOK Γ base κ H w o a v H' := by
  simp only [opK] at he
  have hv := opd_rel hr hy
  cases hb : boxOf (y.ev r) with
  | none => rw [hb] at he; cases he
  | some ob =>
    rw [hb] at he; simp only at he
    injection he with he; injection he with e1 e2; subst e1; subst e2
    have hrun : (Instr.box t (a.eval x)).run Γ.P w = .ok (.pointer (some ⟨w.heap.size, 0, none⟩)) (w.alloc (.cells (a.eval x).cells t)) := by
      simp [Instr.box, newVar, run_newRow']
    have fin : SRel Γ base (κ.at H.length w.heap.size) (H ++ [ob]) (w.alloc (.cells (a.eval x).cells t)) ∧ Grow κ H w (κ.at H.length w.heap.size) (H ++ [ob]) (w.alloc (.cells (a.eval x).cells t)) := by
      have plain : ∀ ps, ob = .pcells ps → PRels κ.imm ps (a.eval x).cells.toList → Ones (a.eval x).cells.toList → SRel Γ base (κ.at H.length w.heap.size) (H ++ [ob]) (w.alloc (.cells (a.eval x).cells t)) ∧ Grow κ H w (κ.at H.length w.heap.size) (H ++ [ob]) (w.alloc (.cells (a.eval x).cells t)) := by
        intro ps e h1 h2
        subst e
        have := hs.newP ps (a.eval x).cells.toList [] t h1 h2
        simpa using this
      have any : ∀ ps, ob = .cells ps → VRels κ ps (a.eval x).cells.toList → Ones (a.eval x).cells.toList → SRel Γ base (κ.at H.length w.heap.size) (H ++ [ob]) (w.alloc (.cells (a.eval x).cells t)) ∧ Grow κ H w (κ.at H.length w.heap.size) (H ++ [ob]) (w.alloc (.cells (a.eval x).cells t)) := by
        intro ps e h1 h2
        subst e
        have := hs.newC ps (a.eval x).cells.toList [] t h1 h2
        simpa using this
      generalize y.ev r = u at hv hb
      have hnt : u.isTup = false := by
        cases u with
        | pv p => cases p <;> first | rfl | simp [boxOf] at hb
        | tup => simp [boxOf] at hb
        | _ => rfl
      obtain ⟨g1, g2⟩ := cellsOf_rel hv hnt
      cases u with
      | pv p =>
        cases p with
        | agg ps =>
          simp only [boxOf] at hb
          injection hb with hb
          exact plain ps hb.symm (VRels.to_pv g1) g2
        | tup => simp [boxOf] at hb
        | _ =>
          simp only [boxOf] at hb
          injection hb with hb
          exact plain _ hb.symm (VRels.to_pv g1) g2
      | agg cs =>
        simp only [boxOf] at hb
        injection hb with hb
        exact any cs hb.symm g1 g2
      | tup => simp [boxOf] at hb
      | _ =>
        simp only [boxOf] at hb
        injection hb with hb
        exact any _ hb.symm g1 g2
    exact RunOK.op (s := Instr.box t (a.eval x)) (by simp only [execOp, hop]) ⟨_, _, _, hrun, .ptr _ _ _ (K.at_same _ _ _), fin.1, fin.2⟩

theorem op_build (hs : SRel Γ base κ H w) (hr : RRel κ r a) {t : TypeId} {z : List PV} (hz : zeroT Γ.P t = some z) {parts : Array (Nat × Operand)} {ps : List (Nat × Nat × Opd)} (place : Nat → Option (Nat × Nat))
    (hpl : (∃ fs, Γ.P.underlying t = some (.struct fs) ∧ (∀ f ∈ fs.toList, (sizeT Γ.P f.type).isSome = true) ∧ place = structPlace Γ.P fs.toList) ∨
      (∃ n e m, Γ.P.underlying t = some (.array n e) ∧ sizeT Γ.P e = some m ∧ place = fun i => some (i * m, m)))
    (hc : compParts place z.length parts.toList = some ps) (hop : o.op = .build t parts)
    (he : opK (.build z ps) r H (fun v h => some (v, h)) = some (v, H')) : OpOK Γ base κ H w o a v H' := by
  simp only [opK] at he
  obtain ⟨hp, hb⟩ := compParts_rel hr hc
  have hparts : (parts.map fun (i, x) => (i, a.eval x)) = (parts.toList.map fun (i, x) => (i, a.eval x)).toArray := by
    apply Array.ext'; simp
  have hrun : ∀ (c : List Value), (∀ i zv, Γ.P.info? t = some i → i.zero = some zv → Instr.fill place zv.cells.toList.toArray (parts.toList.map fun (i, x) => (i, a.eval x)) = some c.toArray) →
      (Instr.build t (parts.map fun (i, x) => (i, a.eval x))).run Γ.P w = .ok (.agg c.toArray) w := by
    intro c hf
    rw [hparts]
    exact build_run hz place hpl hf
  obtain ⟨i, zv, hi, hzz, hzr, hz1, _⟩ := zeroT_rel (Γ := Γ) (κ := κ) hz
  obtain ⟨f1, f2⟩ := fills hp hb hzr hz1
  have uniq : ∀ (c : List Value), Instr.fill place zv.cells.toList.toArray (parts.toList.map fun (i, x) => (i, a.eval x)) = some c.toArray → ∀ i' zv', Γ.P.info? t = some i' → i'.zero = some zv' →
      Instr.fill place zv'.cells.toList.toArray (parts.toList.map fun (i, x) => (i, a.eval x)) = some c.toArray := by
    intro c h i' zv' hi' hz'
    rw [hi] at hi'; injection hi' with hi'; subst hi'
    rw [hzz] at hz'; injection hz' with hz'; subst hz'
    exact h
  refine RunOK.op (s := Instr.build t (parts.map fun (i, x) => (i, a.eval x))) (by simp only [execOp, hop]) ?_
  cases hq : partsPV (ps.map fun (o, n, x) => (o, n, x.ev r)) with
  | some qs =>
    rw [hq] at he; simp only at he
    cases hl : fill z qs with
    | none => rw [hl] at he; cases he
    | some l =>
      rw [hl] at he; simp only at he
      injection he with he; injection he with e1 e2; subst e1; subst e2
      obtain ⟨c, h1, h2, h3, _⟩ := f1 qs l hq hl
      exact RunOK.same hs ⟨_, hrun c (uniq c h1), .pv _ _ (.agg _ _ h2 h3)⟩
  | none =>
    rw [hq] at he; simp only at he
    cases hl : fillA (z.map .pv) (ps.map fun (o, n, x) => (o, n, x.ev r)) with
    | none => rw [hl] at he; cases he
    | some l =>
      rw [hl] at he; simp only at he
      injection he with he; injection he with e1 e2; subst e1; subst e2
      obtain ⟨c, h1, h2, h3, _⟩ := f2 l hl
      exact RunOK.same hs ⟨_, hrun c (uniq c h1), .agg _ _ h2 h3⟩

theorem op_buildSlice (hs : SRel Γ base κ H w) (hr : RRel κ r a) {t e : TypeId} (ht : Γ.P.underlying t = some (.slice e)) {z : List PV} (hz : zeroT Γ.P e = some z) {n len : Nat} (hn : sizeT Γ.P e = some n) (hl : len * n ≤ 16777216) (hn0 : 0 < n)
    {parts : Array (Nat × Operand)} {ps : List (Nat × Nat × Opd)} (hc : compParts (fun i => some (i * n, n)) (len * n) parts.toList = some ps) (hop : o.op = .buildSlice t len parts) {mu : Bool}
    (he : opK (.buildSlice mu n len (zerosOf z len) ps) r H (fun v h => some (v, h)) = some (v, H')) : OpOK Γ base κ H w o a v H' := by
  simp only [opK] at he
  obtain ⟨hp, hb⟩ := compParts_rel hr hc
  obtain ⟨i, zv, hi, hzz, hzr, hz1, hzl⟩ := zeroT_rel (Γ := Γ) (κ := κ) hz
  have hin : i.size = n := by simp [sizeT, hi] at hn; exact hn
  have hzs : zv.cells.toList.length = n := by rw [← hzr.length, hzl, hin]
  have hparts : (parts.map fun (i, x) => (i, a.eval x)).toList = parts.toList.map fun (i, x) => (i, a.eval x) := by simp
  have hzn : (zerosOf z len).length = len * n := by rw [zerosOf_flat]; simp [hzr.length, hzs]
  have hcells : ((Array.range (len * n)).map ((if len * n = 0 then (#[] : Array Value) else zv.cells)[· % (if len * n = 0 then (#[] : Array Value) else zv.cells).size]!)) = ((List.replicate len zv.cells.toList).flatten).toArray := by
    by_cases hz0 : len * n = 0
    · rw [hz0]
      apply Array.ext'
      have : (List.replicate len zv.cells.toList).flatten = [] := by
        apply List.eq_nil_of_length_eq_zero
        simp only [List.length_flatten, List.map_replicate, List.sum_replicate_nat, hzs]
        exact hz0
      rw [this]
      simp
    · simp only [hz0, if_false]
      apply Array.ext'
      have := zeros_cells zv.cells.toList len
      simp only [hzs, Array.toArray_toList] at this
      simpa using this
  have hrun : ∀ (c : List Value), Instr.fill (fun i => some (i * n, n)) ((List.replicate len zv.cells.toList).flatten).toArray (parts.toList.map fun (i, x) => (i, a.eval x)) = some c.toArray →
      (Instr.buildSlice t len (parts.map fun (i, x) => (i, a.eval x))).run Γ.P w = .ok (.slice (some ⟨w.heap.size, 0, none⟩) len len) (w.alloc (.cells c.toArray e)) := by
    intro c hf
    have hle : ¬ (len * n > 2 ^ 24) := by omega
    simp only [Instr.buildSlice, Sem.run_bind, run_underlying ht, Result.andThen_ok, run_sizeOf' hn, hle, if_false, hparts]
    by_cases hz0 : len * n = 0
    · simp only [hz0, if_true] at hcells ⊢
      simp only [Sem.run_bind, Sem.run_pure, Result.andThen_ok]
      rw [hcells, hf]
      rfl
    · simp only [hz0, if_false] at hcells ⊢
      simp only [Sem.run_bind, Sem.run_pure, Result.andThen_ok, run_zeroValue' hi hzz]
      rw [hcells, hf]
      rfl
  obtain ⟨f1, f2⟩ := fills (m := parts.toList.map fun (i, x) => (i, a.eval x)) (z := zerosOf z len) (cells := (List.replicate len zv.cells.toList).flatten) hp (by rw [hzn]; exact hb) (by rw [zerosOf_flat]; exact hzr.flat _) (hz1.flat _)
  refine RunOK.op (s := Instr.buildSlice t len (parts.map fun (i, x) => (i, a.eval x))) (by simp only [execOp, hop]) ?_
  cases mu with
  | true =>
    simp only at he
    cases hq : partsPV (ps.map fun (o, n, x) => (o, n, x.ev r)) with
    | some qs =>
      rw [hq] at he; simp only at he
      cases hlf : fill (zerosOf z len) qs with
      | none => rw [hlf] at he; cases he
      | some l =>
        rw [hlf] at he; simp only at he
        obtain ⟨c, h1, h2, h3, h4⟩ := f1 qs l hq hlf
        injection he with he; injection he with e1 e2; subst e1; subst e2
        have := hs.newP l c [] e h2 h3
        simp only [List.append_nil] at this
        exact ⟨_, _, _, hrun c h1, .hs _ _ _ _ _ w.heap.size len (K.at_same _ _ _) (Nat.le_refl _) (Nat.le_refl _), this.1, this.2⟩
    | none =>
      rw [hq] at he; simp only at he
      cases hlf : fillA ((zerosOf z len).map .pv) (ps.map fun (o, n, x) => (o, n, x.ev r)) with
      | none => rw [hlf] at he; cases he
      | some l =>
        rw [hlf] at he; simp only at he
        obtain ⟨c, h1, h2, h3, h4⟩ := f2 l hlf
        injection he with he; injection he with e1 e2; subst e1; subst e2
        have := hs.newC l c [] e h2 h3
        simp only [List.append_nil] at this
        exact ⟨_, _, _, hrun c h1, .hs _ _ _ _ _ w.heap.size len (K.at_same _ _ _) (Nat.le_refl _) (Nat.le_refl _), this.1, this.2⟩
  | false =>
    simp only at he
    cases hq : partsDown (ps.map fun (o, n, x) => (o, n, x.ev r)) with
    | none => rw [hq] at he; cases he
    | some qs =>
      rw [hq] at he; simp only at he
      cases hlf : fill (zerosOf z len) qs with
      | none => rw [hlf] at he; cases he
      | some l =>
        rw [hlf] at he; simp only at he
        obtain ⟨d1, d2⟩ := partsDown_rel hq hp
        obtain ⟨c, h1, h2, h3, h4⟩ := fill_rel qs _ _ (zerosOf z len) l _ d1 (d2 _ (by rw [hzn]; exact parts_bound hb)) (by rw [zerosOf_flat]; exact hzr.flat _) (hz1.flat _) hlf
        injection he with he; injection he with e1 e2; subst e1; subst e2
        obtain ⟨g1, g2, g3⟩ := hs.newRow c e (0, 0)
        exact ⟨_, _, _, hrun c h1, .pv _ _ (.sl _ _ _ _ _ c (by simp) (fun _ => rfl) (Nat.le_refl _) (h2.mono (κ.le_keep _ _ _).imm) g3 h3), g1, g2⟩
end
end Go.VM

namespace Go.VM
open Go

section
variable {Γ : Ctx} {base : Nat} {κ : K} {H H' : Heap} {w : World} {o : Oper} {a : Act} {v : AV} {r : Regs}

theorem keep_of {s : Sem Value} (hs : SRel Γ base κ H w) {G : (AV → Option (AV × Heap)) → Option (AV × Heap)} {x : Option AV} (hn : G (fun v => some (v, H)) = x.bind fun v => some (v, H))
    (he : G (fun v => some (v, H)) = some (v, H')) (h : x = some v → ∃ v', s.run Γ.P w = .ok v' w ∧ VRel κ v v') : RunOK Γ base κ H w s v H' := by
  rw [hn] at he
  exact RunOK.keep hs he h

theorem op_load1 (hs : SRel Γ base κ H w) (hr : RRel κ r a) {t : TypeId} {x : Operand} {y : Opd} (hy : compOpd x = some y) (ht : aggT Γ.P t = some false) (hop : o.op = .load t x)
    (he : opK (.load1 y) r H (fun v h => some (v, h)) = some (v, H')) : OpOK Γ base κ H w o a v H' := by
  simp only [opK] at he
  refine RunOK.op (s := Instr.loadAt t (a.eval x)) (by simp only [execOp, hop]) (RunOK.keep hs (x := load1K (y.ev r) H some) ?_ fun h => load1_rel hs (opd_rel hr hy) h ht)
  rw [load1K_bind]; exact he
theorem op_loadN (hs : SRel Γ base κ H w) (hr : RRel κ r a) {t : TypeId} {x : Operand} {y : Opd} (hy : compOpd x = some y) (ht : aggT Γ.P t = some true) {n : Nat} (hn : sizeT Γ.P t = some n) (hop : o.op = .load t x)
    (he : opK (.loadN n y) r H (fun v h => some (v, h)) = some (v, H')) : OpOK Γ base κ H w o a v H' := by
  simp only [opK] at he
  refine RunOK.op (s := Instr.loadAt t (a.eval x)) (by simp only [execOp, hop]) (RunOK.keep hs (x := loadNK n (y.ev r) H some) ?_ fun h => loadN_rel hs (opd_rel hr hy) h ht hn)
  rw [loadNK_bind]; exact he

theorem op_stored {t : TypeId} {x z : Operand} (hop : o.op = .store t x z) (h : ∃ w', (Instr.storeAt t (a.eval x) (a.eval z)).run Γ.P w = .ok () w' ∧ SRel Γ base κ H' w' ∧ Grow κ H w κ H' w') : OpOK Γ base κ H w o a undefV H' := by
  obtain ⟨w', h1, h2, h3⟩ := h
  refine ⟨.skip, undef, κ, w', ?_, .inr ⟨rfl, rfl⟩, undefV_rel _, h2, h3⟩
  simp [execOp, hop, h1]
theorem op_store1 (hs : SRel Γ base κ H w) (hr : RRel κ r a) {t : TypeId} {x z : Operand} {y u : Opd} (hy : compOpd x = some y) (hu : compOpd z = some u) (hn : sizeT Γ.P t = some 1) (hop : o.op = .store t x z)
    (he : opK (.store1 y u) r H (fun v h => some (v, h)) = some (v, H')) : OpOK Γ base κ H w o a v H' := by
  simp only [opK] at he
  have e : (store1K (y.ev r) (u.ev r) H some).bind (fun h => some (undefV, h)) = some (v, H') := by rw [store1K_bind]; exact he
  obtain ⟨p, h1, h2⟩ := bind_pair e
  injection h2 with h2 h3; subst h2; subst h3
  exact op_stored hop (store1_rel hs (opd_rel hr hy) (opd_rel hr hu) h1 hn)
theorem op_storeN (hs : SRel Γ base κ H w) (hr : RRel κ r a) {t : TypeId} {x z : Operand} {y u : Opd} {n : Nat} (hy : compOpd x = some y) (hu : compOpd z = some u) (hn : sizeT Γ.P t = some n) (hop : o.op = .store t x z)
    (he : opK (.storeN n y u) r H (fun v h => some (v, h)) = some (v, H')) : OpOK Γ base κ H w o a v H' := by
  simp only [opK] at he
  have e : (storeNK n (y.ev r) (u.ev r) H some).bind (fun h => some (undefV, h)) = some (v, H') := by rw [storeNK_bind]; exact he
  obtain ⟨p, h1, h2⟩ := bind_pair e
  injection h2 with h2 h3; subst h2; subst h3
  exact op_stored hop (storeN_rel hs (opd_rel hr hy) (opd_rel hr hu) h1 hn)

theorem op_nilCheck (hs : SRel Γ base κ H w) (hr : RRel κ r a) {x : Operand} {y : Opd} (hy : compOpd x = some y) (hop : o.op = .nilCheck x)
    (he : opK (.nilCheck y) r H (fun v h => some (v, h)) = some (v, H')) : OpOK Γ base κ H w o a v H' := by
  simp only [opK] at he
  have hv := opd_rel hr hy
  split at he
  · rename_i id off hy2
    rw [hy2] at hv
    injection he with he; injection he with e1 e2; subst e1; subst e2
    obtain ⟨p, hp⟩ := ptr_val hv
    exact OpOK.same hs (v' := a.eval x) (by simp [execOp, hop, hp]) hv
  · rename_i cs off hy2
    rw [hy2] at hv
    injection he with he; injection he with e1 e2; subst e1; subst e2
    obtain ⟨p, hp⟩ := rptr_val hv
    exact OpOK.same hs (v' := a.eval x) (by simp [execOp, hop, hp]) hv
  · cases he

theorem op_binOf (hs : SRel Γ base κ H w) (hr : RRel κ r a) {op : BinOp} {t u : TypeId} {x z : Operand} {y q : Opd} {k : BK} (hop : o.op = .binOp op t x z u)
    (he : opK (.bin k op y q) r H (fun v h => some (v, h)) = some (v, H'))
    (h : ∀ p, binK k op (y.ev r) (q.ev r) (fun p => some (AV.pv p)) = some p → ∃ v', (do eqGuard op t x z (a.eval x) (a.eval z); binOp op t (a.eval x) (a.eval z) : Sem Value).run Γ.P w = .ok v' w ∧ VRel κ p v') : OpOK Γ base κ H w o a v H' := by
  simp only [opK] at he
  refine RunOK.op (s := do eqGuard op t x z (a.eval x) (a.eval z); binOp op t (a.eval x) (a.eval z)) (by simp only [execOp, hop]) (RunOK.keep hs (x := binK k op (y.ev r) (q.ev r) fun p => some (AV.pv p)) ?_ fun h' => h v h')
  rw [binK_bind]; exact he

theorem op_binNum (hs : SRel Γ base κ H w) (hr : RRel κ r a) {op : BinOp} {t u : TypeId} {x z : Operand} {y q : Opd} (hy : compOpd x = some y) (hq : compOpd z = some q) (hop : o.op = .binOp op t x z u)
    (he : opK (.bin .num op y q) r H (fun v h => some (v, h)) = some (v, H')) : OpOK Γ base κ H w o a v H' := by
  refine op_binOf hs hr hop he fun p hp => ?_
  have h1 := opd_rel hr hy
  have h2 := opd_rel hr hq
  simp only [binK] at hp
  split at hp
  · rename_i k m hm
    split at hp
    · rename_i k' n hn
      rw [hm] at h1; rw [hn] at h2
      rw [int_rel h1, int_rel h2]
      have hg := eqGuard_plain (Γ := Γ) (w := w) (va := .int k m) (vb := .int k' n) (by simp) (by simp) op t x z
      cases hsh : isShift op with
      | true =>
        rw [hsh] at hp; simp only [cond_true] at hp
        obtain ⟨v', g1, g2⟩ := shift_rel (Γ := Γ) (w := w) (κ := κ) (k' := k') hp t
        exact ⟨v', by simp [hg, g1], g2⟩
      | false =>
        rw [hsh] at hp; simp only [cond_false] at hp
        cases hk : kindEq k k' with
        | false => rw [hk] at hp; cases hp
        | true =>
          rw [hk] at hp; simp only [cond_true] at hp
          have := kindEq_eq hk
          subst this
          obtain ⟨v', g1, g2⟩ := intBin_rel (Γ := Γ) (w := w) (κ := κ) hsh hp t
          exact ⟨v', by simp [hg, g1], g2⟩
    · cases hp
  · rename_i s hm
    split at hp
    · rename_i s2 hn
      rw [hm] at h1; rw [hn] at h2
      rw [str_rel h1, str_rel h2]
      have hg := eqGuard_plain (Γ := Γ) (w := w) (va := .string s) (vb := .string s2) (by simp) (by simp) op t x z
      obtain ⟨v', g1, g2⟩ := strBin_rel (Γ := Γ) (w := w) (κ := κ) hp t
      exact ⟨v', by simp [hg, g1], g2⟩
    · cases hp
  · cases hp

theorem op_binBool (hs : SRel Γ base κ H w) (hr : RRel κ r a) {op : BinOp} {t u : TypeId} {x z : Operand} {y q : Opd} (hy : compOpd x = some y) (hq : compOpd z = some q) (ht : Γ.P.underlying t = some .bool) (hop : o.op = .binOp op t x z u)
    (he : opK (.bin .bool op y q) r H (fun v h => some (v, h)) = some (v, H')) : OpOK Γ base κ H w o a v H' := by
  refine op_binOf hs hr hop he fun p hp => ?_
  have h1 := opd_rel hr hy
  have h2 := opd_rel hr hq
  simp only [binK] at hp
  split at hp
  · rename_i m hm
    split at hp
    · rename_i n hn
      rw [hm] at h1; rw [hn] at h2
      rw [bool_rel h1, bool_rel h2]
      have hg := eqGuard_plain (Γ := Γ) (w := w) (va := .bool m) (vb := .bool n) (by simp) (by simp) op t x z
      obtain ⟨v', g1, g2⟩ := boolBin_rel (Γ := Γ) (w := w) (κ := κ) hp ht
      exact ⟨v', by simp [hg, g1], g2⟩
    · cases hp
  · cases hp

theorem op_binAgg (hs : SRel Γ base κ H w) (hr : RRel κ r a) {op : BinOp} {t u : TypeId} {x z : Operand} {y q : Opd} (hy : compOpd x = some y) (hq : compOpd z = some q) {sh : List SK} (hsh : shapeT Γ.P 20 t = some sh) (ha : aggT Γ.P t = some true)
    (hgd : Γ.P.eqGuardType Γ.P.depth t = false) (hop : o.op = .binOp op t x z u)
    (he : opK (.bin (.agg sh) op y q) r H (fun v h => some (v, h)) = some (v, H')) : OpOK Γ base κ H w o a v H' := by
  refine op_binOf hs hr hop he fun p hp => ?_
  have h1 := opd_rel hr hy
  have h2 := opd_rel hr hq
  simp only [binK] at hp
  split at hp
  · rename_i as hm
    split at hp
    · rename_i bs hn
      rw [hm] at h1; rw [hn] at h2
      have key : ∀ c, aggEq sh as bs = some c → (Op.equal t (a.eval x) (a.eval z)).run Γ.P w = .ok c w ∧ ∃ xs ys, a.eval x = .agg xs ∧ a.eval z = .agg ys := by
        intro c hc
        generalize a.eval x = vx at h1
        generalize a.eval z = vy at h2
        cases h1 with
        | pv _ _ h1 => cases h1 with
          | agg _ us g1 g2 => cases h2 with
            | pv _ _ h2 => cases h2 with
              | agg _ us2 g3 g4 =>
                have := (shapeT_ok (I := κ.imm) 20 t sh hsh (9999 + 1) (by omega)).1 w as bs us us2 (.agg us.toArray) (.agg us2.toArray) c g1 g3 hc (.inl ⟨ha, rfl⟩) (.inl ⟨ha, rfl⟩)
                exact ⟨by rw [equal_once]; exact this, _, _, rfl, rfl⟩
      cases hc : aggEq sh as bs with
      | none =>
        split at hp
        · rw [bindK_def, hc] at hp; cases hp
        · rw [bindK_def, hc] at hp; cases hp
        · cases hp
      | some c =>
        obtain ⟨k1, xs, ys, k2, k3⟩ := key c hc
        have hg : (eqGuard op t x z (a.eval x) (a.eval z)).run Γ.P w = .ok () w := by
          rw [k2, k3]
          simp only [eqGuard]
          split <;> simp [hgd]
        rw [k2, k3] at k1 hg ⊢
        split at hp
        · rw [bindK_def, hc] at hp
          simp only [Option.bind_some, boolK_def] at hp
          injection hp with hp; subst hp
          exact ⟨.bool c, by simp only [Sem.run_bind, hg, Result.andThen_ok]; simp [binOp, k1], .pv _ _ (.bool _)⟩
        · rw [bindK_def, hc] at hp
          simp only [Option.bind_some, boolK_def] at hp
          injection hp with hp; subst hp
          exact ⟨.bool !c, by simp only [Sem.run_bind, hg, Result.andThen_ok]; simp [binOp, k1], .pv _ _ (.bool _)⟩
        · cases hp
    · cases hp
  · cases hp

theorem op_binNil (hs : SRel Γ base κ H w) (hr : RRel κ r a) {op : BinOp} {t u : TypeId} {x z : Operand} {y q : Opd} (hy : compOpd x = some y) (hq : compOpd z = some q) {k : BK}
    (ht : (k = .ptr → ∃ e, Γ.P.underlying t = some (.pointer e)) ∧ (k = .sl → ∃ e, Γ.P.underlying t = some (.slice e)) ∧ (k = .map → ∃ e f, Γ.P.underlying t = some (.map e f)) ∧ (k = .fn → ∃ e f g, Γ.P.underlying t = some (.func e f g)))
    (hk : k = .ptr ∨ k = .sl ∨ k = .map ∨ k = .fn) (hop : o.op = .binOp op t x z u)
    (he : opK (.bin k op y q) r H (fun v h => some (v, h)) = some (v, H')) : OpOK Γ base κ H w o a v H' := by
  refine op_binOf hs hr hop he fun p hp => ?_
  have h1 := opd_rel hr hy
  have h2 := opd_rel hr hq
  have hp : nilBinK k op (y.ev r) (q.ev r) (fun p => some (AV.pv p)) = some p := by rcases hk with rfl | rfl | rfl | rfl <;> exact hp
  unfold nilBinK at hp
  split at hp
  · cases hc : nilEq k (y.ev r) (q.ev r) with
    | none => rw [hc] at hp; cases hp
    | some c =>
      rw [hc] at hp; simp only at hp
      injection hp with hp; subst hp
      obtain ⟨g1, g2, g3⟩ := nilEq_rel (Γ := Γ) (w := w) h1 h2 hc ht
      exact ⟨.bool c, by simp only [Sem.run_bind, g2, Result.andThen_ok, g3 .eql (.inl rfl)]; simp [g1], .pv _ _ (.bool _)⟩
  · cases hc : nilEq k (y.ev r) (q.ev r) with
    | none => rw [hc] at hp; cases hp
    | some c =>
      rw [hc] at hp; simp only at hp
      injection hp with hp; subst hp
      obtain ⟨g1, g2, g3⟩ := nilEq_rel (Γ := Γ) (w := w) h1 h2 hc ht
      exact ⟨.bool !c, by simp only [Sem.run_bind, g2, Result.andThen_ok, g3 .neq (.inr rfl)]; simp [g1], .pv _ _ (.bool _)⟩
  · cases hp

theorem op_un (hs : SRel Γ base κ H w) (hr : RRel κ r a) {op : UnOp} {t : TypeId} {x : Operand} {y : Opd} (hy : compOpd x = some y) (hop : o.op = .unOp op t x)
    (he : opK (.un op y) r H (fun v h => some (v, h)) = some (v, H')) : OpOK Γ base κ H w o a v H' := by
  simp only [opK] at he
  have h1 := opd_rel hr hy
  refine RunOK.op (s := Op.unary op (a.eval x)) (by simp only [execOp, hop]) (RunOK.keep hs (x := unK op (y.ev r) fun p => some (AV.pv p)) ?_ fun h => ?_)
  · rw [unK_bind]; exact he
  · unfold unK at h
    split at h
    · rename_i hm
      rw [hm] at h1; rw [int_rel h1]
      rw [eqK_def] at h
      injection h with h; subst h
      exact ⟨_, by simp [Op.unary, Op.intArith], .pv _ _ (.int _ _)⟩
    · rename_i hm
      rw [hm] at h1; rw [int_rel h1]
      rw [eqK_def] at h
      injection h with h; subst h
      exact ⟨_, by simp [Op.unary, Op.intBits], .pv _ _ (.int _ _)⟩
    · rename_i hm
      rw [hm] at h1; rw [bool_rel h1]
      injection h with h; subst h
      exact ⟨_, by simp [Op.unary], .pv _ _ (.bool _)⟩
    · cases h

theorem op_conv (hs : SRel Γ base κ H w) (hr : RRel κ r a) {s d : TypeId} {x : Operand} {y : Opd} (hy : compOpd x = some y) {ks k : IntKind} (hsrc : Γ.P.underlying s = some (.int ks)) (hd : Γ.P.underlying d = some (.int k)) (hop : o.op = .convert s d x)
    (he : opK (.conv k y) r H (fun v h => some (v, h)) = some (v, H')) : OpOK Γ base κ H w o a v H' := by
  simp only [opK] at he
  have h1 := opd_rel hr hy
  split at he
  · rename_i k' n hm
    rw [hm] at h1
    rw [eqK_def] at he
    injection he with he; injection he with e1 e2; subst e1; subst e2
    refine RunOK.op (s := convert s d (a.eval x)) (by simp only [execOp, hop]) (RunOK.same hs ⟨.int k (k.wrap n), ?_, .pv _ _ (.int _ _)⟩)
    rw [int_rel h1]
    simp [convert, run_underlying hsrc, run_underlying hd, Conv.intToInt]
  · cases he
theorem op_ident (hs : SRel Γ base κ H w) (hr : RRel κ r a) {s d : TypeId} {x : Operand} {y : Opd} (hy : compOpd x = some y) (hsrc : Γ.P.underlying s = some .string) (hd : Γ.P.underlying d = some .string) (hop : o.op = .convert s d x)
    (he : opK (.ident y) r H (fun v h => some (v, h)) = some (v, H')) : OpOK Γ base κ H w o a v H' := by
  simp only [opK] at he
  have h1 := opd_rel hr hy
  split at he
  · rename_i b hm
    rw [hm] at h1
    injection he with he; injection he with e1 e2; subst e1; subst e2
    refine RunOK.op (s := convert s d (a.eval x)) (by simp only [execOp, hop]) (RunOK.same hs ⟨.string b, ?_, .pv _ _ (.str _)⟩)
    rw [str_rel h1]
    simp [convert, run_underlying hsrc, run_underlying hd]
  · cases he
theorem op_bytesOf (hs : SRel Γ base κ H w) (hr : RRel κ r a) {s d e : TypeId} {x : Operand} {y : Opd} (hy : compOpd x = some y) (hsrc : Γ.P.underlying s = some .string) (hd : Γ.P.underlying d = some (.slice e)) (hde : Γ.P.underlying e = some (.int .u8)) (hop : o.op = .convert s d x)
    (he : opK (.bytesOf y) r H (fun v h => some (v, h)) = some (v, H')) : OpOK Γ base κ H w o a v H' := by
  simp only [opK] at he
  have h1 := opd_rel hr hy
  split at he
  · rename_i b hm
    rw [hm] at h1
    rw [eqK_def] at he
    injection he with he; injection he with e1 e2; subst e1; subst e2
    refine RunOK.op (s := convert s d (a.eval x)) (by simp only [execOp, hop]) ?_
    rw [str_rel h1]
    obtain ⟨v', κ', w', g1, g2, g3, g4⟩ := bytesOf_rel hs e b
    exact ⟨v', κ', w', by simp [convert, run_underlying hsrc, run_underlying hd, run_underlying hde, g1], g2, g3, g4⟩
  · cases he
theorem op_settle (hs : SRel Γ base κ H w) (hr : RRel κ r a) {x : Operand} {y : Opd} (hy : compOpd x = some y) (hop : execOp a.eval o = pure (.value (a.eval x))) (he : opK (.settle y) r H (fun v h => some (v, h)) = some (v, H')) :
    OpOK Γ base κ H w o a v H' := by
  simp only [opK] at he
  have h1 := opd_rel hr hy
  split at he
  · rename_i p hm
    injection he with he; injection he with e1 e2; subst e1; subst e2
    exact OpOK.same hs (by rw [hop]; rfl) (by rw [← hm]; exact h1)
  · rename_i n t cs hm
    injection he with he; injection he with e1 e2; subst e1; subst e2
    exact OpOK.same hs (by rw [hop]; rfl) (.pv _ _ (tsl_plain (by rw [hm] at h1; exact h1)))
  · rename_i es id off n cap hm
    rw [hm] at h1
    generalize hev : a.eval x = vx at h1
    cases h1 with
    | hs _ _ _ _ _ k cap' hl h2 h3 =>
      rw [hgetK_def] at he
      split at he
      · rename_i cs hg
        rw [secK_def] at he
        cases hc : Nat.ble (off + mulE n es) cs.length with
        | false => rw [hc] at he; cases he
        | true =>
          rw [hc] at he; simp only [cond_true] at he
          injection he with he; injection he with e1 e2; subst e1; subst e2
          obtain ⟨c, rest, e0, hw, hrel, hones, g1, g2, g3⟩ := hs.retire' hl hg
          refine RunOK.op (s := pure (a.eval x)) (by rw [hop]; rfl) ⟨.slice (some ⟨k, off, none⟩) n cap', _, _, by rw [hev]; rfl,
            .pv _ _ (.sl .nn n _ ⟨k, off, none⟩ cap' ((c.drop off).take (mulE n es)) (by simp) (by simp) (by omega) (((hrel.drop off).take _).mono (κ.le_keep _ _ _).imm) (fun j v hj => ?_) ((hones.drop _).take _)), g1, g2⟩
          rw [addr_add_lit']
          rw [List.getElem?_take] at hj
          split at hj
          · rw [List.getElem?_drop] at hj
            exact g3 _ _ hj
          · cases hj
      · cases he
  · cases he
theorem op_freeze (hs : SRel Γ base κ H w) (hr : RRel κ r a) {s d e' e : TypeId} {x : Operand} {y : Opd} (hy : compOpd x = some y) (hsrc : Γ.P.underlying s = some (.slice e')) (hd : Γ.P.underlying d = some (.slice e)) (hde : Γ.P.underlying e = some (.int .u8)) (hsd : s = d) (hop : o.op = .convert s d x)
    (he : opK (.freeze y) r H (fun v h => some (v, h)) = some (v, H')) : OpOK Γ base κ H w o a v H' := by
  simp only [opK] at he
  have h1 := opd_rel hr hy
  split at he
  · rename_i es id off n cap hm
    rw [hm] at h1
    generalize hev : a.eval x = vx at h1
    cases h1 with
    | hs _ _ _ _ _ k cap' hl h2 h3 =>
      rw [hgetK_def] at he
      split at he
      · rename_i cs hg
        have hq := needK_inv he
        clear he
        obtain ⟨hc, he⟩ := hq
        rw [Bool.and_eq_true] at hc
        have h0 := Nat.eq_of_beq_eq_true hc.1
        subst h0
        injection he with he; injection he with e1 e2; subst e1; subst e2
        obtain ⟨c, rest, e0, hw, hrel, hones, g1, g2, g3⟩ := hs.retire hl hg
        refine RunOK.op (s := convert s d (a.eval x)) (by simp only [execOp, hop]) ?_
        rw [hev]
        have hsh : w.shape? (⟨k, 0, none⟩ : Addr).block = some (e0, (c ++ rest).length) := by
          unfold World.shape?
          rw [hw]
          simp
        have hrun := run_markStringish Γ.P w ⟨k, 0, none⟩ hsh
        refine ⟨.slice (some ⟨k, 0, none⟩) n cap', _, _, ?_, .pv _ _ (.sl .nn n cs ⟨k, 0, none⟩ cap' c (by simp) (by simp) (by omega) (hrel.mono (κ.le_keep _ _ _).imm) (fun j v hj => ?_) hones), g1, g2⟩
        · subst hsd
          have hee : e' = e := by rw [hsrc] at hd; injection hd with hd; injection hd
          subst hee
          simp [-bind_pure_comp, convert, run_underlying hsrc, run_underlying hde, hrun]
        · rw [addr_add_lit]; exact g3 j v hj
      · cases he
  · cases he
theorem op_strOf (hs : SRel Γ base κ H w) (hr : RRel κ r a) {s d e : TypeId} {x : Operand} {y : Opd} (hy : compOpd x = some y) (hsrc : Γ.P.underlying s = some (.slice e)) (hd : Γ.P.underlying d = some .string) (hde : Γ.P.underlying e = some (.int .u8)) (hop : o.op = .convert s d x)
    (he : opK (.strOf y) r H (fun v h => some (v, h)) = some (v, H')) : OpOK Γ base κ H w o a v H' := by
  simp only [opK] at he
  have h1 := opd_rel hr hy
  split at he
  · cases he
  · rename_i hns
    cases hn : srcLen (y.ev r) with
    | none => rw [hn] at he; cases he
    | some n =>
      rw [hn] at he; simp only at he
      refine RunOK.op (s := convert s d (a.eval x)) (by simp only [execOp, hop]) (RunOK.keep hs (x := srcK H (y.ev r) fun cs => needK (Nat.beq cs.length n) (bindK (strOfCells cs) fun l => some (AV.pv (.str ⟨l.toArray⟩)))) ?_ fun h => ?_)
      · rw [srcK_bind]; simp only [needK_bind, bindK_bind]; exact he
      · have hq := srcK_inv hs h1 hn h
        obtain ⟨new, news, _, hsrc', _⟩ := hq
        obtain ⟨v', g1, g2⟩ := strOf_rel hs h1 (fun s hs' => hns s hs') hn h
        refine ⟨v', ?_, g2⟩
        rcases hsrc'.form with ⟨b, hb, _, _⟩ | ⟨hb, _, _⟩ | ⟨p, c, hb, _⟩
        · exfalso
          rw [hb] at h1
          generalize y.ev r = u at h1 hns
          cases h1 with | pv p _ hp => cases hp with | str s => exact hns _ rfl
        · rw [hb] at g1 ⊢
          simpa [convert, run_underlying hsrc, run_underlying hd, run_underlying hde] using g1
        · rw [hb] at g1 ⊢
          simpa [convert, run_underlying hsrc, run_underlying hd, run_underlying hde] using g1

theorem op_strOfP (hs : SRel Γ base κ H w) (hr : RRel κ r a) {s d e : TypeId} {x : Operand} {y : Opd} (hy : compOpd x = some y) (hsrc : Γ.P.underlying s = some (.slice e)) (hd : Γ.P.underlying d = some .string) (hde : Γ.P.underlying e = some (.int .u8)) (hop : o.op = .convert s d x)
    (he : opK (.strOfP y) r H (fun v h => some (v, h)) = some (v, H')) : OpOK Γ base κ H w o a v H' := by
  refine op_strOf hs hr hy hsrc hd hde hop ?_
  simp only [opK] at he ⊢
  split at he
  · rename_i h; rw [h]; exact he
  · rename_i h; rw [h]; exact he
  · cases he

theorem op_fieldAddr (hs : SRel Γ base κ H w) (hr : RRel κ r a) {t : TypeId} {x : Operand} {y : Opd} (hy : compOpd x = some y) {fs : Array Field} (ht : Γ.P.underlying t = some (.struct fs)) {i : Nat} {f : Field} (hf : fs.toList[i]? = some f)
    {n : Nat} (hn : sizeT Γ.P f.type = some n) (hn0 : Nat.beq n 0 = false) (hop : o.op = .fieldAddr t x i)
    (he : opK (.fieldAddr f.offset y) r H (fun v h => some (v, h)) = some (v, H')) : OpOK Γ base κ H w o a v H' := by
  simp only [opK, addO_eq] at he
  have h1 := opd_rel hr hy
  have hf' : fs[i]? = some f := by rw [← Array.getElem?_toList]; exact hf
  have hz : n ≠ 0 := fun e => by subst e; simp at hn0
  have hrun : ∀ ad : Addr, a.eval x = .pointer (some ad) → (Instr.fieldAt t (a.eval x) i).run Γ.P w = .ok (.pointer (some (ad.add f.offset))) w := by
    intro ad e
    rw [e]
    simp [Instr.fieldAt, run_underlying ht, hf', Instr.sureAddr, fieldPlace, run_sizeOf' hn, hz]
  split at he
  · rename_i id off hm
    rw [hm] at h1
    injection he with he; injection he with e1 e2; subst e1; subst e2
    refine RunOK.op (s := Instr.fieldAt t (a.eval x) i) (by simp only [execOp, hop]) (RunOK.same hs ?_)
    generalize a.eval x = vx at h1 hrun
    cases h1 with
    | ptr _ _ k hl => exact ⟨_, hrun _ rfl, by rw [addr_add_lit']; exact .ptr _ _ _ hl⟩
  · rename_i cs off hm
    rw [hm] at h1
    injection he with he; injection he with e1 e2; subst e1; subst e2
    refine RunOK.op (s := Instr.fieldAt t (a.eval x) i) (by simp only [execOp, hop]) (RunOK.same hs ?_)
    generalize a.eval x = vx at h1 hrun
    cases h1 with
    | rptr _ _ ad vs g1 g2 g3 => exact ⟨_, hrun _ rfl, by rw [addr_add_add]; exact .rptr _ _ _ vs g1 g2 g3⟩
  · cases he

theorem run_part1 {t : TypeId} (ht : aggT Γ.P t = some false) {cs : List Value} {off : Nat} {u : Value} (h : cs[off]? = some u) : (part t cs.toArray off).run Γ.P w = .ok u w := by
  simp [part, run_isAgg' ht, h]
theorem run_partN {t : TypeId} (ht : aggT Γ.P t = some true) {cs : List Value} {off n : Nat} (hn : sizeT Γ.P t = some n) : (part t cs.toArray off).run Γ.P w = .ok (.agg ((cs.drop off).take n).toArray) w := by
  simp [part, run_isAgg' ht, run_sizeOf' hn]

theorem op_field1 (hs : SRel Γ base κ H w) (hr : RRel κ r a) {t : TypeId} {x : Operand} {y : Opd} (hy : compOpd x = some y) {fs : Array Field} (ht : Γ.P.underlying t = some (.struct fs)) {i : Nat} {f : Field} (hf : fs.toList[i]? = some f)
    (hg : aggT Γ.P f.type = some false) (hop : o.op = .field t x i)
    (he : opK (.field1 f.offset y) r H (fun v h => some (v, h)) = some (v, H')) : OpOK Γ base κ H w o a v H' := by
  simp only [opK] at he
  have h1 := opd_rel hr hy
  have hf' : fs[i]? = some f := by rw [← Array.getElem?_toList]; exact hf
  have hrun : ∀ (cs : List Value) u, a.eval x = .agg cs.toArray → cs[f.offset]? = some u → (Instr.field t (a.eval x) i).run Γ.P w = .ok u w := by
    intro cs u e hu
    rw [e]
    simp only [Instr.field, Sem.run_bind, run_underlying ht, Result.andThen_ok, hf', asAgg, Sem.run_pure]
    exact run_part1 hg hu
  refine RunOK.op (s := Instr.field t (a.eval x) i) (by simp only [execOp, hop]) ?_
  generalize a.eval x = vx at h1 hrun
  split at he
  · rename_i cs hm
    rw [hm] at h1
    rw [getK_def] at he
    obtain ⟨p, hp, he⟩ := as_some he
    injection he with he; injection he with e1 e2; subst e1; subst e2
    cases h1 with
    | pv _ _ h1 => cases h1 with
      | agg _ us g1 g2 =>
        obtain ⟨u, hu, hr'⟩ := g1.get hp
        exact RunOK.same hs ⟨u, hrun us u rfl hu, .pv _ _ hr'⟩
  · rename_i cs hm
    rw [hm] at h1
    cases hp : lget cs f.offset with
    | none => rw [hp] at he; cases he
    | some p =>
      rw [hp] at he; simp only at he
      injection he with he; injection he with e1 e2; subst e1; subst e2
      cases h1 with
      | agg _ us g1 g2 =>
        obtain ⟨u, hu, hr'⟩ := g1.get hp
        exact RunOK.same hs ⟨u, hrun us u rfl hu, hr'⟩
  · cases he
theorem op_fieldN (hs : SRel Γ base κ H w) (hr : RRel κ r a) {t : TypeId} {x : Operand} {y : Opd} (hy : compOpd x = some y) {fs : Array Field} (ht : Γ.P.underlying t = some (.struct fs)) {i : Nat} {f : Field} (hf : fs.toList[i]? = some f)
    {n : Nat} (hn : sizeT Γ.P f.type = some n) (hg : aggT Γ.P f.type = some true) (hop : o.op = .field t x i)
    (he : opK (.fieldN f.offset n y) r H (fun v h => some (v, h)) = some (v, H')) : OpOK Γ base κ H w o a v H' := by
  simp only [opK] at he
  have h1 := opd_rel hr hy
  have hf' : fs[i]? = some f := by rw [← Array.getElem?_toList]; exact hf
  have hrun : ∀ (cs : List Value), a.eval x = .agg cs.toArray → (Instr.field t (a.eval x) i).run Γ.P w = .ok (.agg ((cs.drop f.offset).take n).toArray) w := by
    intro cs e
    rw [e]
    simp only [Instr.field, Sem.run_bind, run_underlying ht, Result.andThen_ok, hf', asAgg, Sem.run_pure]
    exact run_partN hg hn
  refine RunOK.op (s := Instr.field t (a.eval x) i) (by simp only [execOp, hop]) ?_
  generalize a.eval x = vx at h1 hrun
  split at he
  · rename_i cs hm
    rw [hm] at h1
    rw [secK_def] at he
    cases hb : Nat.ble (f.offset + n) cs.length with
    | false => rw [hb] at he; cases he
    | true =>
      rw [hb] at he; simp only [cond_true] at he
      injection he with he; injection he with e1 e2; subst e1; subst e2
      cases h1 with
      | pv _ _ h1 => cases h1 with
        | agg _ us g1 g2 => exact RunOK.same hs ⟨_, hrun us rfl, .pv _ _ (.agg _ _ ((g1.drop _).take _) ((g2.drop _).take _))⟩
  · rename_i cs hm
    rw [hm] at h1
    cases hb : Nat.ble (f.offset + n) cs.length with
    | false => rw [hb] at he; cases he
    | true =>
      rw [hb] at he; simp only [cond_true] at he
      injection he with he; injection he with e1 e2; subst e1; subst e2
      cases h1 with
      | agg _ us g1 g2 => exact RunOK.same hs ⟨_, hrun us rfl, mkAgg_rel ((g1.drop _).take _) ((g2.drop _).take _)⟩
  · cases he
end
end Go.VM
