/-
  Part 5 of an abstract machine that answers as the model does.
  Copying, making, bytes and strings, arrays' parts, the least and the most.
  A continuation may be carried out later.
-/
import Derived.Test.YtkkpkoekbmgabaaV4
import Derived.MapKept
import Derived.RangeFuncRecord
set_option linter.all false
set_option linter.unusedVariables false
set_option linter.unusedSimpArgs false
set_option linter.unusedSectionVars false
namespace Go.VM
open Go

section
variable {Γ : Ctx} {base : Nat} {κ : K} {H : Heap} {w : World}

theorem SRel.newRow' (h : SRel Γ base κ H w) {w' : World} (hsame : Same w w') (hold : ∀ k, k < w.heap.size → w'.heap[k]? = w.heap[k]?) (c : List Value) {e : TypeId} {fr : Nat × Nat} (hnew : w'.heap[w.heap.size]? = some (.cells c.toArray e fr)) :
    SRel Γ base (κ.keep w.heap.size c.length c) H w' ∧ Grow κ H w (κ.keep w.heap.size c.length c) H w' ∧
      ∀ (j : Nat) (v : Value), c[j]? = some v → (κ.keep w.heap.size c.length c).imm ((⟨w.heap.size, 0, none⟩ : Addr).add j) = some v := by
  have hg := h.turnNone (κ' := κ.keep w.heap.size c.length c) hsame (κ.le_keep _ _ _) rfl rfl hold (fun a v hv => by
    rcases K.keep_some hv with h1 | ⟨h1, h2, _, h4⟩
    · exact .inl h1
    · refine .inr ⟨by omega, ?_⟩
      unfold World.cell?
      rw [h1, hnew]
      simp [h2, h4])
  refine ⟨hg.1, hg.2, fun j v hv => ?_⟩
  rw [addr_add_lit]
  exact K.keep_at (h.imm_none _ (by simp)) (List.getElem?_eq_some_iff.1 hv).1 hv

theorem freeze_new (w : World) (c : Array Value) (e : TypeId) : (w.alloc (.cells c e)).freeze ⟨w.heap.size, c.size, none⟩ 1 = w.alloc (.cells c e (c.size, c.size + 1)) := by
  unfold World.freeze World.alloc
  simp only [Nat.one_ne_zero, if_false]
  congr 1
  apply Array.ext
  · simp
  · intro i h1 h2
    simp only [Array.getElem_modify, Array.getElem_push]
    split
    · rename_i hi
      subst hi
      simp
    · rename_i hi
      have : i < w.heap.size := by simp at h2; omega
      simp [this]

theorem run_newRow' (P : Program) (w : World) (e : TypeId) (c : Array Value) : (newRow e c).run P w = .ok ⟨w.heap.size, 0, none⟩ (w.alloc (.cells c e)) := rfl
theorem run_markStringish (P : Program) (w : World) (a : Addr) {t : TypeId} {n : Nat} (h : w.shape? a.block = some (t, n)) : (markStringish a).run P w = .ok () (w.freeze ⟨a.block, n, none⟩ 1) := by
  have e : (markStringish a).run P w = (match w.shape? a.block with | some (_, n) => freeze { block := a.block, off := n } 1 | _ => pure () : Sem Unit).run P w := rfl
  rw [e, h]
  rfl
theorem shape_new (w : World) (c : Array Value) (e : TypeId) (fr : Nat × Nat) : (w.alloc (.cells c e fr)).shape? w.heap.size = some (e, c.size) := by
  unfold World.shape?
  rw [heap_alloc_new]

theorem freeze_at {w : World} {k n : Nat} {c : Array Value} {e : TypeId} (h : w.heap[k]? = some (.cells c e (0, 0))) :
    (w.freeze ⟨k, n, none⟩ 1).heap[k]? = some (.cells c e (n, n + 1)) ∧ (∀ j, j ≠ k → (w.freeze ⟨k, n, none⟩ 1).heap[j]? = w.heap[j]?) ∧ Same w (w.freeze ⟨k, n, none⟩ 1) := by
  unfold World.freeze
  simp only [Nat.one_ne_zero, if_false]
  refine ⟨?_, fun j hj => ?_, rfl, rfl, rfl, Nat.le_refl _, by simp⟩
  · simp [Array.getElem?_modify, h]
  · simp [Array.getElem?_modify, Ne.symm hj]

/-- A block that is written no more. -/
theorem SRel.retire (h : SRel Γ base κ H w) {id k : Nat} (hl : κ.loc id = some k) {cs : List PV} (hg : hget H id = .pcells cs) :
    ∃ (c rest : List Value) (e : TypeId), w.heap[k]? = some (.cells (c ++ rest).toArray e (0, 0)) ∧ PRels κ.imm cs c ∧ Ones c ∧
      SRel Γ base (κ.keep k c.length c) (hset H id .dead) (w.freeze ⟨k, (c ++ rest).length, none⟩ 1) ∧ Grow κ H w (κ.keep k c.length c) (hset H id .dead) (w.freeze ⟨k, (c ++ rest).length, none⟩ 1) ∧
      ∀ (j : Nat) (v : Value), c[j]? = some v → (κ.keep k c.length c).imm ⟨k, j, none⟩ = some v := by
  have hp : place κ id (hget H id) = some k := by rw [hg]; exact hl
  obtain ⟨_, ho⟩ := h.obj id k hp
  rw [hg] at ho
  obtain ⟨c, rest, e, hw, hr, himm, hones⟩ := ho
  obtain ⟨f1, f2, f3⟩ := freeze_at (n := (c ++ rest).length) hw
  have hcell : ∀ a : Addr, a.block ≠ k → (w.freeze ⟨k, (c ++ rest).length, none⟩ 1).cell? a = w.cell? a := fun a ha => by
    unfold World.cell?; rw [f2 _ ha]
  obtain ⟨g1, g2⟩ := h.turnOne (κ' := κ.keep k c.length c) id .dead k k f3 (κ.le_keep _ _ _) hp rfl (fun _ _ => rfl) (fun j _ hj => f2 j hj)
    (fun a v hv => by
      rcases K.keep_some hv with h1 | ⟨h1, h2, h3, h4⟩
      · have hne : a.block ≠ k := fun e => by rw [himm a e] at h1; cases h1
        exact ⟨(hcell a hne).trans (h.imm a v h1), .inl h1⟩
      · refine ⟨?_, .inr (.inr h1)⟩
        unfold World.cell?
        rw [h1, f1]
        have h5 : (c ++ rest)[a.off]? = some v := by rw [List.getElem?_append_left h3]; exact h4
        simpa [h2] using h5)
    (fun k' hk' => by cases hk') (.inl rfl) trivial
  exact ⟨c, rest, e, hw, hr, hones, g1, g2, fun j v hv => K.keep_at (himm _ rfl) (List.getElem?_eq_some_iff.1 hv).1 hv⟩

/-- The same, the world as it was. -/
theorem SRel.retire' (h : SRel Γ base κ H w) {id k : Nat} (hl : κ.loc id = some k) {cs : List PV} (hg : hget H id = .pcells cs) :
    ∃ (c rest : List Value) (e : TypeId), w.heap[k]? = some (.cells (c ++ rest).toArray e (0, 0)) ∧ PRels κ.imm cs c ∧ Ones c ∧
      SRel Γ base (κ.keep k c.length c) (hset H id .dead) w ∧ Grow κ H w (κ.keep k c.length c) (hset H id .dead) w ∧
      ∀ (j : Nat) (v : Value), c[j]? = some v → (κ.keep k c.length c).imm ⟨k, j, none⟩ = some v := by
  have hp : place κ id (hget H id) = some k := by rw [hg]; exact hl
  obtain ⟨_, ho⟩ := h.obj id k hp
  rw [hg] at ho
  obtain ⟨c, rest, e, hw, hr, himm, hones⟩ := ho
  obtain ⟨g1, g2⟩ := h.turnOne (κ' := κ.keep k c.length c) id .dead k k (Same.refl w) (κ.le_keep _ _ _) hp rfl (fun _ _ => rfl) (fun _ _ _ => rfl)
    (fun a v hv => by
      rcases K.keep_some hv with h1 | ⟨h1, h2, h3, h4⟩
      · exact ⟨h.imm a v h1, .inl h1⟩
      · refine ⟨?_, .inr (.inr h1)⟩
        unfold World.cell?
        rw [h1, hw]
        have h5 : (c ++ rest)[a.off]? = some v := by rw [List.getElem?_append_left h3]; exact h4
        simpa [h2] using h5)
    (fun k' hk' => by cases hk') (.inl rfl) trivial
  exact ⟨c, rest, e, hw, hr, hones, g1, g2, fun j v hv => K.keep_at (himm _ rfl) (List.getElem?_eq_some_iff.1 hv).1 hv⟩

theorem bytesOf_rel (hs : SRel Γ base κ H w) (e : TypeId) (s : ByteArray) : RunOK Γ base κ H w (Conv.stringToBytes e s) (.pv (.sl .nn s.size (bytesCells s))) H := by
  have hcap := grownCap_ge w s.size 0 e
  obtain ⟨c, hcd⟩ : ∃ c : List Value, c = byteCells s ++ List.replicate (grownCap w s.size 0 e - s.size) (.int .u8 0) := ⟨_, rfl⟩
  have hc : (s.data.map (fun b => Value.int .u8 b.toNat) ++ Array.replicate (grownCap w s.size 0 e - s.size) (Value.int .u8 0)) = c.toArray := by
    apply Array.ext'; simp [hcd, byteCells]
  have hrun : (Conv.stringToBytes e s).run Γ.P w = .ok (.slice (some ⟨w.heap.size, 0, none⟩) s.size (grownCap w s.size 0 e)) (w.drew.alloc (.cells c.toArray e (c.toArray.size, c.toArray.size + 1))) := by
    have h1 : (choose (.appendCap s.size 0 e)).run Γ.P w = .ok (grownCap w s.size 0 e) w.drew := rfl
    have h2 := run_newRow' Γ.P w.drew e c.toArray
    have h3 := run_markStringish Γ.P (w.drew.alloc (.cells c.toArray e)) ⟨w.drew.heap.size, 0, none⟩ (shape_new w.drew c.toArray e _)
    simp only [Conv.stringToBytes, Sem.run_bind, h1, Result.andThen_ok, hc, h2, h3, Sem.run_pure]
    rw [freeze_new w.drew c.toArray e]
    rfl
  obtain ⟨g1, g2, g3⟩ := hs.newRow' (w' := w.drew.alloc (.cells c.toArray e (c.toArray.size, c.toArray.size + 1))) ⟨rfl, rfl, rfl, Nat.le_succ _, by simp⟩ (fun k hk => heap_alloc_old w.drew _ k hk) c (heap_alloc_new w.drew _)
  refine ⟨_, _, _, hrun, .pv _ _ (.sl .nn _ _ _ _ (byteCells s) (by simp) (by simp) hcap (bytesCells_rel _ s) (fun j v hj => g3 j v ?_) (byteCells_ones s)), g1, g2⟩
  rw [hcd]
  exact app_get hj

theorem strOfCells_inv {I : Imm} : ∀ (cs : List PV) (vs : List Value) (l : List UInt8), PRels I cs vs → strOfCells cs = some l → ∃ ns : List Int, vs = ns.map (Value.int .u8) ∧ l = ns.map fun n => UInt8.ofNat n.toNat := by
  intro cs
  induction cs with
  | nil => intro vs l h he; cases h; simp [strOfCells] at he; subst he; exact ⟨[], rfl, rfl⟩
  | cons p cs ih =>
    intro vs l h he
    cases h with
    | cons _ v _ vs hp hr =>
      cases p with
      | int k n =>
        cases k <;> simp only [strOfCells] at he <;> try (cases he; done)
        simp only [Option.map_eq_some_iff] at he
        obtain ⟨l', h1, rfl⟩ := he
        obtain ⟨ns, rfl, rfl⟩ := ih vs l' hr h1
        cases hp
        exact ⟨n :: ns, rfl, rfl⟩
      | _ => simp [strOfCells] at he
theorem push_fold (ns : List Int) : ∀ (s : ByteArray), ns.foldl (fun r n => r.push (UInt8.ofNat n.toNat)) s = ⟨s.data ++ (ns.map fun n => UInt8.ofNat n.toNat).toArray⟩ := by
  induction ns with
  | nil => intro s; simp
  | cons n ns ih =>
    intro s
    rw [List.foldl_cons, ih]
    congr 1
    apply Array.ext'
    simp [ByteArray.push]
theorem strOf_rel (hs : SRel Γ base κ H w) {x : AV} {vx : Value} (hx : VRel κ x vx) (hns : ∀ s, x ≠ .pv (.str s)) {n : Nat} (hn : srcLen x = some n) {v : AV}
    (he : srcK H x (fun cs => needK (Nat.beq cs.length n) (bindK (strOfCells cs) fun l => some (AV.pv (.str ⟨l.toArray⟩)))) = some v) :
    ∃ v', (Conv.bytesToString vx).run Γ.P w = .ok v' w ∧ VRel κ v v' := by
  have hq0 := srcK_inv hs hx hn he
  clear he
  obtain ⟨new, news, he, hsrc, _⟩ := hq0
  have hq0 := needK_inv he
  clear he
  obtain ⟨hl, he⟩ := hq0
  rw [bindK_def] at he
  cases hq : strOfCells new with
  | none => rw [hq] at he; simp at he
  | some l =>
    rw [hq] at he; simp only [Option.bind_some] at he
    injection he with he; subst he
    obtain ⟨ns, rfl, rfl⟩ := strOfCells_inv _ _ _ hsrc.rel hq
    have hlen : ns.length = n := by
      have := hsrc.rel.length
      rw [Nat.eq_of_beq_eq_true hl] at this
      simpa using this.symm
    rcases hsrc.form with ⟨s, rfl, _, _⟩ | ⟨rfl, _, h2⟩ | ⟨a, c, rfl, hc⟩
    · exfalso
      cases hx with
      | pv p _ hp => cases hp with | str s => exact hns _ rfl
      | any => cases hn
    · have : ns = [] := by simpa using h2
      subst this
      exact ⟨_, rfl, .pv _ _ (.str _)⟩
    · have hload := run_loadCells_list (P := Γ.P) w a (ns.map (Value.int .u8)) hc
      rw [List.length_map, hlen] at hload
      refine ⟨_, run_bytesToString w a n c ns hload, ?_⟩
      rw [push_fold]
      have e : (⟨ByteArray.empty.data ++ (ns.map fun n => UInt8.ofNat n.toNat).toArray⟩ : ByteArray) = ⟨(ns.map fun n => UInt8.ofNat n.toNat).toArray⟩ := by
        congr 1
        apply Array.ext'
        simp [ByteArray.empty, ByteArray.emptyWithCapacity]
        try rfl
      rw [e]
      exact .pv _ _ (.str _)

theorem minmax_rel (mx : Bool) : ∀ (l : List AV) (vs : List Value) (k : IntKind) (a : Int) (v : AV), VRels κ l vs → minmaxK mx a k l (fun p => some (AV.pv p)) = some v →
    ∃ v', (vs.foldlM (if mx then Builtin.max2 else Builtin.min2) (.int k a)).run Γ.P w = .ok v' w ∧ VRel κ v v' := by
  intro l
  induction l with
  | nil =>
    intro vs k a v h he
    cases h
    simp [minmaxK] at he; subst he
    exact ⟨.int k a, by simp, .pv _ _ (.int _ _)⟩
  | cons x l ih =>
    intro vs k a v h he
    cases h with
    | cons _ u _ us hx hr =>
      cases x with
      | pv p =>
        cases p with
        | int k2 b =>
          have := int_rel hx
          subst this
          simp only [minmaxK, eqK_def] at he
          obtain ⟨v', h1, h2⟩ := ih us k _ v hr he
          refine ⟨v', ?_, h2⟩
          rw [List.foldlM_cons]
          cases mx
          · simp only [Builtin.min2, Sem.run_bind, Sem.run_pure, Result.andThen_ok, Bool.false_eq_true, if_false] at h1 ⊢
            exact h1
          · simp only [Builtin.max2, Sem.run_bind, Sem.run_pure, Result.andThen_ok, if_true] at h1 ⊢
            exact h1
        | _ => simp [minmaxK] at he
      | _ => simp [minmaxK] at he

theorem wrap_small {n : Int} (h0 : 0 ≤ n) (h1 : n ≤ 9223372036854775807) : IntKind.i64.wrap n = n := by
  unfold IntKind.wrap
  simp only [IntKind.bits, IntKind.signed, Bool.true_and, Nat.reduceSub, Int.reducePow]
  have e : n % 18446744073709551616 = n := Int.emod_eq_of_lt h0 (by omega)
  simp only [e]
  split
  · rename_i h; simp at h; omega
  · rfl

theorem mkSlice_rel {t e : TypeId} (ht : Γ.P.underlying t = some (.slice e)) {i : TypeInfo} (hi : Γ.P.info? e = some i) {zp : List PV} (hz : zeroT Γ.P e = some zp) (hby : i.bytes ≤ 256)
    {l c : Int} {k k' : IntKind} (h0 : 0 ≤ l) (hlc : l ≤ c) (hc : c ≤ 1099511627776) :
    ∃ (cs : List Value), PRels κ.imm (zerosOf zp c.toNat) cs ∧ Ones cs ∧ (Instr.makeSlice t (.int k l) (.int k' c)).run Γ.P w = .ok (.slice (some ⟨w.heap.size, 0, none⟩) l.toNat c.toNat) (w.alloc (.cells cs.toArray e)) := by
  obtain ⟨i', z, hi', hzz, hzr, hz1, hzl⟩ := zeroT_rel (Γ := Γ) (κ := κ) hz
  rw [hi] at hi'; injection hi' with hi'; subst hi'
  have hzs : z.cells.size = i.size := by rw [← Array.length_toList, ← hzr.length]; exact hzl
  refine ⟨(List.replicate c.toNat z.cells.toList).flatten, by rw [zerosOf_flat]; exact hzr.flat _, hz1.flat _, ?_⟩
  have w1 := wrap_small h0 (by omega)
  have w2 := wrap_small (n := c) (by omega) (by omega)
  have hbc : (i.bytes : Int) * c ≤ 281474976710656 := by
    have : (i.bytes : Int) * c ≤ 256 * c := Int.mul_le_mul_of_nonneg_right (by omega) (by omega)
    omega
  have t1 : ¬ (c < 0 ∨ (i.bytes : Int) * c > 281474976710656) := by omega
  have hcells : (((Array.range (c.toNat * i.size)).map fun j => (if c.toNat * i.size = 0 then (#[] : Array Value) else z.cells)[j % (if c.toNat * i.size = 0 then (#[] : Array Value) else z.cells).size]!)) = ((List.replicate c.toNat z.cells.toList).flatten).toArray := by
    by_cases hz0 : c.toNat * i.size = 0
    · rw [hz0]
      apply Array.ext'
      have : (List.replicate c.toNat z.cells.toList).flatten = [] := by
        apply List.eq_nil_of_length_eq_zero
        simp [hzs, hz0]
      rw [this]
      simp
    · simp only [hz0, if_false]
      apply Array.ext'
      have := zeros_cells z.cells.toList c.toNat
      simp only [Array.length_toList, hzs, Array.toArray_toList] at this
      rw [hzs, this]
  have hask : ∀ n (w : World), (askRoom n).run Γ.P w = .ok () w := by
    intro n w
    unfold askRoom
    split <;> rfl
  simp only [Instr.makeSlice, Sem.run_bind, run_underlying ht, Result.andThen_ok, asInt, asIntOf, Sem.run_pure, run_typeInfo w hi, w1, w2]
  have c1 : (decide (c < 0) || decide ((i.bytes : Int) * c > 2 ^ 48) || decide (l < 0) || decide (l > c)) = false := by
    simp only [Bool.or_eq_false_iff, decide_eq_false_iff_not]
    omega
  have hsz : sizeT Γ.P e = some i.size := by simp [sizeT, hi]
  have hzv : (zeroValue e).run Γ.P w = .ok z w := run_zeroValue' hi hzz
  simp only [c1, Bool.false_eq_true, if_false, Sem.run_bind, hask, Result.andThen_ok, run_sizeOf' hsz]
  by_cases hz0 : c.toNat * i.size = 0
  · simp only [hz0, if_true] at hcells ⊢
    simp only [Sem.run_bind, Sem.run_pure, Result.andThen_ok, run_newRow', hcells]
  · simp only [hz0, if_false] at hcells ⊢
    simp only [Sem.run_bind, Sem.run_pure, Result.andThen_ok, hzv, run_newRow', hcells]

theorem firstCells_take {size n m : Nat} {x : AV} {vx : Value} {new : List PV} {news : List Value} (h : SrcRel Γ κ w x vx m new news) (hl : news.length = m * size) (hn : n ≤ m) (h1 : (∃ s, vx = .string s) → size = 1) :
    (Builtin.firstCells size n vx).run Γ.P w = .ok (news.take (n * size)).toArray w := by
  rcases h.form with ⟨s, rfl, rfl, rfl⟩ | ⟨rfl, rfl, rfl⟩ | ⟨a, c, rfl, hc⟩
  · have := h1 ⟨s, rfl⟩
    subst this
    simp only [Builtin.firstCells, Sem.run_pure]
    congr 1
    apply Array.ext'
    simp [byteCells, ByteArray.data_extract]
  · have : n = 0 := by omega
    subst this
    simp [Builtin.firstCells]
  · have hle : n * size ≤ m * size := Nat.mul_le_mul_right _ hn
    have := run_loadCells_list (P := Γ.P) w a (news.take (n * size)) (fun j v hj => by
      rw [List.getElem?_take] at hj
      split at hj
      · exact hc j v hj
      · cases hj)
    rw [List.length_take, Nat.min_eq_left (by omega)] at this
    simpa [Builtin.firstCells] using this

theorem copy_rel (hs : SRel Γ base κ H w) {t u ty e : TypeId} {es : Nat} (ht : Γ.P.underlying t = some (.slice e)) (hn : sizeT Γ.P e = some es) {d s v : AV} {vd vs : Value} {H' : Heap} (hd : VRel κ d vd) (hsv : VRel κ s vs)
    (hstr : (∃ b, vs = .string b) → es = 1) (he : copyK es d s H (fun v h => some (v, h)) = some (v, H')) : RunOK Γ base κ H w (Builtin.copy_ #[t, u] ty #[vd, vs]) v H' := by
  unfold copyK at he
  split at he
  · rename_i es' id off n cap
    cases hd with
    | hs _ _ _ _ _ k cap' hl h2 h3 =>
      cases hm : srcLen s with
      | none => rw [hm] at he; simp at he
      | some m =>
        rw [hm] at he; simp only at he
        have hq := srcK_inv hs hsv hm he
        clear he
        obtain ⟨new, news, he, hsrc, _⟩ := hq
        rw [hgetK_def] at he
        split at he
        · rename_i cs hg
          have hq := needK_inv he
          clear he
          obtain ⟨hc, he⟩ := hq
          rw [eqK_def, eqK_def] at he
          simp only [mulE_eq] at he
          injection he with he; injection he with e1 e2
          subst e1; subst e2
          rw [Bool.and_eq_true] at hc
          have hle := Nat.le_of_ble_eq_true hc.1
          have hnl : news.length = m * es := by rw [← hsrc.rel.length, ← mulE_eq]; exact Nat.eq_of_beq_eq_true hc.2
          obtain ⟨c, rest, e', hw, hr, hones, _⟩ := (ptr_cells hs hl).1 cs hg
          have hmul : min m n * es ≤ n * es := Nat.mul_le_mul_right _ (Nat.min_le_right _ _)
          have hmul2 : min m n * es ≤ m * es := Nat.mul_le_mul_right _ (Nat.min_le_left _ _)
          have htl : (news.take (min m n * es)).length = min m n * es := by rw [List.length_take]; omega
          have hf := firstCells_take hsrc hnl (Nat.min_le_left m n) hstr
          have hst := run_storeCells_at Γ.P k off e' (news.take (min m n * es)) 0 (c ++ rest).toArray w hw (by
            have := hr.length
            simp only [List.size_toArray, List.length_append]; omega) (hsrc.ones.take _)
          have hcl := hr.length
          have t1 : (c ++ rest).take off = c.take off := by rw [List.take_append_of_le_length (by omega)]
          have t2 : (c ++ rest).drop (off + min m n * es) = c.drop (off + min m n * es) ++ rest := by rw [List.drop_append_of_le_length (by omega)]
          simp only [Nat.add_zero, htl] at hst
          rw [t1, t2, ← List.append_assoc] at hst
          obtain ⟨g1, g2⟩ := hs.write hl (.inr ⟨cs, hg⟩) hw (.inr ⟨_, rfl, hr.splice (hsrc.rel.take (min m n * es)) off (min m n * es)⟩) (hones.splice (hsrc.ones.take _) off (min m n * es))
          have hlen : (Builtin.lenOf vs).run Γ.P w = .ok m w := by
            rcases hsrc.form with ⟨s, rfl, _, rfl⟩ | ⟨rfl, rfl, _⟩ | ⟨a, c, rfl, _⟩ <;> rfl
          refine ⟨.int .i64 (min m n : Nat), κ, _, ?_, .pv _ _ (.int _ _), g1, g2⟩
          have hmin : Nat.min m n = min m n := rfl
          rw [List.append_assoc, List.append_assoc] at hst
          simp [Builtin.copy_, run_underlying ht, hlen, run_sizeOf' hn, hmin, hf, hst, goInt]
        · cases he
  · rename_i ext n cs
    cases hm : srcLen s with
    | none => rw [hm] at he; simp at he
    | some m =>
      rw [hm] at he; simp only at he
      have hq := srcK_inv hs hsv hm he
      clear he
      obtain ⟨new, news, he, hsrc, _⟩ := hq
      have hq := needK_inv he
      clear he
      obtain ⟨hc, he⟩ := hq
      rw [Bool.and_eq_true] at hc
      have hn0 := Nat.eq_of_beq_eq_true hc.1
      subst hn0
      injection he with he; injection he with e1 e2
      subst e1; subst e2
      have hnl : news.length = m * es := by rw [← hsrc.rel.length, ← mulE_eq]; exact Nat.eq_of_beq_eq_true hc.2
      have hf := firstCells_take hsrc hnl (Nat.zero_le m) hstr
      have hlen : (Builtin.lenOf vs).run Γ.P w = .ok m w := by
        rcases hsrc.form with ⟨s, rfl, _, rfl⟩ | ⟨rfl, rfl, _⟩ | ⟨a, c, rfl, _⟩ <;> rfl
      obtain ⟨a, cap, hvd⟩ : ∃ a cap, vd = .slice a 0 cap := by
        cases hd with
        | pv _ _ hp =>
          cases hp with
          | slNil => exact ⟨_, _, rfl⟩
          | sl => exact ⟨_, _, rfl⟩
      refine ⟨.int .i64 0, κ, w, ?_, .pv _ _ (.int _ _), hs, Grow.refl _ _ _⟩
      rw [hvd]
      simp only [Nat.zero_mul, List.take_zero] at hf
      cases a <;> simp [Builtin.copy_, run_underlying ht, hlen, run_sizeOf' hn, hf, goInt, storeCells]
  · cases he

theorem sliceA_rel {t e : TypeId} {len es : Nat} (ht : Γ.P.underlying t = some (.array len e)) (hn : sizeT Γ.P e = some es) {x : AV} {vx : Value} (hx : VRel κ x vx)
    {lo hi : Option AV} {vlo vhi : Option Value} (hl : ORel κ lo vlo) (hh : ORel κ hi vhi) {v : AV}
    (he : (match x with
      | .ptr id o => boundK hi len len fun hb => boundK lo 0 hb fun l => needK (Nat.blt l len || Nat.beq l 0) (some (AV.hs es id (addO o (mulE l es)) (hb - l) (len - l)))
      | _ => none) = some v) : ∃ v', (Instr.sliceAt t vx vlo vhi none).run Γ.P w = .ok v' w ∧ VRel κ v v' := by
  cases hx with
  | ptr id o k hk =>
    simp only at he
    obtain ⟨h, l, hlh, hhn, _, hF, hr⟩ := run_bounds (Γ := Γ) (w := w) hl hh false (Nat.le_refl len) rfl he
    obtain ⟨hb, hF⟩ := needK_inv hF
    simp only [mulE_eq, addO_eq] at hF
    injection hF with hF; subst hF
    have hor : l < len ∨ l = 0 := by
      rw [Bool.or_eq_true] at hb
      rcases hb with hb | hb
      · exact .inl (blt_lt hb)
      · exact .inr (Nat.eq_of_beq_eq_true hb)
    refine ⟨.slice (some (if len = l then ⟨k, o, none⟩ else (⟨k, o, none⟩ : Addr).add (l * es))) (h - l) (len - l), ?_, ?_⟩
    · simp [Instr.sliceAt, run_underlying ht, Instr.sureAddr, hr, run_sizeOf' hn]
    · by_cases hml : len = l
      · rw [if_pos hml]
        have : l = 0 := by omega
        subst this
        simpa using VRel.hs (κ := κ) es id o (h - 0) (len - 0) k (len - 0) hk (by omega) (Nat.le_refl _)
      · rw [if_neg hml, addr_add_lit']
        exact .hs _ _ _ _ _ k _ hk (by omega) (Nat.le_refl _)
  | _ => simp at he

theorem sliceStr_rel {t : TypeId} (ht : Γ.P.underlying t = some .string) {x : AV} {vx : Value} (hx : VRel κ x vx) {lo hi : Option AV} {vlo vhi : Option Value} (hl : ORel κ lo vlo) (hh : ORel κ hi vhi) {v : AV}
    (he : sliceStrK x lo hi (fun v => some v) = some v) : ∃ v', (Instr.sliceAt t vx vlo vhi none).run Γ.P w = .ok v' w ∧ VRel κ v v' := by
  unfold sliceStrK at he
  split at he
  · rename_i s
    have := str_rel hx
    subst this
    obtain ⟨h, l, hlh, hhn, _, hF, hr⟩ := run_bounds (Γ := Γ) (w := w) hl hh false (Nat.le_refl s.size) rfl he
    rw [eqK_def] at hF
    injection hF with hF; subst hF
    refine ⟨.string (s.extract l h), ?_, .pv _ _ (.str _)⟩
    simp [Instr.sliceAt, run_underlying ht, Instr.slice, hr]
  · cases he

noncomputable def toArrV (n : Nat) (x : AV) : Option AV := match x with
  | .pv (.sl e m cs) => (match e with | .nil => none | _ => needK (Nat.ble n m && Nat.blt 0 n) (some (AV.rptr cs 0)))
  | .tsl _ m cs => needK (Nat.ble n m) (some (AV.rptr cs 0))
  | .hs _ id off m _ => needK (Nat.ble n m) (some (AV.ptr id off))
  | _ => none

theorem toArr_rel {t e : TypeId} {n : Nat} (ht : Γ.P.underlying t = some (.array n e)) {x : AV} {vx : Value} (hx : VRel κ x vx) {v : AV}
    (he : toArrV n x = some v) : ∃ v', (Instr.arrayAt t vx).run Γ.P w = .ok v' w ∧ VRel κ v v' := by
  have go : ∀ (a : Option Addr) (m cap : Nat), vx = .slice a m cap → n ≤ m → (Instr.arrayAt t vx).run Γ.P w = .ok (.pointer a) w := by
    intro a m cap e hle
    subst e
    have : ¬ m < n := by omega
    simp [Instr.arrayAt, run_underlying ht, this]
  unfold toArrV at he
  split at he
  · rename_i e m cs
    cases hx with
    | pv _ _ hx =>
      split at he
      · cases he
      · obtain ⟨hc, he⟩ := needK_inv he
        injection he with he; subst he
        rw [Bool.and_eq_true] at hc
        have h1 := Nat.le_of_ble_eq_true hc.1
        have h2 := blt_lt hc.2
        cases hx with
        | slNil => omega
        | sl _ _ _ a cap vs g1 g2 g3 g4 g5 g6 =>
          refine ⟨_, go _ _ _ rfl h1, ?_⟩
          have := VRel.rptr (κ := κ) cs 0 a vs g4 g5 g6
          simpa [Addr.add] using this
  · rename_i tk m cs
    obtain ⟨hc, he⟩ := needK_inv he
    injection he with he; subst he
    cases hx with
    | tsl _ _ _ k cap vs h1 h2 h3 h4 h5 =>
      refine ⟨_, go _ _ _ rfl (Nat.le_of_ble_eq_true hc), ?_⟩
      have := VRel.rptr (κ := κ) cs 0 ⟨k, 0, none⟩ vs h3 (fun j v hj => by rw [addr_add_lit]; exact h4 j v hj) h5
      simpa [Addr.add] using this
  · rename_i es id off m cap
    obtain ⟨hc, he⟩ := needK_inv he
    injection he with he; subst he
    cases hx with
    | hs _ _ _ _ _ k cap' h1 h2 h3 => exact ⟨_, go _ _ _ rfl (Nat.le_of_ble_eq_true hc), .ptr _ _ _ h1⟩
  · cases he

/-! ### maps -/
theorem basic_cases {P : Program} {t : TypeId} (h : basicT P t = true) : ∃ d, P.underlying t = some d ∧ ((∃ k, d = .int k) ∨ d = .string ∨ d = .bool) := by
  unfold basicT at h
  split at h
  · rename_i k hu; exact ⟨_, hu, .inl ⟨k, rfl⟩⟩
  · rename_i hu; exact ⟨_, hu, .inr (.inl rfl)⟩
  · rename_i hu; exact ⟨_, hu, .inr (.inr rfl)⟩
  · cases h
/-- A key's cells. -/
def KeyCells (P : Program) (t : TypeId) (sh : List SK) : Prop :=
  (∃ fs, P.underlying t = some (.struct fs) ∧ ∀ f ∈ fs.toList, basicT P f.type = true ∧ f.offset < sh.length) ∨ ∃ n e, P.underlying t = some (.array n e) ∧ basicT P e = true ∧ sizeT P e = some 1 ∧ n ≤ sh.length
theorem keyT_cases {P : Program} {t : TypeId} {kk : KT} (h : keyT P t = some kk) :
    (∃ k d, kk = .one k ∧ P.underlying t = some d ∧ ((k = .i ∧ ∃ j, d = .int j) ∨ (k = .s ∧ d = .string) ∨ (k = .b ∧ d = .bool))) ∨ ∃ sh, kk = .agg sh ∧ shapeT P 20 t = some sh ∧ aggT P t = some true ∧ KeyCells P t sh := by
  unfold keyT at h
  split at h
  · rename_i k hu; injection h with h; exact .inl ⟨_, _, h.symm, hu, .inl ⟨rfl, k, rfl⟩⟩
  · rename_i hu; injection h with h; exact .inl ⟨_, _, h.symm, hu, .inr (.inl ⟨rfl, rfl⟩)⟩
  · rename_i hu; injection h with h; exact .inl ⟨_, _, h.symm, hu, .inr (.inr ⟨rfl, rfl⟩)⟩
  · rename_i fs hu
    split at h
    · rename_i sh hsh
      rw [Bool.cond_eq_ite] at h
      split at h
      · rename_i hb
        injection h with h
        refine .inr ⟨sh, h.symm, hsh, by simp [aggT, hu], .inl ⟨fs, hu, fun f hf => ?_⟩⟩
        have := List.all_eq_true.1 hb f hf
        rw [Bool.and_eq_true] at this
        exact ⟨this.1, blt_lt this.2⟩
      · cases h
    · cases h
  · rename_i n e hu
    split at h
    · rename_i sh hsh
      rw [Bool.cond_eq_ite] at h
      split at h
      · rename_i hb
        injection h with h
        simp only [Bool.and_eq_true] at hb
        exact .inr ⟨sh, h.symm, hsh, by simp [aggT, hu], .inr ⟨n, e, hu, hb.1.1, eq_of_beq hb.1.2, Nat.le_of_ble_eq_true hb.2⟩⟩
      · cases h
    · cases h
  · cases h
theorem checkKey_basic {t : TypeId} (h : basicT Γ.P t = true) (b : Bool) (v : Value) (n : Nat) : (Instr.checkKey b (n + 1) t v).run Γ.P w = .ok () w := by
  obtain ⟨d, hu, hd⟩ := basic_cases h
  rcases hd with ⟨k, rfl⟩ | rfl | rfl <;> simp [Instr.checkKey, run_underlying hu]
theorem part_basic {t : TypeId} (h : basicT Γ.P t = true) {cs : Array Value} {i : Nat} (hi : i < cs.size) : (part t cs i).run Γ.P w = .ok cs[i] w := by
  obtain ⟨d, hu, hd⟩ := basic_cases h
  have ha : aggT Γ.P t = some false := by rcases hd with ⟨k, rfl⟩ | rfl | rfl <;> simp [aggT, hu]
  simp [part, run_isAgg' ha, Array.getElem?_eq_getElem hi]
theorem run_checkKey {t : TypeId} {kk : KT} (h : keyT Γ.P t = some kk) {p : PV} (hk : keyOK kk p = true) {I : Imm} {v : Value} (hr : PRel I p v) (b : Bool) : (Instr.checkKey b 10000 t v).run Γ.P w = .ok () w := by
  rcases keyT_cases h with ⟨k, d, rfl, hu, hd⟩ | ⟨sh, rfl, _, _, hc⟩
  · refine checkKey_basic (n := 9999) ?_ b v
    unfold basicT
    rcases hd with ⟨_, j, rfl⟩ | ⟨_, rfl⟩ | ⟨_, rfl⟩ <;> rw [hu]
  · cases hr <;> try (cases hk; done)
    rename_i cs vs h1 h2
    have hl : vs.length = sh.length := by rw [← h1.length]; exact Nat.eq_of_beq_eq_true hk
    show (Instr.checkKey b (9999 + 1) t (.agg vs.toArray)).run Γ.P w = .ok () w
    rcases hc with ⟨fs, hu, hf⟩ | ⟨n, e, hu, hb, hs1, hn⟩
    · rw [Instr.checkKey]
      simp only [Sem.run_bind, run_underlying hu, Result.andThen_ok]
      rw [← Array.forIn_toList]
      generalize fs.toList = L at hf
      induction L with
      | nil => simp
      | cons f L ih =>
        obtain ⟨g1, g2⟩ := hf f (by simp)
        have p1 := part_basic (Γ := Γ) (w := w) g1 (cs := vs.toArray) (i := f.offset) (by simpa [hl] using g2)
        have p2 := checkKey_basic (Γ := Γ) (w := w) g1 b (vs.toArray[f.offset]'(by simpa [hl] using g2)) 9998
        by_cases hn : f.name = "_"
        · simp only [List.forIn_cons, Sem.run_bind, hn, ne_eq, not_true_eq_false, if_false, Result.andThen_ok, Sem.run_pure]
          exact ih fun y hy => hf y (by simp [hy])
        · simp only [List.forIn_cons, Sem.run_bind, hn, ne_eq, not_false_eq_true, if_true, Result.andThen_ok, p1, p2, Sem.run_pure]
          exact ih fun y hy => hf y (by simp [hy])
    · rw [Instr.checkKey]
      simp only [Sem.run_bind, run_underlying hu, Result.andThen_ok]
      simp only [Std.Legacy.Range.forIn_eq_forIn_range', Std.Legacy.Range.size, Nat.sub_zero, Nat.add_one_sub_one, Nat.div_one]
      have hall : ∀ i ∈ List.range' 0 n, i < vs.toArray.size := fun i hi => by
        have := (List.mem_range'_1.1 hi).2
        simp [hl]; omega
      generalize List.range' 0 n = is at hall
      induction is with
      | nil => simp
      | cons j is ih =>
        have hj := hall j (by simp)
        have p1 := part_basic (Γ := Γ) (w := w) hb (cs := vs.toArray) (i := j) hj
        have p2 := checkKey_basic (Γ := Γ) (w := w) hb b (vs.toArray[j]'hj) 9998
        simp only [List.forIn_cons, Sem.run_bind, run_sizeOf' hs1, Result.andThen_ok, Nat.mul_one, p1, p2, Sem.run_pure]
        exact ih fun y hy => hall y (by simp [hy])
theorem obind_inv {α β : Type} {x : Option α} {F : α → Option β} {y : β} (h : x.bind F = some y) : ∃ p, x = some p ∧ F p = some y := by
  cases x with
  | none => cases h
  | some p => exact ⟨p, rfl, h⟩
theorem ba_eq {a b : ByteArray} (h : (a == b) = true) : a = b := by
  have h2 : (a.data == b.data) = true := h
  have h3 := eq_of_beq h2
  cases a; cases b
  simp only at h3
  rw [h3]
theorem ba_self (a : ByteArray) : (a == a) = true := by
  show (a.data == a.data) = true
  exact beq_self_eq_true _
theorem scalar_bits {I : Imm} {k : SK} {p q : PV} {v u : Value} (h1 : PRel I p v) (h2 : PRel I q u) (h : scalarEq k p q = some true) (n : Nat) : Instr.sameBits (n + 1) u v = true := by
  cases k <;> cases h1 <;> try (cases h; done)
  all_goals (cases h2 <;> try (cases h; done))
  · rename_i a b
    have h := Option.some.inj h
    have e := eq_of_beq h
    subst e; simp [Instr.sameBits]
  · rename_i k a k' a'
    have hi : (bif kindEq k k' then some (a == a') else none) = some true := h
    cases hk : kindEq k k' with
    | false => rw [hk] at hi; cases hi
    | true =>
      rw [hk] at hi
      have := kindEq_eq hk
      subst this
      have e := eq_of_beq (Option.some.inj hi)
      subst e; simp [Instr.sameBits]
  · rename_i a b
    have h := Option.some.inj h
    have e := eq_of_beq h
    have : a = b := by
      rw [ByteArray.toList_eq, ByteArray.toList_eq] at e
      apply ByteArray.ext; apply Array.ext'; exact e
    subst this
    simp only [Instr.sameBits, ba_self]
theorem agg_bits {I : Imm} : ∀ {sh : List SK} {as bs : List PV} {vs us : List Value}, PRels I as vs → PRels I bs us → aggEq sh as bs = some true → ∀ n, us.length = vs.length ∧ (us.zip vs).all (fun x => Instr.sameBits (n + 1) x.1 x.2) = true := by
  intro sh
  induction sh with
  | nil =>
    intro as bs vs us h1 h2 h n
    cases as with
    | nil => cases bs with
      | nil => cases h1; cases h2; exact ⟨rfl, rfl⟩
      | cons _ _ => simp [aggEq] at h
    | cons _ _ => simp [aggEq] at h
  | cons k sh ih =>
    intro as bs vs us h1 h2 h n
    cases as with
    | nil => simp [aggEq] at h
    | cons a as => cases bs with
      | nil => simp [aggEq] at h
      | cons b bs =>
        simp only [aggEq] at h
        split at h
        · rename_i x y hx hy
          injection h with h
          rw [Bool.and_eq_true] at h
          obtain ⟨rfl, rfl⟩ := h
          cases h1 with
          | cons _ v _ vs g1 g2 => cases h2 with
            | cons _ u _ us g3 g4 =>
              obtain ⟨e1, e2⟩ := ih g2 g4 hy n
              exact ⟨by simp [e1], by simp [scalar_bits g1 g3 hx n]; simpa using e2⟩
        · cases h
theorem keyEq_now {I : Imm} {kk : SK} {d : TypeDesc} (hd : (kk = .i ∧ ∃ k, d = .int k) ∨ (kk = .s ∧ d = .string) ∨ (kk = .b ∧ d = .bool)) {k q : PV} {kv qv : Value} (h1 : PRel I k kv) (h2 : PRel I q qv) {b : Bool} (h : keyEq (.one kk) k q = some b) :
    Instr.sameNow d kv qv = some b ∧ (b = true → ∀ n, Instr.sameBits (n + 2) qv kv = true) := by
  rcases hd with ⟨rfl, ik, rfl⟩ | ⟨rfl, rfl⟩ | ⟨rfl, rfl⟩
  · cases h1 <;> try (cases h; done)
    cases h2 <;> try (cases h; done)
    rename_i k a k' a'
    have hi : (bif kindEq k k' then some (a == a') else none) = some b := h
    cases hk : kindEq k k' with
    | false => rw [hk] at hi; cases hi
    | true =>
      rw [hk] at hi
      have := kindEq_eq hk
      subst this
      have hq : some (a == a') = some b := hi
      have hq := Option.some.inj hq
      refine ⟨by simp only [Instr.sameNow, if_true, hq], fun hb n => ?_⟩
      subst hb
      have e := eq_of_beq hq
      subst e
      simp [Instr.sameBits]
  · cases h1 <;> try (cases h; done)
    cases h2 <;> try (cases h; done)
    have h := Option.some.inj h
    refine ⟨by simp only [Instr.sameNow, h], fun hb n => ?_⟩
    subst hb
    have e := ba_eq h
    subst e
    simp only [Instr.sameBits, ba_self]
  · cases h1 <;> try (cases h; done)
    cases h2 <;> try (cases h; done)
    have h := Option.some.inj h
    refine ⟨by simp only [Instr.sameNow, h], fun hb n => ?_⟩
    subst hb
    have e := eq_of_beq h
    subst e
    simp [Instr.sameBits]
theorem keyEq_agg {t : TypeId} {sh : List SK} (hsh : shapeT Γ.P 20 t = some sh) (ha : aggT Γ.P t = some true) {I : Imm} {k q : PV} {kv qv : Value} (h1 : PRel I k kv) (h2 : PRel I q qv) {b : Bool} (hb : keyEq (.agg sh) k q = some b) :
    (∃ us, qv = .agg us) ∧ (Op.equal t kv qv).run Γ.P w = .ok b w ∧ (b = true → ∀ n, Instr.sameBits (n + 2) qv kv = true) := by
  cases h1 <;> try (cases hb; done)
  cases h2 <;> try (cases hb; done)
  rename_i as vs g1 g2 bs us g3 g4
  have hb : aggEq sh as bs = some b := hb
  refine ⟨⟨_, rfl⟩, ?_, fun e n => ?_⟩
  · have := (shapeT_ok (I := I) 20 t sh hsh (9999 + 1) (by omega)).1 w as bs vs us (.agg vs.toArray) (.agg us.toArray) b g1 g3 hb (.inl ⟨ha, rfl⟩) (.inl ⟨ha, rfl⟩)
    rw [equal_once]; exact this
  · subst e
    obtain ⟨e1, e2⟩ := agg_bits g1 g3 hb n
    simp only [Instr.sameBits, List.size_toArray, e1, beq_self_eq_true, Bool.true_and]
    exact e2
/-- What a key's place is in the model. -/
def Found (I : Imm) (kv : Value) (l : List MapEntry) (i : Nat) (X : Option (Nat × Value) → Prop) : Option (Nat × PV) → Prop
  | none => X none
  | some x => ∃ e, i ≤ x.1 ∧ l[x.1 - i]? = some e ∧ PRel I x.2 e.val ∧ X (some (x.1, e.val)) ∧ ∀ n, Instr.sameBits (n + 2) e.key kv = true
theorem Found.cons {I : Imm} {kv : Value} {l : List MapEntry} {i : Nat} {X Y : Option (Nat × Value) → Prop} {f : Option (Nat × PV)} (h : Found I kv l (i + 1) X f) (e : MapEntry) (hxy : ∀ y, X y → Y y) : Found I kv (e :: l) i Y f := by
  cases f with
  | none => exact hxy _ h
  | some x =>
    obtain ⟨e', a1, a2, a3, a4, a5⟩ := h
    refine ⟨e', by omega, ?_, a3, hxy _ a4, a5⟩
    rw [show x.1 - i = (x.1 - (i + 1)) + 1 by omega, List.getElem?_cons_succ]; exact a2
theorem mapFind_now {I : Imm} {kk : SK} {d : TypeDesc} (hd : (kk = .i ∧ ∃ k, d = .int k) ∨ (kk = .s ∧ d = .string) ∨ (kk = .b ∧ d = .bool)) {k : PV} {kv : Value} (h1 : PRel I k kv) {es : List (Nat × PV × PV)} {l : List MapEntry} (hm : MRels I es l) :
    ∀ {i : Nat} {f : Option (Nat × PV)}, mapFind (.one kk) k es i = some f → Found I kv l i (fun y => Instr.findNow d kv l i = some y) f := by
  induction hm with
  | nil => intro i f h; simp [mapFind] at h; subst h; rfl
  | cons q v e es l g1 g2 _ ih =>
    intro i f h
    simp only [mapFind] at h
    cases hq : keyEq (.one kk) k q with
    | none => rw [hq] at h; cases h
    | some b =>
      obtain ⟨e1, e2⟩ := keyEq_now hd h1 g1 hq
      rw [hq] at h
      cases b with
      | true =>
        injection h with h; subst h
        exact ⟨e, Nat.le_refl _, by simp, g2, by simp [Instr.findNow, e1], e2 rfl⟩
      | false => exact (ih h).cons e fun y hy => by simpa [Instr.findNow, e1] using hy
theorem mapFind_ask {t : TypeId} {sh : List SK} (hsh : shapeT Γ.P 20 t = some sh) (ha : aggT Γ.P t = some true) {I : Imm} {k : PV} {kv : Value} (h1 : PRel I k kv) {es : List (Nat × PV × PV)} {l : List MapEntry} (hm : MRels I es l) :
    ∀ {i : Nat} {f : Option (Nat × PV)}, mapFind (.agg sh) k es i = some f → Found I kv l i (fun y => (Instr.findAsking t kv l i).run Γ.P w = .ok y w) f ∧ (l = [] ∨ ∃ e l' us, l = e :: l' ∧ e.key = .agg us) := by
  induction hm with
  | nil => intro i f h; simp [mapFind] at h; subst h; exact ⟨rfl, .inl rfl⟩
  | cons q v e es l g1 g2 _ ih =>
    intro i f h
    simp only [mapFind] at h
    cases hq : keyEq (.agg sh) k q with
    | none => rw [hq] at h; cases h
    | some b =>
      obtain ⟨⟨us, hus⟩, e1, e2⟩ := keyEq_agg (w := w) hsh ha h1 g1 hq
      refine ⟨?_, .inr ⟨e, l, us, rfl, hus⟩⟩
      rw [hq] at h
      cases b with
      | true =>
        injection h with h; subst h
        exact ⟨e, Nat.le_refl _, by simp, g2, by simp [Instr.findAsking, e1], e2 rfl⟩
      | false => exact (ih h).1.cons e fun y hy => by simp [Instr.findAsking, e1, hy]
theorem findKey_rel {t : TypeId} {kk : KT} (ht : keyT Γ.P t = some kk) {I : Imm} {k : PV} {kv : Value} (h1 : PRel I k kv) {es : List (Nat × PV × PV)} {l : List MapEntry} (hm : MRels I es l) {f : Option (Nat × PV)} (hf : mapFind kk k es 0 = some f) :
    Found I kv l 0 (fun y => (Instr.findKey t kv l).run Γ.P w = .ok y w) f := by
  rcases keyT_cases ht with ⟨k', d, rfl, hu, hd⟩ | ⟨sh, rfl, hsh, ha, hc⟩
  · have := mapFind_now hd h1 hm hf
    cases f with
    | none =>
      have this : Instr.findNow d kv l 0 = some none := this
      show (Instr.findKey t kv l).run Γ.P w = .ok none w
      simp [Instr.findKey, run_underlying hu, this]
    | some x =>
      obtain ⟨e, a1, a2, a3, a4, a5⟩ := this
      exact ⟨e, a1, a2, a3, by simp [Instr.findKey, run_underlying hu, a4], a5⟩
  · obtain ⟨this, hl⟩ := mapFind_ask (Γ := Γ) (w := w) hsh ha h1 hm hf
    have hu : ∃ d, Γ.P.underlying t = some d ∧ ∀ v us, Instr.sameNow d v (.agg us) = none := by
      rcases hc with ⟨fs, hu, _⟩ | ⟨n, e, hu, _⟩
      · exact ⟨_, hu, fun v us => by cases v <;> rfl⟩
      · exact ⟨_, hu, fun v us => by cases v <;> rfl⟩
    obtain ⟨d, hu, hsn⟩ := hu
    have key : (Instr.findKey t kv l).run Γ.P w = (Instr.findAsking t kv l).run Γ.P w := by
      rcases hl with rfl | ⟨e, l', us, rfl, he⟩
      · simp [Instr.findKey, run_underlying hu, Instr.findNow, Instr.findAsking]
      · simp [Instr.findKey, run_underlying hu, Instr.findNow, he, hsn]
    cases f with
    | none => exact key.trans this
    | some x =>
      obtain ⟨e, a1, a2, a3, a4, a5⟩ := this
      exact ⟨e, a1, a2, a3, key.trans a4, a5⟩
theorem zeroPV_rel {t : TypeId} {p : PV} (h : zeroPV Γ.P t = some p) : ∃ i z, Γ.P.info? t = some i ∧ i.zero = some z ∧ PRel κ.imm p z := by
  unfold zeroPV at h
  split at h
  · rename_i i hi
    split at h
    · rename_i z hz
      exact ⟨i, z, hi, hz, constPV_rel κ.imm h⟩
    · cases h
  · cases h
theorem lookV_rel {I : Imm} {ok : Bool} {z : PV} {f : Option (Nat × PV)} {zv : Value} (hz : PRel I z zv) {fv : Option Value} (hf : match f with | none => fv = none | some x => ∃ u, fv = some u ∧ PRel I x.2 u) :
    PRel I (lookV ok z f) (if ok then .tuple #[fv.getD zv, .bool fv.isSome] else fv.getD zv) := by
  cases f with
  | none =>
    simp only at hf; subst hf
    cases ok
    · simpa [lookV] using hz
    · exact .tup [z, .bool false] [zv, .bool false] (.cons _ _ _ _ hz (.cons _ _ _ _ (.bool _) .nil))
  | some x =>
    obtain ⟨u, rfl, hu⟩ := hf
    cases ok
    · simpa [lookV] using hu
    · exact .tup [x.2, .bool true] [u, .bool true] (.cons _ _ _ _ hu (.cons _ _ _ _ (.bool _) .nil))
theorem look_rel (hs : SRel Γ base κ H w) {t kt et : TypeId} (ht : Γ.P.underlying t = some (.map kt et)) {kk : KT} (hk : keyT Γ.P kt = some kk) {z : PV} (hz : zeroPV Γ.P et = some z) {ok : Bool}
    {x k : AV} {vx vk : Value} (hx : VRel κ x vx) (hkv : VRel κ k vk) {v : AV} (he : lookK ok kk z x k H (fun p => some (AV.pv p)) = some v) : ∃ v', (Instr.lookup t vx vk ok).run Γ.P w = .ok v' w ∧ VRel κ v v' := by
  obtain ⟨i, zv, hi, hzz, hzr⟩ := zeroPV_rel (Γ := Γ) (κ := κ) hz
  have hzv : (zeroValue et).run Γ.P w = .ok zv w := run_zeroValue' hi hzz
  unfold lookK at he
  split at he
  · rename_i id
    split at he
    · rename_i k
      rw [hgetK_def] at he
      split at he
      · rename_i clk es hg
        cases hko : keyOK kk k with
        | false => rw [hko] at he; cases he
        | true =>
        rw [hko] at he; simp only [cond_true] at he
        rw [bindK_def] at he
        obtain ⟨f, hf, he⟩ := obind_inv he
        injection he with he; subst he
        cases hx with
        | map _ kb hl =>
          obtain ⟨_, hob⟩ := hs.obj id kb (by rw [hg]; exact hl)
          rw [hg] at hob
          obtain ⟨ents, hw, hm⟩ := hob
          cases hkv with
          | pv _ _ hkp =>
            have hfn := findKey_rel (Γ := Γ) (w := w) hk hkp hm hf
            have hck := fun b => run_checkKey (Γ := Γ) (w := w) hk hko hkp b
            refine ⟨_, ?_, .pv _ _ (lookV_rel (fv := match f with | none => none | some x => (ents.toList[x.1]?).map (·.val)) hzr ?_)⟩
            · cases f with
              | none =>
                have hfn : (Instr.findKey kt vk ents.toList).run Γ.P w = .ok none w := hfn
                cases ok <;> simp [Instr.lookup, run_underlying ht, MapKept.run_getObj_map hw, hck, hfn, hzv]
              | some x =>
                obtain ⟨e, a1, a2, a3, a4, a5⟩ := hfn
                rw [Nat.sub_zero] at a2
                cases ok <;> simp [Instr.lookup, run_underlying ht, MapKept.run_getObj_map hw, hck, a4, a2]
            · cases f with
              | none => rfl
              | some x =>
                obtain ⟨e, a1, a2, a3, a4, a5⟩ := hfn
                rw [Nat.sub_zero] at a2
                exact ⟨e.val, by simp only [a2]; rfl, a3⟩
      · cases he
    · cases he
  · split at he
    · rename_i k
      cases hko : keyOK kk k with
      | false => rw [hko] at he; cases he
      | true =>
      rw [hko] at he; simp only [cond_true] at he
      injection he with he; subst he
      cases hx with
      | pv _ _ hp =>
        cases hp
        cases hkv with
        | pv _ _ hkp =>
          have hfn : (Instr.findKey kt vk []).run Γ.P w = .ok none w := findKey_rel (Γ := Γ) (w := w) hk hkp .nil (es := []) (f := none) rfl
          refine ⟨_, ?_, .pv _ _ (lookV_rel (f := none) (fv := none) hzr rfl)⟩
          cases ok <;> simp [Instr.lookup, run_underlying ht, run_checkKey (Γ := Γ) (w := w) hk hko hkp, hfn, hzv]
    · cases he
  · cases he

theorem MRels.set {I : Imm} {es : List (Nat × PV × PV)} {l : List MapEntry} (hm : MRels I es l) {k v : PV} {kv vv : Value} (h1 : PRel I k kv) (h2 : PRel I v vv) : ∀ i : Nat, ∀ e, l[i]? = some e → MRels I (setKV k v es i) (l.set i { e with key := kv, val := vv }) := by
  induction hm with
  | nil => intro i e h; simp at h
  | cons q u e0 es l g1 g2 g3 ih =>
    intro i e h
    cases i with
    | zero => simp at h; subst h; exact MRels.cons k v { e0 with key := kv, val := vv } es l h1 h2 g3
    | succ i => exact .cons _ _ _ _ _ g1 g2 (ih i e (by simpa using h))
theorem MRels.push {I : Imm} {es : List (Nat × PV × PV)} {l : List MapEntry} (hm : MRels I es l) {k v : PV} {e' : MapEntry} (h1 : PRel I k e'.key) (h2 : PRel I v e'.val) : MRels I (es ++ [(e'.born, k, v)]) (l ++ [e']) := by
  induction hm with
  | nil => exact .cons _ _ _ _ _ h1 h2 .nil
  | cons q u e es l g1 g2 g3 ih => exact .cons _ _ _ _ _ g1 g2 ih
theorem MRels.erase {I : Imm} {es : List (Nat × PV × PV)} {l : List MapEntry} (hm : MRels I es l) : ∀ i : Nat, MRels I (es.eraseIdx i) (l.eraseIdx i) := by
  induction hm with
  | nil => intro i; exact .nil
  | cons q u e0 es l g1 g2 g3 ih =>
    intro i
    cases i with
    | zero => exact g3
    | succ i => exact .cons _ _ _ _ _ g1 g2 (ih i)
theorem MRels.length {I : Imm} {es : List (Nat × PV × PV)} {l : List MapEntry} (hm : MRels I es l) : es.length = l.length := by
  induction hm with
  | nil => rfl
  | cons q u e0 es l g1 g2 g3 ih => simp [ih]
theorem modify_list {es : Array MapEntry} {i : Nat} {e : MapEntry} (h : es.toList[i]? = some e) (f : MapEntry → MapEntry) : (es.modify i f).toList = es.toList.set i (f e) := by
  apply List.ext_getElem?
  intro j
  rw [Array.getElem?_toList, Array.getElem?_modify, List.getElem?_set]
  have hl : i < es.toList.length := (List.getElem?_eq_some_iff.1 h).1
  by_cases hij : i = j
  · subst hij
    rw [Array.getElem?_toList] at h
    simp only [h, if_true, hl, Option.map]
  · simp [hij]
/-- A map turns. -/
theorem SRel.mapTurn (h : SRel Γ base κ H w) {id l c : Nat} {es : List (Nat × PV × PV)} {o : HObj} {a a' : Array MapEntry} {c' : Nat} {es' : List (Nat × PV × PV)} (ho' : o = .map c' es') (hl : κ.loc id = some l) (hg : hget H id = .map c es) (hL : w.heap[l]? = some (.map a c)) (ho : MRels κ.imm es' a'.toList) :
    SRel Γ base κ (hset H id o) (w.putObj l (.map a' c')) ∧ Grow κ H w κ (hset H id o) (w.putObj l (.map a' c')) := by
  subst ho'
  have hlt : l < w.heap.size := (Array.getElem?_eq_some_iff.1 hL).1
  refine h.turnOne id (.map c' es') l l ⟨rfl, rfl, rfl, Nat.le_refl _, by simp⟩ κ.le_refl (by rw [hg]; exact hl) rfl (fun _ _ => rfl) (fun k _ hne => World.putObj_heap_other hne) (fun a v hv => ?_) (fun k hk => ?_) (.inl rfl) ?_
  · have hne : a.block ≠ l := fun e => by
      have hc := h.imm a v hv
      unfold World.cell? at hc
      rw [e, hL] at hc
      simp at hc
    exact ⟨(World.cell?_of_block (World.putObj_heap_other hne)).trans (h.imm a v hv), .inl hv⟩
  · simp only [place] at hk; rw [hl] at hk; exact (Option.some.inj hk).symm
  · exact ⟨a', World.putObj_heap_same hlt, ho⟩
theorem upd_rel (hs : SRel Γ base κ H w) {t kt et : TypeId} (ht : Γ.P.underlying t = some (.map kt et)) {kk : KT} (hk : keyT Γ.P kt = some kk)
    {x k u : AV} {vx vk vu : Value} (hx : VRel κ x vx) (hkv : VRel κ k vk) (huv : VRel κ u vu) {H' : Heap} (he : updK kk x k u H some = some H') :
    ∃ w', (Instr.mapUpdate t vx vk vu).run Γ.P w = .ok () w' ∧ SRel Γ base κ H' w' ∧ Grow κ H w κ H' w' := by
  unfold updK at he
  split at he
  · rename_i id
    split at he
    · rename_i k
      split at he
      · rename_i u
        rw [hgetK_def] at he
        split at he
        · rename_i clk es hg
          cases hko : keyOK kk k with
          | false => rw [hko] at he; cases he
          | true =>
          rw [hko] at he; simp only [cond_true] at he
          rw [bindK_def] at he
          obtain ⟨f, hf, he⟩ := obind_inv he
          injection he with he; subst he
          cases hx with
          | map _ kb hl =>
            obtain ⟨_, hob⟩ := hs.obj id kb (by rw [hg]; exact hl)
            rw [hg] at hob
            obtain ⟨ents, hw, hm⟩ := hob
            cases hkv with
            | pv _ _ hkp =>
            cases huv with
            | pv _ _ hup =>
              have hfn := findKey_rel (Γ := Γ) (w := w) hk hkp hm hf
              have hck := fun b => run_checkKey (Γ := Γ) (w := w) hk hko hkp b
              cases f with
              | none =>
                have hfn : (Instr.findKey kt vk ents.toList).run Γ.P w = .ok none w := hfn
                obtain ⟨s, g⟩ := hs.mapTurn (a' := ents.push { key := vk, val := vu, born := clk }) (c' := clk + 1) (es' := es ++ [(clk, k, u)]) (o := mapPut clk es k u none) rfl hl hg hw (by rw [Array.toList_push]; exact hm.push (e' := { key := vk, val := vu, born := clk }) hkp hup)
                refine ⟨_, ?_, s, g⟩
                simp [Instr.mapUpdate, run_underlying ht, MapKept.run_getObj_map hw, hck, hfn, MapKept.run_setObj_map _ hw, World.putObj]
              | some x =>
                obtain ⟨e, a1, a2, a3, a4, a5⟩ := hfn
                rw [Nat.sub_zero] at a2
                have a2' : ents[x.1]? = some e := by rw [← Array.getElem?_toList]; exact a2
                obtain ⟨s, g⟩ := hs.mapTurn (a' := ents.modify x.1 fun e => { e with key := vk, val := vu }) (c' := clk) (es' := setKV k u es x.1) (o := mapPut clk es k u (some x)) rfl hl hg hw (by rw [modify_list a2]; exact hm.set hkp hup x.1 e a2)
                refine ⟨_, ?_, s, g⟩
                simp [Instr.mapUpdate, run_underlying ht, MapKept.run_getObj_map hw, hck, a4, a2', Instr.keyThatStays, a5, MapKept.run_setObj_map _ hw, World.putObj]
        · cases he
      · cases he
    · cases he
  · cases he
theorem del_rel (hs : SRel Γ base κ H w) {t kt et : TypeId} (ht : Γ.P.underlying t = some (.map kt et)) {kk : KT} (hk : keyT Γ.P kt = some kk) (ts : Array TypeId) (h0 : ts[0]? = some t) (ty : TypeId)
    {x k : AV} {vx vk : Value} (hx : VRel κ x vx) (hkv : VRel κ k vk) {H' : Heap} (he : delK kk x k H some = some H') :
    ∃ w', (Builtin.delete_ ts ty #[vx, vk]).run Γ.P w = .ok (.tuple #[]) w' ∧ SRel Γ base κ H' w' ∧ Grow κ H w κ H' w' := by
  unfold delK at he
  split at he
  · rename_i id
    split at he
    · rename_i k
      rw [hgetK_def] at he
      split at he
      · rename_i clk es hg
        cases hko : keyOK kk k with
        | false => rw [hko] at he; cases he
        | true =>
        rw [hko] at he; simp only [cond_true] at he
        rw [bindK_def] at he
        obtain ⟨f, hf, he⟩ := obind_inv he
        injection he with he; subst he
        cases hx with
        | map _ kb hl =>
          obtain ⟨_, hob⟩ := hs.obj id kb (by rw [hg]; exact hl)
          rw [hg] at hob
          obtain ⟨ents, hw, hm⟩ := hob
          cases hkv with
          | pv _ _ hkp =>
            have hfn := findKey_rel (Γ := Γ) (w := w) hk hkp hm hf
            have hck := fun b => run_checkKey (Γ := Γ) (w := w) hk hko hkp b
            cases f with
            | none =>
              have hfn : (Instr.findKey kt vk ents.toList).run Γ.P w = .ok none w := hfn
              obtain ⟨s, g⟩ := hs.mapTurn (a' := ents) (c' := clk) (es' := es) (o := mapDel clk es none) rfl hl hg hw hm
              refine ⟨_, ?_, s, g⟩
              simp [Builtin.delete_, h0, run_underlying ht, MapKept.run_getObj_map hw, hck, hfn, MapKept.run_setObj_map _ hw, World.putObj]
            | some x =>
              obtain ⟨e, a1, a2, a3, a4, a5⟩ := hfn
              rw [Nat.sub_zero] at a2
              obtain ⟨s, g⟩ := hs.mapTurn (a' := ents.eraseIdxIfInBounds x.1) (c' := clk) (es' := es.eraseIdx x.1) (o := mapDel clk es (some x)) rfl hl hg hw (by
                have : (ents.eraseIdxIfInBounds x.1).toList = ents.toList.eraseIdx x.1 := by simp
                rw [this]; exact hm.erase x.1)
              refine ⟨_, ?_, s, g⟩
              simp [Builtin.delete_, h0, run_underlying ht, MapKept.run_getObj_map hw, hck, a4, MapKept.run_setObj_map _ hw, World.putObj]
      · cases he
    · cases he
  · cases he
theorem len_rel (hs : SRel Γ base κ H w) {t kt et : TypeId} (ht : Γ.P.underlying t = some (.map kt et)) (ts : Array TypeId) (h0 : ts[0]? = some t) (ty : TypeId) {x : AV} {vx : Value} (hx : VRel κ x vx) {v : AV}
    (he : lenK x H (fun p => some (AV.pv p)) = some v) : ∃ v', (Builtin.len_ ts ty #[vx]).run Γ.P w = .ok v' w ∧ VRel κ v v' := by
  unfold lenK at he
  split at he
  · rename_i id
    rw [hgetK_def] at he
    split at he
    · rename_i clk es hg
      injection he with he; subst he
      cases hx with
      | map _ kb hl =>
        obtain ⟨_, hob⟩ := hs.obj id kb (by rw [hg]; exact hl)
        rw [hg] at hob
        obtain ⟨ents, hw, hm⟩ := hob
        refine ⟨.int .i64 ents.size, ?_, ?_⟩
        · simp [Builtin.len_, h0, run_underlying ht, MapKept.run_getObj_map hw, goInt]
        · have : es.length = ents.size := by rw [hm.length]; simp
          rw [this]; exact .pv _ _ (.int _ _)
    · cases he
  · injection he with he; subst he
    cases hx with
    | pv _ _ hp =>
      cases hp
      exact ⟨.int .i64 0, by simp [Builtin.len_, h0, run_underlying ht, goInt], .pv _ _ (.int _ _)⟩
  · cases he
/-- A new map. -/
theorem SRel.newMap (h : SRel Γ base κ H w) :
    SRel Γ base (κ.at H.length w.heap.size) (H ++ [.map 0 []]) (w.alloc (.map #[] 0)) ∧ Grow κ H w (κ.at H.length w.heap.size) (H ++ [.map 0 []]) (w.alloc (.map #[] 0)) := by
  refine h.turnNew (.map 0 []) w.heap.size (Same.alloc w _) (κ.le_at (h.fresh _ (Nat.le_refl _)).1) (fun i hi => by simp [K.at, hi]) (fun _ _ => rfl)
    (fun k hk => heap_alloc_old w _ k hk) (fun _ _ h => .inl h) (by simp [place, K.at]) (Nat.le_refl _) ⟨#[], heap_alloc_new w _, .nil⟩
/-- A new look over a map. -/
theorem SRel.newIter (h : SRel Γ base κ H w) (m : Option Nat) (mk : Option Nat) (c : Nat) (h1 : m = none → mk = none) (h2 : ∀ m', m = some m' → ∃ k', mk = some k' ∧ κ.loc m' = some k') :
    SRel Γ base (κ.at H.length w.heap.size) (H ++ [.iter m c [] c]) (w.alloc (.mapIter mk c #[] c)) ∧ Grow κ H w (κ.at H.length w.heap.size) (H ++ [.iter m c [] c]) (w.alloc (.mapIter mk c #[] c)) := by
  have hle := κ.le_at (k := w.heap.size) (h.fresh H.length (Nat.le_refl _)).1
  refine h.turnNew (.iter m c [] c) w.heap.size (Same.alloc w _) hle (fun i hi => by simp [K.at, hi]) (fun _ _ => rfl)
    (fun k hk => heap_alloc_old w _ k hk) (fun _ _ h => .inl h) (by simp [place, K.at]) (Nat.le_refl _) ⟨mk, heap_alloc_new w _, h1, fun m' hm => ?_⟩
  obtain ⟨k', g1, g2⟩ := h2 m' hm
  exact ⟨k', g1, hle.loc _ _ g2⟩
theorem range_rel (hs : SRel Γ base κ H w) {t kt et : TypeId} (ht : Γ.P.underlying t = some (.map kt et)) {x : AV} {vx : Value} (hx : VRel κ x vx) {v : AV} {H' : Heap} (he : rangeMK x H (fun v h => some (v, h)) = some (v, H')) :
    ∃ v' κ' w', (Instr.range t vx).run Γ.P w = .ok v' w' ∧ VRel κ' v v' ∧ SRel Γ base κ' H' w' ∧ Grow κ H w κ' H' w' := by
  unfold rangeMK at he
  split at he
  · rename_i id
    rw [hgetK_def] at he
    split at he
    · rename_i clk es hg
      injection he with he; injection he with e1 e2; subst e1; subst e2
      cases hx with
      | map _ kb hl =>
        obtain ⟨_, hob⟩ := hs.obj id kb (by rw [hg]; exact hl)
        rw [hg] at hob
        obtain ⟨ents, hw, hm⟩ := hob
        obtain ⟨s, g⟩ := hs.newIter (some id) (some kb) clk (fun h => by cases h) (fun m' h => by injection h with h; subst h; exact ⟨kb, rfl, hl⟩)
        exact ⟨_, _, _, by simp [Instr.range, run_underlying ht, MapKept.run_getObj_map hw], .ptr _ _ _ (K.at_same _ _ _), s, g⟩
    · cases he
  · injection he with he; injection he with e1 e2; subst e1; subst e2
    cases hx with
    | pv _ _ hp =>
      cases hp
      obtain ⟨s, g⟩ := hs.newIter none none 0 (fun _ => rfl) (fun m' h => by cases h)
      exact ⟨_, _, _, by simp [Instr.range, run_underlying ht], .ptr _ _ _ (K.at_same _ _ _), s, g⟩
  · cases he
theorem find_rel {I : Imm} {es : List (Nat × PV × PV)} {l : List MapEntry} (hm : MRels I es l) {s : Nat} {e : Nat × PV × PV} (h : es.find? (fun e => Nat.beq e.1 s) = some e) :
    ∃ x, l.find? (fun x => x.born == s) = some x ∧ PRel I e.2.1 x.key ∧ PRel I e.2.2 x.val := by
  induction hm with
  | nil => cases h
  | cons q u e0 es l g1 g2 g3 ih =>
    rw [List.find?_cons] at h ⊢
    cases hb : Nat.beq e0.born s with
    | true =>
      simp only [hb] at h
      injection h with h; subst h
      have : (e0.born == s) = true := by rw [Nat.eq_of_beq_eq_true hb]; exact beq_self_eq_true s
      simp only [this]
      exact ⟨e0, rfl, g1, g2⟩
    | false =>
      simp only [hb] at h
      have : (e0.born == s) = false := by rw [beq_eq_false_iff_ne]; exact fun e => by rw [e, Nat.beq_refl] at hb; cases hb
      simp only [this]
      exact ih h
theorem entry_rel (hs : SRel Γ base κ H w) {x : AV} {vx : Value} (hx : VRel κ x vx) {v : AV} (he : entryK x H (fun p => some (AV.pv p)) = some v) : ∃ v', (Instr.entry vx).run Γ.P w = .ok v' w ∧ VRel κ v v' := by
  unfold entryK at he
  split at he
  · rename_i id off
    rw [hgetK_def] at he
    split at he
    · rename_i m since seen last hg
      split at he
      · rename_i m
        rw [hgetK_def] at he
        split at he
        · rename_i clk es hg2
          have hq0 := needK_inv he
          clear he
          obtain ⟨hc, he⟩ := hq0
          rw [Bool.and_eq_true] at hc
          have h0 := Nat.eq_of_beq_eq_true hc.1
          have hcl := Nat.eq_of_beq_eq_true hc.2
          subst h0; subst hcl
          rw [bindK_def] at he
          have hq0 := obind_inv he
          clear he
          obtain ⟨s, hs1, he⟩ := hq0
          rw [bindK_def] at he
          have hq0 := obind_inv he
          clear he
          obtain ⟨e, he1, he⟩ := hq0
          injection he with he; subst he
          cases hx with
          | ptr _ _ k hl =>
            obtain ⟨_, hob⟩ := hs.obj id k (by rw [hg]; exact hl)
            rw [hg] at hob
            obtain ⟨mk, hw, h1, h2⟩ := hob
            obtain ⟨k', rfl, hl2⟩ := h2 m rfl
            obtain ⟨_, hob2⟩ := hs.obj m k' (by rw [hg2]; exact hl2)
            rw [hg2] at hob2
            obtain ⟨ents, hw2, hm⟩ := hob2
            obtain ⟨y, g1, g2, g3⟩ := find_rel hm he1
            refine ⟨.tuple #[y.key, y.val], ?_, .pv _ _ (.tup _ [y.key, y.val] (.cons _ _ _ _ g2 (.cons _ _ _ _ g3 .nil)))⟩
            have hback : seen.toArray.back? = some s := by simpa using hs1
            have hfind : ents.find? (fun e => e.born == s) = some y := by rw [← Array.find?_toList]; exact g1
            simp only [Instr.entry, getObj, Sem.run_bind, Sem.run, hw, hw2, Result.andThen_ok, hback, hfind, bne_self_eq_false, Bool.false_eq_true, if_false]
            rfl
        · cases he
      · cases he
    · cases he
  · cases he
end
end Go.VM

namespace Go.VM
open Go

section
variable {R S α : Type}
theorem needK_bind (p : Bool) (x : Option R) (F : R → Option S) : (needK p x).bind F = needK p (x.bind F) := by simp only [needK_def]; cases p <;> rfl
theorem boolK_bind (b : Bool) (G : Bool → Option R) (F : R → Option S) : (boolK b G).bind F = boolK b fun c => (G c).bind F := by simp only [boolK_def]
theorem eqK_bind (x : α) (G : α → Option R) (F : R → Option S) : (eqK x G).bind F = eqK x fun c => (G c).bind F := by simp only [eqK_def]
theorem getK_bind (l : List α) (i : Nat) (G : α → Option R) (F : R → Option S) : (getK l i G).bind F = getK l i fun c => (G c).bind F := by
  simp only [getK_def]; cases l[i]? <;> rfl
theorem secK_bind (l : List α) (i n : Nat) (G : List α → Option R) (F : R → Option S) : (secK l i n G).bind F = secK l i n fun c => (G c).bind F := by
  simp only [secK_def]; cases Nat.ble (i + n) l.length <;> rfl
theorem bindK_bind (x : Option α) (G : α → Option R) (F : R → Option S) : (bindK x G).bind F = bindK x fun c => (G c).bind F := by
  simp only [bindK_def]; cases x <;> rfl
theorem hgetK_bind (h : Heap) (id : Nat) (G : HObj → Option R) (F : R → Option S) : (hgetK h id G).bind F = hgetK h id fun c => (G c).bind F := by simp only [hgetK_def]
theorem cond_bind (b : Bool) (x y : Option R) (F : R → Option S) : (bif b then x else y).bind F = bif b then x.bind F else y.bind F := by cases b <;> rfl
end

section
variable {R S : Type}
theorem intBinK_bind (op : BinOp) (k : IntKind) (a b : Int) (G : PV → Option R) (F : R → Option S) : (intBinK op k a b G).bind F = intBinK op k a b fun p => (G p).bind F := by
  cases op <;> simp only [intBinK, needK_bind, eqK_bind, boolK_bind] <;> rfl
theorem shiftK_bind (op : BinOp) (k : IntKind) (a b : Int) (G : PV → Option R) (F : R → Option S) : (shiftK op k a b G).bind F = shiftK op k a b fun p => (G p).bind F := by
  cases op <;> simp only [shiftK, needK_bind, eqK_bind] <;> rfl
theorem strBinK_bind (op : BinOp) (a b : ByteArray) (G : PV → Option R) (F : R → Option S) : (strBinK op a b G).bind F = strBinK op a b fun p => (G p).bind F := by
  cases op <;> simp only [strBinK, needK_bind, eqK_bind, boolK_bind] <;> rfl
theorem boolBinK_bind (op : BinOp) (a b : Bool) (G : PV → Option R) (F : R → Option S) : (boolBinK op a b G).bind F = boolBinK op a b fun p => (G p).bind F := by
  cases op <;> simp only [boolBinK, boolK_bind] <;> rfl
theorem nilBinK_bind (k : BK) (op : BinOp) (x y : AV) (G : PV → Option R) (F : R → Option S) : (nilBinK k op x y G).bind F = nilBinK k op x y fun p => (G p).bind F := by
  cases op <;> simp only [nilBinK] <;> (try rfl) <;> (cases nilEq k x y <;> rfl)
theorem binK_bind (k : BK) (op : BinOp) (x y : AV) (G : PV → Option R) (F : R → Option S) : (binK k op x y G).bind F = binK k op x y fun p => (G p).bind F := by
  cases k with
  | num =>
    cases x with
    | pv p =>
      cases p with
      | int k a =>
        cases y with
        | pv q => cases q <;> simp only [binK, cond_bind, shiftK_bind, intBinK_bind] <;> rfl
        | _ => rfl
      | str a =>
        cases y with
        | pv q => cases q <;> simp only [binK, strBinK_bind] <;> rfl
        | _ => rfl
      | _ => rfl
    | _ => rfl
  | bool =>
    cases x with
    | pv p =>
      cases p with
      | bool a =>
        cases y with
        | pv q => cases q <;> simp only [binK, boolBinK_bind] <;> rfl
        | _ => rfl
      | _ => rfl
    | _ => rfl
  | agg sh =>
    cases x with
    | pv p =>
      cases p with
      | agg a =>
        cases y with
        | pv q => cases q <;> (try rfl) <;> (cases op <;> simp only [binK, bindK_bind, boolK_bind] <;> rfl)
        | _ => rfl
      | _ => rfl
    | _ => rfl
  | _ => exact nilBinK_bind _ _ _ _ _ _
theorem unK_bind (op : UnOp) (x : AV) (G : PV → Option R) (F : R → Option S) : (unK op x G).bind F = unK op x fun p => (G p).bind F := by
  cases op <;> cases x <;> (try rfl) <;> (rename_i p; cases p <;> simp only [unK, eqK_bind] <;> rfl)
theorem rowK_bind (o : HObj) (G : Nat → Nat → List AV → Option R) (F : R → Option S) : (rowK o G).bind F = rowK o fun n es cs => (G n es cs).bind F := by cases o <;> rfl
theorem load1K_bind (p : AV) (h : Heap) (G : AV → Option R) (F : R → Option S) : (load1K p h G).bind F = load1K p h fun v => (G v).bind F := by
  cases p <;> simp only [load1K, getK_bind, hgetK_bind, rowK_bind, needK_bind] <;> (try rfl)
  congr 1; funext o; cases o <;> simp only [getK_bind] <;> (try rfl)
  cases lget _ _ <;> rfl
theorem loadNK_bind (n : Nat) (p : AV) (h : Heap) (G : AV → Option R) (F : R → Option S) : (loadNK n p h G).bind F = loadNK n p h fun v => (G v).bind F := by
  cases p <;> simp only [loadNK, secK_bind, hgetK_bind, rowK_bind, needK_bind] <;> (try rfl)
  congr 1; funext o; cases o <;> simp only [secK_bind, cond_bind] <;> rfl
theorem store1K_bind (p v : AV) (h : Heap) (G : Heap → Option R) (F : R → Option S) : (store1K p v h G).bind F = store1K p v h fun v => (G v).bind F := by
  cases p <;> simp only [store1K, hgetK_bind, rowK_bind, needK_bind, eqK_bind] <;> (try rfl)
  congr 1; funext o; cases o <;> simp only [cond_bind] <;> (try rfl)
  cases v <;> simp only [cond_bind, needK_bind, eqK_bind] <;> rfl
theorem storeNK_bind (n : Nat) (p v : AV) (h : Heap) (G : Heap → Option R) (F : R → Option S) : (storeNK n p v h G).bind F = storeNK n p v h fun v => (G v).bind F := by
  cases p
  case gptr => simp only [storeNK]; cases v.isAgg <;> simp only [hgetK_bind, rowK_bind, needK_bind, eqK_bind, Option.bind_none]
  all_goals simp only [storeNK, hgetK_bind] <;> (try rfl)
  congr 1; funext o; cases o <;> (try rfl) <;> (cases v <;> simp only [cond_bind] <;> (try rfl) <;> (rename_i q; cases q <;> simp only [cond_bind, needK_bind, eqK_bind] <;> rfl))
theorem idxK_bind (i : AV) (len : Nat) (G : Nat → Option R) (F : R → Option S) : (idxK i len G).bind F = idxK i len fun v => (G v).bind F := by
  cases i <;> (try rfl) <;> (rename_i p; cases p <;> simp only [idxK, needK_bind] <;> rfl)
theorem idxAddrSK_bind (es : Nat) (x i : AV) (G : AV → Option R) (F : R → Option S) : (idxAddrSK es x i G).bind F = idxAddrSK es x i fun v => (G v).bind F := by
  cases x <;> simp only [idxAddrSK, idxK_bind] <;> (try rfl) <;> (rename_i p; cases p <;> simp only [idxK_bind] <;> rfl)
theorem boundK_bind (x : Option AV) (d y : Nat) (G : Nat → Option R) (F : R → Option S) : (boundK x d y G).bind F = boundK x d y fun v => (G v).bind F := by
  cases x with
  | none => rfl
  | some x => cases x <;> (try rfl) <;> (rename_i p; cases p <;> simp only [boundK, needK_bind] <;> rfl)
theorem sliceStrK_bind (x : AV) (lo hi : Option AV) (G : AV → Option R) (F : R → Option S) : (sliceStrK x lo hi G).bind F = sliceStrK x lo hi fun v => (G v).bind F := by
  cases x <;> (try rfl) <;> (rename_i p; cases p <;> simp only [sliceStrK, boundK_bind, eqK_bind] <;> rfl)
theorem sliceSK_bind (es : Nat) (x : AV) (lo hi mx : Option AV) (G : AV → Option R) (F : R → Option S) : (sliceSK es x lo hi mx G).bind F = sliceSK es x lo hi mx fun v => (G v).bind F := by
  unfold sliceSK
  split
  · split
    · simp only [boundK_bind, eqK_bind]
    · split <;> simp only [needK_bind, boundK_bind, eqK_bind, Option.bind_none]
  · split
    · simp only [boundK_bind, eqK_bind]
    · split <;> simp only [needK_bind, boundK_bind, eqK_bind, Option.bind_none]
  · split
    · simp only [needK_bind, boundK_bind]
    · rfl
  · split
    · split
      · simp only [boundK_bind, needK_bind]
      · rfl
    · rfl
  · rfl
theorem srcK_bind (h : Heap) (x : AV) (G : List PV → Option R) (F : R → Option S) : (srcK h x G).bind F = srcK h x fun v => (G v).bind F := by
  unfold srcK
  split <;> (try rfl)
  simp only [hgetK_bind]
  congr 1; funext o; cases o <;> simp only [secK_bind] <;> rfl
theorem appendTo_bind (mu : Bool) (es bytes m : Nat) (new : List PV) (s : AV) (h : Heap) (G : AV → Heap → Option R) (F : R → Option S) : (appendTo mu es bytes m new s h G).bind F = appendTo mu es bytes m new s h fun v h => (G v h).bind F := by
  unfold appendTo
  split
  · simp only [boolK_bind, cond_bind, needK_bind, eqK_bind, Option.bind_none]
  · simp only [hgetK_bind]
    congr 1; funext o; cases o <;> simp only [needK_bind, eqK_bind, Option.bind_none]
  · simp only [needK_bind, hgetK_bind]
    congr 1; congr 1; funext o; cases o <;> simp only [needK_bind, eqK_bind, Option.bind_none]
  · rfl
theorem srcA_bind (h : Heap) (x : AV) (G : List AV → Option R) (F : R → Option S) : (srcA h x G).bind F = srcA h x fun v => (G v).bind F := by
  unfold srcA
  split <;> (try rfl)
  simp only [hgetK_bind]
  congr 1; funext o; cases o <;> simp only [secK_bind] <;> rfl
theorem growK_bind (es bytes : Nat) (s x : AV) (h : Heap) (G : AV → Heap → Option R) (F : R → Option S) : (growK es bytes s x h G).bind F = growK es bytes s x h fun v h => (G v h).bind F := by
  unfold growK
  split
  · split
    · simp only [srcA_bind, hgetK_bind, rowK_bind, needK_bind, eqK_bind]
    · rfl
  · rfl
theorem appendK_bind (mu : Bool) (es bytes : Nat) (s x : AV) (h : Heap) (G : AV → Heap → Option R) (F : R → Option S) : (appendK mu es bytes s x h G).bind F = appendK mu es bytes s x h fun v h => (G v h).bind F := by
  unfold appendK
  cases s.isGs with
  | true => exact growK_bind _ _ _ _ _ _ _
  | false =>
  cases srcLen x with
  | none => rfl
  | some m => simp only [cond_false, srcK_bind, appendTo_bind]
theorem appS_bind (mu : Bool) (es bytes : Nat) (s x : AV) (h : Heap) (G : AV → Heap → Option R) (F : R → Option S) : (appS mu es bytes s x h G).bind F = appS mu es bytes s x h fun v h => (G v h).bind F := by
  rw [appS_def, appS_def]; exact appendK_bind ..
theorem copyK_bind (es : Nat) (d s : AV) (h : Heap) (G : AV → Heap → Option R) (F : R → Option S) : (copyK es d s h G).bind F = copyK es d s h fun v h => (G v h).bind F := by
  unfold copyK
  split
  · cases srcLen s with
    | none => rfl
    | some m =>
      simp only [srcK_bind, hgetK_bind]
      congr 1; funext new; congr 1; funext o; cases o <;> simp only [needK_bind, eqK_bind, Option.bind_none]
  · cases srcLen s with
    | none => rfl
    | some m => simp only [srcK_bind, needK_bind]
  · rfl
theorem lookK_bind (ok : Bool) (kk : KT) (z : PV) (x k : AV) (h : Heap) (G : PV → Option R) (F : R → Option S) : (lookK ok kk z x k h G).bind F = lookK ok kk z x k h fun v => (G v).bind F := by
  unfold lookK
  split
  · split
    · rw [hgetK_bind]
      congr 1; funext o; cases o <;> simp only [cond_bind, bindK_bind, Option.bind_none]
    · rfl
  · split <;> simp only [cond_bind, Option.bind_none]
  · rfl
theorem updK_bind (kk : KT) (x k v : AV) (h : Heap) (G : Heap → Option R) (F : R → Option S) : (updK kk x k v h G).bind F = updK kk x k v h fun v => (G v).bind F := by
  unfold updK
  split
  · split
    · split
      · rw [hgetK_bind]
        congr 1; funext o; cases o <;> simp only [cond_bind, bindK_bind, Option.bind_none]
      · rfl
    · rfl
  · rfl
theorem delK_bind (kk : KT) (x k : AV) (h : Heap) (G : Heap → Option R) (F : R → Option S) : (delK kk x k h G).bind F = delK kk x k h fun v => (G v).bind F := by
  unfold delK
  split
  · split
    · rw [hgetK_bind]
      congr 1; funext o; cases o <;> simp only [cond_bind, bindK_bind, Option.bind_none]
    · rfl
  · rfl
theorem lenK_bind (x : AV) (h : Heap) (G : PV → Option R) (F : R → Option S) : (lenK x h G).bind F = lenK x h fun v => (G v).bind F := by
  unfold lenK
  split
  · rw [hgetK_bind]
    congr 1; funext o; cases o <;> rfl
  · rfl
  · rfl
theorem rangeMK_bind (x : AV) (h : Heap) (G : AV → Heap → Option R) (F : R → Option S) : (rangeMK x h G).bind F = rangeMK x h fun v h => (G v h).bind F := by
  unfold rangeMK
  split
  · rw [hgetK_bind]
    congr 1; funext o; cases o <;> rfl
  · rfl
  · rfl
theorem entryK_bind (x : AV) (h : Heap) (G : PV → Option R) (F : R → Option S) : (entryK x h G).bind F = entryK x h fun v => (G v).bind F := by
  unfold entryK
  split
  · rw [hgetK_bind]
    congr 1; funext o; cases o <;> try rfl
    dsimp only
    split
    · rw [hgetK_bind]
      congr 1; funext o; cases o <;> simp only [needK_bind, bindK_bind, Option.bind_none]
    · rfl
  · rfl
theorem appBK_bind (es bytes : Nat) (s x : AV) (h : Heap) (G : AV → Heap → Option R) (F : R → Option S) : (appBK es bytes s x h G).bind F = appBK es bytes s x h fun v h => (G v h).bind F := by
  unfold appBK
  split
  · split
    · rw [needK_bind]
    · rw [hgetK_bind]
      congr 1; funext o; cases o <;> simp only [needK_bind, eqK_bind, Option.bind_none]
    · rfl
  · rfl
theorem minmaxK_bind (mx : Bool) (l : List AV) : ∀ (a : Int) (k : IntKind) (G : PV → Option R) (F : R → Option S), (minmaxK mx a k l G).bind F = minmaxK mx a k l fun v => (G v).bind F := by
  induction l with
  | nil => intro a k G F; rfl
  | cons x l ih =>
    intro a k G F
    cases x <;> (try rfl) <;> (rename_i p; cases p <;> (try rfl) <;> simp only [minmaxK, eqK_bind, ih])

theorem opK_bind (o : VOp) (r : Regs) (h : Heap) (G : AV → Heap → Option R) (F : R → Option S) : (opK o r h G).bind F = opK o r h fun v h => (G v h).bind F := by
  cases o
  case strOf x =>
    simp only [opK]
    split
    · rfl
    · split
      · simp only [srcK_bind, needK_bind, bindK_bind]
      · rfl
  case strOfP x =>
    simp only [opK]
    split
    · simp only [needK_bind, bindK_bind]
    · simp only [needK_bind, bindK_bind]
    · rfl
  case build => simp only [opK]; split <;> split <;> rfl
  case appendZ mu _ _ _ _ _ =>
    simp only [opK]
    split
    · cases mu
      · simp only [needK_bind, eqK_bind, appS_bind]
      · simp only
        split
        · simp only [needK_bind]
        · rfl
    · rfl
  case capS =>
    simp only [opK]
    split
    · simp only [cond_bind, Option.bind_none]
    · rfl
  case buildSlice mu _ _ _ _ =>
    cases mu
    · simp only [opK]; split <;> (try rfl); split <;> rfl
    · simp only [opK]; split <;> split <;> rfl
  case mkFn => simp only [opK]; split <;> rfl
  case buildG => simp only [opK]; split <;> rfl
  case idxA1 => 
    simp only [opK]
    split
    · simp only [idxK_bind, getK_bind]
    · simp only [idxK_bind]
      congr 1; funext j; split <;> rfl
    · rfl
  case field1 => 
    simp only [opK]
    split
    · simp only [getK_bind]
    · split <;> rfl
    · rfl
  case settle =>
    simp only [opK]
    split
    · rfl
    · rfl
    · rw [hgetK_bind]
      congr 1; funext o; cases o <;> simp only [secK_bind, Option.bind_none]
    · rfl
  case freeze =>
    simp only [opK]
    split
    · rw [hgetK_bind]
      congr 1; funext o; cases o <;> simp only [needK_bind, Option.bind_none]
    · rfl
  case extract =>
    simp only [opK]
    split
    · split <;> rfl
    · split <;> rfl
    · rfl
  case toArr =>
    simp only [opK]
    split
    · split <;> simp only [needK_bind, Option.bind_none]
    · simp only [needK_bind]
    · simp only [needK_bind]
    · rfl
  all_goals
    simp only [opK, load1K_bind, loadNK_bind, store1K_bind, storeNK_bind, binK_bind, unK_bind, idxAddrSK_bind, sliceStrK_bind, sliceSK_bind, appS_bind, copyK_bind, lookK_bind, updK_bind, delK_bind, lenK_bind, rangeMK_bind, entryK_bind, appBK_bind, cond_bind, Option.bind_none]
  all_goals
    try (split <;> simp only [eqK_bind, cond_bind, getK_bind, secK_bind, idxK_bind, boundK_bind, needK_bind, minmaxK_bind, Option.bind_none]; done)
  all_goals rfl
end
end Go.VM
