/-
  Part 4 of an abstract machine that answers as the model does.
  Appending, copying, making, bytes and strings.
  Appending, copying, making, bytes and strings: what the model does.
-/
import Derived.Test.YtkkpkoekbmgabaaV3
import Derived.Laws.BytesString
import Derived.Lib.AppendZerosOnto
set_option linter.all false
set_option linter.unusedVariables false
set_option linter.unusedSimpArgs false
set_option linter.unusedSectionVars false
namespace Go.VM
open Go

section
variable {Γ : Ctx} {base : Nat} {κ : K} {H : Heap} {w : World}

/-- What an append or a copy takes: in which form. -/
def SrcForm (w : World) (vx : Value) (m : Nat) (news : List Value) : Prop :=
  (∃ s, vx = .string s ∧ news = byteCells s ∧ m = s.size) ∨ (vx = .slice none 0 0 ∧ m = 0 ∧ news = []) ∨ (∃ a c, vx = .slice (some a) m c ∧ ∀ (j : Nat) (v : Value), news[j]? = some v → w.cell? (a.add j) = some v)
/-- What an append or a copy takes: its cells, in this world and in any later one that keeps what was. -/
structure SrcRel (Γ : Ctx) (κ : K) (w : World) (x : AV) (vx : Value) (m : Nat) (new : List PV) (news : List Value) : Prop where
  rel : PRels κ.imm new news
  ones : Ones news
  form : SrcForm w vx m news

theorem bytesCells_rel (I : Imm) (s : ByteArray) : PRels I (bytesCells s) (byteCells s) := by
  unfold bytesCells byteCells
  induction s.data.toList with
  | nil => exact .nil
  | cons b l ih => exact .cons _ _ _ _ (.int _ _) ih
theorem byteCells_ones (s : ByteArray) : Ones (byteCells s) := fun v hv => by
  unfold byteCells at hv
  obtain ⟨b, _, rfl⟩ := List.mem_map.1 hv
  rfl

theorem srcK_inv {R : Type} (hs : SRel Γ base κ H w) {x : AV} {vx : Value} (hx : VRel κ x vx) {m : Nat} (hm : srcLen x = some m) {F : List PV → Option R} {y : R} (h : srcK H x F = some y) :
    ∃ new news, F new = some y ∧ SrcRel Γ κ w x vx m new news ∧ (∀ es id off n cap, x = .hs es id off n cap → new.length = n * es) := by
  unfold srcK at h
  split at h
  · rename_i e n cs
    simp [srcLen] at hm; subst hm
    cases hx with
    | pv _ _ hx => cases hx with
      | slNil => exact ⟨[], [], h, ⟨.nil, .nil, .inr (.inl ⟨rfl, rfl, rfl⟩)⟩, fun _ _ _ _ _ e => by cases e⟩
      | sl _ _ _ a cap vs h1 h2 h3 h4 h5 h6 => exact ⟨cs, vs, h, ⟨h4, h6, .inr (.inr ⟨a, cap, rfl, fun j v hj => hs.imm _ _ (h5 j v hj)⟩)⟩, fun _ _ _ _ _ e => by cases e⟩
  · rename_i t n cs
    simp [srcLen] at hm; subst hm
    cases hx with
    | tsl _ _ _ k cap vs h1 h2 h3 h4 h5 => exact ⟨cs, vs, h, ⟨h3, h5, .inr (.inr ⟨_, cap, rfl, fun j v hj => by rw [addr_add_lit]; exact hs.imm _ _ (h4 j v hj)⟩)⟩, fun _ _ _ _ _ e => by cases e⟩
  · rename_i es id off n cap
    simp [srcLen] at hm; subst hm
    rw [hgetK_def] at h
    split at h
    · rename_i cs hg
      rw [secK_def] at h
      cases hb : Nat.ble (off + n * es) cs.length with
      | false => rw [hb] at h; simp at h
      | true =>
        rw [hb] at h; simp only [cond_true] at h
        have hle := Nat.le_of_ble_eq_true hb
        cases hx with
        | hs _ _ _ _ _ k cap' h1 h2 h3 =>
          obtain ⟨c, rest, e, hw, hr, hones, _⟩ := (ptr_cells hs h1).1 cs hg
          refine ⟨_, (c.drop off).take (n * es), h, ⟨(hr.drop off).take _, (hones.drop off).take _, .inr (.inr ⟨_, cap', rfl, fun j v hj => ?_⟩)⟩, fun _ _ _ _ _ e => ?_⟩
          · rw [addr_add_lit']
            rw [List.getElem?_take] at hj
            split at hj
            · rw [List.getElem?_drop] at hj
              exact cell_at hw (app_get hj)
            · cases hj
          · injection e with e1 e2 e3 e4 e5
            subst e1; subst e4
            simp; omega
    · cases h
  · rename_i s
    simp [srcLen] at hm; subst hm
    have := str_rel hx
    subst this
    exact ⟨_, _, h, ⟨bytesCells_rel _ s, byteCells_ones s, .inl ⟨s, rfl, rfl, rfl⟩⟩, fun _ _ _ _ _ e => by cases e⟩
  · cases h

/-- As the library's law wants it. -/
theorem srcForm_src {vx : Value} {m es : Nat} {news : List Value} (h : SrcForm w vx m news) (h1 : Ones news) {tx : TypeId} (hl : news.length = m * es) {d : TypeDesc} (ht : Γ.P.underlying tx = some d)
    (hd : d = .string ∨ ∃ e, d = .slice e) (hstr : d = .string → es = 1) (hstr2 : (∃ s, vx = .string s) → d = .string) (hsl : (¬ ∃ s, vx = .string s) → ∃ e, d = .slice e) : Src Γ.P es tx vx m news w := by
  rcases h with ⟨s, rfl, rfl, rfl⟩ | ⟨rfl, rfl, rfl⟩ | ⟨a, c, rfl, hc⟩
  · have hd' := hstr2 ⟨s, rfl⟩
    subst hd'
    have := hstr rfl
    subst this
    exact Src.ofString w ht s
  · obtain ⟨e, rfl⟩ := hsl (by rintro ⟨s, e⟩; cases e)
    exact Src.ofNil w ht 0
  · obtain ⟨e, rfl⟩ := hsl (by rintro ⟨s, e⟩; cases e)
    exact Src.ofSlice w ht a m c news hl hc h1

/-- The source of a row that grows. -/
theorem srcA_inv {R : Type} (hs : SRel Γ base κ H w) {x : AV} {vx : Value} (hx : VRel κ x vx) {m : Nat} (hm : srcLen x = some m) {F : List AV → Option R} {y : R} (h : srcA H x F = some y) :
    ∃ new news, F new = some y ∧ VRels κ new news ∧ Ones news ∧ SrcForm w vx m news ∧ ¬ ∃ b, vx = .string b := by
  unfold srcA at h
  split at h
  · rename_i e n cs
    simp [srcLen] at hm; subst hm
    cases hx with
    | pv _ _ hx => cases hx with
      | slNil => exact ⟨[], [], h, .nil, .nil, .inr (.inl ⟨rfl, rfl, rfl⟩), by rintro ⟨b, e⟩; cases e⟩
      | sl _ _ _ a cap vs h1 h2 h3 h4 h5 h6 => exact ⟨_, vs, h, VRels.of_pv h4, h6, .inr (.inr ⟨a, cap, rfl, fun j v hj => hs.imm _ _ (h5 j v hj)⟩), by rintro ⟨b, e⟩; cases e⟩
  · rename_i t n cs
    simp [srcLen] at hm; subst hm
    cases hx with
    | tsl _ _ _ k cap vs h1 h2 h3 h4 h5 => exact ⟨_, vs, h, VRels.of_pv h3, h5, .inr (.inr ⟨_, cap, rfl, fun j v hj => by rw [addr_add_lit]; exact hs.imm _ _ (h4 j v hj)⟩), by rintro ⟨b, e⟩; cases e⟩
  · rename_i es id off n cap
    simp [srcLen] at hm; subst hm
    rw [hgetK_def] at h
    have fin : ∀ {c rest : List Value} {e : TypeId} {k cap' : Nat}, w.heap[k]? = some (.cells (c ++ rest).toArray e (0, 0)) → vx = .slice (some ⟨k, off, none⟩) n cap' → SrcForm w vx n ((c.drop off).take (n * es)) := by
      intro c rest e k cap' hw hv
      refine .inr (.inr ⟨_, cap', hv, fun j v hj => ?_⟩)
      rw [addr_add_lit']
      rw [List.getElem?_take] at hj
      split at hj
      · rw [List.getElem?_drop] at hj
        exact cell_at hw (app_get hj)
      · cases hj
    cases hx with
    | hs _ _ _ _ _ k cap' h1 h2 h3 =>
      split at h
      · rename_i cs hg
        rw [secK_def] at h
        cases hb : Nat.ble (off + n * es) cs.length with
        | false => rw [hb] at h; simp at h
        | true =>
          rw [hb] at h; simp only [cond_true] at h
          obtain ⟨c, rest, e, hw, hr, hones, _⟩ := (ptr_cells hs h1).1 cs hg
          exact ⟨_, (c.drop off).take (n * es), h, VRels.of_pv ((hr.drop off).take _), (hones.drop off).take _, fin hw rfl, by rintro ⟨b, e⟩; cases e⟩
      · rename_i cs hg
        rw [secK_def] at h
        cases hb : Nat.ble (off + n * es) cs.length with
        | false => rw [hb] at h; simp at h
        | true =>
          rw [hb] at h; simp only [cond_true] at h
          obtain ⟨c, rest, e, hw, hr, hones, _⟩ := (ptr_cells hs h1).2 cs hg
          exact ⟨_, (c.drop off).take (n * es), h, (hr.drop off).take _, (hones.drop off).take _, fin hw rfl, by rintro ⟨b, e⟩; cases e⟩
      · cases h
  · cases h

def K.tok (κ : K) (t n : Nat) (p : Nat × Nat) : K := { κ with tl := fun i j => if i = t ∧ j = n then some p else κ.tl i j }
theorem K.le_tok (κ : K) {t n : Nat} {p : Nat × Nat} (h : κ.tl t n = none) : κ.le (κ.tok t n p) :=
  ⟨fun _ _ h => h, fun _ _ h => h, fun i j q hq => by
    show (if i = t ∧ j = n then some p else κ.tl i j) = some q
    split
    · rename_i e; rw [e.1, e.2, h] at hq; cases hq
    · exact hq⟩
theorem K.tok_same (κ : K) (t n : Nat) (p : Nat × Nat) : (κ.tok t n p).tl t n = some p := by simp [K.tok]

/-- A new row that is grown: its first cells stay, it may be appended to. -/
theorem SRel.newTok (hs : SRel Γ base κ H w) (c rest : List Value) (e : TypeId) (n es cap : Nat) (hc : c.length = n * es) (hl : (c ++ rest).length = cap * es) (hcap : cap ≤ maxLen) (hn : n ≤ cap) :
    let w' := w.alloc (.cells (c ++ rest).toArray e)
    let κ' := (κ.keep w.heap.size c.length c).tok H.length n (w.heap.size, cap)
    SRel Γ base κ' (H ++ [.tok n es]) w' ∧ Grow κ H w κ' (H ++ [.tok n es]) w' ∧ (∀ (j : Nat) (v : Value), c[j]? = some v → κ'.imm ⟨w.heap.size, j, none⟩ = some v) ∧ κ'.tl H.length n = some (w.heap.size, cap) := by
  have htn : κ.tl H.length n = none := (hs.fresh _ (Nat.le_refl _)).2 n
  have hle : κ.le ((κ.keep w.heap.size c.length c).tok H.length n (w.heap.size, cap)) :=
    K.le_trans (κ.le_keep _ _ _) (K.le_tok _ htn)
  have hnew : (w.alloc (.cells (c ++ rest).toArray e)).heap[w.heap.size]? = some (.cells (c ++ rest).toArray e) := heap_alloc_new w _
  have hg := hs.turnNew (κ' := (κ.keep w.heap.size c.length c).tok H.length n (w.heap.size, cap)) (w' := w.alloc (.cells (c ++ rest).toArray e)) (.tok n es) w.heap.size (Same.alloc w _) hle (fun _ _ => rfl)
    (fun i hi => by funext j; simp [K.tok, K.keep, hi]) (fun k hk => heap_alloc_old w _ k hk)
    (fun a v hv => by
      rcases K.keep_some (κ := κ) (k := w.heap.size) (n := c.length) (c := c) hv with h1 | ⟨h1, h2, h3, h4⟩
      · exact .inl h1
      · refine .inr ⟨by omega, ?_⟩
        unfold World.cell?
        rw [h1, hnew]
        simp only [h2, Option.isSome_none, Bool.false_eq_true, if_false]
        simpa using app_get h4)
    (by simp [place, K.tok]) (Nat.le_refl _)
    ⟨cap, c ++ rest, e, K.tok_same _ _ _ _, hnew, hl, hcap, hn, fun a ha hne => by
        cases hv : ((κ.keep w.heap.size c.length c).tok H.length n (w.heap.size, cap)).imm a with
        | none => exact absurd hv hne
        | some v =>
          rcases K.keep_some (κ := κ) (k := w.heap.size) (n := c.length) (c := c) hv with h1 | ⟨h1, h2, h3, h4⟩
          · rw [hs.imm_none a (by omega)] at h1; cases h1
          · omega,
      fun m hm => by
        show (if H.length = H.length ∧ m = n then some (w.heap.size, cap) else κ.tl H.length m) = none
        rw [if_neg (by omega)]
        exact (hs.fresh _ (Nat.le_refl _)).2 m⟩
  refine ⟨hg.1, hg.2, fun j v hv => ?_, K.tok_same _ _ _ _⟩
  exact K.keep_at (hs.imm_none _ (by simp)) (List.getElem?_eq_some_iff.1 hv).1 hv

theorem tok_place {t n es : Nat} {k cap : Nat} (hg : hget H t = .tok n es) (h : κ.tl t n = some (k, cap)) : place κ t (hget H t) = some k := by rw [hg]; simp [place, h]

/-- A row that has room is written behind its end. -/
theorem SRel.roomTok (hs : SRel Γ base κ H w) {t n es k cap : Nat} {c : List Value} {e : TypeId} {news : List Value} {m : Nat} (hg : hget H t = .tok n es) (htl : κ.tl t n = some (k, cap))
    (hw : w.heap[k]? = some (.cells c.toArray e (0, 0))) (hl : c.length = cap * es) (hcap : cap ≤ maxLen) (hroom : n + m ≤ cap) (hnews : news.length = m * es) (hm : 0 < m)
    (hbound : ∀ a : Addr, a.block = k → κ.imm a ≠ none → a.off < n * es) (htn : ∀ m, n < m → κ.tl t m = none) :
    let c' := c.take (n * es) ++ news ++ c.drop (n * es + news.length)
    let w' := w.setRow k c'.toArray
    let κ' := (κ.keep k ((n + m) * es) c').tok t (n + m) (k, cap)
    SRel Γ base κ' (hset H t (.tok (n + m) es)) w' ∧ Grow κ H w κ' (hset H t (.tok (n + m) es)) w' ∧ (∀ (j : Nat) (v : Value), news[j]? = some v → κ'.imm ⟨k, n * es + j, none⟩ = some v) ∧ κ'.tl t (n + m) = some (k, cap) := by
  intro c' w' κ'
  have hp := tok_place hg htl
  have hmul : (n + m) * es = n * es + m * es := Nat.add_mul _ _ _
  have hmul2 : (n + m) * es ≤ cap * es := Nat.mul_le_mul_right _ hroom
  have hlen : c'.length = cap * es := by
    show (c.take (n * es) ++ news ++ c.drop (n * es + news.length)).length = cap * es
    simp only [List.length_append, List.length_take, List.length_drop]
    omega
  have hle : κ.le κ' := K.le_trans (κ.le_keep _ _ _) (K.le_tok _ (htn (n + m) (by omega)))
  have hnew : w'.heap[k]? = some (.cells c'.toArray e (0, 0)) := setRow_heap w k _ _ e _ hw
  have old : ∀ j v, κ.imm ⟨k, j, none⟩ = some v → c'[j]? = some v := by
    intro j v hv
    have hj : j < n * es := hbound ⟨k, j, none⟩ rfl (by rw [hv]; simp)
    have := hs.imm _ _ hv
    simp [World.cell?, hw] at this
    show (c.take (n * es) ++ news ++ c.drop (n * es + news.length))[j]? = some v
    rw [List.append_assoc, List.getElem?_append_left (by simp; omega), List.getElem?_take, if_pos hj]
    exact this
  have hg2 := hs.turnOne (κ' := κ') (w' := w') t (.tok (n + m) es) k k ⟨rfl, rfl, rfl, Nat.le_refl _, by show w.heap.size ≤ (w.setRow k c'.toArray).heap.size; simp⟩ hle hp rfl (fun i hi => by funext j; simp [κ', K.tok, K.keep, hi])
    (fun j _ hj => setRow_other w k j _ hj)
    (fun a v hv => by
      rcases K.keep_some (κ := κ) (k := k) (n := (n + m) * es) (c := c') hv with h1 | ⟨h1, h2, h3, h4⟩
      · by_cases hb : a.block = k
        · have hcell := hs.imm _ _ h1
          have hsp : a.spot = none := by
            cases hsp : a.spot with
            | none => rfl
            | some s => simp [World.cell?, hb, hw, hsp] at hcell
          have ea : a = ⟨k, a.off, none⟩ := by cases a; simp_all
          refine ⟨?_, .inl h1⟩
          rw [ea] at h1 ⊢
          have := old _ _ h1
          simp [World.cell?, hnew, this]
        · exact ⟨by rw [cell_setRow_other w k _ a hb]; exact hs.imm _ _ h1, .inl h1⟩
      · have ea : a = ⟨k, a.off, none⟩ := by cases a; simp_all
        refine ⟨?_, .inr (.inr h1)⟩
        rw [ea]
        simp [World.cell?, hnew, h4])
    (fun j hj => by
      simp only [place] at hj
      rw [show κ'.tl t (n + m) = some (k, cap) from K.tok_same _ _ _ _] at hj
      simpa using hj.symm)
    (.inl rfl)
    ⟨cap, c', e, K.tok_same _ _ _ _, hnew, hlen, hcap, hroom, fun a ha hne => by
        cases hv : κ'.imm a with
        | none => exact absurd hv hne
        | some v =>
          rcases K.keep_some (κ := κ) (k := k) (n := (n + m) * es) (c := c') hv with h1 | ⟨h1, h2, h3, h4⟩
          · have := hbound a ha (by rw [h1]; simp); omega
          · exact h3,
      fun j hj => by
        show (if t = t ∧ j = n + m then some (k, cap) else κ.tl t j) = none
        rw [if_neg (by omega)]
        exact htn j (by omega)⟩
  refine ⟨hg2.1, hg2.2, fun j v hv => ?_, K.tok_same _ _ _ _⟩
  have hj : j < news.length := (List.getElem?_eq_some_iff.1 hv).1
  refine K.keep_at ?_ (by omega) ?_
  · cases h0 : κ.imm ⟨k, n * es + j, none⟩ with
    | none => rfl
    | some u => have := hbound ⟨k, n * es + j, none⟩ rfl (by rw [h0]; simp); simp only at this; omega
  · show (c.take (n * es) ++ news ++ c.drop (n * es + news.length))[n * es + j]? = some v
    have : (c.take (n * es)).length = n * es := by simp; omega
    rw [List.append_assoc, List.getElem?_append_right (by omega), this, Nat.add_sub_cancel_left, List.getElem?_append_left hj]
    exact hv

/-- A row that has none moves to a new block. -/
theorem SRel.moveTok (hs : SRel Γ base κ H w) {t n es k cap : Nat} (hg : hget H t = .tok n es) (htl : κ.tl t n = some (k, cap)) (htn : ∀ m, n < m → κ.tl t m = none)
    (c rest : List Value) (e : TypeId) (n' cap' : Nat) (hn' : n < n') (hc : c.length = n' * es) (hl : (c ++ rest).length = cap' * es) (hcap : cap' ≤ maxLen) (hn : n' ≤ cap') :
    let w' := w.alloc (.cells (c ++ rest).toArray e)
    let κ' := (κ.keep w.heap.size c.length c).tok t n' (w.heap.size, cap')
    SRel Γ base κ' (hset H t (.tok n' es)) w' ∧ Grow κ H w κ' (hset H t (.tok n' es)) w' ∧ (∀ (j : Nat) (v : Value), c[j]? = some v → κ'.imm ⟨w.heap.size, j, none⟩ = some v) ∧ κ'.tl t n' = some (w.heap.size, cap') := by
  intro w' κ'
  have hp := tok_place hg htl
  have hle : κ.le κ' := K.le_trans (κ.le_keep _ _ _) (K.le_tok _ (htn n' hn'))
  have hnew : w'.heap[w.heap.size]? = some (.cells (c ++ rest).toArray e) := heap_alloc_new w _
  have hg2 := hs.turnOne (κ' := κ') (w' := w') t (.tok n' es) k w.heap.size (Same.alloc w _) hle hp rfl (fun i hi => by funext j; simp [κ', K.tok, K.keep, hi])
    (fun j hj _ => heap_alloc_old w _ j hj)
    (fun a v hv => by
      rcases K.keep_some (κ := κ) (k := w.heap.size) (n := c.length) (c := c) hv with h1 | ⟨h1, h2, h3, h4⟩
      · exact ⟨(World.cell?_of_block (heap_alloc_old w _ _ (block_lt (hs.imm _ _ h1)))).trans (hs.imm _ _ h1), .inl h1⟩
      · refine ⟨?_, .inr (.inl (by omega))⟩
        unfold World.cell?
        rw [h1, hnew]
        simp only [h2, Option.isSome_none, Bool.false_eq_true, if_false]
        simpa using app_get h4)
    (fun j hj => by
      simp only [place] at hj
      rw [show κ'.tl t n' = some (w.heap.size, cap') from K.tok_same _ _ _ _] at hj
      simpa using hj.symm)
    (.inr (Nat.le_refl _))
    ⟨cap', c ++ rest, e, K.tok_same _ _ _ _, hnew, hl, hcap, hn, fun a ha hne => by
        cases hv : κ'.imm a with
        | none => exact absurd hv hne
        | some v =>
          rcases K.keep_some (κ := κ) (k := w.heap.size) (n := c.length) (c := c) hv with h1 | ⟨h1, h2, h3, h4⟩
          · rw [hs.imm_none a (by omega)] at h1; cases h1
          · omega,
      fun j hj => by
        show (if t = t ∧ j = n' then some (w.heap.size, cap') else κ.tl t j) = none
        rw [if_neg (by omega)]
        exact htn j (by omega)⟩
  refine ⟨hg2.1, hg2.2, fun j v hv => ?_, K.tok_same _ _ _ _⟩
  exact K.keep_at (hs.imm_none _ (by simp)) (List.getElem?_eq_some_iff.1 hv).1 hv

/-- A new row that may be written and grows. -/
theorem SRel.newRowG (hs : SRel Γ base κ H w) {cs : List AV} {c rest : List Value} {e : TypeId} {n es cap : Nat} (hr : VRels κ cs c) (h1 : Ones c) (hc : cs.length = n * es) (hl : (c ++ rest).length = cap * es) (hcap : cap ≤ maxLen) (hn : n ≤ cap) :
    let κ' := κ.tok H.length n (w.heap.size, cap)
    SRel Γ base κ' (H ++ [.row n es cs]) (w.alloc (.cells (c ++ rest).toArray e)) ∧ Grow κ H w κ' (H ++ [.row n es cs]) (w.alloc (.cells (c ++ rest).toArray e)) := by
  intro κ'
  have hle : κ.le κ' := K.le_tok _ ((hs.fresh _ (Nat.le_refl _)).2 n)
  exact hs.turnNew (κ' := κ') (.row n es cs) w.heap.size (Same.alloc w _) hle (fun _ _ => rfl) (fun i hi => by funext j; simp [κ', K.tok, hi]) (fun k hk => heap_alloc_old w _ k hk) (fun a v hv => .inl hv)
    (by simp [place, κ', K.tok]) (Nat.le_refl _)
    ⟨cap, c, rest, e, K.tok_same _ _ _ _, heap_alloc_new w _, hl, hcap, hn, hc, hr.mono hle, h1, fun a ha => hs.imm_none a (by omega), fun m hm => by
      show (if H.length = H.length ∧ m = n then some (w.heap.size, cap) else κ.tl H.length m) = none
      rw [if_neg (by omega)]
      exact (hs.fresh _ (Nat.le_refl _)).2 m⟩
/-- Such a row grows, where it lies or elsewhere. -/
theorem SRel.growRow (hs : SRel Γ base κ H w) {id n es k cap : Nat} {cs : List AV} (hg : hget H id = .row n es cs) (htl : κ.tl id n = some (k, cap)) {w' : World} {k1 cap' n' : Nat} {cs' : List AV} {c' rest' : List Value} {e : TypeId} (hn : n < n')
    (hsame : Same w w') (hold : ∀ j, j < w.heap.size → j ≠ k → w'.heap[j]? = w.heap[j]?) (hk1 : k1 = k ∨ w.heap.size ≤ k1) (hw : w'.heap[k1]? = some (.cells (c' ++ rest').toArray e (0, 0)))
    (hl : (c' ++ rest').length = cap' * es) (hcap : cap' ≤ maxLen) (hn' : n' ≤ cap') (hc : cs'.length = n' * es) (hr : VRels κ cs' c') (h1 : Ones c') :
    let κ' := κ.tok id n' (k1, cap')
    SRel Γ base κ' (hset H id (.row n' es cs')) w' ∧ Grow κ H w κ' (hset H id (.row n' es cs')) w' := by
  intro κ'
  obtain ⟨hp, c0, rest0, e0, q1, q2, q3, q4, q5, q6, q7, q8, q9⟩ := row_cells hs hg htl
  have hle : κ.le κ' := K.le_tok _ (q9 n' hn)
  refine hs.turnOne (κ' := κ') id _ k k1 hsame hle hp rfl (fun i hi => by funext j; simp [κ', K.tok, hi]) hold ?_ ?_ hk1 ?_
  · intro a v hv
    have hne : a.block ≠ k := fun e => by rw [show κ'.imm = κ.imm from rfl, q8 a e] at hv; cases hv
    have hc0 := hs.imm a v hv
    exact ⟨(World.cell?_of_block (hold _ (block_lt hc0) hne)).trans hc0, .inl hv⟩
  · intro j hj
    simp only [place, show κ'.tl id n' = some (k1, cap') from K.tok_same _ _ _ _] at hj
    simpa using hj.symm
  · refine ⟨cap', c', rest', e, K.tok_same _ _ _ _, hw, hl, hcap, hn', hc, hr.mono hle, h1, fun a ha => ?_, fun m hm => ?_⟩
    · rcases hk1 with h | h
      · exact q8 a (by rw [ha, h])
      · exact hs.imm_none a (by omega)
    · show (if id = id ∧ m = n' then some (k1, cap') else κ.tl id m) = none
      rw [if_neg (by omega)]
      exact q9 m (by omega)
end
end Go.VM

namespace Go.VM
open Go

section
variable {Γ : Ctx} {base : Nat} {κ : K} {H : Heap} {w : World}

/-- What an operation's run comes to. -/
def RunOK (Γ : Ctx) (base : Nat) (κ : K) (H : Heap) (w : World) (s : Sem Value) (v : AV) (H' : Heap) : Prop :=
  ∃ v' κ' w', s.run Γ.P w = .ok v' w' ∧ VRel κ' v v' ∧ SRel Γ base κ' H' w' ∧ Grow κ H w κ' H' w'

theorem RunOK.same {s : Sem Value} {v : AV} (hs : SRel Γ base κ H w) (h : ∃ v', s.run Γ.P w = .ok v' w ∧ VRel κ v v') : RunOK Γ base κ H w s v H := by
  obtain ⟨v', h1, h2⟩ := h
  exact ⟨v', κ, w, h1, h2, hs, Grow.refl _ _ _⟩

theorem mostBytes_cap {n bytes : Nat} (h : Nat.ble (n * bytes) mostBytes = true) (hb : 0 < bytes) : n * bytes ≤ 140737488355328 ∧ n ≤ 140737488355328 := by
  have h1 : n * bytes ≤ mostBytes := Nat.le_of_ble_eq_true h
  have h2 : n * 1 ≤ n * bytes := Nat.mul_le_mul_left n hb
  unfold mostBytes at h1
  omega

theorem zeroCells_list (z : Value) (n : Nat) : (Builtin.zeroCells z.cells n).toList = (List.replicate n z.cells.toList).flatten := by
  have := zeros_cells z.cells.toList n
  simpa [Builtin.zeroCells] using this

theorem hset_hget (H : Heap) (t : Nat) : hset H t (hget H t) = H := by
  induction H generalizing t with
  | nil => rfl
  | cons o H ih => cases t with
    | zero => rfl
    | succ t => simp [hset, hget, ih]

/-- What is appended, as the model's builtin takes it. -/
structure AppOps (Γ : Ctx) (w : World) (t u ty e : TypeId) (i : TypeInfo) (z : Value) (vx : Value) (m : Nat) (news : List Value) : Prop where
  ones : Ones news
  idle : m = 0 → ∀ (a : Option Addr) (n cap : Nat), n ≤ cap → (Builtin.append_ #[t, u] ty #[.slice a n cap, vx]).run Γ.P w = .ok (.slice a n cap) w
  grow : news.length = m * i.size → 0 < m → ∀ (a : Option Addr) (n cap : Nat) (olds : List Value), (Builtin.firstCells i.size n (.slice a n cap)).run Γ.P w.drew = .ok olds.toArray w.drew → cap < n + m →
    (n + m) * i.bytes ≤ 140737488355328 → n + m ≤ 140737488355328 → (Builtin.append_ #[t, u] ty #[.slice a n cap, vx]).run Γ.P w = .ok (.slice (some ⟨w.heap.size, 0, none⟩) (n + m) (grownCap w (n + m) cap e))
        (w.drew.alloc (.cells ((olds ++ news).toArray ++ Builtin.zeroCells z.cells (grownCap w (n + m) cap e - (n + m))) e))
  room : news.length = m * i.size → 0 < m → ∀ (k off n cap : Nat) (w' : World), n + m ≤ cap → (storeCells ⟨k, off + n * i.size, none⟩ news).run Γ.P w = .ok () w' →
    (Builtin.append_ #[t, u] ty #[.slice (some ⟨k, off, none⟩) n cap, vx]).run Γ.P w = .ok (.slice (some ⟨k, off, none⟩) (n + m) cap) w'

structure AppSrc (Γ : Ctx) (κ : K) (w : World) (t u ty e : TypeId) (i : TypeInfo) (z : Value) (vx : Value) (m : Nat) (new : List PV) (news : List Value) : Prop extends AppOps Γ w t u ty e i z vx m news where
  rel : PRels κ.imm new news

theorem appOps_of {t u ty e : TypeId} {d : TypeDesc} (ht : Γ.P.underlying t = some (.slice e)) (hu : Γ.P.underlying u = some d) (hd : d = .string ∨ ∃ e', d = .slice e')
    {i : TypeInfo} (hi : Γ.P.info? e = some i) {z : Value} (hzz : i.zero = some z) (hby : 0 < i.bytes) (hd1 : d = .string → i.size = 1)
    {vx : Value} {m : Nat} {news : List Value} (hxs : ((∃ b, vx = .string b) → d = .string) ∧ ((¬ ∃ b, vx = .string b) → ∃ e', d = .slice e')) (hform : SrcForm w vx m news) (hones : Ones news) : AppOps Γ w t u ty e i z vx m news := by
  have srcOf : news.length = m * i.size → Src Γ.P i.size u vx m news w := fun hl => srcForm_src hform hones hl hu hd hd1 hxs.1 hxs.2
  refine ⟨hones, ?_, ?_, ?_⟩
  · intro h0 a n cap hcap
    subst h0
    have hlen : ∀ w' : World, (Builtin.lenOf vx).run Γ.P w' = .ok 0 w' := by
      intro w'
      rcases hform with ⟨b, rfl, _, hb⟩ | ⟨rfl, _, _⟩ | ⟨b, c, rfl, _⟩
      · simp [Builtin.lenOf, ← hb]
      · rfl
      · rfl
    have hfirst : (Builtin.firstCells i.size 0 vx).run Γ.P w = .ok #[] w := by
      rcases hform with ⟨b, rfl, _, hb⟩ | ⟨rfl, _, _⟩ | ⟨b, c, rfl, _⟩
      · simp [Builtin.firstCells]
      · simp [Builtin.firstCells]
      · simp [Builtin.firstCells, loadCells, loadCellsFrom]
    rcases hd with rfl | ⟨e', rfl⟩ <;>
      cases a <;> simp [Builtin.append_, run_underlying ht, run_underlying hu, sizeOf, typeInfo, hi, hlen, hcap, hfirst, storeCells]
  · intro hnl _ a n cap olds hfirst hlt hb hnm
    exact run_append_grow_src (P := Γ.P) w t u ty e i z ht hi hzz a n cap olds hfirst vx m news (srcOf hnl) hlt (by omega) (growslice_fits hlt hb)
  · intro hnl _ k off n cap w' hroom hst
    have hsr := srcOf hnl
    rcases hsr.kind with ⟨e', hk⟩ | hk <;> simp [Builtin.append_, run_underlying ht, run_underlying hk, sizeOf, typeInfo, hi, hsr.len, hroom, hsr.cells, addr_add_lit', hst]

theorem appSrc_of {t u ty e : TypeId} {d : TypeDesc} (ht : Γ.P.underlying t = some (.slice e)) (hu : Γ.P.underlying u = some d) (hd : d = .string ∨ ∃ e', d = .slice e')
    {i : TypeInfo} (hi : Γ.P.info? e = some i) {z : Value} (hzz : i.zero = some z) (hby : 0 < i.bytes) (hd1 : d = .string → i.size = 1)
    {x : AV} {vx : Value} {m : Nat} {new : List PV} {news : List Value} (hxs : ((∃ b, vx = .string b) → d = .string) ∧ ((¬ ∃ b, vx = .string b) → ∃ e', d = .slice e')) (hsrc : SrcRel Γ κ w x vx m new news) : AppSrc Γ κ w t u ty e i z vx m new news :=
  ⟨appOps_of ht hu hd hi hzz hby hd1 hxs hsrc.form hsrc.ones, hsrc.rel⟩

theorem appSrc_zeros {t u ty e : TypeId} {ku : IntKind} (ht : Γ.P.underlying t = some (.slice e)) (hu : Γ.P.underlying u = some (.int ku)) {i : TypeInfo} (hi : Γ.P.info? e = some i) {z : Value} (hzz : i.zero = some z) (hsz : 0 < i.size) (hby : i.bytes ≤ 256)
    {zp : List PV} (hzr : PRels κ.imm zp z.cells.toList) (hz1 : Ones z.cells.toList) {kx : IntKind} {l : Int} (h0 : 0 ≤ l) (h1 : l ≤ 1099511627776) :
    AppSrc Γ κ w t u ty e i z (.int kx l) l.toNat (zerosOf zp l.toNat) (List.replicate l.toNat z.cells.toList).flatten := by
  obtain ⟨m, rfl⟩ : ∃ m : Nat, l = m := ⟨l.toNat, by omega⟩
  rw [Int.toNat_natCast]
  have hw : IntKind.i64.wrap (m : Int) = m := by rw [IntKind.wrap_i64]; omega
  have hneg : ¬ ((m : Int) < 0) := by omega
  have hmb : m * i.bytes ≤ 1099511627776 * 256 := Nat.mul_le_mul (by omega) hby
  have h48i : ¬ (281474976710656 < (m : Int) * (i.bytes : Int)) := by
    rw [← Int.natCast_mul]
    omega
  refine ⟨⟨hz1.flat _, ?_, ?_, ?_⟩, by rw [zerosOf_flat]; exact hzr.flat _⟩
  · intro hm a n cap hcap
    subst hm
    cases a <;> simp [Builtin.append_, run_underlying ht, run_underlying hu, sizeOf, typeInfo, hi, asInt, asIntOf, IntKind.wrap_i64, hcap, storeCells]
  · intro hnl hm a n cap olds hfirst hlt hb hnm
    have hr := Lib.run_append_grow_zeros (P := Γ.P) w t u ty e i z kx ku ht hu hi hzz a n cap olds hfirst m hm hsz hlt (by omega) (by omega) (growslice_fits hlt hb)
    rw [hr]
    congr 3
    apply Array.ext'
    simp [zeroCells_list, List.append_assoc]
  · intro hnl hm k off n cap w' hroom hst
    have hns : ¬ (m * i.size = 0) := Nat.mul_ne_zero (by omega) (by omega)
    have hzc : (Builtin.zeroCells z.cells m).toList = (List.replicate m z.cells.toList).flatten := zeroCells_list z m
    simp [Builtin.append_, run_underlying ht, run_underlying hu, sizeOf, typeInfo, zeroValue, hi, hzz, asInt, asIntOf, hw, hneg, h48i, hroom, hns, hzc, addr_add_lit', hst]

theorem appendTo_rel (hs : SRel Γ base κ H w) {t u ty e : TypeId} {i : TypeInfo} {zp : List PV} (hz : zeroT Γ.P e = some zp) (hi : Γ.P.info? e = some i) (hby : 0 < i.bytes) {mu : Bool}
    {s v : AV} {vs vx : Value} {m : Nat} {new : List PV} {news : List Value} {H' : Heap} (hvs : VRel κ s vs) (hsrc : ∀ z, i.zero = some z → AppSrc Γ κ w t u ty e i z vx m new news)
    (he : appendTo mu i.size i.bytes m new s H (fun v h => some (v, h)) = some (v, H')) : RunOK Γ base κ H w (Builtin.append_ #[t, u] ty #[vs, vx]) v H' := by
  obtain ⟨i', z, hi', hzz, hzr, hz1, hzl⟩ := zeroT_rel (Γ := Γ) (κ := κ) hz
  rw [hi] at hi'; injection hi' with hi'; subst hi'
  have hzs : z.cells.size = i.size := by rw [← Array.length_toList, ← hzr.length]; exact hzl
  have hsrc := hsrc z hzz
  unfold appendTo at he
  -- nothing is appended
  have idle : m = 0 → ∀ (a : Option Addr) (n cap : Nat), vs = .slice a n cap → n ≤ cap → RunOK Γ base κ H w (Builtin.append_ #[t, u] ty #[vs, vx]) s H := by
    intro h0 a n cap hvs' hcap
    exact ⟨vs, κ, w, by rw [hvs']; exact hsrc.idle h0 a n cap hcap, hvs, hs, Grow.refl _ _ _⟩
  have conds : ∀ (n : Nat) (cs : List PV), (Nat.ble ((n + m) * i.bytes) mostBytes && Nat.beq cs.length (mulE n i.size) && Nat.beq new.length (mulE m i.size)) = true →
      (n + m) * i.bytes ≤ 140737488355328 ∧ n + m ≤ 140737488355328 ∧ cs.length = n * i.size ∧ news.length = m * i.size := by
    intro n cs h
    rw [Bool.and_eq_true, Bool.and_eq_true] at h
    obtain ⟨⟨h1, h2⟩, h3⟩ := h
    obtain ⟨a, b⟩ := mostBytes_cap h1 hby
    rw [mulE_eq] at h2 h3
    exact ⟨a, b, Nat.eq_of_beq_eq_true h2, by rw [← hsrc.rel.length]; exact Nat.eq_of_beq_eq_true h3⟩
  -- a row that grows
  have grow : ∀ (a : Option Addr) (n cap : Nat) (olds : List Value), vs = .slice a n cap → olds.length = n * i.size → (Builtin.firstCells i.size n (.slice a n cap)).run Γ.P w.drew = .ok olds.toArray w.drew → cap < n + m → 0 < m →
      (n + m) * i.bytes ≤ 140737488355328 → n + m ≤ 140737488355328 → news.length = m * i.size →
      ∃ cap', n + m ≤ cap' ∧ cap' ≤ maxLen ∧ (Builtin.append_ #[t, u] ty #[vs, vx]).run Γ.P w = .ok (.slice (some ⟨w.heap.size, 0, none⟩) (n + m) cap')
        (w.drew.alloc (.cells ((olds ++ news) ++ (List.replicate (cap' - (n + m)) z.cells.toList).flatten).toArray e)) := by
    intro a n cap olds hvs' hol hfirst hlt hm0 hb hnm hnl
    have hr := hsrc.grow hnl hm0 a n cap olds hfirst hlt hb hnm
    refine ⟨grownCap w (n + m) cap e, grownCap_ge w _ _ _, grownCap_le_maxLen w _ _ _ (by unfold maxLen; omega), ?_⟩
    rw [hvs', hr]
    congr 3
    congr 1
    apply Array.ext'
    simp [zeroCells_list, List.append_assoc]
  split at he
  · rename_i ext n cs
    cases hvs with
    | pv _ _ hps =>
      have idle2 : m = 0 → RunOK Γ base κ H w (Builtin.append_ #[t, u] ty #[vs, vx]) (.pv (.sl ext n cs)) H := by
        intro h0
        cases hps with
        | slNil => exact idle h0 none 0 0 rfl (Nat.le_refl _)
        | sl _ _ _ a cap us h1 h2 h3 h4 h5 h6 => exact idle h0 (some a) n cap rfl h3
      cases hext : ext.noApp with
      | true =>
        rw [hext] at he; simp only [cond_true] at he
        rw [boolK_def] at he
        cases hb : Nat.beq m 0 with
        | false => rw [hb] at he; simp at he
        | true =>
          rw [hb] at he; simp only [cond_true] at he
          injection he with he; injection he with e1 e2; subst e1; subst e2
          exact idle2 (Nat.eq_of_beq_eq_true hb)
      | false =>
        rw [hext] at he; simp only [cond_false] at he
        rw [boolK_def] at he
        cases hb : Nat.beq m 0 with
        | true =>
          rw [hb] at he; simp only [cond_true] at he
          injection he with he; injection he with e1 e2; subst e1; subst e2
          exact idle2 (Nat.eq_of_beq_eq_true hb)
        | false =>
          rw [hb] at he; simp only [cond_false] at he
          obtain ⟨hc, he⟩ := needK_inv he
          rw [eqK_def, eqK_def] at he
          obtain ⟨hb1, hb2, hl1, hl2⟩ := conds n cs hc
          have hm0 : 0 < m := by
            rcases Nat.eq_zero_or_pos m with h | h
            · subst h; simp at hb
            · exact h
          obtain ⟨a, cap, olds, hvs', hol, hrel, hones, hfirst, hlt⟩ : ∃ (a : Option Addr) (cap : Nat) (olds : List Value), vs = .slice a n cap ∧ olds.length = n * i.size ∧ PRels κ.imm cs olds ∧ Ones olds ∧
              (Builtin.firstCells i.size n (.slice a n cap)).run Γ.P w.drew = .ok olds.toArray w.drew ∧ cap < n + m := by
            cases hps with
            | slNil => exact ⟨none, 0, [], rfl, by simp, .nil, .nil, run_firstCells_none w.drew _ _ _ _, by omega⟩
            | sl _ _ _ a cap us h1 h2 h3 h4 h5 h6 =>
              have hcap : cap = n := by
                cases ext with
                | unk => cases hext
                | nn => cases hext
                | exact => exact h2 (.inl rfl)
                | nnx => exact h2 (.inr rfl)
                | nil => exact absurd rfl h1
              have hul : us.length = n * i.size := by rw [← h4.length]; exact hl1
              exact ⟨some a, cap, us, rfl, hul, h4, h6, run_firstCells_some w.drew i.size n a n cap us hul (fun j v hj => by simpa using hs.imm _ _ (h5 j v hj)), by omega⟩
          obtain ⟨cap', g1, g2, hr⟩ := grow a n cap olds hvs' hol hfirst hlt hm0 hb1 hb2 hl2
          have hlen : (olds ++ news).length = (n + m) * i.size := by rw [List.length_append, hol, hl2, Nat.add_mul]
          cases mu with
          | true =>
            simp only [cond_true] at he
            injection he with he; injection he with e1 e2; subst e1; subst e2
            obtain ⟨k1, k2⟩ := (hs.drew).1.newP (cs ++ new) (olds ++ news) ((List.replicate (cap' - (n + m)) z.cells.toList).flatten) e (hrel.append hsrc.rel) (hones.append hsrc.ones)
            exact ⟨_, _, _, hr, .hs _ _ _ _ _ w.heap.size cap' (K.at_same _ _ _) (Nat.le_refl _) g1, k1, (hs.drew).2.trans k2⟩
          | false =>
          simp only [cond_false] at he
          injection he with he; injection he with e1 e2; subst e1; subst e2
          obtain ⟨k1, k2, k3, k4⟩ := SRel.newTok (hs.drew).1 (olds ++ news) ((List.replicate (cap' - (n + m)) z.cells.toList).flatten) e (n + m) i.size cap' hlen (by
            rw [List.length_append, hlen]; simp only [List.length_flatten, List.map_replicate, List.sum_replicate_nat, Array.length_toList, hzs]
            rw [← Nat.add_mul]; congr 1; omega) g2 g1
          refine ⟨_, _, _, hr, ?_, k1, (hs.drew).2.trans k2⟩
          exact .tsl _ _ _ _ _ (olds ++ news) k4 g1 ((hrel.append hsrc.rel).mono k2.le.imm) k3 (hones.append hsrc.ones)
  · rename_i tk n cs
    rw [hgetK_def] at he
    split at he
    · rename_i n' es' hg
      have hq := needK_inv he
      clear he
      obtain ⟨hc0, he⟩ := hq
      rw [Bool.and_eq_true] at hc0
      have hn' : n' = n := Nat.eq_of_beq_eq_true hc0.1
      have hes : es' = i.size := Nat.eq_of_beq_eq_true hc0.2
      subst hn'; subst hes
      obtain ⟨hc, he⟩ := needK_inv he
      rw [eqK_def, eqK_def] at he
      injection he with he; injection he with e1 e2; subst e1; subst e2
      obtain ⟨hb1, hb2, hl1, hl2⟩ := conds n' cs hc
      cases hvs with
      | tsl _ _ _ k cap us h1 h2 h3 h4 h5 =>
        have hul : us.length = n' * i.size := by rw [← h3.length]; exact hl1
        obtain ⟨hbk, hob⟩ := hs.obj tk k (tok_place hg h1)
        rw [hg] at hob
        obtain ⟨cap2, c, e2, q1, q2, q3, q4, q5, q6, q7⟩ := hob
        rw [h1] at q1; injection q1 with q1; injection q1 with _ q1; subst q1
        have hcell : ∀ (j : Nat) (v : Value), us[j]? = some v → w.cell? ((⟨k, 0, none⟩ : Addr).add j) = some v := fun j v hj => by
          rw [addr_add_lit]; exact hs.imm _ _ (h4 j v hj)
        rcases Nat.eq_zero_or_pos m with hm0 | hm0
        · -- nothing comes
          subst hm0
          obtain ⟨v', κ', w', r1, r2, r3, r4⟩ := idle rfl (some ⟨k, 0, none⟩) n' cap rfl h2
          have hnn : new = [] := by
            have := hsrc.rel.length; rw [hl2] at this; simpa using this
          subst hnn
          have hH : hset H tk (.tok (n' + 0) i.size) = H := by
            rw [Nat.add_zero, ← hg]
            exact hset_hget H tk
          rw [hH]
          exact ⟨v', κ', w', r1, by simpa using r2, r3, r4⟩
        · by_cases hroom : n' + m ≤ cap
          · have hmul : (n' + m) * i.size ≤ cap * i.size := Nat.mul_le_mul_right _ hroom
            have hmul2 : (n' + m) * i.size = n' * i.size + m * i.size := Nat.add_mul _ _ _
            obtain ⟨k1, k2, k3, k4⟩ := SRel.roomTok hs hg h1 q2 q3 q4 hroom hl2 hm0 q6 q7
            have hst := run_storeCells_at Γ.P k (n' * i.size) e2 news 0 c.toArray w q2 (by simp; omega) hsrc.ones
            refine ⟨.slice (some ⟨k, 0, none⟩) (n' + m) cap, _, _, ?_, ?_, k1, k2⟩
            · simp only [Nat.add_zero] at hst
              exact hsrc.room hl2 hm0 k 0 n' cap _ hroom (by rw [Nat.zero_add]; exact hst)
            · have hle := k2.le
              refine .tsl _ _ _ _ _ (us ++ news) k4 hroom ((h3.append hsrc.rel).mono hle.imm) (fun j v hj => ?_) (h5.append hsrc.ones)
              rw [List.getElem?_append] at hj
              split at hj
              · exact hle.imm _ _ (h4 j v hj)
              · rename_i hge
                have := k3 (j - us.length) v hj
                rwa [show n' * i.size + (j - us.length) = j from by omega] at this
          · have hfirst := run_firstCells_some (P := Γ.P) w.drew i.size n' ⟨k, 0, none⟩ n' cap us hul (fun j v hj => by simpa using hcell j v hj)
            obtain ⟨cap', g1, g2, hr⟩ := grow (some ⟨k, 0, none⟩) n' cap us rfl hul hfirst (by omega) hm0 hb1 hb2 hl2
            have hlen : (us ++ news).length = (n' + m) * i.size := by rw [List.length_append, hul, hl2, Nat.add_mul]
            obtain ⟨k1, k2, k3, k4⟩ := SRel.moveTok (hs.drew).1 hg h1 q7 (us ++ news) ((List.replicate (cap' - (n' + m)) z.cells.toList).flatten) e (n' + m) cap' (by omega) hlen (by
              rw [List.length_append, hlen]; simp only [List.length_flatten, List.map_replicate, List.sum_replicate_nat, Array.length_toList, hzs]
              rw [← Nat.add_mul]; congr 1; omega) g2 g1
            refine ⟨_, _, _, hr, ?_, k1, (hs.drew).2.trans k2⟩
            exact .tsl _ _ _ _ _ (us ++ news) k4 g1 ((h3.append hsrc.rel).mono k2.le.imm) k3 (h5.append hsrc.ones)
    · cases he
  · rename_i es' id off n cap
    have hq := needK_inv he
    clear he
    obtain ⟨hc0, he⟩ := hq
    rw [Bool.and_eq_true] at hc0
    have hes : es' = i.size := Nat.eq_of_beq_eq_true hc0.1
    have hcap := Nat.le_of_ble_eq_true hc0.2
    subst hes
    rw [hgetK_def] at he
    split at he
    · rename_i cs hg
      have hq := needK_inv he
      clear he
      obtain ⟨hc, he⟩ := hq
      simp only [eqK_def, mulE_eq] at he
      injection he with he; injection he with e1 e2
      subst e1; subst e2
      rw [Bool.and_eq_true] at hc
      have hle := Nat.le_of_ble_eq_true hc.1
      rw [mulE_eq] at hle
      have hnl : news.length = m * i.size := by rw [← hsrc.rel.length, ← mulE_eq]; exact Nat.eq_of_beq_eq_true hc.2
      cases hvs with
      | hs _ _ _ _ _ k cap' hl h2 h3 =>
        obtain ⟨c, rest, e', hw, hr, hones, _⟩ := (ptr_cells hs hl).1 cs hg
        have hmul : (n + m) * i.size = n * i.size + m * i.size := Nat.add_mul _ _ _
        have hcl := hr.length
        have hst := run_storeCells_at Γ.P k (off + n * i.size) e' news 0 (c ++ rest).toArray w hw (by
          simp only [List.size_toArray, List.length_append]; omega) hsrc.ones
        have t1 : (c ++ rest).take (off + n * i.size) = c.take (off + n * i.size) := by rw [List.take_append_of_le_length (by omega)]
        have t2 : (c ++ rest).drop (off + n * i.size + m * i.size) = c.drop (off + n * i.size + m * i.size) ++ rest := by rw [List.drop_append_of_le_length (by omega)]
        simp only [Nat.add_zero, hnl] at hst
        rw [t1, t2, ← List.append_assoc] at hst
        obtain ⟨g1, g2⟩ := hs.write hl (.inr ⟨cs, hg⟩) hw (.inr ⟨_, rfl, hr.splice hsrc.rel (off + n * i.size) (m * i.size)⟩) (hones.splice hsrc.ones (off + n * i.size) (m * i.size))
        rw [show off + (n + m) * i.size = off + n * i.size + m * i.size by omega]
        refine ⟨.slice (some ⟨k, off, none⟩) (n + m) cap', κ, _, ?_, .hs _ _ _ _ _ _ _ hl hcap h3, g1, g2⟩
        rcases Nat.eq_zero_or_pos m with hm0 | hm0
        · subst hm0
          have hnn : news = [] := by simpa using hnl
          subst hnn
          have h0 : (storeCells ⟨k, off + n * i.size, none⟩ ([] : List Value)).run Γ.P w = .ok () w := rfl
          have h4 := h0.symm.trans hst
          injection h4 with _ h4
          rw [← h4]
          exact hsrc.idle rfl (some ⟨k, off, none⟩) n cap' (by omega)
        · exact hsrc.room hnl hm0 k off n cap' _ (by omega) hst
    · cases he
  · cases he
/-- A row that may be written grows. -/
theorem growK_rel (hs : SRel Γ base κ H w) {t u ty e : TypeId} {i : TypeInfo} {zp : List PV} (hz : zeroT Γ.P e = some zp) (hi : Γ.P.info? e = some i) (hby : 0 < i.bytes)
    {s x v : AV} {vs vx : Value} {H' : Heap} (hvs : VRel κ s vs)
    (hA : ∀ (m : Nat) (F : List AV → Option (AV × Heap)) (y : AV × Heap), srcLen x = some m → srcA H x F = some y → ∃ new news, F new = some y ∧ VRels κ new news ∧ ∀ z, i.zero = some z → AppOps Γ w t u ty e i z vx m news)
    (he : growK i.size i.bytes s x H (fun v h => some (v, h)) = some (v, H')) : RunOK Γ base κ H w (Builtin.append_ #[t, u] ty #[vs, vx]) v H' := by
  obtain ⟨i', z, hi', hzz, hzr, hz1, hzl⟩ := zeroT_rel (Γ := Γ) (κ := κ) hz
  rw [hi] at hi'; injection hi' with hi'; subst hi'
  have hzs : z.cells.size = i.size := by rw [← Array.length_toList, ← hzr.length]; exact hzl
  unfold growK at he
  split at he
  · rename_i id n
    cases hm : srcLen x with
    | none => rw [hm] at he; cases he
    | some m =>
      rw [hm] at he; dsimp only at he
      obtain ⟨new, news, he, hrel, O⟩ := hA m _ _ hm he
      have O := O z hzz
      have hones := O.ones
      rw [hgetK_def] at he
      cases hg : hget H id with
      | row n' es cs =>
        rw [hg] at he; dsimp only [rowK] at he
        obtain ⟨hc, he⟩ := needK_inv he
        simp only [eqK_def] at he
        injection he with he; injection he with e1 e2; subst e1; subst e2
        simp only [Bool.and_eq_true] at hc
        obtain ⟨⟨⟨⟨⟨c1, c2⟩, c3⟩, c4⟩, c5⟩, c6⟩ := hc
        have := Nat.eq_of_beq_eq_true c1; subst this
        have := Nat.eq_of_beq_eq_true c2; subst this
        have hm0 : 0 < m := blt_lt c3
        obtain ⟨hb1, hb2⟩ := mostBytes_cap c4 hby
        rw [mulE_eq] at c5 c6
        have hcl := Nat.eq_of_beq_eq_true c5
        have hnl := Nat.eq_of_beq_eq_true c6
        cases hvs with
        | gs _ _ k cap htl hcap =>
          obtain ⟨hp, c, rest, e2, hw, q2, q3, q4, q5, q6, q7, q8, q9⟩ := row_cells hs hg htl
          have hcc : c.length = n' * i.size := by rw [← q6.length]; exact hcl
          have hnn : news.length = m * i.size := by rw [← hrel.length]; exact hnl
          have hmul2 : (n' + m) * i.size = n' * i.size + m * i.size := Nat.add_mul _ _ _
          by_cases hroom : n' + m ≤ cap
          · have hmul : (n' + m) * i.size ≤ cap * i.size := Nat.mul_le_mul_right _ hroom
            rw [List.length_append] at q2
            have hst := run_storeCells_at Γ.P k (n' * i.size) e2 news 0 (c ++ rest).toArray w hw (by simp; omega) hones
            simp only [Nat.add_zero] at hst
            have t1 : (c ++ rest).take (n' * i.size) = c := by rw [← hcc]; simp
            have t2 : (c ++ rest).drop (n' * i.size + news.length) = rest.drop news.length := by rw [← hcc, List.drop_append]; simp
            rw [t1, t2] at hst
            obtain ⟨g1, g2⟩ := hs.growRow (w' := w.setRow k ((c ++ news) ++ rest.drop news.length).toArray) (k1 := k) (cap' := cap) (n' := n' + m) (cs' := cs ++ new) (c' := c ++ news) (rest' := rest.drop news.length) (e := e2) hg htl (by omega) ⟨rfl, rfl, rfl, Nat.le_refl _, by show w.heap.size ≤ (w.setRow k ((c ++ news) ++ rest.drop news.length).toArray).heap.size; simp⟩
              (fun j _ hj => setRow_other w k j _ hj) (.inl rfl) (setRow_heap w k _ _ e2 _ hw) (by simp only [List.length_append, List.length_drop]; omega) q3 hroom (by rw [List.length_append]; omega) (q6.append hrel) (q7.append hones)
            exact ⟨_, _, _, O.room hnn hm0 k 0 n' cap _ hroom (by rw [Nat.zero_add]; exact hst), .gs _ _ k cap (K.tok_same _ _ _ _) hroom, g1, g2⟩
          · have hfirst := run_firstCells_some (P := Γ.P) w.drew i.size n' ⟨k, 0, none⟩ n' cap c hcc (fun j v hj => by
              rw [addr_add_lit]
              have hcj : w.cell? ⟨k, j, none⟩ = some v := cell_at hw (app_get hj)
              simpa using hcj)
            have hr := O.grow hnn hm0 (some ⟨k, 0, none⟩) n' cap c hfirst (by omega) hb1 hb2
            have hge := grownCap_ge w (n' + m) cap e
            have hle := grownCap_le_maxLen w (n' + m) cap e (by unfold maxLen; omega)
            generalize grownCap w (n' + m) cap e = cap' at hr hge hle
            have hr2 : (Builtin.append_ #[t, u] ty #[.slice (some ⟨k, 0, none⟩) n' cap, vx]).run Γ.P w = .ok (.slice (some ⟨w.heap.size, 0, none⟩) (n' + m) cap')
                (w.drew.alloc (.cells ((c ++ news) ++ (List.replicate (cap' - (n' + m)) z.cells.toList).flatten).toArray e)) := by
              rw [hr]
              congr 3
              congr 1
              apply Array.ext'
              simp [zeroCells_list, List.append_assoc]
            obtain ⟨g1, g2⟩ := (hs.drew).1.growRow (k1 := w.heap.size) (cap' := cap') (n' := n' + m) (cs' := cs ++ new) (c' := c ++ news) (rest' := (List.replicate (cap' - (n' + m)) z.cells.toList).flatten) (e := e) hg htl (by omega)
              (Same.alloc w.drew _) (fun j hj _ => heap_alloc_old w.drew _ j hj) (.inr (Nat.le_refl _)) (heap_alloc_new w.drew _) (by
                rw [List.length_append, List.length_append, hcc, hnn]; simp only [List.length_flatten, List.map_replicate, List.sum_replicate_nat, Array.length_toList, hzs]
                rw [← Nat.add_mul, ← Nat.add_mul]; congr 1; omega) hle hge (by rw [List.length_append]; omega) (q6.append hrel) (q7.append hones)
            exact ⟨_, _, _, hr2, .gs _ _ w.heap.size cap' (K.tok_same _ _ _ _) hge, g1, (hs.drew).2.trans g2⟩
      | _ => rw [hg] at he; cases he
  · cases he
theorem append_rel (hs : SRel Γ base κ H w) {t u ty e : TypeId} {d : TypeDesc} (ht : Γ.P.underlying t = some (.slice e)) (hu : Γ.P.underlying u = some d) (hd : d = .string ∨ ∃ e', d = .slice e')
    {i : TypeInfo} (hi : Γ.P.info? e = some i) {zp : List PV} (hz : zeroT Γ.P e = some zp) (hby : 0 < i.bytes) {mu : Bool} (hd1 : d = .string → i.size = 1)
    {s x v : AV} {vs vx : Value} {H' : Heap} (hvs : VRel κ s vs) (hvx : VRel κ x vx) (hxs : ((∃ b, vx = .string b) → d = .string) ∧ ((¬ ∃ b, vx = .string b) → ∃ e', d = .slice e'))
    (he : appendK mu i.size i.bytes s x H (fun v h => some (v, h)) = some (v, H')) : RunOK Γ base κ H w (Builtin.append_ #[t, u] ty #[vs, vx]) v H' := by
  unfold appendK at he
  cases hgs : s.isGs with
  | true =>
    rw [hgs] at he; simp only [cond_true] at he
    refine growK_rel hs hz hi hby hvs (fun m F y hm hF => ?_) he
    obtain ⟨new, news, h1, h2, h3, h4, _⟩ := srcA_inv hs hvx hm hF
    exact ⟨new, news, h1, h2, fun z hzz => appOps_of ht hu hd hi hzz hby hd1 hxs h4 h3⟩
  | false =>
  rw [hgs] at he; simp only [cond_false] at he
  cases hm : srcLen x with
  | none => rw [hm] at he; simp at he
  | some m =>
    rw [hm] at he; simp only at he
    obtain ⟨new, news, he, hsrc, hhs⟩ := srcK_inv hs hvx hm he
    exact appendTo_rel hs hz hi hby hvs (fun z hzz => appSrc_of ht hu hd hi hzz hby hd1 hxs hsrc) he
theorem append_zero_rel (hs : SRel Γ base κ H w) {t u ty e : TypeId} {ku : IntKind} (ht : Γ.P.underlying t = some (.slice e)) (hu : Γ.P.underlying u = some (.int ku))
    {i : TypeInfo} (hi : Γ.P.info? e = some i) {zp : List PV} (hz : zeroT Γ.P e = some zp) (hby : 0 < i.bytes) (hsz : 0 < i.size) (hb2 : i.bytes ≤ 256) {mu : Bool}
    {s v : AV} {vs : Value} {kx : IntKind} {l : Int} {H' : Heap} (hvs : VRel κ s vs) (h0 : 0 ≤ l) (h1 : l ≤ 1099511627776)
    (he : appendK mu i.size i.bytes s (.pv (.sl .nnx l.toNat (zerosOf zp l.toNat))) H (fun v h => some (v, h)) = some (v, H')) : RunOK Γ base κ H w (Builtin.append_ #[t, u] ty #[vs, .int kx l]) v H' := by
  obtain ⟨i', z, hi', hzz, hzr, hz1, hzl⟩ := zeroT_rel (Γ := Γ) (κ := κ) hz
  rw [hi] at hi'; injection hi' with hi'; subst hi'
  unfold appendK at he
  cases hgs : s.isGs with
  | true =>
    rw [hgs] at he; simp only [cond_true] at he
    refine growK_rel hs hz hi hby hvs (fun m F y hm hF => ?_) he
    simp [srcLen] at hm; subst hm
    have A := appSrc_zeros (Γ := Γ) (κ := κ) (w := w) (ty := ty) ht hu hi hzz hsz hb2 hzr hz1 (kx := kx) h0 h1
    exact ⟨_, _, hF, VRels.of_pv A.rel, fun z' hz' => by rw [hzz] at hz'; injection hz' with hz'; subst hz'; exact A.toAppOps⟩
  | false =>
  rw [hgs] at he; simp only [cond_false] at he
  refine appendTo_rel (news := (List.replicate l.toNat z.cells.toList).flatten) hs hz hi hby hvs (fun z' hz' => ?_) he
  rw [hzz] at hz'; injection hz' with hz'; subst hz'
  exact appSrc_zeros ht hu hi hzz hsz hb2 hzr hz1 h0 h1
/-- The zeros that are made are not kept: a row with room is what is left. -/
theorem append_room_rel (hs : SRel Γ base κ H w) {t u ty e : TypeId} {ku : IntKind} (ht : Γ.P.underlying t = some (.slice e)) (hu : Γ.P.underlying u = some (.int ku))
    {i : TypeInfo} (hi : Γ.P.info? e = some i) {zp : List PV} (hz : zeroT Γ.P e = some zp) (hby : 0 < i.bytes) (hsz : 0 < i.size) (hb2 : i.bytes ≤ 256)
    {ext : Ext} {vs : Value} {kx : IntKind} {l : Int} (hvs : VRel κ (.pv (.sl ext 0 [])) vs) (h0 : 0 < l) (h1 : l ≤ 1099511627776) (hext : ext.noApp = false) (hb : (0 + l.toNat) * i.bytes ≤ 140737488355328) :
    RunOK Γ base κ H w (Builtin.append_ #[t, u] ty #[vs, .int kx l]) (.zsl H.length l.toNat) (H ++ [.tok 0 i.size]) := by
  obtain ⟨i', z, hi', hzz, hzr, hz1, hzl⟩ := zeroT_rel (Γ := Γ) (κ := κ) hz
  rw [hi] at hi'; injection hi' with hi'; subst hi'
  have hzs : z.cells.size = i.size := by rw [← Array.length_toList, ← hzr.length]; exact hzl
  have hsrc := appSrc_zeros (w := w) (ty := ty) (kx := kx) ht hu hi hzz hsz hb2 hzr hz1 (Int.le_of_lt h0) h1
  have hm0 : 0 < l.toNat := by omega
  have hnl : ((List.replicate l.toNat z.cells.toList).flatten).length = l.toNat * i.size := by
    simp only [List.length_flatten, List.map_replicate, List.sum_replicate_nat, Array.length_toList, hzs]
  obtain ⟨a, cap, hvs', hfirst, hlt⟩ : ∃ (a : Option Addr) (cap : Nat), vs = .slice a 0 cap ∧ (Builtin.firstCells i.size 0 (.slice a 0 cap)).run Γ.P w.drew = .ok ([] : List Value).toArray w.drew ∧ cap < 0 + l.toNat := by
    cases hvs with
    | pv _ _ hps =>
      cases hps with
      | slNil => exact ⟨none, 0, rfl, run_firstCells_none w.drew _ _ _ _, by omega⟩
      | sl _ _ _ a cap us g1 g2 g3 g4 g5 g6 =>
        have hcap : cap = 0 := by
          cases ext with
          | unk => cases hext
          | nn => cases hext
          | exact => exact g2 (.inl rfl)
          | nnx => exact g2 (.inr rfl)
          | nil => exact absurd rfl g1
        exact ⟨some a, cap, rfl, run_firstCells_some w.drew i.size 0 a 0 cap [] (by simp) (fun j v hj => by simp at hj), by omega⟩
  have hr := hsrc.grow hnl hm0 a 0 cap [] hfirst hlt hb (by omega)
  have g1 := grownCap_ge w (0 + l.toNat) cap e
  have g2 := grownCap_le_maxLen w (0 + l.toNat) cap e (by unfold maxLen; omega)
  generalize hcp : grownCap w (0 + l.toNat) cap e = cap' at *
  have hblk : (([] ++ (List.replicate l.toNat z.cells.toList).flatten).toArray ++ Builtin.zeroCells z.cells (cap' - (0 + l.toNat))) = (([] : List Value) ++ ((List.replicate l.toNat z.cells.toList).flatten ++ (List.replicate (cap' - (0 + l.toNat)) z.cells.toList).flatten)).toArray := by
    apply Array.ext'
    simp [zeroCells_list]
  rw [hblk] at hr
  obtain ⟨k1, k2, k3, k4⟩ := SRel.newTok (hs.drew).1 ([] : List Value) ((List.replicate l.toNat z.cells.toList).flatten ++ (List.replicate (cap' - (0 + l.toNat)) z.cells.toList).flatten) e 0 i.size cap' (by simp) (by
    rw [List.nil_append, List.length_append, hnl]
    simp only [List.length_flatten, List.map_replicate, List.sum_replicate_nat, Array.length_toList, hzs]
    rw [← Nat.add_mul]; congr 1; omega) g2 (Nat.zero_le _)
  rw [hvs']
  have e0 : 0 + l.toNat = l.toNat := Nat.zero_add _
  refine ⟨_, _, _, hr, ?_, k1, (hs.drew).2.trans k2⟩
  rw [e0]
  exact .zsl _ _ _ _ k4 (by omega)
/-- An object is told in another way. -/
theorem SRel.tell (h : SRel Γ base κ H w) {id k : Nat} (o : HObj) (h0 : place κ id (hget H id) = some k) (h1 : ∀ j, place κ id o = some j → j = k) (ho : ObjRel Γ κ w id k o) :
    SRel Γ base κ (hset H id o) w ∧ Grow κ H w κ (hset H id o) w :=
  h.turnOne id o k k (Same.refl w) κ.le_refl h0 rfl (fun _ _ => rfl) (fun _ _ _ => rfl) (fun a v hv => ⟨h.imm a v hv, .inl hv⟩) h1 (.inl rfl) ho
theorem elemOf_inv {es : Nat} {x : AV} {c : List PV} (h : elemOf es x = some c) : ∃ e, x = .pv (.sl e 1 c) ∧ c.length = es := by
  unfold elemOf at h
  split at h
  · rename_i e n cs
    rw [Bool.cond_eq_ite] at h
    split at h
    · rename_i hb
      rw [Bool.and_eq_true] at hb
      injection h with h; subst h
      have := Nat.eq_of_beq_eq_true hb.1
      subst this
      exact ⟨e, rfl, Nat.eq_of_beq_eq_true hb.2⟩
    · cases h
  · cases h
theorem appB_rel (hs : SRel Γ base κ H w) {t u ty e : TypeId} {d : TypeDesc} (ht : Γ.P.underlying t = some (.slice e)) (hu : Γ.P.underlying u = some d) (hd : ∃ e', d = .slice e')
    {i : TypeInfo} (hi : Γ.P.info? e = some i) {zp : List PV} (hz : zeroT Γ.P e = some zp) (hby : 0 < i.bytes)
    {s x v : AV} {vs vx : Value} {H' : Heap} (hvs : VRel κ s vs) (hvx : VRel κ x vx)
    (he : appBK i.size i.bytes s x H (fun v h => some (v, h)) = some (v, H')) : RunOK Γ base κ H w (Builtin.append_ #[t, u] ty #[vs, vx]) v H' := by
  obtain ⟨i', z, hi', hzz, hzr, hz1, hzl⟩ := zeroT_rel (Γ := Γ) (κ := κ) hz
  rw [hi] at hi'; injection hi' with hi'; subst hi'
  have hzs : z.cells.size = i.size := by rw [← Array.length_toList, ← hzr.length]; exact hzl
  unfold appBK at he
  cases hel : elemOf i.size x with
  | none => rw [hel] at he; cases he
  | some c =>
  rw [hel] at he; dsimp only at he
  obtain ⟨ex, rfl, hcl⟩ := elemOf_inv hel
  have hnostr : ¬ ∃ b, vx = .string b := by
    rintro ⟨b, rfl⟩
    cases hvx with | pv _ _ hp => cases hp
  have hxs : ((∃ b, vx = .string b) → d = .string) ∧ ((¬ ∃ b, vx = .string b) → ∃ e', d = .slice e') := ⟨fun h => absurd h hnostr, fun _ => hd⟩
  have hd1 : d = .string → i.size = 1 := fun h => by obtain ⟨e', h2⟩ := hd; rw [h] at h2; cases h2
  have hA : ∀ (H : Heap), SRel Γ base κ H w → ∀ (m : Nat) (F : List AV → Option (AV × Heap)) (y : AV × Heap), srcLen (.pv (.sl ex 1 c)) = some m → srcA H (.pv (.sl ex 1 c)) F = some y → ∃ new news, F new = some y ∧ VRels κ new news ∧ ∀ z, i.zero = some z → AppOps Γ w t u ty e i z vx m news := by
    intro H hs m F y hm hF
    obtain ⟨new, news, h1, h2, h3, h4, _⟩ := srcA_inv hs hvx hm hF
    exact ⟨new, news, h1, h2, fun z hzz => appOps_of ht hu (.inr hd) hi hzz hby hd1 hxs h4 h3⟩
  split at he
  · rename_i ext n cs
    have hq := needK_inv he
    clear he
    obtain ⟨hc, he⟩ := hq
    injection he with he; injection he with e1 e2; subst e1; subst e2
    simp only [Bool.and_eq_true] at hc
    obtain ⟨⟨⟨c1, c2⟩, c3⟩, c4⟩ := hc
    have := Nat.eq_of_beq_eq_true c2; subst this
    have := List.eq_nil_of_length_eq_zero (Nat.eq_of_beq_eq_true c3); subst this
    obtain ⟨hb1, hb2⟩ := mostBytes_cap c4 hby
    obtain ⟨new, news, e1, hrel, O⟩ := hA H hs 1 (fun l => some (.any, [.cells l])) (.any, [.cells (c.map .pv)]) rfl rfl
    have e1 : new = c.map .pv := by injection e1 with e1; injection e1 with _ e1; injection e1 with e1 _; injection e1
    subst e1
    have O := O z hzz
    have hnl : news.length = 1 * i.size := by rw [← hrel.length, List.length_map, hcl, Nat.one_mul]
    obtain ⟨a, cap, rfl, hfirst, hlt⟩ : ∃ (a : Option Addr) (cap : Nat), vs = .slice a 0 cap ∧ (Builtin.firstCells i.size 0 (.slice a 0 cap)).run Γ.P w.drew = .ok ([] : List Value).toArray w.drew ∧ cap < 0 + 1 := by
      cases hvs with
      | pv _ _ hps =>
        cases hps with
        | slNil => exact ⟨none, 0, rfl, run_firstCells_none w.drew _ _ _ _, by omega⟩
        | sl _ _ _ a cap us g1 g2 g3 g4 g5 g6 =>
          have hcap : cap = 0 := by
            cases ext with
            | unk => cases c1
            | nn => cases c1
            | exact => exact g2 (.inl rfl)
            | nnx => exact g2 (.inr rfl)
            | nil => exact absurd rfl g1
          refine ⟨some a, cap, rfl, ?_, by omega⟩
          exact run_firstCells_some w.drew i.size 0 a 0 cap [] (by simp) (fun j v hj => by simp at hj)
    have hr := O.grow hnl (by omega) a 0 cap [] hfirst hlt (by omega) (by omega)
    have hge := grownCap_ge w (0 + 1) cap e
    have hle := grownCap_le_maxLen w (0 + 1) cap e (by unfold maxLen; omega)
    generalize grownCap w (0 + 1) cap e = cap' at hr hge hle
    have hr2 : (Builtin.append_ #[t, u] ty #[.slice a 0 cap, vx]).run Γ.P w = .ok (.slice (some ⟨w.heap.size, 0, none⟩) 1 cap')
        (w.drew.alloc (.cells (news ++ (List.replicate (cap' - (0 + 1)) z.cells.toList).flatten).toArray e)) := by
      rw [hr]
      congr 3
      apply Array.ext'
      simp [zeroCells_list]
    obtain ⟨s1, g1⟩ := (hs.drew).1.newRowG (cs := c.map .pv) (c := news) (rest := (List.replicate (cap' - (0 + 1)) z.cells.toList).flatten) (e := e) (n := 1) (es := i.size) (cap := cap') hrel O.ones (by simp [hcl]) (by
      rw [List.length_append, hnl]; simp only [List.length_flatten, List.map_replicate, List.sum_replicate_nat, Array.length_toList, hzs]
      rw [← Nat.add_mul]; congr 1; omega) hle (by omega)
    have hgl : hget (H ++ [.row 1 i.size (c.map .pv)]) H.length = .row 1 i.size (c.map .pv) := hget_append_same _ _
    have hpl : place (κ.tok H.length 1 (w.drew.heap.size, cap')) H.length (.row 1 i.size (c.map .pv)) = some w.drew.heap.size := by simp [place, K.tok]
    obtain ⟨_, ho⟩ := s1.obj H.length w.drew.heap.size (by rw [hgl]; exact hpl)
    rw [hgl] at ho
    obtain ⟨s2, g2⟩ := s1.tell (id := H.length) (k := w.drew.heap.size) (.bag i.size [c]) (by rw [hgl]; exact hpl) (fun j hj => by
      have : place (κ.tok H.length 1 (w.drew.heap.size, cap')) H.length (.bag i.size [c]) = some w.drew.heap.size := by simp [place, K.tok]
      rw [this] at hj; exact (Option.some.inj hj).symm) ⟨[c], .refl _, fun x hx => by simp at hx; subst hx; exact hcl, by
        have ho : RowRel _ _ _ _ _ _ _ := ho
        simpa using ho⟩
    have e3 : hset (H ++ [.row 1 i.size (c.map .pv)]) H.length (.bag i.size [c]) = H ++ [.bag i.size [c]] := by
      have key : ∀ (L : Heap) (o o' : HObj), hset (L ++ [o]) L.length o' = L ++ [o'] := by
        intro L o o'
        induction L with
        | nil => rfl
        | cons a L ih => show a :: hset (L ++ [o]) L.length o' = _; rw [ih]; rfl
      exact key _ _ _
    rw [e3] at s2 g2
    exact ⟨_, _, _, hr2, .gs _ _ w.drew.heap.size cap' (K.tok_same _ _ _ _) (by omega), s2, ((hs.drew).2.trans g1).trans g2⟩
  · rename_i id n
    rw [hgetK_def] at he
    cases hg : hget H id with
    | bag es' l =>
      rw [hg] at he; dsimp only at he
      have hq := needK_inv he
      clear he
      obtain ⟨hc, he⟩ := hq
      simp only [eqK_def] at he
      injection he with he; injection he with e1 e2; subst e1; subst e2
      simp only [Bool.and_eq_true] at hc
      obtain ⟨⟨c1, c2⟩, c3⟩ := hc
      have := Nat.eq_of_beq_eq_true c1; subst this
      have hln := Nat.eq_of_beq_eq_true c2
      obtain ⟨k, cap, hvs', htl, hcap⟩ : ∃ k cap, vs = .slice (some ⟨k, 0, none⟩) n cap ∧ κ.tl id n = some (k, cap) ∧ n ≤ cap := by
        cases hvs with | gs _ _ k cap h1 h2 => exact ⟨k, cap, rfl, h1, h2⟩
      have hpl : place κ id (hget H id) = some k := by rw [hg]; simp [place, hln, htl]
      obtain ⟨_, ho⟩ := hs.obj id k hpl
      rw [hg] at ho
      obtain ⟨l', hperm, hlen, hrow⟩ := ho
      rw [hln] at hrow
      have hlt : id < H.length := lt_of_hget (by rw [hg]; exact fun h => by cases h)
      obtain ⟨s1, g1⟩ := hs.tell (id := id) (k := k) (.row n i.size (l'.flatten.map .pv)) hpl (fun j hj => by simp [place, htl] at hj; exact hj.symm) hrow
      have hg1 : hget (hset H id (.row n i.size (l'.flatten.map .pv))) id = .row n i.size (l'.flatten.map .pv) := hget_hset_same _ hlt
      have hfl : (l'.flatten).length = n * i.size := by
        obtain ⟨_, _, _, _, _, _, _, _, _, h6, _⟩ := hrow
        rw [List.length_map] at h6; exact h6
      obtain ⟨v', κ2, w2, r1, r2, r3, r4⟩ := growK_rel s1 (t := t) (u := u) (ty := ty) (e := e) hz hi hby (s := .gs id n) (x := .pv (.sl ex 1 c)) (v := .gs id (n + 1)) (vs := vs) (vx := vx) (H' := hset (hset H id (.row n i.size (l'.flatten.map .pv))) id (.row (n + 1) i.size (l'.flatten.map .pv ++ c.map .pv))) hvs (hA _ s1) (by
        show (hgetK _ _ _) = _
        rw [hgetK_def, hg1]
        show needK _ _ = _
        rw [needK_def]
        have : (Nat.beq n n && Nat.beq i.size i.size && Nat.blt 0 1 && Nat.ble ((n + 1) * i.bytes) mostBytes && Nat.beq (l'.flatten.map AV.pv).length (mulE n i.size) && Nat.beq (c.map AV.pv).length (mulE 1 i.size)) = true := by
          simp only [Bool.and_eq_true]
          refine ⟨⟨⟨⟨⟨Nat.beq_refl _, Nat.beq_refl _⟩, rfl⟩, c3⟩, ?_⟩, ?_⟩
          · rw [mulE_eq, List.length_map, hfl]; exact Nat.beq_refl _
          · rw [mulE_eq, List.length_map, hcl, Nat.one_mul]; exact Nat.beq_refl _
        rw [this]
        simp only [cond_true, eqK_def])
      obtain ⟨k2, cap2, rfl, htl2, hcap2⟩ : ∃ k2 cap2, v' = .slice (some ⟨k2, 0, none⟩) (n + 1) cap2 ∧ κ2.tl id (n + 1) = some (k2, cap2) ∧ n + 1 ≤ cap2 := by
        cases r2 with | gs _ _ k cap h1 h2 => exact ⟨k, cap, rfl, h1, h2⟩
      have ess : hset (hset H id (.row n i.size (l'.flatten.map .pv))) id (.row (n + 1) i.size (l'.flatten.map .pv ++ c.map .pv)) = hset H id (.row (n + 1) i.size (l'.flatten.map .pv ++ c.map .pv)) := by
        have key : ∀ (H : Heap) (id : Nat) (o o' : HObj), hset (hset H id o) id o' = hset H id o' := by
          intro H
          induction H with
          | nil => intro id o o'; rfl
          | cons a H ih => intro id o o'; cases id with
            | zero => rfl
            | succ id => show a :: _ = a :: _; rw [ih]
        exact key _ _ _ _
      rw [ess] at r3 r4
      have hg2 : hget (hset H id (.row (n + 1) i.size (l'.flatten.map .pv ++ c.map .pv))) id = .row (n + 1) i.size (l'.flatten.map .pv ++ c.map .pv) := hget_hset_same _ hlt
      have hpl2 : place κ2 id (hget (hset H id (.row (n + 1) i.size (l'.flatten.map .pv ++ c.map .pv))) id) = some k2 := by rw [hg2]; simp [place, htl2]
      obtain ⟨_, ho2⟩ := r3.obj id k2 hpl2
      rw [hg2] at ho2
      have hcp := canon_perm (l ++ [c])
      have hclen : (canon (l ++ [c])).length = n + 1 := by rw [hcp.length_eq]; simp [hln]
      obtain ⟨s3, g3⟩ := r3.tell (id := id) (k := k2) (.bag i.size (canon (l ++ [c]))) hpl2 (fun j hj => by simp [place, hclen, htl2] at hj; exact hj.symm) ⟨l' ++ [c], (hperm.append_right [c]).trans hcp.symm, fun y hy => by
        have := hcp.mem_iff.1 hy
        rcases List.mem_append.1 this with h | h
        · exact hlen y h
        · simp at h; subst h; exact hcl, by
          have ho2 : RowRel _ _ _ _ _ _ _ := ho2
          rw [hclen]; simpa using ho2⟩
      have ess2 : hset (hset H id (.row (n + 1) i.size (l'.flatten.map .pv ++ c.map .pv))) id (.bag i.size (canon (l ++ [c]))) = hset H id (.bag i.size (canon (l ++ [c]))) := by
        have key : ∀ (H : Heap) (id : Nat) (o o' : HObj), hset (hset H id o) id o' = hset H id o' := by
          intro H
          induction H with
          | nil => intro id o o'; rfl
          | cons a H ih => intro id o o'; cases id with
            | zero => rfl
            | succ id => show a :: _ = a :: _; rw [ih]
        exact key _ _ _ _
      rw [ess2] at s3 g3
      exact ⟨_, κ2, w2, r1, .gs _ _ k2 cap2 htl2 hcap2, s3, (g1.trans r4).trans g3⟩
    | _ => rw [hg] at he; cases he
  · cases he
end
end Go.VM
