/-
  Part 10 of an abstract machine that answers as the model does.
  Objects that are kept while others grow; a row of bytes that grows in an object of one cell.
  Arguments of plain data that are not longer than a bound, by what their readings are of bulk; a law's statement where that bound is its condition.
-/
import Derived.Test.YtflfdglnelbbiaaV9
import Derived.JoinedCond
set_option linter.all false
set_option linter.unusedVariables false
set_option linter.unusedSimpArgs false
set_option linter.unusedSectionVars false
namespace Go.VM
open Go

theorem AppV_grow {H : Heap} {v : AV} {e : Ext} {es n : Nat} {cs : List PV} (h : AppV H v e es n cs) (L : Heap) : AppV (H ++ L) v e es n cs := by
  rcases h with h | ⟨h1, h2, t, h3, h4⟩
  · exact .inl h
  · exact .inr ⟨h1, h2, t, h3, (hget_app L (hget_lt h4 (by intro h; cases h))).trans h4⟩
theorem AppV_put {H : Heap} {v : AV} {e : Ext} {es n : Nat} {cs : List PV} (h : AppV H v e es n cs) {i : Nat} {o : HObj} (o' : HObj) (hi : hget H i = o) (ho : ∀ n es, o ≠ .tok n es) : AppV (hset H i o') v e es n cs := by
  rcases h with h | ⟨h1, h2, t, h3, h4⟩
  · exact .inl h
  · refine .inr ⟨h1, h2, t, h3, (hget_hset_ne _ _ (fun e => ?_)).trans h4⟩
    rw [e, hi] at h4
    exact ho _ _ h4
theorem keep2 {H : Heap} {i : Nat} {o : HObj} (z o' : HObj) (h : hget H i = o) (ho : o ≠ .dead) : hget (hset (H ++ [z]) H.length o') i = o := by
  have := hget_lt h ho
  exact (hget_hset_ne _ _ (by omega)).trans ((hget_app _ this).trans h)
/-- One cell. -/
def cellOf (v : AV) : HObj := match v with
  | .pv p => .pcells [p]
  | v => .cells [v]
theorem cellOf_ne {v : AV} : cellOf v ≠ .dead ∧ ∀ n es, cellOf v ≠ .tok n es := by
  cases v <;> exact ⟨(by intro h; cases h), (by intro n es h; cases h)⟩
/-- All that is no token, but one, stays. -/
def Keep (p : Nat) (H H' : Heap) : Prop := H.length ≤ H'.length ∧ ∀ i o, i ≠ p → hget H i = o → o ≠ .dead → (∀ n es, o ≠ .tok n es) → hget H' i = o
theorem Keep.refl (p : Nat) (H : Heap) : Keep p H H := ⟨Nat.le_refl _, fun _ _ _ h _ _ => h⟩
theorem Keep.trans {p : Nat} {H H1 H2 : Heap} (h1 : Keep p H H1) (h2 : Keep p H1 H2) : Keep p H H2 :=
  ⟨Nat.le_trans h1.1 h2.1, fun i o hi h hd ht => h2.2 i o hi (h1.2 i o hi h hd ht) hd ht⟩
theorem Keep.set {p : Nat} {H H1 : Heap} (h1 : Keep p H H1) (o : HObj) : Keep p H (hset H1 p o) :=
  ⟨by rw [hset_len]; exact h1.1, fun i o' hi h hd ht => (hget_hset_ne _ _ hi).trans (h1.2 i o' hi h hd ht)⟩
theorem Keep.of_fr {H H1 : Heap} {v : AV} {e : Ext} {es n : Nat} {cs : List PV} (hv : AppV H v e es n cs) (hf : Fr v H H1) (p : Nat) : Keep p H H1 :=
  ⟨hf.1, fun _ _ _ h hd ht => Fr.obj hv hf h hd ht⟩
/-- A row of bytes in an object of one cell. -/
def TP (H : Heap) (p : Nat) (bs : List UInt8) : Prop := ∃ v, hget H p = cellOf v ∧ AppV H v .nil 1 bs.length (bc bs)
theorem TP.out {H : Heap} {p : Nat} {bs : List UInt8} (h : TP H p bs) : (hget H p = .pcells [.sl .nil 0 []] ∧ bs = []) ∨ (bs ≠ [] ∧ ∃ t, hget H p = .cells [.tsl t bs.length (bc bs)] ∧ hget H t = .tok bs.length 1) := by
  obtain ⟨v, h1, h2⟩ := h
  rcases h2 with ⟨h3, _, rfl, _⟩ | ⟨h3, _, t, rfl, h4⟩
  · exact .inl ⟨h1, List.eq_nil_of_length_eq_zero h3⟩
  · exact .inr ⟨fun h => by rw [h] at h3; exact h3 rfl, t, h1, h4⟩
end Go.VM

namespace Go.VM
open Go Go.RowKit Go.ChangeShapes Go.WideShapes

mutual
def HasTyB (B : Nat) : Ty → List PV → Prop
  | .bool, cs => ∃ b, cs = [.bool b]
  | .int k, cs => ∃ n, cs = [.int k n] ∧ (Lit.int k n).wf = true
  | .str, cs => ∃ s : ByteArray, cs = [.str s] ∧ s.size ≤ B
  | .sl es e, cs => ∃ x len cells, cs = [.sl x len cells] ∧ ((x = .nil ∧ len = 0 ∧ cells = []) ∨ x = .nn) ∧ len ≤ B ∧ Els (HasTyB B e) es len cells
  | .st fs, cs => HasFsB B fs cs
  | .arr n es e, cs => Els (HasTyB B e) es n cs
def HasFsB (B : Nat) : List (Nat × Ty) → List PV → Prop
  | [], cs => cs = []
  | (n, t) :: fs, cs => ∃ a b, cs = a ++ b ∧ a.length = n ∧ HasTyB B t a ∧ HasFsB B fs b
end

/-- What is of bulk: its texts and its parts are. -/
structure Bulk {H : Type} (b : DataW H → Nat) : Prop where
  str : ∀ l, l.length ≤ b (.lit (.string l))
  elem : ∀ elems spare d, d ∈ elems → b d ≤ b (.slice elems spare)
  len : ∀ elems spare, elems.length ≤ b (.slice elems spare)
  part : ∀ parts d, d ∈ parts → b d ≤ b (.agg parts)
theorem mapM_mem {α β : Type} {f : α → Option β} : ∀ {l : List α} {r : List β}, l.mapM f = some r → ∀ x ∈ l, ∃ y, f x = some y ∧ y ∈ r := by
  intro l
  induction l with
  | nil => intro r _ x hx; cases hx
  | cons a l ih =>
    intro r h x hx
    rw [List.mapM_cons] at h
    obtain ⟨y, h1, h2⟩ := some_bind h
    obtain ⟨ys, h3, h4⟩ := some_bind h2
    injection h4 with h4; subst h4
    rcases List.mem_cons.1 hx with e | e
    · subst e; exact ⟨y, h1, List.mem_cons_self ..⟩
    · obtain ⟨z, q1, q2⟩ := ih h3 x e
      exact ⟨z, q1, List.mem_cons_of_mem _ q2⟩
theorem mapM_len {α β : Type} {f : α → Option β} : ∀ {l : List α} {r : List β}, l.mapM f = some r → r.length = l.length := by
  intro l
  induction l with
  | nil => intro r h; simp at h; subst h; rfl
  | cons a l ih =>
    intro r h
    rw [List.mapM_cons] at h
    obtain ⟨y, h1, h2⟩ := some_bind h
    obtain ⟨ys, h3, h4⟩ := some_bind h2
    injection h4 with h4; subst h4
    simp [ih h3]

section
variable {H : Type} {enc : TypeId × Value → H} {P : Program} {w : World} {sp : Nat → Bool} {hd : Bool} {B : Nat} {bk : DataW H → Nat}

/-- What reading found, one after the other. -/
theorem els_readB {fuel : Nat} {e : TypeId} {T : Ty} {a : Addr} {es : Nat} (ih : ∀ (cs : List Value) (x : DataW H × List MemPlace), DataW.trod enc P w 0 sp hd fuel e cs = some x → bk x.1 ≤ B → ∃ ps, PRels (Imm.of w) ps cs ∧ Ones cs ∧ HasTyB B T ps) :
    ∀ (n i : Nat), (∀ j, i ≤ j → j < i + n → ∃ x, ((w.cells? 0 (a.add (j * es)) es).bind (DataW.trod enc P w 0 sp hd fuel e)) = some x ∧ bk x.1 ≤ B) →
    ∃ ps vs, PRels (Imm.of w) ps vs ∧ Ones vs ∧ Els (HasTyB B T) es n ps ∧ ∀ (j : Nat) (v : Value), vs[j]? = some v → w.cell? (a.add (i * es + j)) = some v := by
  intro n
  induction n with
  | zero => intro i _; exact ⟨[], [], .nil, .nil, rfl, fun j v h => by simp at h⟩
  | succ n ihn =>
    intro i h
    obtain ⟨x, hx, hbx⟩ := h i (Nat.le_refl _) (by omega)
    obtain ⟨c, h1, h2⟩ := some_bind hx
    obtain ⟨ps, g1, g2, g3⟩ := ih c x h2 hbx
    obtain ⟨c1, c2⟩ := cells?_get h1
    obtain ⟨qs, vs, k1, k2, k3, k4⟩ := ihn (i + 1) fun j hj hlt => h j (by omega) (by omega)
    refine ⟨ps ++ qs, c ++ vs, g1.append k1, g2.append k2, ⟨ps, qs, rfl, by rw [g1.length, c1], g3, k3⟩, fun j v hj => ?_⟩
    by_cases hlt : j < c.length
    · rw [List.getElem?_append_left hlt] at hj
      rw [← addr_add_add]
      exact c2 j v hj
    · rw [List.getElem?_append_right (by omega)] at hj
      have := k4 _ v hj
      rw [c1] at this hlt
      rw [show i * es + j = (i + 1) * es + (j - es) by rw [Nat.add_mul]; omega]
      exact this

theorem segs_readB {fuel : Nat} {e : TypeId} {T : Ty} {es : Nat} (ih : ∀ (cs : List Value) (x : DataW H × List MemPlace), DataW.trod enc P w 0 sp hd fuel e cs = some x → bk x.1 ≤ B → ∃ ps, PRels (Imm.of w) ps cs ∧ Ones cs ∧ HasTyB B T ps) (cs : List Value) :
    ∀ (n i : Nat), cs.length = (i + n) * es → (∀ j, i ≤ j → j < i + n → ∃ x, DataW.trod enc P w 0 sp hd fuel e ((cs.drop (j * es)).take es) = some x ∧ bk x.1 ≤ B) →
    ∃ ps, PRels (Imm.of w) ps (cs.drop (i * es)) ∧ Ones (cs.drop (i * es)) ∧ Els (HasTyB B T) es n ps := by
  intro n
  induction n with
  | zero => intro i hl _; rw [Nat.add_zero] at hl; exact ⟨[], by rw [List.drop_of_length_le (by omega)]; exact .nil, by rw [List.drop_of_length_le (by omega)]; exact .nil, rfl⟩
  | succ n ihn =>
    intro i hl h
    obtain ⟨x, hx, hbx⟩ := h i (Nat.le_refl _) (by omega)
    obtain ⟨ps, g1, g2, g3⟩ := ih _ x hx hbx
    obtain ⟨qs, k1, k2, k3⟩ := ihn (i + 1) (by rw [hl]; congr 1; omega) fun j hj hlt => h j (by omega) (by omega)
    have e1 : cs.drop (i * es) = (cs.drop (i * es)).take es ++ cs.drop ((i + 1) * es) := by
      conv => lhs; rw [← List.take_append_drop es (cs.drop (i * es))]
      rw [List.drop_drop, Nat.add_mul, Nat.one_mul]
    have hle : (i + 1) * es ≤ cs.length := by rw [hl]; exact Nat.mul_le_mul_right _ (by omega)
    have hlen : ((cs.drop (i * es)).take es).length = es := by
      rw [List.length_take, List.length_drop]
      rw [Nat.add_mul] at hle
      omega
    rw [e1]
    exact ⟨ps ++ qs, g1.append k1, g2.append k2, ps, qs, rfl, by rw [g1.length, hlen], g3, k3⟩

theorem fs_readB {fuel : Nat} {g : TypeId → Option Ty} (ih : ∀ (t : TypeId) (T : Ty) (cs : List Value) (x : DataW H × List MemPlace), g t = some T → DataW.trod enc P w 0 sp hd fuel t cs = some x → bk x.1 ≤ B → ∃ ps, PRels (Imm.of w) ps cs ∧ Ones cs ∧ HasTyB B T ps) (cs : List Value) :
    ∀ (fs : List Field) (off : Nat) (L : List (Nat × Ty)), tyFs P g fs off cs.length = some L → off ≤ cs.length → (∀ f ∈ fs, ∃ x, DataW.trod enc P w 0 sp hd fuel f.type ((cs.drop f.offset).take (P.cellsOf f.type)) = some x ∧ bk x.1 ≤ B) →
    ∃ ps, PRels (Imm.of w) ps (cs.drop off) ∧ Ones (cs.drop off) ∧ HasFsB B L ps := by
  intro fs
  induction fs with
  | nil =>
    intro off L h hle _
    simp only [tyFs] at h
    cases hb : Nat.beq off cs.length with
    | false => rw [hb] at h; cases h
    | true =>
      rw [hb] at h; injection h with h; subst h
      have := Nat.eq_of_beq_eq_true hb
      rw [List.drop_of_length_le (by omega)]
      exact ⟨[], .nil, .nil, by simp [HasFsB]⟩
  | cons f fs ihf =>
    intro off L h hle hx
    simp only [tyFs] at h
    split at h
    · rename_i t r h1 h2
      cases hb : Nat.beq f.offset off with
      | false => rw [hb] at h; cases h
      | true =>
        rw [hb] at h; injection h with h; subst h
        have ho := Nat.eq_of_beq_eq_true hb
        obtain ⟨x, hx1, hbx⟩ := hx f (by simp)
        rw [ho] at hx1
        obtain ⟨ps, g1, g2, g3⟩ := ih _ t _ x h1 hx1 hbx
        have hle2 : off + P.cellsOf f.type ≤ cs.length := by
          have : ∀ (fs : List Field) (o : Nat) (L : List (Nat × Ty)), tyFs P g fs o cs.length = some L → o ≤ cs.length := by
            intro fs
            induction fs with
            | nil =>
              intro o L h
              simp only [tyFs] at h
              cases hb : Nat.beq o cs.length with
              | false => rw [hb] at h; cases h
              | true => exact Nat.le_of_eq (Nat.eq_of_beq_eq_true hb)
            | cons f fs ih2 =>
              intro o L h
              simp only [tyFs] at h
              split at h
              · rename_i t' r' _ h3
                have := ih2 _ _ h3
                omega
              · cases h
          exact this fs _ _ h2
        obtain ⟨qs, k1, k2, k3⟩ := ihf _ r h2 hle2 fun f' hf' => hx f' (by simp [hf'])
        have e1 : cs.drop off = (cs.drop off).take (P.cellsOf f.type) ++ cs.drop (off + P.cellsOf f.type) := by
          conv => lhs; rw [← List.take_append_drop (P.cellsOf f.type) (cs.drop off)]
          rw [List.drop_drop]
        have hlen : ((cs.drop off).take (P.cellsOf f.type)).length = P.cellsOf f.type := by
          rw [List.length_take, List.length_drop]; omega
        rw [e1]
        refine ⟨ps ++ qs, g1.append k1, g2.append k2, ?_⟩
        simp only [HasFsB]
        exact ⟨ps, qs, rfl, by rw [g1.length, hlen], g3, k3⟩
    · cases h

theorem readB (hbk : Bulk bk) : ∀ (fuel d : Nat) (t : TypeId) (T : Ty) (cs : List Value) (x : DataW H × List MemPlace), tyOf P d t = some T → DataW.trod enc P w 0 sp hd fuel t cs = some x → bk x.1 ≤ B → ∃ ps, PRels (Imm.of w) ps cs ∧ Ones cs ∧ HasTyB B T ps := by
  intro fuel
  induction fuel with
  | zero => intro d t T cs x _ h _; simp [DataW.trod] at h
  | succ fuel ih =>
    intro d t T cs x hT hx hB
    cases d with
    | zero => cases hT
    | succ d =>
      simp only [tyOf] at hT
      have ihc : ∀ (t : TypeId) (T : Ty) (cs : List Value) (x : DataW H × List MemPlace), tyOf P d t = some T → DataW.trod enc P w 0 sp hd fuel t cs = some x → bk x.1 ≤ B → ∃ ps, PRels (Imm.of w) ps cs ∧ Ones cs ∧ HasTyB B T ps := fun t T cs x h1 h2 h3 => ih d t T cs x h1 h2 h3
      simp only [DataW.trod] at hx
      split at hx
      case h_1 hu =>
        rw [hu] at hT; injection hT with hT; subst hT
        exact ⟨[.bool _], .cons _ _ _ _ (.bool _) .nil, .cons rfl .nil, by simp [HasTyB]⟩
      case h_2 k k' m hu =>
        rw [hu] at hT; injection hT with hT; subst hT
        split at hx
        · rename_i hc
          obtain ⟨rfl, hw⟩ := hc
          exact ⟨[.int _ _], .cons _ _ _ _ (.int _ _) .nil, .cons rfl .nil, by simp [HasTyB, hw]⟩
        · cases hx
      case h_4 s hu =>
        rw [hu] at hT; injection hT with hT; subst hT
        split at hx
        · rename_i hc
          injection hx with hx
          subst hx
          have := hbk.str s.data.toList
          have e : s.size = s.data.toList.length := by rw [Array.length_toList]; rfl
          refine ⟨[.str _], .cons _ _ _ _ (.str _) .nil, .cons rfl .nil, ?_⟩
          simp only [HasTyB]
          refine ⟨s, rfl, ?_⟩
          rw [e]
          exact Nat.le_trans this hB
        · cases hx
      case h_7 e hu =>
        rw [hu] at hT
        obtain ⟨E, _, rfl⟩ := map_some hT
        refine ⟨[.sl .nil 0 []], .cons _ _ _ _ (.slNil _ (by simp) (by simp)) .nil, .cons rfl .nil, ?_⟩
        simp only [HasTyB]
        exact ⟨.nil, 0, [], rfl, .inl ⟨rfl, rfl, rfl⟩, Nat.zero_le _, rfl⟩
      case h_8 e a len cap hu =>
        rw [hu] at hT
        obtain ⟨E, hE, rfl⟩ := map_some hT
        split at hx
        · rename_i hc
          obtain ⟨elems, h1, h2⟩ := some_bind hx
          obtain ⟨rest, _, h2⟩ := map_some h2
          subst h2
          have hall := mapM_mem h1
          have hlen := mapM_len h1
          have hbl := hbk.len (elems.map (·.1)) (rest.map (·.1))
          simp only at hB
          obtain ⟨ps, vs, g1, g2, g3, g4⟩ := els_readB (a := a) (es := P.cellsOf e) (fun cs x h hb => ihc e E cs x hE h hb) len 0 fun j _ hj => by
            obtain ⟨y, hy, hm⟩ := hall j (by simp; omega)
            exact ⟨y, hy, Nat.le_trans (hbk.elem _ _ _ (List.mem_map.2 ⟨y, hm, rfl⟩)) hB⟩
          refine ⟨[.sl .nn len ps], .cons _ _ _ _ (.sl .nn len ps a cap vs (by simp) (by simp) hc.2.1 g1 (fun j v hj => by simpa [Imm.of] using g4 j v hj) g2) .nil, .cons rfl .nil, ?_⟩
          simp only [HasTyB]
          exact ⟨.nn, len, ps, rfl, .inr rfl, by rw [List.length_map, hlen, List.length_range] at hbl; omega, g3⟩
        · cases hx
      case h_9 cs _ _ fs hu =>
        rw [hu] at hT
        obtain ⟨L, hL, rfl⟩ := map_some hT
        split at hx
        · rename_i hc
          obtain ⟨xs, h1, h2⟩ := map_some hx
          subst h2
          simp only at hB
          rw [← hc] at hL
          obtain ⟨ps, g1, g2, g3⟩ := fs_readB (g := tyOf P d) (fun t T cs x h1 h2 h3 => ihc t T cs x h1 h2 h3) cs fs.toList 0 L hL (Nat.zero_le _) fun f hf => by
            obtain ⟨y, hy, hm⟩ := mapM_mem h1 f hf
            exact ⟨y, hy, Nat.le_trans (hbk.part _ _ (List.mem_map.2 ⟨y, hm, rfl⟩)) hB⟩
          refine ⟨ps, by simpa using g1, by simpa using g2, ?_⟩
          simp only [HasTyB]
          exact g3
        · cases hx
      case h_10 cs _ _ n e hu =>
        rw [hu] at hT
        simp only at hT
        split at hT
        · rename_i E hE
          cases hb : Nat.beq (P.cellsOf t) (n * P.cellsOf e) with
          | false => rw [hb] at hT; cases hT
          | true =>
            rw [hb] at hT; injection hT with hT; subst hT
            split at hx
            · rename_i hc
              obtain ⟨xs, h1, h2⟩ := map_some hx
              subst h2
              simp only at hB
              have hl : cs.length = (0 + n) * P.cellsOf e := by rw [hc, Nat.eq_of_beq_eq_true hb, Nat.zero_add]
              obtain ⟨ps, g1, g2, g3⟩ := segs_readB (es := P.cellsOf e) (fun cs x h hb => ihc e E cs x hE h hb) cs n 0 hl fun j _ hj => by
                obtain ⟨y, hy, hm⟩ := mapM_mem h1 j (by simp; omega)
                exact ⟨y, hy, Nat.le_trans (hbk.part _ _ (List.mem_map.2 ⟨y, hm, rfl⟩)) hB⟩
              refine ⟨ps, by simpa using g1, by simpa using g2, ?_⟩
              simp only [HasTyB]
              exact g3
            · cases hx
        · cases hT
      all_goals first
        | (rename_i hu; rw [hu] at hT; cases hT; done)
        | (cases hx; done)
        | skip
end
/-- An argument of plain data. -/
def HasArgB (B : Nat) (T : Ty) (p : PV) : Prop := match T with
  | .st fs => ∃ ps, p = .agg ps ∧ HasFsB B fs ps
  | .arr n es e => ∃ ps, p = .agg ps ∧ Els (HasTyB B e) es n ps
  | T => HasTyB B T [p]
def HasArgsB (B : Nat) : List Ty → List PV → Prop
  | [], ps => ps = []
  | T :: Ts, ps => ∃ p qs, ps = p :: qs ∧ HasArgB B T p ∧ HasArgsB B Ts qs

section
variable {H : Type} {enc : TypeId × Value → H} {P : Program} {W : World} {B : Nat} {bk : DataW H → Nat}

theorem read_argB (hbk : Bulk bk) {d : Nat} {t : TypeId} {T : Ty} {base : Nat} {v : Value} {dd : DataW H} {pl : List MemPlace} {sp : Nat → Bool} {hd : Bool} (hT : tyOf P d t = some T) (hok : Value.okWide P W .any base t v) (h : DataW.Trod enc P W 0 sp hd t v dd pl) (hB : bk dd ≤ B) :
    ∃ p, PRel (Imm.of W) p v ∧ HasArgB B T p := by
  obtain ⟨fuel, h⟩ := h
  obtain ⟨ps, h1, h2, h3⟩ := readB hbk fuel d t T _ _ hT h hB
  have single : ∀ (q : PV), ps = [q] → (∀ cs, v ≠ .agg cs) → PRel (Imm.of W) q v := by
    intro q hq hv
    subst hq
    have hc : v.cells = #[v] := by cases v <;> first | rfl | exact absurd rfl (hv _)
    rw [hc] at h1
    cases h1 with | cons _ _ _ _ g1 _ => exact g1
  rcases tyOf_agg hT with ⟨fs, hu, L, rfl⟩ | ⟨n, e, hu, a, b, c, rfl⟩ | ⟨k1, k2, k3, k4⟩
  · unfold Value.okWide at hok
    rw [hu] at hok
    obtain ⟨cs, rfl, _⟩ := hok
    simp only [HasTyB] at h3
    refine ⟨.agg ps, ?_, ps, rfl, h3⟩
    have := PRel.agg ps cs.toList (by simpa [Value.cells] using h1) (by simpa [Value.cells] using h2)
    simpa using this
  · unfold Value.okWide at hok
    rw [hu] at hok
    obtain ⟨cs, rfl, _⟩ := hok
    simp only [HasTyB] at h3
    refine ⟨.agg ps, ?_, ps, rfl, h3⟩
    have := PRel.agg ps cs.toList (by simpa [Value.cells] using h1) (by simpa [Value.cells] using h2)
    simpa using this
  · have hv := okWide_plain hok k1 k2
    cases T with
    | st L => exact absurd rfl (k3 L)
    | arr a b c => exact absurd rfl (k4 a b c)
    | bool =>
      have h3' := h3
      simp only [HasTyB] at h3
      obtain ⟨b, rfl⟩ := h3
      exact ⟨_, single _ rfl hv, h3'⟩
    | int k =>
      have h3' := h3
      simp only [HasTyB] at h3
      obtain ⟨b, rfl, _⟩ := h3
      exact ⟨_, single _ rfl hv, h3'⟩
    | str =>
      have h3' := h3
      simp only [HasTyB] at h3
      obtain ⟨b, rfl, _⟩ := h3
      exact ⟨_, single _ rfl hv, h3'⟩
    | sl es e =>
      have h3' := h3
      simp only [HasTyB] at h3
      obtain ⟨x, len, cells, rfl, _⟩ := h3
      exact ⟨_, single _ rfl hv, h3'⟩

theorem read_argsB (hbk : Bulk bk) {d : Nat} {base : Nat} {sp : Nat → Bool} {hd : Bool} : ∀ {ts : List TypeId} {Ts : List Ty} {vs : List Value} {ds : List (DataW H)} {pl : List MemPlace}, tysOf P d ts = some Ts → (∀ (j : Nat) (t : TypeId) (v : Value), ts[j]? = some t → vs[j]? = some v → Value.okWide P W .any base t v) → DataW.TrodAll enc P W 0 sp hd ts vs ds pl → (∀ d ∈ ds, bk d ≤ B) →
    ∃ ps, PRels (Imm.of W) ps vs ∧ HasArgsB B Ts ps := by
  intro ts
  induction ts with
  | nil =>
    intro Ts vs ds pl hT hok h hB
    simp [tysOf] at hT; subst hT
    cases vs with
    | nil => exact ⟨[], .nil, rfl⟩
    | cons _ _ => cases ds <;> exact h.elim
  | cons t ts ih =>
    intro Ts vs ds pl hT hok h hB
    simp only [tysOf] at hT
    split at hT
    · rename_i T r h1 h2
      injection hT with hT; subst hT
      cases vs with
      | nil => cases ds <;> exact h.elim
      | cons v vs =>
        cases ds with
        | nil => exact h.elim
        | cons dd ds =>
          obtain ⟨p, q, g1, g2, _⟩ := h
          obtain ⟨x, k1, k2⟩ := read_argB hbk h1 (hok 0 t v rfl rfl) g1 (hB _ (List.mem_cons_self ..))
          obtain ⟨xs, k3, k4⟩ := ih h2 (fun j t' v' hj hv => hok (j + 1) t' v' (by simpa using hj) (by simpa using hv)) g2 (fun d hd => hB d (List.mem_cons_of_mem _ hd))
          exact ⟨x :: xs, .cons _ _ _ _ k1 k3, x, xs, rfl, k2, k4⟩
    · cases hT
end


/-- A law that answers true in the abstract machine, where its arguments are not of more bulk. -/
theorem law_cond {C : Checked} {md : FuncId → Mode} {env : Env} (hV : EnvOK ⟨C.prog, md, fun _ => none, fun _ => false⟩ env) {f : FuncId} {fn : Func} {s : OpenSpec} {k : (H : Type) → List (DataW H) → Bool} (hk : s.cond = some k) {F : Stop.Interp} {conds : List PathCond} {apart fresh handsOn : Bool} {tb : TypeId} {Ts : List Ty}
    (own : ownKnob C.prog.godebug = none) {os : Os} (started : os.Started) (noInit : C.prog.inits.idxOf? f = none) (hf : C.prog.funcs[f]? = some fn) {H : Type} {enc : TypeId × Value → H}
    (witness : ∃ (w : World) (tape : Tape) (i : Input), w.os = os ∧ (w.forCall tape i).Shaped C.prog ∧ i.vars = [] ∧ Input.okWide C.prog (w.forCall tape i) .any w.heap.size f i ∧
      s.pre6 enc C.prog fn conds apart (w.forCall tape i).memory i.args ∧ ({} : Assume).holds C.prog (lone (Frame.enter C.prog f i.args .normal) [] (w.forCall tape i)))
    (hl : laidOutB C.prog = true) (hr : fn.params.toList.all (fun t => C.prog.readableRec t && decide (t < C.prog.types.size)) = true) (hvars : s.vars = []) (hrt : fn.resultTypes = #[tb]) (htb : C.prog.underlying tb = some .bool)
    (hfn : ∀ ds : List (DataW H), ds.length = fn.params.size → (s.at F).fn H ds = { results := [.lit (.bool true)], args := ds })
    {B : Nat} {bk : DataW H → Nat} (hbk : Bulk bk) (hkb : ∀ ds, k H ds = true → ∀ d ∈ ds, bk d ≤ B)
    (hT : tysOf C.prog 40 fn.params.toList = some Ts) (law : ∀ ps, HasArgsB B Ts ps → ∃ H', EE env (.fn f) (ps.map .pv) [] = some (.pv (.bool true), H')) :
    ReturnsInHanded {} C os f .any (s.pre6 enc C.prog fn conds apart) ((s.at F).post enc C.prog fn apart fresh handsOn false) := by
  refine returnsInHanded_of_cond hk own started noInit hf witness ?_
  intro W base args ds gs before hval hW _ hkk _
  have hW0 : DataW.Whole enc C.prog fn.params.toList (s.at F).vars apart W args.toList ds gs before := hW
  obtain ⟨p, q, h1, _⟩ := hW
  obtain ⟨ps, g1, g2⟩ := read_argsB hbk (B := B) hT (fun j t v ht hv => hval j t v (by rw [← Array.getElem?_toList]; exact ht) (by rw [← Array.getElem?_toList]; exact hv)) h1 (fun d hd => hkb _ hkk d (List.mem_append_left _ hd))
  obtain ⟨H', hE⟩ := law ps g2
  refine (calls_of_EE hV hE (fun a v hv => by cases hv) (fun a ha => by cases ha) g1).mono fun e W' ⟨v, he, ⟨I, hv⟩, hb⟩ => ⟨v, he, ?_⟩
  cases hv
  exact law_post hl hr hvars hrt htb hfn (by rw [trodAll_length h1]; simp) hW0 hb
end Go.VM
