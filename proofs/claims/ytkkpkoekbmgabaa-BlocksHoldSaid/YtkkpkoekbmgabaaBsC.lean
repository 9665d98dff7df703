/-
  Blocks: what is free.
-/
import Derived.Test.YtkkpkoekbmgabaaBsB
set_option linter.all false
set_option linter.unusedVariables false
set_option linter.unusedSimpArgs false
set_option linter.unusedSectionVars false
namespace Go.Proofs.Ytkkpkoekbmgabaa
open Go Go.VM
variable {H : Heap} {p m : Nat} {zs : List Zn}

abbrev Rw := Ow × Sd
def ent (e : Nat × Rw) : Nat × PV × PV := (e.1, .agg (oc e.2.1), .agg (sc e.2.2))
def rowUse (i : Nat) (k : Int) (r : Rw) : Int := if r.1.kind = k then r.2.at i else 0
/-- What rows hold of a zone. -/
def used (L : List Rw) (i : Nat) (k : Int) : Int := (L.map (rowUse i k)).sum
/-- A map with these rows. -/
def MapOf (H : Heap) (m : Nat) (L : List Rw) : Prop := ∃ (clk : Nat) (E : List (Nat × Rw)), hget H m = .map clk (E.map ent) ∧ Stamps clk (E.map ent) ∧ (E.map (·.2)).Perm L
/-- Rows that may be held. -/
structure Fair (zs : List Zn) (L : List Rw) : Prop where
  kind : ∀ r ∈ L, isKind r.1.kind
  pos : ∀ r ∈ L, ∀ i, 0 ≤ r.2.at i
  out : ∀ r ∈ L, ∀ i, zs.length ≤ i → r.2.at i = 0
  room : ∀ (i : Nat) k, used L i k ≤ roomF zs i k
theorem at_ge (s : Sd) {i : Nat} (h : 8 ≤ i) : s.at i = 0 := by
  unfold Sd.at
  rw [List.getD_eq_getElem?_getD, List.getElem?_eq_none (by show 8 ≤ i; exact h)]; rfl
theorem sc_get (s : Sd) {i : Nat} (h : i < 8) : (sc s)[i]? = some (iv (s.at i)) := by
  match i, h with
  | 0, _ => rfl
  | 1, _ => rfl
  | 2, _ => rfl
  | 3, _ => rfl
  | 4, _ => rfl
  | 5, _ => rfl
  | 6, _ => rfl
  | 7, _ => rfl
theorem used_app (A B : List Rw) (i : Nat) (k : Int) : used (A ++ B) i k = used A i k + used B i k := by simp [used]
theorem used_perm {A B : List Rw} (h : A.Perm B) (i : Nat) (k : Int) : used A i k = used B i k := by
  unfold used
  induction h with
  | nil => rfl
  | cons a _ ih => rw [List.map_cons, List.map_cons, List.sum_cons, List.sum_cons, ih]
  | swap a b l => simp only [List.map_cons, List.sum_cons]; omega
  | trans _ _ h1 h2 => exact h1.trans h2
theorem used_pos {A : List Rw} (h : ∀ r ∈ A, ∀ i, 0 ≤ r.2.at i) (i : Nat) (k : Int) : 0 ≤ used A i k := by
  unfold used
  induction A with
  | nil => exact Int.le_refl _
  | cons a A ih =>
    rw [List.map_cons, List.sum_cons]
    have h1 := ih fun r hr => h r (List.mem_cons_of_mem _ hr)
    have h2 : 0 ≤ rowUse i k a := by
      unfold rowUse
      split
      · exact h a (List.mem_cons_self ..) i
      · exact Int.le_refl _
    omega
/-- What is free of a zone. -/
def freeF (zs : List Zn) (L : List Rw) (i k : Int) : Int := if roomF zs i k = 0 then 0 else roomF zs i k - used L i.toNat k
theorem used_zero {L : List Rw} (hf : Fair zs L) {i k : Int} (h : roomF zs i k = 0) (hi : 0 ≤ i) : used L i.toNat k = 0 := by
  have h1 := hf.room i.toNat k
  have h2 := used_pos hf.pos i.toNat k
  rw [Int.toNat_of_nonneg hi, h] at h1
  omega

theorem MapOf.kp {L : List Rw} (h : MapOf H m L) {H' : Heap} {l : List Nat} (hk : Kp l H H') (hl : m ∉ l) : MapOf H' m L := by
  obtain ⟨clk, E, h1, h2, h3⟩ := h
  exact ⟨clk, E, hk.get h1 (by intro h; cases h) hl, h2, h3⟩
theorem TbZ.kp (h : TbZ H p zs m) {H' : Heap} {l : List Nat} (hk : Kp l H H') (hl : p ∉ l) : TbZ H' p zs m := by
  obtain ⟨x, hx⟩ := h.obj
  exact ⟨⟨x, hk.get hx (by intro h; cases h) hl⟩, h.fit⟩
theorem room_kind {i k : Int} (h : roomF zs i k ≠ 0) : isKind k ∧ 0 ≤ i ∧ i < zs.length := by
  unfold roomF at h
  split at h
  · exact absurd rfl h
  · rename_i z hz
    have := zoneF_mem hz
    split at h
    · exact ⟨by assumption, this.1, this.2.1⟩
    · exact absurd rfl h
theorem used_sub : ∀ (W E : List (Nat × Rw)), W.Nodup → (∀ y ∈ W, y ∈ E) → (∀ r ∈ E.map (·.2), ∀ i, 0 ≤ r.2.at i) → ∀ i k, used (W.map (·.2)) i k ≤ used (E.map (·.2)) i k := by
  intro W
  induction W with
  | nil => intro E _ _ h i k; exact used_pos h i k
  | cons a W ih =>
    intro E hn hs h i k
    rw [List.nodup_cons] at hn
    obtain ⟨s, t, rfl⟩ := List.append_of_mem (hs a (List.mem_cons_self ..))
    have h1 := ih (s ++ t) hn.2 (fun x hx => by
      rcases List.mem_append.1 (hs x (List.mem_cons_of_mem _ hx)) with h | h
      · exact List.mem_append_left _ h
      · rcases List.mem_cons.1 h with e | h
        · exact absurd (e ▸ hx) hn.1
        · exact List.mem_append_right _ h) (fun r hr => h r (by simp at hr ⊢; exact hr.elim .inl fun h => .inr (.inr h))) i k
    have h2 : used ((s ++ a :: t).map (·.2)) i k = rowUse i k a.2 + used ((s ++ t).map (·.2)) i k := by simp [used]; omega
    have h3 : used ((a :: W).map (·.2)) i k = rowUse i k a.2 + used (W.map (·.2)) i k := by simp [used]
    omega
theorem free_ok {L : List Rw} (h : TbZ H p zs m) (hM : MapOf H m L) (hF : Fair zs L) (i k : Int) : ∃ H', EE env (.fn 13) [.ptr p 0, .pv (iv i), .pv (iv k)] H = some (.pv (iv (freeF zs L i k)), H') ∧ Kp [] H H' := by
  suffices hs : Has (EE env (.fn 13) [.ptr p 0, .pv (iv i), .pv (iv k)] H) fun y => y.1 = .pv (iv (freeF zs L i k)) ∧ Kp [] H y.2 by
    obtain ⟨⟨v, H'⟩, h1, h2, h3⟩ := hs
    exact ⟨H', by rw [h1, show v = _ from h2], h3⟩
  obtain ⟨H1, h1, h2⟩ := room_ok h i k
  have hb := room_bound h.fit i k
  obtain ⟨x, hx⟩ := (h.kp h2 (fun h => by cases h)).obj
  obtain ⟨clk, E, hm, hst, hpm⟩ := hM.kp h2 (fun h => by cases h)
  refine EE_has ?_
  refine callSK_has h1 ?_
  refine boolK_beq (fun h0 => ?_) (fun h0 => ?_)
  · refine Has.intro ?_
    exact ⟨by unfold freeF; rw [if_pos h0]; rfl, h2⟩
  · obtain ⟨hk, hi0, hi1⟩ := room_kind h0
    obtain ⟨j, rfl⟩ : ∃ j : Nat, i = (j : Int) := ⟨i.toNat, by omega⟩
    have hj : j < 8 := by have := h.fit.2.2; omega
    refine hgetK_has _ hx ?_
    refine hgetK_has _ hm ?_
    refine rangeM_readT hm hst (fun V => [(7, .pv (iv (roomF zs j k - used (V.map (·.2)) j k))), (1, .pv (iv j)), (2, .pv (iv k))]) (fun _ => True) (.exit 0) [(7, .pv (iv (roomF zs j k - used L j k)))] ?_ ?_ ?_ trivial ?_
    · intro V e r h hV he hn hnd _ hk hl hmp hit
      have hnd2 : (V ++ [e]).Nodup := List.nodup_append.2 ⟨hnd, by simp, fun a ha b hb hab => hn (by rw [List.mem_singleton.1 hb] at hab; exact hab ▸ ha)⟩
      have hE : ∀ r ∈ E.map (·.2), ∀ i, 0 ≤ r.2.at i := fun r hr => hF.pos r (hpm.subset hr)
      have hbd : ∀ W : List (Nat × Rw), W.Nodup → (∀ y ∈ W, y ∈ E) → 0 ≤ used (W.map (·.2)) j k ∧ used (W.map (·.2)) j k ≤ roomF zs j k := fun W hW1 hW2 =>
        ⟨used_pos (fun r hr => by obtain ⟨y, hy, rfl⟩ := List.mem_map.1 hr; exact hE _ (List.mem_map.2 ⟨y, hW2 y hy, rfl⟩)) j k,
          Int.le_trans (used_sub W E hW1 hW2 hE j k) ((used_perm hpm j k).symm ▸ hF.room j k)⟩
      (refine hgetK_has _ hit ?_; refine hgetK_has _ hmp ?_; refine needK_has (by rw [Nat.beq_refl, Nat.beq_refl]; rfl) ?_; refine bindK_has (List.getLast?_concat) ?_; refine bindK_has (find_stamp hst (List.mem_map.2 ⟨_, he, rfl⟩)) ?_)
      (repeat (first | refine hgetK_last ?_ | refine hgetK_set ?_ | refine hgetK_two1 ?_ | refine hgetK_two2 ?_ | refine hgetK_two3 ?_ | refine hgetK_two4 ?_ | refine hgetK_two5 ?_ | refine needK_has rfl ?_ | refine getK_has rfl ?_ | refine secK_has rfl (by first | exact Nat.le_refl _ | decide | exact Nat.le_of_ble_eq_true rfl) ?_ | refine eqK_has ?_))
      refine boolK_beq (fun hk1 => ?_) (fun hk1 => ?_)
      · refine needK_has (by simp; omega) ?_
        (repeat (first | refine hgetK_last ?_ | refine hgetK_set ?_ | refine hgetK_two1 ?_ | refine hgetK_two2 ?_ | refine hgetK_two3 ?_ | refine hgetK_two4 ?_ | refine hgetK_two5 ?_ | refine needK_has rfl ?_ | refine getK_has rfl ?_ | refine secK_has rfl (by first | exact Nat.le_refl _ | decide | exact Nat.le_of_ble_eq_true rfl) ?_))
        refine getK_has (sc_get e.2.2 hj) ?_
        refine eqK_has_eq (roomF zs j k - used ((V ++ [e]).map (·.2)) j k) ?_ ?_
        · have := hbd _ hnd2 fun y hy => (List.mem_append.1 hy).elim (hV y) fun hy => List.mem_singleton.1 hy ▸ he
          have e1 : roomF zs j k - used (V.map (·.2)) j k - e.2.2.at j = roomF zs j k - used ((V ++ [e]).map (·.2)) j k := by
            rw [List.map_append, used_app]
            have : used ([e].map (·.2)) j k = e.2.2.at j := by simp [used, rowUse]; exact fun h => absurd hk1 h
            omega
          exact (congrArg _ e1).trans (wrap_i64 (by omega) (by omega))
        · refine Has.intro ⟨?_, ?_, trivial⟩
          · (repeat (first | exact trivial | refine ⟨rfl, ?_⟩))
          · exact ((((Kp.refl _ _).app _).app _).set _ _ (.inr (by simp))).set _ _ (.inr (by simp))
      · refine Has.intro ⟨?_, ?_, trivial⟩
        · have e1 : used ((V ++ [e]).map (·.2)) j k = used (V.map (·.2)) j k := by
            rw [List.map_append, used_app]
            have : used ([e].map (·.2)) j k = 0 := by simp [used, rowUse]; exact fun h => absurd h hk1
            omega
          rw [e1]
          (repeat (first | exact trivial | refine ⟨rfl, ?_⟩))
        · exact ((((Kp.refl _ _).app _).app _).set _ _ (.inr (by simp))).set _ _ (.inr (by simp))
    · intro V r h hV _ hk hmp
      refine Has.intro ⟨rfl, ?_, Kp.refl _ _⟩
      rw [← used_perm ((hV.map (·.2)).trans hpm)]
      (repeat (first | exact trivial | refine ⟨rfl, ?_⟩))
    · have e0 : roomF zs j k - used (([] : List (Nat × Rw)).map (·.2)) j k = roomF zs j k := by simp [used]
      rw [e0]
      (repeat (first | exact trivial | refine ⟨rfl, ?_⟩))
    · intro r H' hk
      refine Has.intro ⟨?_, h2.step hk⟩
      show AV.pv (iv (roomF zs j k - used L j k)) = _
      unfold freeF
      rw [if_neg h0, Int.toNat_natCast]
end Go.Proofs.Ytkkpkoekbmgabaa
