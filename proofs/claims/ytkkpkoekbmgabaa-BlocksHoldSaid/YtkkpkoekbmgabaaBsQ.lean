/-
  Blocks: tables whose rows are in order.
-/
import Derived.Test.YtkkpkoekbmgabaaBsO
set_option linter.all false
set_option linter.unusedVariables false
set_option linter.unusedSimpArgs false
set_option linter.unusedSectionVars false
namespace Go.Proofs.Ytkkpkoekbmgabaa
open Go Go.VM
variable {H : Heap} {p m : Nat} {zs : List Zn} {L : List Rw}

theorem used_without (hk : Keys L) (o : Ow) (i : Nat) (k : Int) : used L i k = used (without L o) i k + rowUse i k (o, heldF L o) := by
  by_cases h : ∃ r ∈ L, r.1 = o
  · obtain ⟨r, hr, rfl⟩ := h
    rw [heldF_mem hk hr]
    obtain ⟨A, B, rfl⟩ := List.append_of_mem hr
    rw [without_split hk, used_app, used_app, show r :: B = [r] ++ B from rfl, used_app]
    have : used [r] i k = rowUse i k (r.1, r.2) := by simp [used]
    rw [this]
    omega
  · have h' : ∀ r ∈ L, r.1 ≠ o := fun r hr e => h ⟨r, hr, e⟩
    rw [filter_keep h', heldF_none h']
    have : rowUse i k (o, s0) = 0 := by
      unfold rowUse
      split
      · by_cases hi : i < 8
        · match i, hi with
          | 0, _ => rfl
          | 1, _ => rfl
          | 2, _ => rfl
          | 3, _ => rfl
          | 4, _ => rfl
          | 5, _ => rfl
          | 6, _ => rfl
          | 7, _ => rfl
        · exact at_ge _ (by omega)
      · rfl
    omega
theorem Keys.sub {A L : List Rw} (h : Keys L) (hs : A.Sublist L) : Keys A := (hs.map _).nodup h
theorem without_key (L : List Rw) (o : Ow) : ∀ r ∈ without L o, r.1 ≠ o := fun r hr => by
  have := (List.mem_filter.1 hr).2
  simpa using this
theorem Fair.perm {A B : List Rw} (h : Fair zs A) (hp : A.Perm B) : Fair zs B :=
  ⟨fun r hr => h.kind r (hp.symm.subset hr), fun r hr => h.pos r (hp.symm.subset hr), fun r hr => h.out r (hp.symm.subset hr), fun i k => by rw [← used_perm hp]; exact h.room i k⟩
theorem used_le_sub {A L : List Rw} (hp : ∀ r ∈ L, ∀ i, 0 ≤ r.2.at i) (hs : A.Sublist L) (i : Nat) (k : Int) : used A i k ≤ used L i k := by
  induction hs with
  | slnil => exact Int.le_refl _
  | @cons A L a _ ih =>
    have h1 := ih fun r hr => hp r (List.mem_cons_of_mem _ hr)
    have h2 : used (a :: L) i k = rowUse i k a + used L i k := by simp [used]
    have h3 : 0 ≤ rowUse i k a := by
      unfold rowUse
      split
      · exact hp a (List.mem_cons_self ..) i
      · exact Int.le_refl _
    omega
  | @cons_cons A L a _ ih =>
    have h1 := ih fun r hr => hp r (List.mem_cons_of_mem _ hr)
    have h2 : used (a :: L) i k = rowUse i k a + used L i k := by simp [used]
    have h3 : used (a :: A) i k = rowUse i k a + used A i k := by simp [used]
    omega
theorem Fair.sub {A L : List Rw} (h : Fair zs L) (hs : A.Sublist L) : Fair zs A :=
  ⟨fun r hr => h.kind r (hs.subset hr), fun r hr => h.pos r (hs.subset hr), fun r hr => h.out r (hs.subset hr), fun i k => Int.le_trans (used_le_sub h.pos hs i k) (h.room i k)⟩
theorem without_sub (L : List Rw) (o : Ow) : (without L o).Sublist L := List.filter_sublist
theorem others_sub (L : List Rw) (pod : List UInt8) : (others L pod).Sublist L := List.filter_sublist
/-- What may be put may be held. -/
theorem put_fair (hk : Keys L) (hf : Fair zs L) {o : Ow} {s : Sd} (hg : goodO o) (hb : ∀ i, i < 8 → ¬ badAt zs s i) (hu : ∀ i, i < 8 → ¬ fullAt zs L o s i) (hz : fits zs) : Fair zs ((o, s) :: without L o) := by
  have hw := hf.sub (without_sub L o)
  have pos : ∀ i, 0 ≤ s.at i := fun i => by
    by_cases hi : i < 8
    · have := hb i hi; unfold badAt at this; omega
    · rw [at_ge _ (by omega)]; exact Int.le_refl _
  have out : ∀ i, zs.length ≤ i → s.at i = 0 := fun i h => by
    by_cases hi : i < 8
    · have := hb i hi; unfold badAt at this; omega
    · exact at_ge _ (by omega)
  refine ⟨fun r hr => ?_, fun r hr i => ?_, fun r hr i hi => ?_, fun i k => ?_⟩
  · rcases List.mem_cons.1 hr with rfl | hr
    · exact hg.2.2
    · exact hw.kind r hr
  · rcases List.mem_cons.1 hr with rfl | hr
    · exact pos i
    · exact hw.pos r hr i
  · rcases List.mem_cons.1 hr with rfl | hr
    · exact out i hi
    · exact hw.out r hr i hi
  · have h1 : used ((o, s) :: without L o) i k = rowUse i k (o, s) + used (without L o) i k := by simp [used]
    have h2 := used_without hk o i k
    have h3 := hf.room i k
    have h4 := held_at hz hk hf o i
    rw [h1]
    unfold rowUse at h2 ⊢
    dsimp only at h2 ⊢
    by_cases hko : o.kind = k
    · rw [if_pos hko] at h2 ⊢
      by_cases hi : i < 8
      · have h5 := hu i hi
        unfold fullAt at h5
        by_cases h6 : s.at i > (heldF L o).at i
        · have h7 : ¬ (s.at i - (heldF L o).at i > freeF zs L i o.kind) := fun h => h5 ⟨h6, h⟩
          rw [hko] at h7
          unfold freeF at h7
          rw [Int.toNat_natCast] at h7
          split at h7
          · rename_i h8
            have := used_zero hf h8 (by omega)
            rw [Int.toNat_natCast] at this
            omega
          · omega
        · omega
      · rw [at_ge s (by omega)]; omega
    · rw [if_neg hko] at h2 ⊢
      omega
def insR (r : Rw) : List Rw → List Rw
  | [] => [r]
  | a :: l => if owLt r.1 a.1 then r :: a :: l else a :: insR r l
theorem insR_perm (r : Rw) (l : List Rw) : (insR r l).Perm (r :: l) := by
  induction l with
  | nil => exact .refl _
  | cons a l ih =>
    unfold insR
    split
    · exact .refl _
    · exact (ih.cons a).trans (.swap _ _ _)
theorem insR_sorted {r : Rw} {l : List Rw} (hs : Sorted l) (hn : ∀ x ∈ l, x.1 ≠ r.1) : Sorted (insR r l) := by
  induction l with
  | nil => exact List.pairwise_singleton _ _
  | cons a l ih =>
    unfold Sorted at hs ih ⊢
    rw [List.pairwise_cons] at hs
    unfold insR
    split
    · rename_i h
      rw [List.pairwise_cons, List.pairwise_cons]
      refine ⟨fun x hx => ?_, hs⟩
      rcases List.mem_cons.1 hx with rfl | hx
      · exact h
      · exact owLt_trans h (hs.1 x hx)
    · rename_i h
      rw [List.pairwise_cons]
      refine ⟨fun x hx => ?_, ih hs.2 fun x hx => hn x (List.mem_cons_of_mem _ hx)⟩
      rcases List.mem_cons.1 ((insR_perm r l).subset hx) with rfl | hx
      · refine Classical.byContradiction fun h2 => hn a (List.mem_cons_self ..) (owLt_tri h2 h)
      · exact hs.1 x hx
theorem Sorted.sub {A L : List Rw} (h : Sorted L) (hs : A.Sublist L) : Sorted A := List.Pairwise.sublist hs h
/-- The rows behind a Put. -/
def putS (zs : List Zn) (L : List Rw) (o : Ow) (s : Sd) : List Rw := if putE zs L o s = 0 then (if s = s0 then without L o else insR (o, s) (without L o)) else L
theorem putS_perm {o : Ow} {s : Sd} : (putS zs L o s).Perm (putL zs L o s) := by
  unfold putS putL
  split
  · split
    · exact .refl _
    · exact insR_perm _ _
  · exact .refl _
theorem putE_zero {o : Ow} {s : Sd} (h : putE zs L o s = 0) : goodO o ∧ (∀ i, i < 8 → ¬ badAt zs s i) ∧ ∀ i, i < 8 → ¬ fullAt zs L o s i := by
  unfold putE at h
  split at h
  · split at h
    · split at h
      · exact ⟨by assumption, by assumption, by assumption⟩
      · cases h
    · cases h
  · cases h
structure Ts (H : Heap) (p : Nat) (zs : List Zn) (m : Nat) (L : List Rw) : Prop extends Tb H p zs m L where
  sorted : Sorted L
theorem Ts.kp' (h : Ts H p zs m L) {H' : Heap} {l : List Nat} (hk : Kp l H H') (hp : p ∉ l) (hm : m ∉ l) : Ts H' p zs m L := ⟨h.toTb.kp hk hp hm, h.sorted⟩
theorem put_ts (h : Ts H p zs m L) (o : Ow) (s : Sd) (h1 : o.pod.length ≤ maxLen) (h2 : o.ct.length ≤ maxLen) :
    ∃ H', EE env (.fn 10) [.ptr p 0, .pv (.agg (oc o)), .pv (.agg (sc s))] H = some (.pv (iv (putE zs L o s)), H') ∧ Kp [m] H H' ∧ Ts H' p zs m (putS zs L o s) := by
  obtain ⟨H', g1, g2, g3⟩ := put_ok h.toTb o s h1 h2
  refine ⟨H', g1, g2, ⟨h.z.kp g2 (by simpa using h.ne), g3.perm putS_perm.symm, ?_, ?_⟩, ?_⟩
  · unfold putS
    split
    · split
      · exact h.keys.sub (without_sub L o)
      · refine Keys.perm ?_ (insR_perm _ _).symm
        unfold Keys
        rw [List.map_cons, List.nodup_cons]
        exact ⟨fun hm => by obtain ⟨r, hr, e⟩ := List.mem_map.1 hm; exact without_key L o r hr e, h.keys.sub (without_sub L o)⟩
    · exact h.keys
  · unfold putS
    split
    · rename_i he
      obtain ⟨c1, c2, c3⟩ := putE_zero he
      split
      · exact h.fair.sub (without_sub L o)
      · exact (put_fair h.keys h.fair c1 c2 c3 h.z.fit).perm (insR_perm _ _).symm
    · exact h.fair
  · unfold putS
    split
    · split
      · exact h.sorted.sub (without_sub L o)
      · exact insR_sorted (h.sorted.sub (without_sub L o)) (without_key L o)
    · exact h.sorted
theorem release_ts (h : Ts H p zs m L) (hL : L.length ≤ 1000000) (pod : List UInt8) :
    ∃ H', EE env (.fn 9) [.ptr p 0, .pv (sv pod)] H = some (.pv (iv (L.length - (others L pod).length)), H') ∧ Kp [m] H H' ∧ Ts H' p zs m (others L pod) := by
  obtain ⟨H', g1, g2, g3⟩ := release_ok h.toTb hL pod
  exact ⟨H', g1, g2, ⟨h.z.kp g2 (by simpa using h.ne), g3, h.keys.sub (others_sub L pod), h.fair.sub (others_sub L pod)⟩, h.sorted.sub (others_sub L pod)⟩
theorem clone_ts (h : Ts H p zs m L) : ∃ H', EE env (.fn 14) [.ptr p 0] H = some (.ptr (H.length + 1) 0, H') ∧ Kp [] H H' ∧ Ts H' (H.length + 1) zs H.length L ∧ H'.length = H.length + 2 := by
  obtain ⟨H', g1, g2, g3, g4⟩ := clone_ok h.toTb
  exact ⟨H', g1, g2, ⟨g3, h.sorted⟩, g4⟩
theorem rows_ts (h : Ts H p zs m L) (hL : L.length ≤ 100000) (most : Nat) : Has (EE env (.fn 11) [.ptr p 0, .pv (iv most)] H) fun y => Kp [] H y.2 ∧ AppV y.2 y.1 .nil 11 (min most L.length) (rcs (L.take most)) :=
  rows_aux hL h.sorted (fun J hk => all_ok (h.toTb.kp hk (by simp) (by simp))) ⟨p, .inl rfl⟩
theorem Sorted.nodup {A : List Rw} (h : Sorted A) : A.Nodup := by
  unfold List.Nodup
  refine List.Pairwise.imp ?_ h
  intro a b h e
  rw [e] at h
  exact owLt_irr _ h
end Go.Proofs.Ytkkpkoekbmgabaa
