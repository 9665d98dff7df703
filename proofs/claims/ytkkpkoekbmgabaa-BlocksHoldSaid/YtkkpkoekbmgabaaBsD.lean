/-
  Blocks: a map's rows looked up, put and taken away.
-/
import Derived.Test.YtkkpkoekbmgabaaBsC
set_option linter.all false
set_option linter.unusedVariables false
set_option linter.unusedSimpArgs false
set_option linter.unusedSectionVars false
namespace Go.Proofs.Ytkkpkoekbmgabaa
open Go Go.VM
variable {H : Heap} {p m : Nat} {zs : List Zn}

abbrev okt : KT := .agg [.s, .s, .i]
theorem sbeq (a b : List UInt8) : ((⟨a.toArray⟩ : ByteArray).toList == (⟨b.toArray⟩ : ByteArray).toList) = decide (a = b) := by
  rw [sv_list, sv_list]
  by_cases h : a = b
  · subst h; simp
  · rw [decide_eq_false h]; simpa using h
theorem ow_eq (a b : Ow) : aggEq [.s, .s, .i] (oc a) (oc b) = some (decide (a = b)) := by
  show some _ = some _
  congr 1
  rw [sbeq, sbeq, Bool.eq_iff_iff, decide_eq_true_iff]
  obtain ⟨a1, a2, a3⟩ := a
  obtain ⟨b1, b2, b3⟩ := b
  simp only [Bool.and_eq_true, beq_iff_eq, decide_eq_true_iff, Ow.mk.injEq]
  constructor
  · rintro ⟨h1, h2, h3, _⟩; exact ⟨h1, h2, h3⟩
  · rintro ⟨h1, h2, h3⟩; exact ⟨h1, h2, h3, trivial⟩
theorem sd_eq (a b : Sd) : aggEq [.i, .i, .i, .i, .i, .i, .i, .i] (sc a) (sc b) = some (decide (a = b)) := by
  show some _ = some _
  congr 1
  rw [Bool.eq_iff_iff, decide_eq_true_iff]
  obtain ⟨a1, a2, a3, a4, a5, a6, a7, a8⟩ := a
  obtain ⟨b1, b2, b3, b4, b5, b6, b7, b8⟩ := b
  simp only [Bool.and_eq_true, beq_iff_eq, Sd.mk.injEq]
  constructor
  · rintro ⟨h1, h2, h3, h4, h5, h6, h7, h8, _⟩; exact ⟨h1, h2, h3, h4, h5, h6, h7, h8⟩
  · rintro ⟨h1, h2, h3, h4, h5, h6, h7, h8⟩; exact ⟨h1, h2, h3, h4, h5, h6, h7, h8, trivial⟩
theorem key_eq (a b : Ow) : keyEq okt (.agg (oc a)) (.agg (oc b)) = some (decide (a = b)) := ow_eq a b
theorem find_row (o : Ow) : ∀ (E : List (Nat × Rw)) (n : Nat), ((∀ e ∈ E, e.2.1 ≠ o) ∧ mapFind okt (.agg (oc o)) (E.map ent) n = some none) ∨
    ∃ A e B, E = A ++ e :: B ∧ e.2.1 = o ∧ mapFind okt (.agg (oc o)) (E.map ent) n = some (some (n + A.length, .agg (sc e.2.2))) := by
  intro E
  induction E with
  | nil => intro n; exact .inl ⟨fun _ h => (by cases h), rfl⟩
  | cons a E ih =>
    intro n
    by_cases h : o = a.2.1
    · exact .inr ⟨[], a, E, rfl, h.symm, by rw [List.map_cons]; unfold mapFind; rw [show (ent a).2.1 = PV.agg (oc a.2.1) from rfl, key_eq, decide_eq_true h]; rfl⟩
    · have hs : mapFind okt (.agg (oc o)) ((a :: E).map ent) n = mapFind okt (.agg (oc o)) (E.map ent) (n + 1) := by
        rw [List.map_cons]
        conv => lhs; unfold mapFind
        rw [show (ent a).2.1 = PV.agg (oc a.2.1) from rfl, key_eq, decide_eq_false h]
      rcases ih (n + 1) with ⟨h1, h2⟩ | ⟨A, e, B, rfl, h2, h3⟩
      · exact .inl ⟨fun e he => (List.mem_cons.1 he).elim (fun h' => h' ▸ fun h' => h h'.symm) (h1 e), hs.trans h2⟩
      · exact .inr ⟨a :: A, e, B, rfl, h2, by rw [hs, h3, List.length_cons]; congr 3; omega⟩
def heldF (L : List Rw) (o : Ow) : Sd := match L.find? fun r => decide (r.1 = o) with
  | some r => r.2
  | none => s0
def without (L : List Rw) (o : Ow) : List Rw := L.filter fun r => decide (r.1 ≠ o)
def Keys (L : List Rw) : Prop := (L.map (·.1)).Nodup
theorem Keys.perm {A B : List Rw} (h : Keys A) (hp : A.Perm B) : Keys B := (hp.map _).nodup h
theorem heldF_mem {L : List Rw} (hk : Keys L) {r : Rw} (h : r ∈ L) : heldF L r.1 = r.2 := by
  unfold heldF
  induction L with
  | nil => cases h
  | cons a L ih =>
    unfold Keys at hk
    rw [List.map_cons, List.nodup_cons] at hk
    rcases List.mem_cons.1 h with rfl | h
    · rw [List.find?_cons, decide_eq_true rfl]
    · have : ¬ a.1 = r.1 := fun e => hk.1 (e ▸ List.mem_map.2 ⟨r, h, rfl⟩)
      rw [List.find?_cons, decide_eq_false this]
      exact ih hk.2 h
theorem heldF_none {L : List Rw} {o : Ow} (h : ∀ r ∈ L, r.1 ≠ o) : heldF L o = s0 := by
  unfold heldF
  rw [List.find?_eq_none.2 fun r hr => by simpa using h r hr]
theorem MapOf.perm {L L' : List Rw} (h : MapOf H m L) (hp : L.Perm L') : MapOf H m L' := by
  obtain ⟨clk, E, h1, h2, h3⟩ := h
  exact ⟨clk, E, h1, h2, h3.trans hp⟩
abbrev Z8 : PV := .agg [iv 0, iv 0, iv 0, iv 0, iv 0, iv 0, iv 0, iv 0]
/-- What a map's look-up says. -/
theorem look_row {L : List Rw} (hk : Keys L) {E : List (Nat × Rw)} (hp : (E.map (·.2)).Perm L) (o : Ow) :
    ∃ f, mapFind okt (.agg (oc o)) (E.map ent) 0 = some f ∧ lookV false Z8 f = .agg (sc (heldF L o)) := by
  rcases find_row o E 0 with ⟨h1, h2⟩ | ⟨A, e, B, rfl, h2, h3⟩
  · refine ⟨none, h2, ?_⟩
    rw [heldF_none fun r hr => by obtain ⟨e, he, rfl⟩ := List.mem_map.1 (hp.symm.subset hr); exact h1 e he]
    rfl
  · refine ⟨_, h3, ?_⟩
    have : heldF L o = e.2.2 := by rw [← h2]; exact heldF_mem hk (hp.subset (List.mem_map.2 ⟨e, by simp, rfl⟩))
    rw [this]; rfl
theorem filter_keep {L : List Rw} {o : Ow} (h : ∀ r ∈ L, r.1 ≠ o) : without L o = L := List.filter_eq_self.2 fun r hr => by simpa using h r hr
theorem Keys.ne {A B : List Rw} {r : Rw} (h : Keys (A ++ r :: B)) : (∀ x ∈ A, x.1 ≠ r.1) ∧ ∀ x ∈ B, x.1 ≠ r.1 := by
  unfold Keys at h
  rw [List.map_append, List.map_cons, List.nodup_append, List.nodup_cons] at h
  exact ⟨fun x hx e => h.2.2 _ (List.mem_map.2 ⟨x, hx, rfl⟩) _ (List.mem_cons_self ..) e, fun x hx e => h.2.1.1 (e ▸ List.mem_map.2 ⟨x, hx, rfl⟩)⟩
theorem without_split {A B : List Rw} {r : Rw} (h : Keys (A ++ r :: B)) : without (A ++ r :: B) r.1 = A ++ B := by
  unfold without
  rw [List.filter_append, List.filter_cons]
  have h1 := filter_keep h.ne.1
  have h2 := filter_keep h.ne.2
  unfold without at h1 h2
  rw [h1, h2]; simp
theorem setKV_at (k v : PV) : ∀ (A : List (Nat × PV × PV)) e B, setKV k v (A ++ e :: B) A.length = A ++ (e.1, k, v) :: B := by
  intro A
  induction A with
  | nil => intro e B; rfl
  | cons a A ih => intro e B; show a :: setKV k v (A ++ e :: B) A.length = _; rw [ih]; rfl
/-- A row is put. -/
theorem put_row {L : List Rw} (hk : Keys L) {clk : Nat} {E : List (Nat × Rw)} (hg : hget H m = .map clk (E.map ent)) (hst : Stamps clk (E.map ent)) (hp : (E.map (·.2)).Perm L) (o : Ow) (s : Sd) :
    ∃ f, mapFind okt (.agg (oc o)) (E.map ent) 0 = some f ∧ MapOf (hset H m (mapPut clk (E.map ent) (.agg (oc o)) (.agg (sc s)) f)) m ((o, s) :: without L o) := by
  have hm : m < H.length := hget_lt hg (by intro h; cases h)
  rcases find_row o E 0 with ⟨h1, h2⟩ | ⟨A, e, B, rfl, h2, h3⟩
  · refine ⟨none, h2, clk + 1, E ++ [(clk, (o, s))], ?_, ?_, ?_⟩
    · rw [hget_hset_same _ hm, List.map_append]; rfl
    · refine ⟨?_, fun x hx => ?_⟩
      · rw [List.map_append, List.map_append, List.nodup_append]
        refine ⟨hst.1, by simp, fun a ha b hb => ?_⟩
        obtain ⟨x, hx, rfl⟩ := List.mem_map.1 ha
        have := hst.2 x hx
        simp [ent] at hb
        omega
      · rw [List.map_append] at hx
        rcases List.mem_append.1 hx with hx | hx
        · have := hst.2 x hx; omega
        · simp [ent] at hx; subst hx; show clk < clk + 1; omega
    · rw [filter_keep fun r hr => by obtain ⟨e, he, rfl⟩ := List.mem_map.1 (hp.symm.subset hr); exact h1 e he, List.map_append]
      exact (List.perm_append_comm.trans (List.Perm.cons _ hp))
  · subst h2
    refine ⟨_, h3, clk, A ++ (e.1, (e.2.1, s)) :: B, ?_, ?_, ?_⟩
    · rw [hget_hset_same _ hm]
      show HObj.map clk (setKV _ _ ((A ++ e :: B).map ent) (0 + A.length)) = _
      have := setKV_at (.agg (oc e.2.1)) (.agg (sc s)) (A.map ent) (ent e) (B.map ent)
      rw [List.length_map] at this
      rw [Nat.zero_add, List.map_append, List.map_cons, this, List.map_append, List.map_cons]
      rfl
    · refine ⟨?_, fun x hx => ?_⟩
      · have := hst.1
        simp only [List.map_append, List.map_cons] at this ⊢
        exact this
      · rw [List.map_append, List.map_cons] at hx
        rcases List.mem_append.1 hx with hx | hx
        · exact hst.2 x (by rw [List.map_append]; exact List.mem_append_left _ hx)
        · rcases List.mem_cons.1 hx with rfl | hx
          · exact hst.2 (ent e) (by simp)
          · exact hst.2 x (by rw [List.map_append, List.map_cons]; exact List.mem_append_right _ (List.mem_cons_of_mem _ hx))
    · have hke := hk.perm hp.symm
      rw [List.map_append, List.map_cons] at hke hp
      have h5 := (hp.filter fun r => decide (r.1 ≠ e.2.1))
      have h6 := without_split hke
      unfold without at h6 ⊢
      rw [h6] at h5
      rw [List.map_append, List.map_cons]
      exact List.perm_middle.trans (List.Perm.cons _ h5)
/-- A row is taken away. -/
theorem del_row {L : List Rw} (hk : Keys L) {clk : Nat} {E : List (Nat × Rw)} (hg : hget H m = .map clk (E.map ent)) (hst : Stamps clk (E.map ent)) (hp : (E.map (·.2)).Perm L) (o : Ow) :
    ∃ f, mapFind okt (.agg (oc o)) (E.map ent) 0 = some f ∧ mapDel clk (E.map ent) f = .map clk ((E.filter fun e => decide (e.2.1 ≠ o)).map ent) ∧ MapOf (hset H m (mapDel clk (E.map ent) f)) m (without L o) := by
  have hm : m < H.length := hget_lt hg (by intro h; cases h)
  have hke := hk.perm hp.symm
  have hsub : (E.filter fun e => decide (e.2.1 ≠ o)).Sublist E := List.filter_sublist
  have key : ∀ f, mapDel clk (E.map ent) f = .map clk ((E.filter fun e => decide (e.2.1 ≠ o)).map ent) → MapOf (hset H m (mapDel clk (E.map ent) f)) m (without L o) := fun f hf => by
    refine ⟨clk, _, by rw [hget_hset_same _ hm, hf], ⟨((hsub.map ent).map _).nodup hst.1, fun x hx => hst.2 x ((hsub.map ent).subset hx)⟩, ?_⟩
    have := hp.filter fun r => decide (r.1 ≠ o)
    rw [List.filter_map] at this
    exact this
  rcases find_row o E 0 with ⟨h1, h2⟩ | ⟨A, e, B, rfl, h2, h3⟩
  · have : mapDel clk (E.map ent) none = .map clk ((E.filter fun e => decide (e.2.1 ≠ o)).map ent) := by
      rw [List.filter_eq_self.2 fun e he => by simpa using h1 e he]; rfl
    exact ⟨none, h2, this, key _ this⟩
  · subst h2
    rw [List.map_append, List.map_cons] at hke
    have hn := hke.ne
    have : mapDel clk ((A ++ e :: B).map ent) (some (0 + A.length, .agg (sc e.2.2))) = .map clk (((A ++ e :: B).filter fun x => decide (x.2.1 ≠ e.2.1)).map ent) := by
      show HObj.map clk (((A ++ e :: B).map ent).eraseIdx (0 + A.length)) = _
      have hA : A.filter (fun x => decide (x.2.1 ≠ e.2.1)) = A := List.filter_eq_self.2 fun x hx => by simpa using hn.1 x.2 (List.mem_map.2 ⟨x, hx, rfl⟩)
      have hB : B.filter (fun x => decide (x.2.1 ≠ e.2.1)) = B := List.filter_eq_self.2 fun x hx => by simpa using hn.2 x.2 (List.mem_map.2 ⟨x, hx, rfl⟩)
      rw [List.filter_append, List.filter_cons, hA, hB]
      simp [List.eraseIdx_append_of_length_le]
    exact ⟨_, h3, this, key _ this⟩
end Go.Proofs.Ytkkpkoekbmgabaa
