/-
  Blocks: Put.
-/
import Derived.Test.YtkkpkoekbmgabaaBsE
set_option linter.all false
set_option linter.unusedVariables false
set_option linter.unusedSimpArgs false
set_option linter.unusedSectionVars false
namespace Go.Proofs.Ytkkpkoekbmgabaa
open Go Go.VM
variable {H : Heap} {p m : Nat} {zs : List Zn} {L : List Rw}

theorem name_dec (l : List UInt8) (hl : l.length ≤ maxLen) : EP (EE env) 31 [sv l] = some (.bool (decide (nameB l = true))) := (name_ok l hl).trans (by cases nameB l <;> rfl)
def goodO (o : Ow) : Prop := nameB o.pod = true ∧ nameB o.ct = true ∧ isKind o.kind
instance (o : Ow) : Decidable (goodO o) := by unfold goodO; infer_instance
def badAt (zs : List Zn) (s : Sd) (i : Nat) : Prop := s.at i < 0 ∨ s.at i > 1073741824 ∨ (s.at i > 0 ∧ (i : Int) ≥ zs.length)
instance (zs : List Zn) (s : Sd) (i : Nat) : Decidable (badAt zs s i) := by unfold badAt; infer_instance
def fullAt (zs : List Zn) (L : List Rw) (o : Ow) (s : Sd) (i : Nat) : Prop := s.at i > (heldF L o).at i ∧ s.at i - (heldF L o).at i > freeF zs L i o.kind
instance (zs : List Zn) (L : List Rw) (o : Ow) (s : Sd) (i : Nat) : Decidable (fullAt zs L o s i) := by unfold fullAt; infer_instance
instance dec8 (P : Nat → Prop) [DecidablePred P] : Decidable (∀ i, i < 8 → P i) := decidable_of_iff (∀ i ∈ List.range 8, P i) ⟨fun h i hi => h i (List.mem_range.2 hi), fun h i hi => h i (List.mem_range.1 hi)⟩
def putE (zs : List Zn) (L : List Rw) (o : Ow) (s : Sd) : Int :=
  if goodO o then (if ∀ i, i < 8 → ¬ badAt zs s i then (if ∀ i, i < 8 → ¬ fullAt zs L o s i then 0 else 20) else 2) else 2
def putL (zs : List Zn) (L : List Rw) (o : Ow) (s : Sd) : List Rw := if putE zs L o s = 0 then (if s = s0 then without L o else (o, s) :: without L o) else L
theorem use_le {L : List Rw} (hp : ∀ r ∈ L, ∀ i, 0 ≤ r.2.at i) {r : Rw} (hr : r ∈ L) (i : Nat) : r.2.at i ≤ used L i r.1.kind := by
  obtain ⟨A, B, rfl⟩ := List.append_of_mem hr
  have h1 := used_pos (fun r hr => hp r (List.mem_append_left _ hr)) (A := A) i r.1.kind
  have h2 := used_pos (fun r hr => hp r (List.mem_append_right _ (List.mem_cons_of_mem _ hr))) (A := B) i r.1.kind
  rw [used_app, show r :: B = [r] ++ B from rfl, used_app]
  have h3 : used [r] i r.1.kind = r.2.at i := by simp [used, rowUse]
  omega
theorem held_at (hz : fits zs) (hk : Keys L) (hf : Fair zs L) (o : Ow) (i : Nat) : 0 ≤ (heldF L o).at i ∧ (heldF L o).at i ≤ 1073741824 * 2 ∧ (zs.length ≤ i → (heldF L o).at i = 0) := by
  by_cases h : ∃ r ∈ L, r.1 = o
  · obtain ⟨r, hr, rfl⟩ := h
    rw [heldF_mem hk hr]
    refine ⟨hf.pos r hr i, ?_, hf.out r hr i⟩
    have h1 := use_le hf.pos hr i
    have h2 := hf.room i r.1.kind
    have h3 := room_bound hz i r.1.kind
    omega
  · rw [heldF_none fun r hr e => h ⟨r, hr, e⟩]
    have : s0.at i = 0 := by
      by_cases hi : i < 8
      · have := sc_get s0 hi
        match i, hi with
        | 0, _ => rfl
        | 1, _ => rfl
        | 2, _ => rfl
        | 3, _ => rfl
        | 4, _ => rfl
        | 5, _ => rfl
        | 6, _ => rfl
        | 7, _ => rfl
      · exact at_ge _ (by omega)
    rw [this]
    exact ⟨by omega, by omega, fun _ => rfl⟩
theorem put_ok (h : Tb H p zs m L) (o : Ow) (s : Sd) (h1 : o.pod.length ≤ maxLen) (h2 : o.ct.length ≤ maxLen) :
    ∃ H', EE env (.fn 10) [.ptr p 0, .pv (.agg (oc o)), .pv (.agg (sc s))] H = some (.pv (iv (putE zs L o s)), H') ∧ Kp [m] H H' ∧ MapOf H' m (putL zs L o s) := by
  refine Has.sh (EE_has (fn_has rfl ?_))
  obtain ⟨q4, hq4⟩ : ∃ q, q = H.length := ⟨_, rfl⟩
  obtain ⟨q5, hq5⟩ : ∃ q, q = (H ++ [HObj.pcells (oc o)]).length := ⟨_, rfl⟩
  have h45 : q5 = q4 + 1 := by rw [hq4, hq5]; simp
  have out : ∀ {J : Heap} {e : Int}, Kp [] H J → putE zs L o s = e → e ≠ 0 → Kp [m] H J ∧ MapOf J m (putL zs L o s) := fun hk he h0 => ⟨hk.more (by simp), by unfold putL; rw [if_neg (by rw [he]; exact h0)]; exact h.map.kp hk (by simp)⟩
  let P : Heap → Prop := fun J => Kp [] H J ∧ hget J q4 = .pcells (oc o) ∧ hget J q5 = .pcells (sc s)
  refine seq_onK [(0, .ptr p 0), (4, .ptr q4 0), (5, .ptr q5 0)] P ?_ (fun r J hP => ?_)
  · refine Has.intro ⟨rfl, ?_, ((Kp.refl _ _).app _).app _, ?_, ?_⟩
    · rw [hq4, hq5]; (repeat (first | exact trivial | refine ⟨rfl, ?_⟩))
    · rw [hq4]; exact hget_two1 ..
    · rw [hq5]; exact hget_append_same _ _
  refine seq_ifK [(6, .pv (iv 2))] (fun J => Kp [] H J ∧ ¬ goodO o) [(0, .ptr p 0), (4, .ptr q4 0), (5, .ptr q5 0)] (fun J => P J ∧ goodO o) ?_ (fun r J hP => ?_) (fun r J hP => ?_)
  · obtain ⟨k1, k2, k3⟩ := hP
    refine hgetK_has _ k2 ?_
    refine getK_has rfl ?_
    refine callPK_dec (name_dec o.pod h1) (fun a1 => ?_) (fun a1 => ?_)
    · refine hgetK_has _ k2 ?_
      refine getK_has rfl ?_
      refine callPK_dec (name_dec o.ct h2) (fun a2 => ?_) (fun a2 => ?_)
      · refine hgetK_has _ k2 ?_
        refine getK_has rfl ?_
        refine callPK_dec (kind_ok o.kind) (fun a3 => ?_) (fun a3 => ?_)
        · refine Has.intro (.inr ⟨rfl, ?_, ⟨k1, k2, k3⟩, a1, a2, a3⟩)
          (repeat (first | exact trivial | refine ⟨rfl, ?_⟩))
        · refine Has.intro (.inl ⟨rfl, ?_, k1, fun h => a3 h.2.2⟩)
          (repeat (first | exact trivial | refine ⟨rfl, ?_⟩))
      · refine Has.intro (.inl ⟨rfl, ?_, k1, fun h => a2 h.2.1⟩)
        (repeat (first | exact trivial | refine ⟨rfl, ?_⟩))
    · refine Has.intro (.inl ⟨rfl, ?_, k1, fun h => a1 h.1⟩)
      (repeat (first | exact trivial | refine ⟨rfl, ?_⟩))
  · have he : putE zs L o s = 2 := if_neg hP.2
    exact Has.intro ⟨by rw [he]; rfl, out hP.1 he (by decide)⟩
  obtain ⟨hP, hgo⟩ := hP
  refine seq_ifK [(6, .pv (iv 2))] (fun J => Kp [] H J ∧ ¬ ∀ i, i < 8 → ¬ badAt zs s i) [(0, .ptr p 0), (4, .ptr q4 0), (5, .ptr q5 0)] (fun J => P J ∧ ∀ i, i < 8 → ¬ badAt zs s i) ?_ (fun r J hP => ?_) (fun r J hP => ?_)
  · obtain ⟨k1, k2, k3⟩ := hP
    obtain ⟨x, hx⟩ := (h.kp k1 (by simp) (by simp)).z.obj
    refine hgetK_has _ k3 ?_
    refine secK_has (v := sc s) rfl (Nat.le_refl _) ?_
    refine loopK_has ?_
    refine iterE_upK 8 (fun i => [(33, .pv (iv i)), (32, .pv (.agg (sc s))), (0, .ptr p 0), (4, .ptr q4 0), (5, .ptr q5 0)]) (fun i J' => J' = J ∧ ∀ j, j < i → ¬ badAt zs s j) (fun i hi r J' hJ => ?_) (fun r J' hJ => ?_) (by (repeat (first | exact trivial | refine ⟨rfl, ?_⟩))) ⟨rfl, fun j hj => by omega⟩
    · obtain ⟨rfl, hb⟩ := hJ
      refine boolK_dec_t (by omega) ?_
      refine needK_has (by simp; omega) ?_
      refine getK_has (sc_get s hi) ?_
      refine boolK_dec (fun b1 => ?_) (fun b1 => ?_)
      · refine Has.intro (Has.intro (.inl ⟨rfl, ?_, k1, fun hh => hh i hi (.inl b1)⟩))
        (repeat (first | exact trivial | refine ⟨rfl, ?_⟩))
      · refine boolK_dec (fun b2 => ?_) (fun b2 => ?_)
        · refine Has.intro (Has.intro (.inl ⟨rfl, ?_, k1, fun hh => hh i hi (.inr (.inl b2))⟩))
          (repeat (first | exact trivial | refine ⟨rfl, ?_⟩))
        · refine boolK_dec (fun b3 => ?_) (fun b3 => ?_)
          · refine hgetK_has _ hx ?_
            refine boolK_dec (fun b4 => ?_) (fun b4 => ?_)
            · refine Has.intro (Has.intro (.inl ⟨rfl, ?_, k1, fun hh => hh i hi (.inr (.inr ⟨b3, b4⟩))⟩))
              (repeat (first | exact trivial | refine ⟨rfl, ?_⟩))
            · refine eqK_has_eq ((i + 1 : Nat) : Int) (i64_succ (by omega)) ?_
              refine Has.intro ⟨?_, rfl, fun j hj => ?_⟩
              · (repeat (first | exact trivial | refine ⟨rfl, ?_⟩))
              · by_cases hji : j < i
                · exact hb j hji
                · obtain rfl : j = i := by omega
                  exact fun hh => hh.elim b1 fun hh => hh.elim b2 fun hh => b4 hh.2
          · refine eqK_has_eq ((i + 1 : Nat) : Int) (i64_succ (by omega)) ?_
            refine Has.intro ⟨?_, rfl, fun j hj => ?_⟩
            · (repeat (first | exact trivial | refine ⟨rfl, ?_⟩))
            · by_cases hji : j < i
              · exact hb j hji
              · obtain rfl : j = i := by omega
                exact fun hh => hh.elim b1 fun hh => hh.elim b2 fun hh => b3 hh.1
    · obtain ⟨rfl, hb⟩ := hJ
      refine boolK_dec_f (by decide) ?_
      refine Has.intro (Has.intro (.inr ⟨rfl, ?_, ⟨k1, k2, k3⟩, hb⟩))
      (repeat (first | exact trivial | refine ⟨rfl, ?_⟩))
  · have he : putE zs L o s = 2 := by unfold putE; rw [if_pos hgo, if_neg hP.2]
    exact Has.intro ⟨by rw [he]; rfl, out hP.1 he (by decide)⟩
  obtain ⟨hP, hba⟩ := hP
  obtain ⟨q9, hq9⟩ : ∃ q, q = J.length := ⟨_, rfl⟩
  have hJl := hP.1.1
  let P2 : Heap → Prop := fun J' => P J' ∧ hget J' q9 = .pcells (sc (heldF L o))
  refine seq_onK [(0, .ptr p 0), (4, .ptr q4 0), (5, .ptr q5 0), (9, .ptr q9 0)] P2 ?_ (fun r J1 hP1 => ?_)
  · obtain ⟨k1, k2, k3⟩ := hP
    have hk : ∀ a, Kp [] J (J ++ [a]) := fun a => (Kp.refl _ _).app _
    have h' := h.kp k1 (by simp) (by simp)
    obtain ⟨x, hx⟩ := h'.z.obj
    obtain ⟨clk, E, hm, hst, hpm⟩ := h'.map
    obtain ⟨f, hf, hl⟩ := look_row h.keys hpm o
    refine hgetK_has _ ((hk _).get hx (by intro h; cases h) (by simp)) ?_
    refine hgetK_has _ ((hk _).get k2 (by intro h; cases h) (by simp)) ?_
    refine secK_has (v := oc o) rfl (Nat.le_refl _) ?_
    refine hgetK_has _ ((hk _).get hm (by intro h; cases h) (by simp)) ?_
    refine bindK_has hf ?_
    rw [hl]
    (repeat (first | refine hgetK_last ?_ | refine hgetK_set ?_ | refine hgetK_two1 ?_ | refine hgetK_two2 ?_ | refine hgetK_two3 ?_ | refine hgetK_two4 ?_ | refine hgetK_two5 ?_ | refine needK_has rfl ?_ | refine getK_has rfl ?_ | refine secK_has rfl (by first | exact Nat.le_refl _ | decide | exact Nat.le_of_ble_eq_true rfl) ?_ | refine eqK_has ?_))
    refine Has.intro ⟨rfl, ?_, ?_⟩
    · rw [hq9]; (repeat (first | exact trivial | refine ⟨rfl, ?_⟩))
    · have hJ : Kp [] J (hset (J ++ [HObj.pcells [iv 0, iv 0, iv 0, iv 0, iv 0, iv 0, iv 0, iv 0]]) J.length (.pcells (sc (heldF L o)))) := (hk _).set _ _ (.inr (Nat.le_refl _))
      show (Kp [] H _ ∧ _ ∧ _) ∧ hget _ q9 = _
      rw [hq9]
      exact ⟨⟨k1.step hJ, hJ.get k2 (by intro h; cases h) (by simp), hJ.get k3 (by intro h; cases h) (by simp)⟩, hget_hset_same _ (by simp)⟩
  clear hP hJl hq9 J
  refine seq_ifK [(6, .pv (iv 20))] (fun J => Kp [] H J ∧ ¬ ∀ i, i < 8 → ¬ fullAt zs L o s i) [(0, .ptr p 0), (4, .ptr q4 0), (5, .ptr q5 0)] (fun J => P J ∧ ∀ i, i < 8 → ¬ fullAt zs L o s i) ?_ (fun r J hP => ?_) (fun r J hP => ?_)
  · refine hgetK_has _ hP1.1.2.2 ?_
    refine secK_has (v := sc s) rfl (Nat.le_refl _) ?_
    refine loopK_has ?_
    refine iterE_upK 8 (fun i => [(64, .pv (iv i)), (63, .pv (.agg (sc s))), (0, .ptr p 0), (4, .ptr q4 0), (5, .ptr q5 0), (9, .ptr q9 0)]) (fun i J' => P2 J' ∧ ∀ j, j < i → ¬ fullAt zs L o s j) (fun i hi r J hJ => ?_) (fun r J hJ => ?_) (by (repeat (first | exact trivial | refine ⟨rfl, ?_⟩))) ⟨hP1, fun j hj => by omega⟩
    · obtain ⟨⟨⟨k1, k2, k3⟩, k4⟩, hb⟩ := hJ
      have hw := held_at h.z.fit h.keys h.fair o i
      have hbi := hba i hi
      unfold badAt at hbi
      refine boolK_dec_t (by omega) ?_
      refine needK_has (by simp; omega) ?_
      refine getK_has (sc_get s hi) ?_
      refine needK_has (by simp; omega) ?_
      refine hgetK_has _ k4 ?_
      refine getK_has (v := iv ((heldF L o).at i)) ?_ ?_
      · have := sc_get (heldF L o) hi
        simpa [addO, mulE] using this
      refine boolK_dec (fun b1 => ?_) (fun b1 => ?_)
      · refine needK_has (by simp; omega) ?_
        refine hgetK_has _ k4 ?_
        refine getK_has (v := iv ((heldF L o).at i)) ?_ ?_
        · have := sc_get (heldF L o) hi
          simpa [addO, mulE] using this
        refine eqK_has_eq (s.at i - (heldF L o).at i) (by show IntKind.i64.wrap (s.at i - (heldF L o).at i) = _; exact wrap_i64 (by omega) (by omega)) ?_
        refine hgetK_has _ k2 ?_
        refine getK_has rfl ?_
        obtain ⟨J1, g1, g2⟩ := (h.kp k1 (by simp) (by simp)).free i o.kind
        refine callSK_has g1 ?_
        have same : readObj (hget J q9) (addO 0 (mulE (i : Int).toNat 1)) none = readObj (hget J1 q9) (addO 0 (mulE (i : Int).toNat 1)) none := by rw [k4, g2.get k4 (by intro h; cases h) (by simp)]
        have some : (readObj (hget J q9) (addO 0 (mulE (i : Int).toNat 1)) none).isSome = true := by
          rw [k4]
          have := sc_get (heldF L o) hi
          simp [addO, mulE, readObj, this]
        refine boolK_dec (fun b2 => ?_) (fun b2 => ?_)
        · refine sameK_has same some ?_
          refine Has.intro (Has.intro (.inl ⟨rfl, ?_, k1.step g2, fun hh => hh i hi ⟨b1, b2⟩⟩))
          (repeat (first | exact trivial | refine ⟨rfl, ?_⟩))
        · refine sameK_has same some ?_
          refine eqK_has_eq ((i + 1 : Nat) : Int) (i64_succ (by omega)) ?_
          refine Has.intro ⟨?_, ⟨⟨k1.step g2, g2.get k2 (by intro h; cases h) (by simp), g2.get k3 (by intro h; cases h) (by simp)⟩, g2.get k4 (by intro h; cases h) (by simp)⟩, fun j hj => ?_⟩
          · (repeat (first | exact trivial | refine ⟨rfl, ?_⟩))
          · by_cases hji : j < i
            · exact hb j hji
            · obtain rfl : j = i := by omega
              exact fun hh => b2 hh.2
      · refine eqK_has_eq ((i + 1 : Nat) : Int) (i64_succ (by omega)) ?_
        refine Has.intro ⟨?_, ⟨⟨k1, k2, k3⟩, k4⟩, fun j hj => ?_⟩
        · (repeat (first | exact trivial | refine ⟨rfl, ?_⟩))
        · by_cases hji : j < i
          · exact hb j hji
          · obtain rfl : j = i := by omega
            exact fun hh => b1 hh.1
    · obtain ⟨hJ, hb⟩ := hJ
      refine boolK_dec_f (by decide) ?_
      refine Has.intro (Has.intro (.inr ⟨rfl, ?_, hJ.1, hb⟩))
      (repeat (first | exact trivial | refine ⟨rfl, ?_⟩))
  · have he : putE zs L o s = 20 := by unfold putE; rw [if_pos hgo, if_pos hba, if_neg hP.2]
    exact Has.intro ⟨by rw [he]; rfl, out hP.1 he (by decide)⟩
  obtain ⟨⟨k1, k2, k3⟩, hfu⟩ := hP
  have he : putE zs L o s = 0 := by unfold putE; rw [if_pos hgo, if_pos hba, if_pos hfu]
  have h' := h.kp k1 (by simp) (by simp)
  obtain ⟨x, hx⟩ := h'.z.obj
  obtain ⟨clk, E, hm, hst, hpm⟩ := h'.map
  refine hgetK_has _ k3 ?_
  refine secK_has (v := sc s) rfl (Nat.le_refl _) ?_
  refine bindK_has (sd_eq s s0) ?_
  refine boolK_dec (fun b1 => ?_) (fun b1 => ?_)
  · obtain ⟨f, hf, _, hd⟩ := del_row h.keys hm hst hpm o
    refine hgetK_has _ hx ?_
    refine hgetK_has _ k2 ?_
    refine secK_has (v := oc o) rfl (Nat.le_refl _) ?_
    refine hgetK_has _ hm ?_
    refine bindK_has hf ?_
    refine Has.intro ⟨by rw [he]; rfl, (k1.more (by simp)).set _ _ (.inl (by simp)), ?_⟩
    unfold putL
    rw [if_pos he, if_pos b1]
    exact hd
  · obtain ⟨f, hf, hd⟩ := put_row h.keys hm hst hpm o s
    refine hgetK_has _ hx ?_
    refine hgetK_has _ k2 ?_
    refine secK_has (v := oc o) rfl (Nat.le_refl _) ?_
    refine hgetK_has _ k3 ?_
    refine secK_has (v := sc s) rfl (Nat.le_refl _) ?_
    refine hgetK_has _ hm ?_
    refine bindK_has hf ?_
    refine Has.intro ⟨by rw [he]; rfl, (k1.more (by simp)).set _ _ (.inl (by simp)), ?_⟩
    unfold putL
    rw [if_pos he, if_neg b1]
    exact hd
end Go.Proofs.Ytkkpkoekbmgabaa
