/-
  CrcPlays in the abstract machine.
-/
import Derived.Test.YtgfedlikbaailaaCrcH
set_option linter.all false
set_option linter.unusedVariables false
set_option linter.unusedSimpArgs false
set_option linter.unusedSectionVars false
namespace Go.Proofs.Ytgfedlikbaailaa
open Go Go.VM

/-! ### operations on a sum and its clones -/
structure Opx where
  kind : Int
  at_ : Int
  x : Ext
  b : List UInt8
def opc (o : Opx) : List PV := [.int .i64 o.kind, .int .i64 o.at_, .sl o.x o.b.length (bc o.b)]
def okOp (o : Opx) : Prop := (-9223372036854775808 ≤ o.kind ∧ o.kind ≤ 9223372036854775807) ∧ (-9223372036854775808 ≤ o.at_ ∧ o.at_ ≤ 9223372036854775807)
abbrev TOp : Ty := .st [(1, .int .i64), (1, .int .i64), (1, .sl 1 (.int .u8))]
theorem arg_op {cs : List PV} (h : HasTy TOp cs) : ∃ o : Opx, cs = opc o ∧ okOp o := by
  obtain ⟨a1, b1, rfl, l1, h1, a2, b2, rfl, l2, h2, a3, b3, rfl, l3, h3, rfl⟩ := h
  obtain ⟨q1, rfl⟩ := list1 l1
  obtain ⟨q2, rfl⟩ := list1 l2
  obtain ⟨q3, rfl⟩ := list1 l3
  obtain ⟨n1, rfl, g1⟩ := arg_i64 h1
  obtain ⟨n2, rfl, g2⟩ := arg_i64 h2
  obtain ⟨x, bs, rfl, _, _⟩ := arg_bytes h3
  exact ⟨⟨n1, n2, x, bs⟩, rfl, g1, g2⟩
theorem arg_ops : ∀ (n : Nat) (cs : List PV), Els (HasTy TOp) 3 n cs → ∃ l : List Opx, l.length = n ∧ cs = flat opc l ∧ ∀ o ∈ l, okOp o := by
  intro n
  induction n with
  | zero => intro cs h; exact ⟨[], rfl, h, fun o h => by cases h⟩
  | succ n ih =>
    intro cs ⟨a, b, h1, h2, h3, h4⟩
    obtain ⟨l, g1, g2, g3⟩ := ih b h4
    obtain ⟨o, rfl, ho⟩ := arg_op h3
    refine ⟨o :: l, by simp [g1], by rw [h1, g2]; rfl, fun o' h => ?_⟩
    rcases List.mem_cons.1 h with rfl | h
    · exact ho
    · exact g3 o' h
theorem arg_lop {p : PV} (h : HasTy (.sl 3 TOp) [p]) : ∃ x l, p = .sl x l.length (flat opc l) ∧ l.length ≤ maxLen ∧ ∀ o ∈ l, okOp o := by
  obtain ⟨x, len, cells, h1, _, e3, e4⟩ := h
  injection h1 with h1
  obtain ⟨l, rfl, rfl, g⟩ := arg_ops _ _ e4
  exact ⟨x, l, h1, e3, g⟩

theorem clone_ok (H : Heap) (id : Nat) (r : BitVec 32) (h : hget H id = .pcells [u32 r]) : EE env (.fn 15) [.ptr id 0] H = some (.ptr H.length 0, H ++ [.pcells [u32 r]]) := by
  refine Has.eq (EE_has ?_)
  refine hgetK_has _ h ?_
  refine getK_has rfl ?_
  exact Has.intro rfl
theorem add1_ok (H : Heap) (id : Nat) (r : BitVec 32) (h : hget H id = .pcells [u32 r]) (y x : Ext) (bs : List UInt8) (hl : bs.length ≤ maxLen) :
    EE env (.fn 10) [.ptr id 0, .pv (.sl y 1 [.sl x bs.length (bc bs)])] H = some (.pv (.tup []), hset H id (.pcells [u32 (sum r bs)])) := by
  have := add_ok H id r h y 1 [(x, bs)] rfl (by decide) (by simpa using hl)
  simpa [row] using this

/-! ### rows that grow -/
section
variable {R : Type} {Q : R → Prop} {F : AV → Heap → Option R}
theorem app_grow {H : Heap} {id n es bytes m : Nat} {x : AV} {mu : Bool} {cs new : List AV} (h : hget H id = .row n es cs) (hx : srcLen x = some m) (hsrc : ∀ G : List AV → Option R, srcA H x G = G new) (hm : 0 < m)
    (hb : (n + m) * bytes ≤ mostBytes) (hc : cs.length = n * es) (hn : new.length = m * es) (k : Has (F (.gs id (n + m)) (hset H id (.row (n + m) es (cs ++ new)))) Q) : Has (appS mu es bytes (.gs id n) x H F) Q := by
  rw [appS_def]
  show Has (growK es bytes (.gs id n) x H F) Q
  unfold growK
  simp only [hx, hsrc]
  refine hgetK_has _ h ?_
  show Has (needK _ _) Q
  refine needK_has ?_ ?_
  · simp only [Bool.and_eq_true]
    refine ⟨⟨⟨⟨⟨Nat.beq_refl _, Nat.beq_refl _⟩, Nat.ble_eq_true_of_le hm⟩, Nat.ble_eq_true_of_le hb⟩, ?_⟩, ?_⟩
    · rw [mulE_eq, hc]; exact Nat.beq_refl _
    · rw [mulE_eq, hn]; exact Nat.beq_refl _
  refine eqK_has ?_
  refine eqK_has ?_
  exact k
end

/-- What there is: the sums' objects, and the texts; in a heap. -/
structure CS where
  i : Nat
  h : Heap
  ids : List Nat
  ws : List (List UInt8)
def ptrs (ids : List Nat) : List AV := ids.map fun i => .ptr i 0
def txts (ws : List (List UInt8)) : List AV := ws.map fun w => .pv (sv w)
structure CS.ok (s : CS) : Prop where
  len : s.ids.length = s.ws.length
  pos : 0 < s.ws.length
  most : s.ws.length ≤ 4
  ra : hget s.h 1 = .row s.ws.length 1 (ptrs s.ids)
  rb : hget s.h 2 = .row s.ws.length 1 (txts s.ws)
  sums : ∀ (k id : Nat) (w : List UInt8), s.ids[k]? = some id → s.ws[k]? = some w → hget s.h id = .pcells [u32 (sum 0xffffffff#32 w)]
  apart : ∀ (j k id : Nat), s.ids[j]? = some id → s.ids[k]? = some id → j = k
  size : ∀ w ∈ s.ws, w.length ≤ 100 * s.i

theorem CS.ok.grow {s : CS} (h : s.ok) (L : Heap) : ({ s with h := s.h ++ L } : CS).ok := by
  refine ⟨h.len, h.pos, h.most, ?_, ?_, fun k id w h1 h2 => ?_, h.apart, h.size⟩
  · exact (hget_app L (hget_lt h.ra (by intro h; cases h))).trans h.ra
  · exact (hget_app L (hget_lt h.rb (by intro h; cases h))).trans h.rb
  · have := h.sums k id w h1 h2
    exact (hget_app L (hget_lt this (by intro h; cases h))).trans this
theorem CS.ok.ne {s : CS} (h : s.ok) {k id : Nat} (h1 : s.ids[k]? = some id) : id ≠ 1 ∧ id ≠ 2 := by
  have hk : k < s.ws.length := by rw [← h.len]; exact (List.getElem?_eq_some_iff.1 h1).1
  have := h.sums k id _ h1 (List.getElem?_eq_getElem hk)
  refine ⟨fun e => ?_, fun e => ?_⟩
  · rw [e, h.ra] at this; cases this
  · rw [e, h.rb] at this; cases this
/-- Bytes are added to one. -/
theorem CS.ok.add {s : CS} (h : s.ok) {k id : Nat} {w : List UInt8} (h1 : s.ids[k]? = some id) (h2 : s.ws[k]? = some w) (b : List UInt8) (hb : b.length ≤ 100) :
    ({ i := s.i + 1, h := hset (hset s.h id (.pcells [u32 (sum (sum 0xffffffff#32 w) b)])) 2 (.row s.ws.length 1 ((txts s.ws).set k (.pv (sv (w ++ b))))), ids := s.ids, ws := s.ws.set k (w ++ b) } : CS).ok := by
  obtain ⟨n1, n2⟩ := h.ne h1
  have hid := hget_lt (h.sums k id w h1 h2) (by intro h; cases h)
  have hl2 := hget_lt h.rb (by intro h; cases h)
  refine ⟨by simp [h.len], by simp [h.pos], by simp [h.most], ?_, ?_, fun j id' w' g1 g2 => ?_, h.apart, fun w' hw => ?_⟩
  · dsimp only
    rw [hget_hset_ne _ _ (by decide), hget_hset_ne _ _ (by exact fun e => n1 e.symm), List.length_set]; exact h.ra
  · dsimp only
    rw [hget_hset_same _ (by rw [hset_len]; exact hl2), List.length_set]
    simp [txts, List.map_set]
  · dsimp only at g1 g2 ⊢
    have hne := h.ne g1
    rw [hget_hset_ne _ _ hne.2]
    rw [List.getElem?_set] at g2
    by_cases e : k = j
    · subst e
      rw [h1] at g1; injection g1 with g1; subst g1
      have hk : k < s.ws.length := (List.getElem?_eq_some_iff.1 h2).1
      rw [if_pos rfl, if_pos hk] at g2
      injection g2 with g2; subst g2
      rw [hget_hset_same _ hid, sum_append]
    · rw [if_neg e] at g2
      have : id' ≠ id := fun e' => e (h.apart k j id h1 (e' ▸ g1))
      rw [hget_hset_ne _ _ this]
      exact h.sums j id' w' g1 g2
  · dsimp only at hw ⊢
    rcases List.mem_or_eq_of_mem_set hw with h3 | h3
    · have := h.size w' h3; omega
    · have := h.size w (List.mem_of_getElem? h2)
      rw [h3, List.length_append]; omega
/-- One is cloned. -/
theorem CS.ok.clone {s : CS} (h : s.ok) {k id : Nat} {w : List UInt8} (h2 : s.ws[k]? = some w) (hm : s.ws.length < 4) (hid : id ≠ 1 ∧ id ≠ 2) (hnew : id ∉ s.ids) (hw : hget s.h id = .pcells [u32 (sum 0xffffffff#32 w)]) :
    ({ i := s.i + 1, h := hset (hset s.h 1 (.row (s.ws.length + 1) 1 (ptrs s.ids ++ [.ptr id 0]))) 2 (.row (s.ws.length + 1) 1 (txts s.ws ++ [.pv (sv w)])), ids := s.ids ++ [id], ws := s.ws ++ [w] } : CS).ok := by
  have hl1 := hget_lt h.ra (by intro h; cases h)
  have hl2 := hget_lt h.rb (by intro h; cases h)
  have key : ∀ j i, (s.ids ++ [id])[j]? = some i → (s.ids[j]? = some i ∧ j < s.ids.length) ∨ (j = s.ids.length ∧ i = id) := by
    intro j i hj
    rcases Nat.lt_or_ge j s.ids.length with h3 | h3
    · rw [List.getElem?_append_left h3] at hj; exact .inl ⟨hj, h3⟩
    · rw [List.getElem?_append_right h3] at hj
      rcases Nat.eq_zero_or_pos (j - s.ids.length) with h4 | h4
      · rw [h4] at hj; simp at hj; exact .inr ⟨by omega, hj.symm⟩
      · rw [List.getElem?_eq_none (by simp; omega)] at hj; cases hj
  refine ⟨by simp [h.len], by simp, by simp; omega, ?_, ?_, fun j id' w' g1 g2 => ?_, fun j k' i g1 g2 => ?_, fun w' hw' => ?_⟩
  · dsimp only
    rw [hget_hset_ne _ _ (by decide), hget_hset_same _ hl1]
    simp [ptrs]
  · dsimp only
    rw [hget_hset_same _ (by rw [hset_len]; exact hl2)]
    simp [txts]
  · dsimp only at g1 g2 ⊢
    rcases key j id' g1 with ⟨h3, h4⟩ | ⟨rfl, rfl⟩
    · obtain ⟨n1, n2⟩ := h.ne h3
      rw [hget_hset_ne _ _ n2, hget_hset_ne _ _ n1]
      rw [List.getElem?_append_left (by rw [← h.len]; exact h4)] at g2
      exact h.sums j id' w' h3 g2
    · rw [hget_hset_ne _ _ hid.2, hget_hset_ne _ _ hid.1]
      rw [h.len, List.getElem?_append_right (Nat.le_refl _)] at g2
      simp at g2; subst g2
      exact hw
  · dsimp only at g1 g2
    rcases key j i g1 with ⟨h3, h4⟩ | ⟨h3, rfl⟩
    · rcases key k' i g2 with ⟨h5, h6⟩ | ⟨h5, rfl⟩
      · exact h.apart j k' i h3 h5
      · exact absurd (List.mem_of_getElem? h3) hnew
    · rcases key k' i g2 with ⟨h5, h6⟩ | ⟨h5, _⟩
      · exact absurd (List.mem_of_getElem? h5) hnew
      · omega
  · dsimp only at hw' ⊢
    rcases List.mem_append.1 hw' with h3 | h3
    · have := h.size w' h3; omega
    · simp at h3; subst h3
      have := h.size w' (List.mem_of_getElem? h2); omega
end Go.Proofs.Ytgfedlikbaailaa
