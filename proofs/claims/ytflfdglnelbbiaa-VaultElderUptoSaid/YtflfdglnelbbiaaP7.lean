/-
  Part 7 of the functions and the law.
  How great a state is: never less than nothing.
  A vault's functions: what a slot counts for; Open, State, Gen, Disk, Room, Slot.
  A vault's Save.
  What must be answered ahead of everything else.
  The answer that stands ahead of everything else.
  The law's argument: a list of states.
  VaultElder's loop: one state is saved, and what a spoilt clone opens with.
  VaultElder in the abstract machine.
-/
import Derived.Test.YtflfdglnelbbiaaP5
import Derived.Test.YtflfdglnelbbiaaP3
import Derived.Test.YtflfdglnelbbiaaP2
import Derived.Test.YtflfdglnelbbiaaP6
import Derived.Test.YtflfdglnelbbiaaV10
set_option linter.all false
set_option linter.unusedVariables false
set_option linter.unusedSimpArgs false
set_option linter.unusedSectionVars false
namespace Go.Proofs.Ytflfdglnelbbiaa
open Go Go.VM

set_option maxHeartbeats 4000000 in
theorem great5_bd (x : Ext) (p : Pd) (hs : small p) (hnm : p.name.length ≤ 1048576) : ∃ n : Int, EP (EE env) 19 [.agg (pdc p x)] = some (.int .i64 n) ∧ ((podP p → 0 ≤ n ∧ n ≤ 1000) ∧ 0 ≤ n ∧ n ≤ 1048576 + 200000) := by
  obtain ⟨hs1, hs2, hs3⟩ := hs
  have hl := hs2
  rw [maxLen_eq] at hl hs1
  have main : Has (EP (EE env) 19 [.agg (pdc p x)]) (fun v => ∃ n : Int, v = .int .i64 n ∧ ((podP p → 0 ≤ n ∧ n ≤ 1000) ∧ 0 ≤ n ∧ n ≤ 1048576 + 200000)) := by
    refine EP_has ?_
    (refine hgetK_has _ rfl ?_)
    refine getK_has (v := sv p.name) rfl ?_
    (refine hgetK_has _ rfl ?_)
    refine getK_has (v := .sl x p.l.length (flat ct p.l)) rfl ?_
    refine loopK_has ?_
    refine iterE_loopJ (σ := Nat × Int) (fun s => p.l.length - s.1) (fun s => [(3, .pv (.int .i64 s.2)), (10, .pv (.sl x p.l.length (flat ct p.l))), (11, .pv (.int .i64 p.l.length)), (12, .pv (.int .i64 s.1))]) (fun _ => [.pcells (pdc p x)])
      (fun s => s.1 ≤ p.l.length ∧ (podP p → 0 ≤ s.2 ∧ s.2 ≤ 16 + 26 * s.1) ∧ 0 ≤ s.2 ∧ s.2 ≤ 1048576 + 3010 * s.1 ∧ s.1 ≤ 51) (fun ⟨i, n⟩ ⟨hi, hn, hq0, hq1, hq2⟩ r J => ?_) (0, _) ⟨Nat.zero_le _, fun h => ?_, ?_⟩ [] ⟨rfl, rfl, rfl, rfl, trivial⟩ rfl
    rotate_left
    · have := (pod_names h).1
      show (0 : Int) ≤ (((⟨p.name.toArray⟩ : ByteArray).size : Nat) : Int) ∧ (((⟨p.name.toArray⟩ : ByteArray).size : Nat) : Int) ≤ _
      rw [sv_size]
      omega
    · show (0 : Int) ≤ (((⟨p.name.toArray⟩ : ByteArray).size : Nat) : Int) ∧ (((⟨p.name.toArray⟩ : ByteArray).size : Nat) : Int) ≤ 1048576 + 3010 * ((0 : Nat) : Int) ∧ 0 ≤ 51
      rw [sv_size]
      omega
    dsimp only at hi hn hq0 hq1 hq2 ⊢
    refine boolK_dec (fun hc => ?_) (fun hc => ?_)
    · have hlt : i < p.l.length := by omega
      obtain ⟨c, hcg⟩ : ∃ c, p.l[i]? = some c := ⟨_, List.getElem?_eq_getElem hlt⟩
      obtain ⟨g1, g2⟩ := flat_get ct_len hcg
      refine needK_has (by (first | rfl | (simp; done) | (simp; omega))) ?_
      refine secK_has g1 g2 ?_
      refine hgetK_last ?_
      refine needK_has rfl ?_
      refine eqK_has_eq (ct c) rfl ?_
      rw [hset_last]
      refine boolK_dec (fun h => ?_) (fun h => ?_)
      · exact Has.intro (Has.intro (Has.intro ⟨5000, rfl, fun h => by have := pod_names h; omega, by decide, by decide⟩))
      · refine hgetK_last ?_
        refine getK_has (v := sv c.name) rfl ?_
        obtain ⟨X, eX, hX, hX0, hX1⟩ : ∃ X, (if (3000 : Int) < (c.name.length : Int) then 3000 else (c.name.length : Int)) = X ∧ (c.name.length ≤ 16 → X = c.name.length) ∧ 0 ≤ X ∧ X ≤ 3000 := ⟨_, rfl, fun h => if_neg (by omega), by split <;> omega, by split <;> omega⟩
        obtain ⟨m1, e1, w1⟩ := wrap_if (10 + X)
        obtain ⟨m2, e2, w2⟩ := wrap_if (n + m1)
        refine eqK_has_eq X (by rw [sv_size]; exact eX) ?_
        refine eqK_has_eq m1 e1 ?_
        refine eqK_has_eq m2 e2 ?_
        refine eqK_has_eq _ (i64_succ (by omega)) ?_
        refine Has.intro ⟨(i + 1, m2), ⟨hlt, fun hp => ?_, ?_⟩, (by dsimp only; omega), ⟨rfl, rfl, rfl, rfl, trivial⟩, _, List.append_assoc _ _ _⟩
        have := hn hp
        have q := (pod_names hp).2.2 c (List.mem_of_getElem? hcg)
        have q2 := (pod_names hp).2.1
        have := hX q
        have := w1 (by omega)
        have := w2 (by omega)
        dsimp only
        omega
        have := w1 (by omega)
        have := w2 (by omega)
        dsimp only
        omega
    · exact Has.intro (Has.intro (Has.intro ⟨_, rfl, fun hp => by have := hn hp; have := pod_names hp; omega, by omega, by omega⟩))
  obtain ⟨v, h1, n, h2, h3⟩ := main
  exact ⟨n, by rw [h1, h2], h3⟩
set_option maxHeartbeats 4000000 in
theorem great_bd (s : St) (x y : Ext) (hs : smallS s) (hst : ∀ h ∈ s.hs, h.o.pod.length ≤ 1048576 ∧ h.o.ctr.length ≤ 1048576) (hnm : ∀ e ∈ s.es, e.d.name.length ≤ 1048576 ∧ e.a.name.length ≤ 1048576) : ∃ n : Int, EP (EE env) 5 [.agg (stc s x y)] = some (.int .i64 n) ∧ (rightP s → n ≤ 8000 → s.hs.length ≤ 400) ∧ 0 ≤ n ∧ n ≤ 36028797018963968 := by
  obtain ⟨l1, l2, hE, h8⟩ := hs
  rw [maxLen_eq] at l1 l2
  have main : Has (EP (EE env) 5 [.agg (stc s x y)]) (fun v => ∃ n : Int, v = .int .i64 n ∧ (rightP s → n ≤ 8000 → s.hs.length ≤ 400) ∧ 0 ≤ n ∧ n ≤ 36028797018963968) := by
    refine EP_has ?_
    (refine hgetK_has _ rfl ?_)
    refine getK_has (v := .sl y s.hs.length (flat hoc s.hs)) rfl ?_
    obtain ⟨b, hb, hb2⟩ : ∃ b : Int, IntKind.i64.wrap (20 * (if (500 : Int) < (s.hs.length : Int) then 500 else (s.hs.length : Int))) = b ∧ 0 ≤ b ∧ b ≤ 10000 ∧ (b ≤ 8000 → s.hs.length ≤ 400) := by
      refine ⟨20 * (if (500 : Int) < (s.hs.length : Int) then 500 else (s.hs.length : Int)), ?_, ?_⟩
      · split
        · rfl
        · exact wrap_i64 (by omega) (by omega)
      · split <;> omega
    refine eqK_has_eq (if (500 : Int) < (s.hs.length : Int) then 500 else (s.hs.length : Int)) rfl ?_
    refine eqK_has_eq b hb ?_
    (refine hgetK_has _ rfl ?_)
    refine getK_has (v := .sl x s.es.length (flat en s.es)) rfl ?_
    refine loopK_has ?_
    refine iterE_loopJ (σ := Nat × Int) (fun t => s.es.length - t.1) (fun t => [(1, .ptr 0 0), (3, .pv (.int .i64 t.2)), (14, .pv (.sl x s.es.length (flat en s.es))), (15, .pv (.int .i64 s.es.length)), (16, .pv (.int .i64 t.1))]) (fun _ => [.pcells (stc s x y)])
      (fun t => t.1 ≤ s.es.length ∧ (rightP s → b ≤ t.2 ∧ t.2 ≤ b + 2010 * t.1) ∧ 0 ≤ t.2 ∧ t.2 ≤ 10000 + 3000000 * t.1 ∧ t.1 ≤ 31) (fun ⟨i, n⟩ ⟨hi, hn, hq0, hq1, hq2⟩ r J => ?_) (0, b) ⟨Nat.zero_le _, fun h => by dsimp only; omega, by dsimp only; omega, by dsimp only; omega, Nat.zero_le _⟩ [] ⟨rfl, rfl, rfl, rfl, rfl, trivial⟩ rfl
    dsimp only at hi hn hq0 hq1 ⊢
    refine boolK_dec (fun hc => ?_) (fun hc => ?_)
    · have hlt : i < s.es.length := by omega
      obtain ⟨e, hg⟩ : ∃ c, s.es[i]? = some c := ⟨_, List.getElem?_eq_getElem hlt⟩
      have hmem : e ∈ s.es := List.mem_of_getElem? hg
      obtain ⟨g1, g2⟩ := flat_get en_len hg
      refine needK_has (by (first | rfl | (simp; done) | (simp; omega))) ?_
      refine secK_has g1 g2 ?_
      refine hgetK_last ?_
      refine needK_has rfl ?_
      refine eqK_has_eq (en e) rfl ?_
      rw [hset_last]
      refine boolK_dec (fun h => ?_) (fun h => ?_)
      · exact Has.intro (Has.intro (Has.intro ⟨20000, rfl, fun _ h => by omega, by decide, by decide⟩))
      obtain ⟨m1, e1, b1, z1, y1⟩ := great5_bd e.dx e.d (hE e hmem).1 (hnm e hmem).1
      obtain ⟨m2, e2, b2, z2, y2⟩ := great5_bd e.ax e.a (hE e hmem).2 (hnm e hmem).2
      refine hgetK_last ?_
      refine secK_has (v := pdc e.d e.dx) rfl (of_decide_eq_true rfl) ?_
      refine callPK_has e1 ?_
      obtain ⟨k1, f1, w1⟩ := wrap_if (10 + m1)
      obtain ⟨k2, f2, w2⟩ := wrap_if (k1 + m2)
      obtain ⟨k3, f3, w3⟩ := wrap_if (n + k2)
      refine eqK_has_eq k1 f1 ?_
      refine hgetK_last ?_
      refine secK_has (v := pdc e.a e.ax) rfl (of_decide_eq_true rfl) ?_
      refine callPK_has e2 ?_
      refine eqK_has_eq k2 f2 ?_
      refine eqK_has_eq k3 f3 ?_
      refine eqK_has_eq _ (i64_succ (by omega)) ?_
      refine Has.intro ⟨(i + 1, k3), ⟨hlt, fun hp => ?_, ?_⟩, (by dsimp only; omega), ⟨rfl, rfl, rfl, rfl, rfl, trivial⟩, _, List.append_assoc _ _ _⟩
      have := hn hp
      have q := (hp.2.2.1 i e hg).1
      have c1 := b1 q.1
      have c2 := b2 q.2.1
      have := w1 (by omega)
      have := w2 (by omega)
      have := w3 (by omega)
      dsimp only
      omega
      have := w1 (by omega)
      have := w2 (by omega)
      have := w3 (by omega)
      dsimp only
      omega
    refine Has.intro ?_
    (refine hgetK_has _ rfl ?_)
    refine getK_has (v := .sl y s.hs.length (flat hoc s.hs)) rfl ?_
    refine loopK_has ?_
    refine iterE_loopJ (σ := Nat × Int) (fun t => s.hs.length - t.1) (fun t => [(3, .pv (.int .i64 t.2)), (35, .pv (.sl y s.hs.length (flat hoc s.hs))), (36, .pv (.int .i64 s.hs.length)), (37, .pv (.int .i64 t.1))]) (fun _ => [.pcells (stc s x y)])
      (fun t => t.1 ≤ s.hs.length ∧ (rightP s → b ≤ t.2 ∧ t.2 ≤ 50000) ∧ 0 ≤ t.2 ∧ t.2 ≤ 10000000000000000) (fun ⟨i, n⟩ ⟨hi, hn, hq0, hq1⟩ r J => ?_) (0, n) ⟨Nat.zero_le _, fun h => by have := hn h; have := h.2.1; dsimp only; omega, by dsimp only; omega, by dsimp only; omega⟩ J ⟨rfl, rfl, rfl, rfl, trivial⟩ rfl
    dsimp only at hi hn hq0 hq1 ⊢
    refine boolK_dec (fun hc => ?_) (fun hc => ?_)
    · have hlt : i < s.hs.length := by omega
      obtain ⟨h, hg⟩ : ∃ c, s.hs[i]? = some c := ⟨_, List.getElem?_eq_getElem hlt⟩
      have hmem : h ∈ s.hs := List.mem_of_getElem? hg
      obtain ⟨g1, g2⟩ := hs_get h8 hg
      have hh11 := hoc_len (h8 h hmem)
      refine needK_has (by (first | rfl | (simp; done) | (simp; omega))) ?_
      refine secK_has g1 g2 ?_
      refine hgetK_last ?_
      refine needK_has (by rw [hh11]; rfl) ?_
      refine eqK_has_eq (hoc h) (by simp) ?_
      rw [hset_last]
      refine hgetK_last ?_
      refine getK_has (v := sv h.o.pod) rfl ?_
      refine hgetK_last ?_
      refine getK_has (v := sv h.o.ctr) rfl ?_
      obtain ⟨k1, f1, w1⟩ := wrap_if ((h.o.pod.length : Int) + (h.o.ctr.length : Int))
      obtain ⟨n1, n2⟩ := hst h hmem
      have hk1 := w1 (by omega)
      obtain ⟨k2, f2, w2, z2, y2⟩ : ∃ k2, (if (5000 : Int) < k1 then 5000 else k1) = k2 ∧ (k1 ≤ 5000 → k2 = k1) ∧ 0 ≤ k2 ∧ k2 ≤ 5000 := ⟨_, rfl, fun h => if_neg (by omega), by split <;> omega, by split <;> omega⟩
      obtain ⟨k3, f3, w3⟩ := wrap_if (n + k2)
      refine eqK_has_eq k1 (by rw [sv_size, sv_size]; exact f1) ?_
      refine eqK_has_eq k2 f2 ?_
      refine eqK_has_eq k3 f3 ?_
      have fact : rightP s → 0 ≤ k2 ∧ k2 ≤ 32 := fun hp => by
        obtain ⟨c1, c2⟩ := hold_names hp.2.2.1 (hp.2.2.2 i h hg).1
        have := w1 (by omega)
        have := w2 (by omega)
        omega
      have hk3 := w3 (by omega)
      refine boolK_dec (fun q => ?_) (fun q => ?_)
      · exact Has.intro (Has.intro (Has.intro ⟨_, rfl, fun _ h => by omega, by omega, by omega⟩))
      · refine eqK_has_eq _ (i64_succ (by omega)) ?_
        refine Has.intro ⟨(i + 1, k3), ⟨hlt, fun hp => ?_, by dsimp only; omega, by dsimp only; omega⟩, (by dsimp only; omega), ⟨rfl, rfl, rfl, rfl, trivial⟩, _, List.append_assoc _ _ _⟩
        have := hn hp
        have := fact hp
        have := w3 (by omega)
        dsimp only
        omega
    · exact Has.intro (Has.intro (Has.intro ⟨_, rfl, fun hp => by have := hn hp; omega, by omega, by omega⟩))
  obtain ⟨v, h1, n, h2, h3⟩ := main
  exact ⟨n, by rw [h1, h2], h3⟩
end Go.Proofs.Ytflfdglnelbbiaa

namespace Go.Proofs.Ytflfdglnelbbiaa.Di
open Go Go.VM

theorem Kp.setNew {H G : Heap} (h : Kp [] H G) {V : Nat} (hV : H.length ≤ V) (o : HObj) : Kp [] H (hset G V o) :=
  ⟨by rw [hset_len]; exact h.1, fun i hi hn => (hget_hset_ne _ _ (by omega)).trans (h.2 i hi hn)⟩
def vobj (D g : Nat) (e : Ext) (b : List UInt8) : HObj := .cells [.ptr D 0, .pv (.int .i64 g), .pv (.sl e b.length (bc b))]
theorem room_ok : EP (EE env) 15 [] = some (.int .i64 65556) := by
  refine Has.eq (EP_has ?_)
  refine callPK_has (W.size_ok 65536) ?_
  exact Has.intro (Has.intro rfl)
theorem slot_fn (n : Nat) : EP (EE env) 13 [.int .i64 n] = some (.int .i64 ((n % 2 : Nat) : Int)) := by
  refine Has.eq (EP_has ?_)
  refine boolK_dec_f (by omega) ?_
  refine needK_has (by decide) ?_
  refine eqK_has_eq ((n % 2 : Nat) : Int) (by rw [Int.tmod_eq_emod_of_nonneg (by omega)]; omega) ?_
  exact Has.intro (Has.intro rfl)
noncomputable def cnt (s : List UInt8) : Nat × List UInt8 := if (W.getM s).2.2 ≠ 0 then (0, []) else if (getS (W.getM s).2.1).2 ≠ 0 then (0, []) else ((W.getM s).1, (W.getM s).2.1)
theorem body_len {s : List UInt8} : (W.getM s).2.1.length ≤ 65536 := by
  unfold W.getM
  repeat' split
  all_goals first
    | exact Nat.zero_le _
    | (show (W.bodyN s).length ≤ 65536
       unfold W.bodyN
       simp only [List.length_drop, List.length_take]
       omega)
theorem okx_cx (b : List UInt8) : okx (W.cx b) b := by
  cases b with
  | nil => exact .inr (.inr rfl)
  | cons a b => exact .inr (.inl rfl)
variable {H : Heap} {D : Nat} {d : Dk} {S : Nat → List UInt8}
theorem counts_ok (h : DkOK H D d S) (hn : 1 ≤ d.n ∧ d.n ≤ 262144) (i : Nat) (hi : i = 0 ∨ i = 1) : ∃ L e, EE env (.fn 22) [.ptr D 0, .pv (.int .i64 i)] H = some (.pv (.tup [.int .i64 (cnt (S i)).1, .sl e (cnt (S i)).2.length (bc (cnt (S i)).2)]), H ++ L) ∧ okx e (cnt (S i)).2 := by
  have hl := (h.row i (by omega)).2
  have hg := W.get_ok .nn (S i) (.inr rfl) (by omega)
  rw [hl] at hg
  have hbl := body_len (s := S i)
  have main : Has (EE env (.fn 22) [.ptr D 0, .pv (.int .i64 i)] H) fun y => ∃ L e, y = (.pv (.tup [.int .i64 (cnt (S i)).1, .sl e (cnt (S i)).2.length (bc (cnt (S i)).2)]), H ++ L) ∧ okx e (cnt (S i)).2 := by
    refine EE_has ?_
    refine callSK_has (image_ok h (by omega) i hi) ?_
    refine callPK_has hg ?_
    have hnil : (cnt (S i)) = (0, []) → ∃ L e, ((AV.pv (.tup [.int .i64 0, .sl .nil 0 []])), H) = (AV.pv (.tup [.int .i64 (cnt (S i)).1, .sl e (cnt (S i)).2.length (bc (cnt (S i)).2)]), H ++ L) ∧ okx e (cnt (S i)).2 := fun h => by
      rw [h]
      exact ⟨[], .nil, by simp; rfl, .inl ⟨rfl, rfl⟩⟩
    refine boolK_bne (fun he => ?_) (fun he => ?_)
    · exact Has.intro (hnil (by unfold cnt; rw [if_pos he]))
    have hx : W.getX (S i) = W.cx (W.getM (S i)).2.1 := by unfold W.getX; rw [if_pos he]
    rw [hx]
    obtain ⟨x1, x2, hr⟩ := get_ok' (W.cx (W.getM (S i)).2.1) (W.getM (S i)).2.1 (okx_cx _) (by omega)
    refine callPK_has hr ?_
    refine hgetK_last ?_
    refine needK_has rfl ?_
    refine eqK_has ?_
    rw [hset_last]
    refine boolK_bne (fun hf => ?_) (fun hf => ?_)
    · have hc : cnt (S i) = (0, []) := by unfold cnt; rw [if_neg (fun hh => hh he), if_pos hf]
      rw [hc]
      exact Has.intro ⟨_, .nil, rfl, .inl ⟨rfl, rfl⟩⟩
    · have hc : cnt (S i) = ((W.getM (S i)).1, (W.getM (S i)).2.1) := by unfold cnt; rw [if_neg (fun hh => hh he), if_neg (fun hh => hh hf)]
      rw [hc]
      exact Has.intro ⟨_, _, rfl, okx_cx _⟩
  obtain ⟨y, h1, L, e, h2, h3⟩ := main
  exact ⟨L, e, by rw [h1, h2], h3⟩
noncomputable def acc (S : Nat → List UInt8) : Nat → Nat × List UInt8
  | 0 => (0, [])
  | i + 1 => if (cnt (S i)).1 > (acc S i).1 then cnt (S i) else acc S i
theorem open_nil (H : Heap) : EE env (.fn 7) [.pv .nilp] H = some (.pv (.tup [.nilp, .int .i64 1]), H) := by
  refine Has.eq (EE_has ?_)
  exact Has.intro rfl
set_option maxHeartbeats 4000000 in
theorem open_ok (h : DkOK H D d S) (hn : d.n = 65556) (hdn : d.down = false) : Has (EE env (.fn 7) [.ptr D 0] H) fun y => ∃ V e, y.1 = .tup [.ptr V 0, .pv (.int .i64 0)] ∧ H.length ≤ V ∧ hget y.2 V = vobj D (acc S 2).1 e (acc S 2).2 ∧ okx e (acc S 2).2 ∧ Kp [] H y.2 := by
  have hn' : 1 ≤ d.n ∧ d.n ≤ 262144 := by omega
  refine EE_has (fn_has rfl ?_)
  refine seq_on [(0, .ptr D 0)] H (by (refine Has.intro ⟨rfl, ?_, rfl⟩; (repeat (first | exact trivial | refine ⟨rfl, ?_⟩)))) (fun r => ?_)
  refine seq_on [(0, .ptr D 0)] H ?_ (fun r => ?_)
  · refine callSK_has (size_disk h) ?_
    refine callPK_has room_ok ?_
    refine boolK_dec_f (by omega) ?_
    refine callSK_has (down_disk h) ?_
    rw [hdn]
    (refine Has.intro ⟨rfl, ?_, rfl⟩; (repeat (first | exact trivial | refine ⟨rfl, ?_⟩)))
  refine seq_on [(0, .ptr D 0), (4, .ptr H.length 0)] (H ++ [vobj D 0 .nil []]) (by (refine Has.intro ⟨rfl, ?_, rfl⟩; (repeat (first | exact trivial | refine ⟨rfl, ?_⟩)))) (fun r => ?_)
  refine seq_st (σ := Heap × Ext) (fun _ => [(4, .ptr H.length 0)]) (fun s => s.1) (fun s => hget s.1 H.length = vobj D (acc S 2).1 s.2 (acc S 2).2 ∧ okx s.2 (acc S 2).2 ∧ Kp [] H s.1) ?_ (fun s hs r => ?_)
  · refine loopK_has ?_
    refine iterE_loop (σ := Nat × Heap × Ext) (fun s => 2 - s.1) (fun s => [(0, .ptr D 0), (4, .ptr H.length 0), (22, .pv (.int .i64 s.1))]) (fun s => s.2.1)
      (fun s => s.1 ≤ 2 ∧ hget s.2.1 H.length = vobj D (acc S s.1).1 s.2.2 (acc S s.1).2 ∧ okx s.2.2 (acc S s.1).2 ∧ Kp [] H s.2.1) (fun ⟨i, G, e⟩ ⟨hi, q1, q2, q3⟩ r => ?_) (0, H ++ [vobj D 0 .nil []], .nil) ⟨Nat.zero_le _, hget_append_same _ _, .inl ⟨rfl, rfl⟩, Kp.app _ _⟩ ⟨rfl, rfl, rfl, trivial⟩ rfl
    dsimp only at hi q1 q2 q3 ⊢
    refine boolK_dec (fun hc => ?_) (fun hc => ?_)
    · have hi2 : i = 0 ∨ i = 1 := by omega
      obtain ⟨L, e', c1, c2⟩ := counts_ok (h.kp q3 fun _ _ h => by cases h) hn' i hi2
      have hV : H.length < G.length := hget_lt q1 ((by intro h; cases h))
      have q1' : hget (G ++ L) H.length = vobj D (acc S i).1 e (acc S i).2 := (hget_app L hV).trans q1
      have q3' : Kp [] H (G ++ L) := q3.trans (Kp.app G L) (by simp)
      refine callSK_has c1 ?_
      refine hgetK_has _ q1' ?_
      refine boolK_dec (fun hgt => ?_) (fun hgt => ?_)
      · have ha : acc S (i + 1) = cnt (S i) := by show (if _ then _ else _) = _; rw [if_pos (by omega)]
        refine hgetK_has _ q1' ?_
        have q4 : hget (hset (G ++ L) H.length (.cells [.ptr D 0, .pv (.int .i64 (cnt (S i)).1), .pv (.sl e (acc S i).2.length (bc (acc S i).2))])) H.length = .cells [.ptr D 0, .pv (.int .i64 (cnt (S i)).1), .pv (.sl e (acc S i).2.length (bc (acc S i).2))] := hget_hset_same _ (by simp; omega)
        refine hgetK_has _ q4 ?_
        refine eqK_has_eq _ (i64_succ (by omega)) ?_
        refine Has.intro ⟨(i + 1, hset (hset (G ++ L) H.length (.cells [.ptr D 0, .pv (.int .i64 (cnt (S i)).1), .pv (.sl e (acc S i).2.length (bc (acc S i).2))])) H.length (vobj D (acc S (i + 1)).1 e' (acc S (i + 1)).2), e'), ⟨by dsimp only; omega, hget_hset_same _ (by rw [hset_len]; simp; omega), by rw [ha]; exact c2, (q3'.setNew (Nat.le_refl _) _).setNew (Nat.le_refl _) _⟩, (by dsimp only; omega), ⟨rfl, rfl, rfl, trivial⟩, ?_⟩
        dsimp only
        rw [ha]
        rfl
      · have ha : acc S (i + 1) = acc S i := by show (if _ then _ else _) = _; rw [if_neg (by omega)]
        refine eqK_has_eq _ (i64_succ (by omega)) ?_
        refine Has.intro ⟨(i + 1, G ++ L, e), ⟨by dsimp only; omega, by dsimp only; rw [ha]; exact q1', by dsimp only; rw [ha]; exact q2, q3'⟩, (by dsimp only; omega), ⟨rfl, rfl, rfl, trivial⟩, rfl⟩
    · have : i = 2 := by omega
      subst this
      refine Has.intro (Has.intro ⟨rfl, (G, e), ⟨q1, q2, q3⟩, ⟨rfl, trivial⟩, rfl⟩)
  obtain ⟨G, e⟩ := s
  obtain ⟨q1, q2, q3⟩ := hs
  exact Has.intro ⟨H.length, e, rfl, Nat.le_refl _, q1, q2, q3⟩
variable {V g : Nat} {e : Ext} {b : List UInt8}
theorem gen_ok (hv : hget H V = vobj D g e b) : EE env (.fn 8) [.ptr V 0] H = some (.pv (.int .i64 g), H) := by
  refine Has.eq (EE_has ?_)
  refine hgetK_has _ hv ?_
  exact Has.intro rfl
theorem disk_fn (hv : hget H V = vobj D g e b) : EE env (.fn 18) [.ptr V 0] H = some (.ptr D 0, H) := by
  refine Has.eq (EE_has ?_)
  refine hgetK_has _ hv ?_
  exact Has.intro rfl
noncomputable def stOf (g : Nat) (b : List UInt8) : St := if g = 0 then s0 else (getS b).1
theorem state_ok (hv : hget H V = vobj D g e b) (he : okx e b) (hb : b.length ≤ 1000000) : ∃ L x1 x2, EE env (.fn 9) [.ptr V 0] H = some (.pv (.agg (stc (stOf g b) x1 x2)), H ++ L) := by
  have hV := hget_lt hv ((by intro h; cases h))
  have main : Has (EE env (.fn 9) [.ptr V 0] H) fun y => ∃ L x1 x2, y = (.pv (.agg (stc (stOf g b) x1 x2)), H ++ L) := by
    refine EE_has ?_
    refine hgetK_has _ ((hget_app _ hV).trans hv) ?_
    refine boolK_beq (fun h0 => ?_) (fun h0 => ?_)
    · have h0' : g = 0 := by omega
      subst h0'
      refine hgetK_last ?_
      refine needK_has rfl ?_
      refine eqK_has ?_
      rw [hset_last]
      refine hgetK_last ?_
      refine secK_has (v := stc s0 .nil .nil) rfl (of_decide_eq_true rfl) ?_
      exact Has.intro ⟨_, .nil, .nil, rfl⟩
    · have h0' : g ≠ 0 := by omega
      obtain ⟨x1, x2, hr⟩ := get_ok' e b he hb
      refine hgetK_has _ ((hget_app _ hV).trans hv) ?_
      refine callPK_has hr ?_
      refine hgetK_last ?_
      refine needK_has rfl ?_
      refine eqK_has ?_
      rw [hset_last]
      refine hgetK_last ?_
      refine secK_has (v := stc (getS b).1 x1 x2) rfl (of_decide_eq_true rfl) ?_
      have hz : hget (H ++ [HObj.pcells [.int .i64 0, .sl .nil 0 [], .sl .nil 0 []]] ++ [HObj.pcells (stc (getS b).1 x1 x2)]) H.length = .pcells [.int .i64 0, .sl .nil 0 [], .sl .nil 0 []] := (hget_app _ (by simp)).trans (hget_append_same _ _)
      refine hgetK_has _ hz ?_
      refine needK_has rfl ?_
      refine eqK_has ?_
      refine hgetK_has (.pcells (stc (getS b).1 x1 x2)) (hget_hset_same _ (by simp)) ?_
      refine secK_has (v := stc (getS b).1 x1 x2) rfl (of_decide_eq_true rfl) ?_
      refine Has.intro ?_
      have e1 : hset (H ++ [HObj.pcells [.int .i64 0, .sl .nil 0 [], .sl .nil 0 []]] ++ [HObj.pcells (stc (getS b).1 x1 x2)]) H.length (.pcells (stc (getS b).1 x1 x2)) = H ++ [.pcells (stc (getS b).1 x1 x2), .pcells (stc (getS b).1 x1 x2)] := by
        have : ∀ (L : Heap) (a o o' : HObj), hset ((L ++ [a]) ++ [o]) L.length o' = L ++ [o', o] := by
          intro L a o o'
          induction L with
          | nil => rfl
          | cons x L ih => show x :: hset ((L ++ [a]) ++ [o]) L.length o' = _; rw [ih]; rfl
        exact this _ _ _ _
      refine ⟨[.pcells (stc (getS b).1 x1 x2), .pcells (stc (getS b).1 x1 x2)], x1, x2, ?_⟩
      rw [← e1]
      unfold stOf
      rw [if_neg h0']
      rfl
  obtain ⟨y, h1, L, x1, x2, h2⟩ := main
  exact ⟨L, x1, x2, by rw [h1, h2]⟩
end Go.Proofs.Ytflfdglnelbbiaa.Di

namespace Go.Proofs.Ytflfdglnelbbiaa.Di
open Go Go.VM

/-- A state's bytes may be saved. -/
def saves (s : St) : Prop := rightP s ∧ 1 ≤ (putB s).length ∧ (putB s).length ≤ 65536
theorem put_any (s : St) (x y : Ext) (hs : smallS s) (h4 : rightP s → s.hs.length ≤ 400) : ∃ w e, EP (EE env) 24 [.agg (stc s x y)] = some (.sl e w.length (bc w)) ∧ okx e w ∧ ((rightP s ∧ w = putB s) ∨ (¬ rightP s ∧ w = [])) := by
  by_cases hr : rightP s
  · obtain ⟨e, h1, h2⟩ := put_ok' s x y hs hr (h4 hr)
    exact ⟨putB s, e, h1, h2, .inl ⟨hr, rfl⟩⟩
  · exact ⟨[], .nil, put_no s x y hs hr, .inl ⟨rfl, rfl⟩, .inr ⟨hr, rfl⟩⟩
theorem v_out {H : Heap} {D : Nat} {d : Dk} {S : Nat → List UInt8} (h : DkOK H D d S) {V g : Nat} {e : Ext} {b : List UInt8} (hv : hget H V = vobj D g e b) : V ∉ dids D d := by
  intro hi
  unfold dids at hi
  simp only [List.mem_cons] at hi
  rcases hi with rfl | rfl | rfl | hi
  · rw [h.obj] at hv; cases hv
  · rw [(h.row 0 (by decide)).1] at hv; cases hv
  · rw [(h.row 1 (by decide)).1] at hv; cases hv
  · obtain ⟨ws, h1⟩ := h.app
    rcases h1 with ⟨_, _, h1, _⟩ | ⟨_, _, t, h1, h2⟩
    · rw [h1] at hi; simp [tokOf] at hi
    · rw [h1] at hi; simp [tokOf] at hi; subst hi
      rw [h2] at hv; cases hv
set_option maxHeartbeats 4000000 in
theorem save_ok {H : Heap} {D : Nat} {d : Dk} {S : Nat → List UInt8} (h : DkOK H D d S) (hn : d.n = 65556) (hdn : d.down = false) (hk : d.k ≤ 100000) {V g : Nat} {e : Ext} {b : List UInt8} (hv : hget H V = vobj D g e b) (hg : g ≤ 100000)
    (s : St) (x y : Ext) (hs : smallS s) (h4 : rightP s → s.hs.length ≤ 400) (dn : Bool) (hm : (d.left = -1 ∧ dn = false) ∨ (d.left = 3 ∧ dn = true)) :
    Has (EE env (.fn 10) [.ptr V 0, .pv (.agg (stc s x y))] H) fun z =>
      (¬ saves s ∧ z.1 = .pv (.int .i64 2) ∧ Kp [] H z.2) ∨
      (saves s ∧ z.1 = .pv (.int .i64 (bif dn then 26 else 0)) ∧ ∃ left wr Wv, DkOK z.2 D ⟨d.a, d.n, left, dn, wr, Wv, d.k + 1⟩ (upS S ((g + 1) % 2) ((W.frame (g + 1) (putB s)).take (bif dn then 3 else (W.frame (g + 1) (putB s)).length) ++ (S ((g + 1) % 2)).drop (bif dn then 3 else (W.frame (g + 1) (putB s)).length))) ∧
        Kp (V :: dids D d) H z.2 ∧ (dn = false → left = -1) ∧ (∃ t, tokOf Wv = some t ∧ (tokOf d.W = some t ∨ H.length ≤ t)) ∧
        ∃ e', okx e' (putB s) ∧ hget z.2 V = bif dn then vobj D g e b else vobj D (g + 1) e' (putB s)) := by
  obtain ⟨w, ew, hput, hox, hw⟩ := put_any s x y hs h4
  have hV := hget_lt hv ((by intro h; cases h))
  refine EE_has (fn_has rfl ?_)
  refine seq_on [(0, .ptr V 0), (3, .ptr H.length 0)] (H ++ [.pcells (stc s x y)]) (by (refine Has.intro ⟨rfl, ?_, rfl⟩; (repeat (first | exact trivial | refine ⟨rfl, ?_⟩)))) (fun r => ?_)
  have h1 : DkOK (H ++ [.pcells (stc s x y)]) D d S := h.more _
  have hv1 : hget (H ++ [.pcells (stc s x y)]) V = vobj D g e b := (hget_app _ hV).trans hv
  have kp1 : Kp [] H (H ++ [.pcells (stc s x y)]) := Kp.app _ _
  obtain ⟨H1, hH1⟩ : ∃ H1, H1 = H ++ [.pcells (stc s x y)] := ⟨_, rfl⟩
  have hst : hget H1 H.length = .pcells (stc s x y) := by rw [hH1]; exact hget_append_same _ _
  rw [← hH1] at h1 hv1 kp1 ⊢
  refine seq_on [(0, .ptr V 0), (3, .ptr H.length 0)] H1 (by (refine Has.intro ⟨rfl, ?_, rfl⟩; (repeat (first | exact trivial | refine ⟨rfl, ?_⟩)))) (fun r => ?_)
  refine seq_on [(0, .ptr V 0), (5, .pv (.sl ew w.length (bc w)))] H1 ?_ (fun r => ?_)
  · refine hgetK_has _ hst ?_
    refine secK_has (v := stc s x y) rfl (of_decide_eq_true rfl) ?_
    refine callPK_has hput ?_
    (refine Has.intro ⟨rfl, ?_, rfl⟩; (repeat (first | exact trivial | refine ⟨rfl, ?_⟩)))
  refine seq_if [(4, .pv (.int .i64 2))] (¬ saves s) [(0, .ptr V 0), (5, .pv (.sl ew w.length (bc w)))] (saves s ∧ w = putB s) H1 ?_ (fun hp r => ?_) (fun hp r => ?_)
  · refine boolK_beq (fun h0 => ?_) (fun h0 => ?_)
    · refine Has.intro (.inl ⟨rfl, ⟨rfl, trivial⟩, rfl, fun hh => ?_⟩)
      rcases hw with ⟨_, q⟩ | ⟨q, _⟩
      · subst q; have := hh.2.1; omega
      · exact q hh.1
    refine boolK_dec (fun h0' => ?_) (fun h0' => ?_)
    · refine Has.intro (.inl ⟨rfl, ⟨rfl, trivial⟩, rfl, fun hh => ?_⟩)
      rcases hw with ⟨_, q⟩ | ⟨q, _⟩
      · subst q; have := hh.2.2; omega
      · exact q hh.1
    refine hgetK_has _ hv1 ?_
    refine boolK_dec_f (by omega) ?_
    rcases hw with ⟨q0, q⟩ | ⟨_, q⟩
    · subst q
      exact Has.intro (.inr ⟨rfl, ⟨rfl, rfl, trivial⟩, rfl, ⟨q0, by omega, by omega⟩, rfl⟩)
    · subst q; exact absurd rfl h0
  · exact Has.intro (.inl ⟨hp, rfl, kp1⟩)
  obtain ⟨hsv, rfl⟩ := hp
  have hfl := W.frame_len (g + 1) (putB s)
  have hfb : W.putB ((g + 1 : Nat) : Int) (putB s) = W.frame (g + 1) (putB s) := by
    unfold W.putB
    rw [if_pos ⟨⟨by omega, by omega⟩, hsv.2.2⟩, Int.toNat_natCast]
  have hfe : W.putE ((g + 1 : Nat) : Int) (putB s) = .nn := by
    unfold W.putE
    rw [if_pos ⟨⟨by omega, by omega⟩, hsv.2.2⟩]
  have hpf := W.put_ok ((g + 1 : Nat) : Int) ⟨by omega, by omega⟩ ew (putB s) (by have := hsv.2.2; omega)
  rw [hfb, hfe] at hpf
  obtain ⟨m, hmm⟩ : ∃ m, m = bif dn then 3 else (W.frame (g + 1) (putB s)).length := ⟨_, rfl⟩
  have hwr := write_ok h1 (by omega) ((g + 1) % 2) (by omega) hdn .nn (.inl rfl) (W.frame (g + 1) (putB s)) (by rw [hfl, hn]; have := hsv.2.2; omega) hk m dn (by
    rcases hm with ⟨q1, q2⟩ | ⟨q1, q2⟩
    · left; subst q2; exact ⟨q1, hmm, rfl⟩
    · right; subst q2; exact ⟨q1, hmm, by omega, rfl⟩)
  rw [← hmm]
  have hin : V ∉ dids D d := v_out h1 hv1
  refine seq_join (fun e r G => ((dn = true ∧ e = .ret ∧ Agr r [(4, .pv (.int .i64 26))]) ∨ (dn = false ∧ e = .normal ∧ Agr r [(0, .ptr V 0), (5, .pv (.sl ew (putB s).length (bc (putB s))))])) ∧
    ∃ left wr Wv, DkOK G D ⟨d.a, d.n, left, dn, wr, Wv, d.k + 1⟩ (upS S ((g + 1) % 2) ((W.frame (g + 1) (putB s)).take m ++ (S ((g + 1) % 2)).drop m)) ∧ Kp (dids D d) H1 G ∧ (dn = false → left = -1) ∧ ∃ t, tokOf Wv = some t ∧ (tokOf d.W = some t ∨ H1.length ≤ t)) ?_ (fun ex r G hJ => ?_)
  · refine hgetK_has _ hv1 ?_
    refine hgetK_has _ hv1 ?_
    refine eqK_has_eq ((g + 1 : Nat) : Int) (i64_succ (by omega)) ?_
    refine callPK_has (slot_fn (g + 1)) ?_
    refine hgetK_has _ hv1 ?_
    refine eqK_has_eq ((g + 1 : Nat) : Int) (i64_succ (by omega)) ?_
    refine callPK_has hpf ?_
    refine callSK_has' (hwr.mono fun z hz => ?_)
    obtain ⟨z1, z2⟩ := z
    obtain ⟨hz1, hz2⟩ := hz
    dsimp only at hz1 hz2 ⊢
    rw [hz1]
    cases dn with
    | true =>
      refine boolK_bne_t (by decide) ?_
      exact Has.intro ⟨.inl ⟨rfl, rfl, ⟨rfl, trivial⟩⟩, hz2⟩
    | false =>
      refine boolK_bne_f rfl ?_
      exact Has.intro ⟨.inr ⟨rfl, rfl, ⟨rfl, rfl, trivial⟩⟩, hz2⟩
  obtain ⟨hcs, left, wr, Wv, q1, q2, q3, t, q4, q5⟩ := hJ
  have hvG : hget G V = vobj D g e b := q2.get hv1 ((by intro h; cases h)) hin
  have hl1 : H.length ≤ H1.length := kp1.1
  have q5' : tokOf d.W = some t ∨ H.length ≤ t := q5.imp id (fun h => Nat.le_trans hl1 h)
  have kpG : Kp (V :: dids D d) H G := (kp1.more (by simp)).trans q2 (fun i hi => .inl (List.mem_cons_of_mem _ hi))
  rcases hcs with ⟨rfl, rfl, hA⟩ | ⟨rfl, rfl, hA⟩
  · rw [← hA.eq]
    exact Has.intro (.inr ⟨hsv, rfl, left, wr, Wv, q1, kpG, q3, ⟨t, q4, q5'⟩, ew, hox, hvG⟩)
  · rw [← hA.eq]
    have hVG : V < G.length := hget_lt hvG ((by intro h; cases h))
    refine hgetK_has _ hvG ?_
    refine eqK_has_eq ((g + 1 : Nat) : Int) (i64_succ (by omega)) ?_
    refine hgetK_has _ hvG ?_
    refine hgetK_has (vobj D (g + 1) e b) (hget_hset_same _ hVG) ?_
    refine Has.intro (.inr ⟨hsv, rfl, left, wr, Wv, ?_, ?_, q3, ⟨t, q4, q5'⟩, ew, hox, ?_⟩)
    · refine q1.kp ((Kp.set G V _).trans (Kp.set _ V _) (fun i hi => .inl hi)) (fun i hi hm => ?_)
      simp at hm; subst hm
      exact v_out q1 hvG hi
    · exact (kpG.trans (Kp.set G V _) (by simp)).trans (Kp.set _ V _) (by simp)
    · exact hget_hset_same _ (by rw [hset_len]; exact hVG)
end Go.Proofs.Ytflfdglnelbbiaa.Di

namespace Go.Proofs.Ytflfdglnelbbiaa.Di
open Go Go.VM

theorem new_room (H : Heap) : ∃ H' Z a, Z.length = 65556 ∧ Z.take 4 = [0, 0, 0, 0] ∧ EE env (.fn 6) [.pv (.int .i64 65556)] H = some (.tup [.ptr (H.length + 2) 0, .pv (.int .i64 0)], H') ∧ DkOK H' (H.length + 2) ⟨a, 65556, -1, false, 0, .pv (.sl .nil 0 []), 0⟩ (fun _ => Z) ∧ Kp [] H H' := by
  have key : ∀ n : Nat, n = 65556 → ∃ H' Z a, Z.length = n ∧ Z.take 4 = [0, 0, 0, 0] ∧ EE env (.fn 6) [.pv (.int .i64 n)] H = some (.tup [.ptr (H.length + 2) 0, .pv (.int .i64 0)], H') ∧ DkOK H' (H.length + 2) ⟨a, n, -1, false, 0, .pv (.sl .nil 0 []), 0⟩ (fun _ => Z) ∧ Kp [] H H' := by
    intro n hn
    obtain ⟨H', h1, h2, h3⟩ := new_disk n (by omega) (by omega) H
    refine ⟨H', _, _, by simp, ?_, h1, h2, h3⟩
    rw [List.take_replicate, show min 4 n = 4 by omega]
    rfl
  exact key 65556 rfl
theorem cnt_no {s : List UInt8} (h : 4 ≤ s.length) (hm : s.take 4 ≠ W.magic) : cnt s = (0, []) := by
  have : W.getM s = (0, [], 11) := by
    unfold W.getM
    rw [if_neg (by omega), if_pos hm]
  unfold cnt
  rw [this, if_pos (by decide)]
theorem cnt_frame {s : St} (hs : saves s) (h8 : ∀ h ∈ s.hs, h.sp.length = 8) {g : Nat} (h1 : 1 ≤ g) (h2 : g ≤ 1152921504606846976) (rest : List UInt8) : cnt (W.frame g (putB s) ++ rest) = (g, putB s) := by
  unfold cnt
  rw [W.frame_get h1 h2 hs.2.2 rest]
  dsimp only
  rw [if_neg (fun h => h rfl), get_put hs.1 h8, if_neg (fun h => h rfl)]
theorem st_frame {s : St} (hs : saves s) (h8 : ∀ h ∈ s.hs, h.sp.length = 8) {g : Nat} (h1 : 1 ≤ g) : stOf g (putB s) = normS s := by
  unfold stOf
  rw [if_neg (by omega), get_put hs.1 h8]
theorem acc_no {S : Nat → List UInt8} (h0 : cnt (S 0) = (0, [])) (h1 : cnt (S 1) = (0, [])) : acc S 2 = (0, []) := by
  simp [acc, h0, h1]
theorem acc_0 {S : Nat → List UInt8} {g : Nat} {b : List UInt8} (hg : 1 ≤ g) (h0 : cnt (S 0) = (g, b)) (h1 : cnt (S 1) = (0, [])) : acc S 2 = (g, b) := by
  simp [acc, h0, h1]; omega
theorem acc_1 {S : Nat → List UInt8} {g : Nat} {b : List UInt8} (hg : 1 ≤ g) (h0 : cnt (S 0) = (0, [])) (h1 : cnt (S 1) = (g, b)) : acc S 2 = (g, b) := by
  simp [acc, h0, h1]; omega
def sN (n : Int) : St := ⟨n, [], []⟩
theorem small_N (n : Int) : smallS (sN n) := ⟨Nat.zero_le _, Nat.zero_le _, fun e h => (by cases h), fun e h => (by cases h)⟩
theorem right_N {n : Int} (h : 0 ≤ n ∧ n ≤ 1099511627776) : rightP (sN n) := ⟨h, by show 0 ≤ 16; decide, fun i e h => (by simp [sN] at h), fun i e h => (by simp [sN] at h)⟩
theorem enc_small {u : Nat} (h : u < 128) : T.enc u = [UInt8.ofNat u] := by unfold T.enc; rw [if_pos h]
theorem len_N {n : Int} (h : n.toNat < 128) : (putB (sN n)).length = 3 := by
  have e : putB (sN n) = T.enc n.toNat ++ T.enc 0 ++ [] ++ T.enc 0 ++ [] := rfl
  rw [e, enc_small h, enc_small (by decide)]
  rfl
theorem saves_N {n : Int} (h0 : 0 ≤ n ∧ n ≤ 1099511627776) (h : n.toNat < 128) : saves (sN n) := ⟨right_N h0, by rw [len_N h]; decide, by rw [len_N h]; decide⟩
theorem saves_7 : saves (sN 7) := saves_N (by decide) (by decide)
theorem saves_8 : saves (sN 8) := saves_N (by decide) (by decide)
theorem torn_no {g : Nat} {b Z : List UInt8} (hZ : Z.take 4 = [0, 0, 0, 0]) : ((W.frame g b).take 3 ++ Z.drop 3).take 4 ≠ W.magic := by
  have e1 : (W.frame g b).take 3 = W.magic.take 3 := by
    unfold W.frame W.head
    rw [List.append_assoc, List.take_append_of_le_length (by decide)]
  have e2 : (Z.drop 3).take 1 = [0] := by
    have : (Z.drop 3).take 1 = (Z.take 4).drop 3 := by rw [List.drop_take]
    rw [this, hZ]; rfl
  rw [e1, List.take_append, show (W.magic.take 3).length = 3 by decide, show 4 - 3 = 1 by decide, e2]
  decide
end Go.Proofs.Ytflfdglnelbbiaa.Di

namespace Go.Proofs.Ytflfdglnelbbiaa.Di
open Go Go.VM

set_option maxHeartbeats 4000000 in
theorem first_ok : EP (EE env) 4 [] = some (.bool true) := by
  obtain ⟨H1, Z, a, hZ, hZ4, hnew, d1, _⟩ := new_room []
  refine Has.eq (EP_has (fn_has rfl ?_))
  refine seq_on [] [] (by (refine Has.intro ⟨rfl, ?_, rfl⟩; (repeat (first | exact trivial | refine ⟨rfl, ?_⟩)))) (fun r => ?_)
  refine seq_on [(1, .ptr 2 0)] H1 ?_ (fun r => ?_)
  · refine callPK_has room_ok ?_
    refine callSK_has hnew ?_
    (refine Has.intro ⟨rfl, ?_, rfl⟩; (repeat (first | exact trivial | refine ⟨rfl, ?_⟩)))
  have cz : cnt Z = (0, []) := cnt_no (by omega) (by rw [hZ4]; decide)
  have az : acc (fun _ => Z) 2 = (0, []) := acc_no cz cz
  refine seq_st (σ := Heap × Nat × Ext) (fun s => [(1, .ptr 2 0), (3, .ptr s.2.1 0), (4, .pv (.int .i64 0))]) (fun s => s.1) (fun s => DkOK s.1 2 ⟨a, 65556, -1, false, 0, .pv (.sl .nil 0 []), 0⟩ (fun _ => Z) ∧ hget s.1 s.2.1 = vobj 2 0 s.2.2 []) ?_ (fun s hs r => ?_)
  · refine callSK_has' ((open_ok d1 rfl rfl).mono fun y hy => ?_)
    obtain ⟨v, G⟩ := y
    obtain ⟨V, e, q1, q2, q3, q4, q5⟩ := hy
    dsimp only at q1 q3 q5
    subst q1
    rw [az] at q3
    exact Has.intro ⟨rfl, (G, V, e), ⟨d1.kp q5 (fun _ _ h => by cases h), q3⟩, ⟨rfl, rfl, rfl, trivial⟩, rfl⟩
  obtain ⟨H2, V, e⟩ := s
  obtain ⟨d2, v2⟩ := hs
  dsimp only at d2 v2 ⊢
  refine seq_on [(1, .ptr 2 0), (3, .ptr V 0), (4, .pv (.int .i64 0)), (6, .pv (.int .i64 1))] H2 ?_ (fun r => ?_)
  · refine callSK_has (open_nil H2) ?_
    (refine Has.intro ⟨rfl, ?_, rfl⟩; (repeat (first | exact trivial | refine ⟨rfl, ?_⟩)))
  obtain ⟨S1, hS1⟩ : ∃ S1, S1 = upS (fun _ => Z) 1 ((W.frame 1 (putB (sN 7))).take (W.frame 1 (putB (sN 7))).length ++ Z.drop (W.frame 1 (putB (sN 7))).length) := ⟨_, rfl⟩
  refine seq_st (σ := Heap × Int × AV × Ext) (fun s => [(1, .ptr 2 0), (3, .ptr V 0), (4, .pv (.int .i64 0)), (6, .pv (.int .i64 1)), (7, .pv (.int .i64 0))]) (fun s => s.1) (fun s => DkOK s.1 2 ⟨a, 65556, -1, false, s.2.1, s.2.2.1, 1⟩ S1 ∧ hget s.1 V = vobj 2 1 s.2.2.2 (putB (sN 7)) ∧ okx s.2.2.2 (putB (sN 7))) ?_ (fun s hs r => ?_)
  · refine callSK_has' ((save_ok d2 rfl rfl (by show 0 ≤ 100000; decide) v2 (by decide) (sN 7) .nil .nil (small_N 7) (fun _ => by show 0 ≤ 400; decide) false (.inl ⟨rfl, rfl⟩)).mono fun z hz => ?_)
    obtain ⟨z1, G⟩ := z
    rcases hz with ⟨hn, _⟩ | ⟨_, h1, left, wr, Wv, q1, q2, q3, q4, e', q5, q6⟩
    · exact absurd saves_7 hn
    dsimp only at h1 q1 q6 ⊢
    rw [q3 rfl] at q1
    subst h1
    rw [hS1]
    exact Has.intro ⟨rfl, (G, wr, Wv, e'), ⟨q1, q6, q5⟩, ⟨rfl, rfl, rfl, rfl, rfl, trivial⟩, rfl⟩
  obtain ⟨H3, wr, Wv, e3⟩ := s
  obtain ⟨d3, v3, x3⟩ := hs
  dsimp only at d3 v3 x3 ⊢
  refine seq_on [(1, .ptr 2 0), (3, .ptr V 0), (4, .pv (.int .i64 0)), (6, .pv (.int .i64 1)), (7, .pv (.int .i64 0))] (hset H3 2 (dobj ⟨a, 65556, 3, false, wr, Wv, 1⟩)) ?_ (fun r => ?_)
  · refine callSK_has (arm_ok d3) ?_
    (refine Has.intro ⟨rfl, ?_, rfl⟩; (repeat (first | exact trivial | refine ⟨rfl, ?_⟩)))
  have d4 := d3.upd 3 false wr
  have hV2 : V ≠ 2 := fun hh => v_out d3 v3 (by simp [dids, hh])
  have v4 : hget (hset H3 2 (dobj ⟨a, 65556, 3, false, wr, Wv, 1⟩)) V = vobj 2 1 e3 (putB (sN 7)) := (hget_hset_ne _ _ hV2).trans v3
  obtain ⟨H4, hH4⟩ : ∃ H4, H4 = hset H3 2 (dobj ⟨a, 65556, 3, false, wr, Wv, 1⟩) := ⟨_, rfl⟩
  dsimp only at d4
  rw [← hH4] at d4 v4 ⊢
  obtain ⟨S2, hS2⟩ : ∃ S2, S2 = upS S1 0 ((W.frame 2 (putB (sN 8))).take 3 ++ (S1 0).drop 3) := ⟨_, rfl⟩
  refine seq_st (σ := Heap × Int × Int × AV) (fun s => [(1, .ptr 2 0), (3, .ptr V 0), (4, .pv (.int .i64 0)), (6, .pv (.int .i64 1)), (7, .pv (.int .i64 0)), (8, .pv (.int .i64 26))]) (fun s => s.1) (fun s => DkOK s.1 2 ⟨a, 65556, s.2.1, true, s.2.2.1, s.2.2.2, 2⟩ S2 ∧ hget s.1 V = vobj 2 1 e3 (putB (sN 7))) ?_ (fun s hs r => ?_)
  · refine callSK_has' ((save_ok d4 rfl rfl (by show 1 ≤ 100000; decide) v4 (by decide) (sN 8) .nil .nil (small_N 8) (fun _ => by show 0 ≤ 400; decide) true (.inr ⟨rfl, rfl⟩)).mono fun z hz => ?_)
    obtain ⟨z1, G⟩ := z
    rcases hz with ⟨hn, _⟩ | ⟨_, h1, left, wr', Wv', q1, q2, q3, q4, e', q5, q6⟩
    · exact absurd saves_8 hn
    dsimp only at h1 q1 q6 ⊢
    subst h1
    rw [hS2]
    exact Has.intro ⟨rfl, (G, left, wr', Wv'), ⟨q1, q6⟩, ⟨rfl, rfl, rfl, rfl, rfl, rfl, trivial⟩, rfl⟩
  obtain ⟨H5, left, wr5, Wv5⟩ := s
  obtain ⟨d5, v5⟩ := hs
  dsimp only at d5 v5 ⊢
  have hV5 : V ≠ 2 := fun hh => v_out d5 v5 (by simp [dids, hh])
  have d6 := (d5.upd left false wr5).upd (-1) false wr5
  obtain ⟨H6, hH6⟩ : ∃ H6, H6 = hset (hset H5 2 (dobj ⟨a, 65556, left, false, wr5, Wv5, 2⟩)) 2 (dobj ⟨a, 65556, -1, false, wr5, Wv5, 2⟩) := ⟨_, rfl⟩
  have v6 : hget H6 V = vobj 2 1 e3 (putB (sN 7)) := by rw [hH6]; exact (hget_hset_ne _ _ hV5).trans ((hget_hset_ne _ _ hV5).trans v5)
  dsimp only at d6
  rw [← hH6] at d6
  refine seq_on [(1, .ptr 2 0), (3, .ptr V 0), (4, .pv (.int .i64 0)), (6, .pv (.int .i64 1)), (7, .pv (.int .i64 0)), (8, .pv (.int .i64 26))] H6 ?_ (fun r => ?_)
  · refine callSK_has (up_ok d5) ?_
    rw [hH6]
    (refine Has.intro ⟨rfl, ?_, rfl⟩; (repeat (first | exact trivial | refine ⟨rfl, ?_⟩)))
  have hrow : (S1 0).take 4 = [0, 0, 0, 0] := by rw [hS1]; exact hZ4
  have c0 : cnt (S2 0) = (0, []) := by
    refine cnt_no (by have := (d6.row 0 (by decide)).2; dsimp only at this; omega) ?_
    rw [hS2]
    exact torn_no hrow
  have c1 : cnt (S2 1) = (1, putB (sN 7)) := by
    have e1 : S2 1 = S1 1 := by rw [hS2]; rfl
    rw [e1, hS1]
    show cnt ((W.frame 1 (putB (sN 7))).take (W.frame 1 (putB (sN 7))).length ++ Z.drop (W.frame 1 (putB (sN 7))).length) = _
    rw [List.take_length]
    exact cnt_frame saves_7 (fun h hh => by cases hh) (by decide) (by decide) _
  have a6 := acc_1 (by decide) c0 c1
  refine seq_st (σ := Heap × Nat × Ext) (fun s => [(1, .ptr 2 0), (3, .ptr V 0), (4, .pv (.int .i64 0)), (6, .pv (.int .i64 1)), (7, .pv (.int .i64 0)), (8, .pv (.int .i64 26)), (9, .ptr s.2.1 0), (10, .pv (.int .i64 0))]) (fun s => s.1) (fun s => hget s.1 V = vobj 2 1 e3 (putB (sN 7)) ∧ hget s.1 s.2.1 = vobj 2 1 s.2.2 (putB (sN 7)) ∧ okx s.2.2 (putB (sN 7))) ?_ (fun s hs r => ?_)
  · refine callSK_has' ((open_ok d6 rfl rfl).mono fun y hy => ?_)
    obtain ⟨v, G⟩ := y
    obtain ⟨V', e', q1, q2, q3, q4, q5⟩ := hy
    dsimp only at q1 q3 q5
    subst q1
    rw [a6] at q3 q4
    exact Has.intro ⟨rfl, (G, V', e'), ⟨q5.get v6 ((by intro h; cases h)) (by simp), q3, q4⟩, ⟨rfl, rfl, rfl, rfl, rfl, rfl, rfl, rfl, trivial⟩, rfl⟩
  obtain ⟨H7, V', e7⟩ := s
  obtain ⟨v7, w7, x7⟩ := hs
  dsimp only at v7 w7 x7 ⊢
  have hlen : (putB (sN 7)).length ≤ 1000000 := by rw [len_N (by decide)]; decide
  obtain ⟨L, y1, y2, hst⟩ := state_ok w7 x7 hlen
  have hs7 : (stOf 1 (putB (sN 7))).next = 7 := by rw [st_frame saves_7 (fun h hh => by cases hh) (by decide)]; rfl
  have w8 : hget (H7 ++ L) V' = vobj 2 1 e7 (putB (sN 7)) := (hget_app _ (hget_lt w7 ((by intro h; cases h)))).trans w7
  refine boolK_beq_t rfl ?_
  refine boolK_beq_t rfl ?_
  refine boolK_beq_t rfl ?_
  refine boolK_beq_t rfl ?_
  refine callSK_has (gen_ok v7) ?_
  refine boolK_beq_t rfl ?_
  refine boolK_beq_t rfl ?_
  refine callSK_has (gen_ok w7) ?_
  refine boolK_beq_t rfl ?_
  refine callSK_has hst ?_
  refine getK_has (v := .int .i64 (stOf 1 (putB (sN 7))).next) rfl ?_
  refine boolK_beq_t hs7 ?_
  refine callPK_has (slot_fn 3) ?_
  refine boolK_beq_t rfl ?_
  refine callPK_has room_ok ?_
  refine boolK_beq_t rfl ?_
  refine callSK_has (disk_fn w8) ?_
  exact Has.intro (Has.intro rfl)
end Go.Proofs.Ytflfdglnelbbiaa.Di

namespace Go.Proofs.Ytflfdglnelbbiaa.Di
open Go Go.VM

abbrev Bk : Nat := 1048576
abbrev TV : Ty := .st [(1, .int .i64), (1, .int .i64), (1, .int .i64)]
abbrev TCt : Ty := .st [(1, .str), (3, TV), (3, TV), (3, .arr 3 1 .bool)]
abbrev TPd : Ty := .st [(1, .str), (1, .int .i64), (1, .int .i64), (1, .sl 10 TCt)]
abbrev TEn : Ty := .st [(4, TPd), (4, TPd), (1, .int .i64), (1, .int .i64)]
abbrev TOw : Ty := .st [(1, .str), (1, .str), (1, .int .i64)]
abbrev THo : Ty := .st [(3, TOw), (8, .arr 8 1 (.int .i64))]
abbrev TSt : Ty := .st [(1, .int .i64), (1, .sl 10 TEn), (1, .sl 11 THo)]
theorem bk_le : Bk ≤ maxLen := by rw [maxLen_eq]; decide
theorem dec_str (s : ByteArray) : ∃ l : List UInt8, PV.str s = sv l ∧ l.length = s.size := ⟨s.data.toList, rfl, rfl⟩
theorem dec_v {cs : List PV} (h : HasTyB Bk TV cs) : ∃ v, cs = vc v := by
  obtain ⟨_, _, rfl, _, ⟨a, rfl, _⟩, _, _, rfl, _, ⟨b, rfl, _⟩, _, _, rfl, _, ⟨c, rfl, _⟩, rfl⟩ := h
  exact ⟨⟨a, b, c⟩, rfl⟩
theorem dec_ct {cs : List PV} (h : HasTyB Bk TCt cs) : ∃ c, cs = ct c ∧ c.name.length ≤ Bk := by
  obtain ⟨_, _, rfl, _, ⟨s, rfl, hs⟩, _, _, rfl, _, hv, _, _, rfl, _, hw, _, _, rfl, _, ⟨_, _, rfl, _, ⟨a, rfl⟩, _, _, rfl, _, ⟨b, rfl⟩, _, _, rfl, _, ⟨c, rfl⟩, rfl⟩, rfl⟩ := h
  obtain ⟨v, rfl⟩ := dec_v hv
  obtain ⟨w, rfl⟩ := dec_v hw
  obtain ⟨l, h1, h2⟩ := dec_str s
  rw [h1]
  exact ⟨⟨l, v, w, a, b, c⟩, rfl, by show l.length ≤ _; omega⟩
theorem els_dec {α : Type} {f : α → List PV} {P : α → Prop} {T : Ty} {es : Nat} (hd : ∀ cs, HasTyB Bk T cs → ∃ a, cs = f a ∧ P a) : ∀ (n : Nat) (cs : List PV), Els (HasTyB Bk T) es n cs → ∃ l : List α, l.length = n ∧ cs = flat f l ∧ ∀ a ∈ l, P a := by
  intro n
  induction n with
  | zero => intro cs h; exact ⟨[], rfl, h, fun a ha => by cases ha⟩
  | succ n ih =>
    intro cs h
    obtain ⟨x, y, rfl, _, h1, h2⟩ := h
    obtain ⟨a, rfl, ha⟩ := hd _ h1
    obtain ⟨l, rfl, rfl, hl⟩ := ih _ h2
    refine ⟨a :: l, rfl, by simp [flat], fun b hb => ?_⟩
    rcases List.mem_cons.1 hb with rfl | hb
    · exact ha
    · exact hl b hb
theorem dec_pd {cs : List PV} (h : HasTyB Bk TPd cs) : ∃ q x, cs = pdc q x ∧ small q ∧ q.name.length ≤ Bk := by
  obtain ⟨_, _, rfl, _, ⟨s, rfl, hs⟩, _, _, rfl, _, ⟨a, rfl, _⟩, _, _, rfl, _, ⟨b, rfl, _⟩, _, _, rfl, _, ⟨x, n, cells, rfl, _, hn, he⟩, rfl⟩ := h
  obtain ⟨l, h1, h2⟩ := dec_str s
  obtain ⟨cs, rfl, rfl, hc⟩ := els_dec (fun _ h => dec_ct h) n cells he
  rw [h1]
  exact ⟨⟨l, a, b, cs⟩, x, rfl, ⟨Nat.le_trans (show l.length ≤ Bk by omega) bk_le, Nat.le_trans (show cs.length ≤ Bk by omega) bk_le, fun c hm => Nat.le_trans (hc c hm) bk_le⟩, by show l.length ≤ _; omega⟩
theorem dec_en {cs : List PV} (h : HasTyB Bk TEn cs) : ∃ e, cs = en e ∧ smallE e ∧ e.d.name.length ≤ Bk ∧ e.a.name.length ≤ Bk := by
  obtain ⟨_, _, rfl, _, hp, _, _, rfl, _, hq, _, _, rfl, _, ⟨a, rfl, _⟩, _, _, rfl, _, ⟨b, rfl, _⟩, rfl⟩ := h
  obtain ⟨p, x, rfl, h1, n1⟩ := dec_pd hp
  obtain ⟨q, y, rfl, h2, n2⟩ := dec_pd hq
  exact ⟨⟨p, q, x, y, a, b⟩, rfl, ⟨h1, h2⟩, n1, n2⟩
theorem dec_ho {cs : List PV} (h : HasTyB Bk THo cs) : ∃ e, cs = hoc e ∧ e.sp.length = 8 ∧ e.o.pod.length ≤ Bk ∧ e.o.ctr.length ≤ Bk := by
  obtain ⟨_, _, rfl, _, ⟨_, _, rfl, _, ⟨s, rfl, hs⟩, _, _, rfl, _, ⟨t, rfl, ht⟩, _, _, rfl, _, ⟨k, rfl, _⟩, rfl⟩, _, _, rfl, _,
    ⟨_, _, rfl, _, ⟨a0, rfl, _⟩, _, _, rfl, _, ⟨a1, rfl, _⟩, _, _, rfl, _, ⟨a2, rfl, _⟩, _, _, rfl, _, ⟨a3, rfl, _⟩, _, _, rfl, _, ⟨a4, rfl, _⟩, _, _, rfl, _, ⟨a5, rfl, _⟩, _, _, rfl, _, ⟨a6, rfl, _⟩, _, _, rfl, _, ⟨a7, rfl, _⟩, rfl⟩, rfl⟩ := h
  obtain ⟨l, h1, h2⟩ := dec_str s
  obtain ⟨m, h3, h4⟩ := dec_str t
  rw [h1, h3]
  exact ⟨⟨⟨l, m, k⟩, [a0, a1, a2, a3, a4, a5, a6, a7]⟩, rfl, rfl, by show l.length ≤ _; omega, by show m.length ≤ _; omega⟩
structure StX where
  s : St
  x : Ext
  y : Ext
def stcx (z : StX) : List PV := stc z.s z.x z.y
theorem stcx_len (z : StX) : (stcx z).length = 3 := rfl
def okZ (z : StX) : Prop := smallS z.s ∧ (∀ h ∈ z.s.hs, h.o.pod.length ≤ Bk ∧ h.o.ctr.length ≤ Bk) ∧ ∀ e ∈ z.s.es, e.d.name.length ≤ Bk ∧ e.a.name.length ≤ Bk
theorem dec_st {cs : List PV} (h : HasTyB Bk TSt cs) : ∃ z, cs = stcx z ∧ okZ z := by
  obtain ⟨_, _, rfl, _, ⟨n, rfl, _⟩, _, _, rfl, _, ⟨x, k, cells, rfl, _, hk, he⟩, _, _, rfl, _, ⟨y, m, cells2, rfl, _, hm, hf⟩, rfl⟩ := h
  obtain ⟨es, rfl, rfl, h1⟩ := els_dec (fun _ h => dec_en h) k cells he
  obtain ⟨hs, rfl, rfl, h2⟩ := els_dec (fun _ h => dec_ho h) m cells2 hf
  exact ⟨⟨⟨n, es, hs⟩, x, y⟩, rfl, ⟨Nat.le_trans hk bk_le, Nat.le_trans hm bk_le, fun e he => (h1 e he).1, fun h hh => (h2 h hh).1⟩, fun h hh => (h2 h hh).2, fun e he => (h1 e he).2⟩
theorem arg_sts {p : PV} (h : HasArgB Bk (.sl 3 TSt) p) : ∃ (x : Ext) (l : List StX), p = .sl x l.length (flat stcx l) ∧ l.length ≤ Bk ∧ ∀ z ∈ l, okZ z := by
  obtain ⟨x, n, cells, h1, _, hn, he⟩ := h
  injection h1 with h1
  obtain ⟨l, rfl, rfl, hl⟩ := els_dec (fun _ h => dec_st h) n cells he
  exact ⟨x, l, h1, hn, hl⟩
/-! ### what a spoilt clone has -/
theorem spoil_no (Z : List UInt8) : (([0] : List UInt8).take 1 ++ Z.drop 1).take 4 ≠ W.magic := by
  intro h
  have := congrArg List.head? h
  simp [W.magic] at this
theorem acc_par {S : Nat → List UInt8} {g : Nat} {b : List UInt8} (h0 : cnt (S (g % 2)) = (g, b)) (h1 : cnt (S ((g + 1) % 2)) = (0, [])) (hb : g = 0 → b = []) : acc S 2 = (g, b) := by
  rcases Nat.eq_zero_or_pos g with rfl | hg
  · rw [hb rfl] at h0 ⊢
    exact acc_no h0 h1
  · have hp : (g % 2 = 0 ∧ (g + 1) % 2 = 1) ∨ (g % 2 = 1 ∧ (g + 1) % 2 = 0) := by omega
    rcases hp with ⟨e0, e1⟩ | ⟨e0, e1⟩
    · rw [e0] at h0; rw [e1] at h1
      exact acc_0 hg h0 h1
    · rw [e0] at h0; rw [e1] at h1
      exact acc_1 hg h1 h0
theorem same_refl (s : St) : sameS s s := by
  refine ⟨rfl, ⟨rfl, fun j c d hc hd => ?_⟩, rfl⟩
  rw [hc] at hd
  injection hd with hd
  subst hd
  exact ⟨⟨rfl, rfl, rfl, rfl⟩, ⟨rfl, rfl, rfl, rfl⟩, rfl, rfl⟩
theorem small_norm {s : St} (h : smallS s) : smallS (normS s) := by
  obtain ⟨h1, h2, h3, h4⟩ := h
  refine ⟨by show (s.es.map normE).length ≤ _; rw [List.length_map]; exact h1, h2, fun e he => ?_, h4⟩
  obtain ⟨f, hf, rfl⟩ := List.mem_map.1 he
  exact h3 f hf
theorem small_s0 : smallS s0 := ⟨Nat.zero_le _, Nat.zero_le _, fun e h => (by cases h), fun e h => (by cases h)⟩
theorem a_out {H : Heap} {D : Nat} {d : Dk} {S : Nat → List UInt8} (h : DkOK H D d S) (hn : 4 ≤ d.n) {A : Nat} {cs : List PV} (ha : hget H A = .pcells cs) (hl : cs.length = 3) : A ∉ dids D d := by
  intro hi
  have no : ∀ i, i < 2 → A ≠ d.a i := fun i hi2 e => by
    have := (h.row i hi2).1
    rw [← e, ha] at this
    injection this with this
    have h2 := (h.row i hi2).2
    rw [this, bc_length] at hl
    omega
  unfold dids at hi
  simp only [List.mem_cons] at hi
  rcases hi with rfl | rfl | rfl | hi
  · rw [h.obj] at ha; cases ha
  · exact no 0 (by decide) rfl
  · exact no 1 (by decide) rfl
  · obtain ⟨ws, h1⟩ := h.app
    rcases h1 with ⟨_, _, h1, _⟩ | ⟨_, _, t, h1, h2⟩
    · rw [h1] at hi; simp [tokOf] at hi
    · rw [h1] at hi; simp [tokOf] at hi; subst hi
      rw [h2] at ha; cases ha
end Go.Proofs.Ytflfdglnelbbiaa.Di

namespace Go.Proofs.Ytflfdglnelbbiaa.Di
open Go Go.VM

structure Base (H : Heap) (D V A : Nat) (d : Dk) (S : Nat → List UInt8) (g : Nat) (e : Ext) (b : List UInt8) (cs : List PV) : Prop where
  dk : DkOK H D d S
  v : hget H V = vobj D g e b
  a : hget H A = .pcells cs
  al : cs.length = 3
  dn : d.n = 65556
variable {H : Heap} {D V A : Nat} {d : Dk} {S : Nat → List UInt8} {g : Nat} {e : Ext} {b : List UInt8} {cs : List PV}
theorem Base.va (h : Base H D V A d S g e b cs) : A ≠ V := fun hh => by
  have := h.v
  rw [← hh, h.a] at this
  cases this
theorem Base.aout (h : Base H D V A d S g e b cs) : A ∉ dids D d := a_out h.dk (by rw [h.dn]; decide) h.a h.al
theorem Base.kp (h : Base H D V A d S g e b cs) {H' : Heap} {l : List Nat} (k : Kp l H H') (h1 : ∀ i ∈ dids D d, i ∉ l) (h2 : V ∉ l) (h3 : A ∉ l) : Base H' D V A d S g e b cs :=
  ⟨h.dk.kp k h1, k.get h.v ((by intro h; cases h)) h2, k.get h.a ((by intro h; cases h)) h3, h.al, h.dn⟩
theorem Base.kp0 (h : Base H D V A d S g e b cs) {H' : Heap} (k : Kp [] H H') : Base H' D V A d S g e b cs := h.kp k (fun _ _ h => by cases h) (by simp) (by simp)
/-- What is known at the loop's head. -/
structure Inv (S : Nat → List UInt8) (g : Nat) (e : Ext) (b : List UInt8) : Prop where
  ox : okx e b
  c : cnt (S (g % 2)) = (g, b)
  z : g = 0 → b = []
  l : b.length ≤ 65536
  s : smallS (stOf g b)
structure LS where
  H : Heap
  wr : Int
  Wv : AV
  S : Nat → List UInt8
  g : Nat
  e : Ext
  b : List UInt8
  cs : List PV
def LOk (D V A : Nat) (a : Nat → Nat) (i : Nat) (s : LS) : Prop := Base s.H D V A ⟨a, 65556, -1, false, s.wr, s.Wv, s.g⟩ s.S s.g s.e s.b s.cs ∧ Inv s.S s.g s.e s.b ∧ s.g ≤ i
theorem st_take {cs qs : List PV} (h1 : cs.length = 3) : cs.take 0 ++ qs ++ cs.drop (0 + 3) = qs := by
  rw [List.take_zero, List.nil_append, List.drop_of_length_le (by omega), List.append_nil]
theorem seqK_norm {R : Type} {B : Regs → Heap → (Ex → Regs → Heap → Option R) → Option R} {k : Ex → Regs → Heap → Option R} {r : Regs} {h : Heap} {Q : R → Prop} (hx : Has (B r h k) Q) : Has (seqK B k .normal r h) Q := hx
set_option maxHeartbeats 8000000 in
theorem body_ok {xl : Ext} {l : List StX} {a : Nat → Nat} {i : Nat} (hi : i < l.length) (h400 : l.length ≤ 400) {z : StX} (hz : l[i]? = some z) (hok : okZ z) (h4 : rightP z.s → z.s.hs.length ≤ 400) (s : LS) (hs : LOk D V A a i s) (r : Regs)
    (hA : Agr r [(6, .ptr D 0), (8, .ptr V 0), (10, .ptr A 0), (44, .pv (.sl xl l.length (flat stcx l))), (45, .pv (.int .i64 l.length)), (46, .pv (.int .i64 i))]) : Has (evK env (EE env) (VCode.at c3 [1, 1, 1, 1, 1, 1, 1, 0, 1, 0, 0, 1, 1, 0, 0]) Res r s.H doneK) fun x => (x.1 = .normal ∨ x.1 = .exit 3) ∧ ∃ s', LOk D V A a (i + 1) s' ∧ Agr x.2.1 [(6, .ptr D 0), (8, .ptr V 0), (10, .ptr A 0), (44, .pv (.sl xl l.length (flat stcx l))), (45, .pv (.int .i64 l.length)), (46, .pv (.int .i64 i))] ∧ x.2.2 = s'.H := by
  rw [← hA.eq]
  obtain ⟨H0, wr, Wv, S, g, e, b, cs⟩ := s
  obtain ⟨hb, hv, hg⟩ := hs
  dsimp only at hb hv hg ⊢
  have hsm : smallS z.s := hok.1
  obtain ⟨f1, f2⟩ := flat_get stcx_len hz
  -- the state itself
  refine seq_on [(6, .ptr D 0), (8, .ptr V 0), (10, .ptr A 0), (44, .pv (.sl xl l.length (flat stcx l))), (45, .pv (.int .i64 l.length)), (46, .pv (.int .i64 i)), (12, .ptr H0.length 0)] (H0 ++ [.pcells (stcx z)]) ?_ (fun r => ?_)
  · refine needK_has (by (first | rfl | (simp; done) | (simp; omega))) ?_
    refine secK_has f1 f2 ?_
    refine hgetK_last ?_
    refine needK_has rfl ?_
    refine eqK_has_eq (stcx z) rfl ?_
    refine Has.intro ⟨rfl, ⟨rfl, rfl, rfl, rfl, rfl, rfl, rfl, trivial⟩, ?_⟩
    exact hset_last _ _ _
  have hb1 := hb.kp0 (Kp.app H0 [.pcells (stcx z)])
  have hz1 : hget (H0 ++ [.pcells (stcx z)]) H0.length = .pcells (stcx z) := hget_append_same _ _
  obtain ⟨H1, hH1⟩ : ∃ H1, H1 = H0 ++ [.pcells (stcx z)] := ⟨_, rfl⟩
  rw [← hH1] at hb1 hz1 ⊢
  -- the elder state
  obtain ⟨L, x1, x2, hst⟩ := state_ok hb1.v hv.ox (by have := hv.l; omega)
  refine seq_on [(6, .ptr D 0), (8, .ptr V 0), (10, .ptr A 0), (44, .pv (.sl xl l.length (flat stcx l))), (45, .pv (.int .i64 l.length)), (46, .pv (.int .i64 i)), (12, .ptr H0.length 0), (13, .pv (.int .i64 g)), (14, .ptr (H1 ++ L).length 0)] ((H1 ++ L) ++ [.pcells (stc (stOf g b) x1 x2)]) ?_ (fun r => ?_)
  · refine callSK_has (gen_ok hb1.v) ?_
    refine callSK_has hst ?_
    refine hgetK_last ?_
    refine needK_has rfl ?_
    refine eqK_has ?_
    refine Has.intro ⟨rfl, ⟨rfl, rfl, rfl, rfl, rfl, rfl, rfl, rfl, rfl, trivial⟩, ?_⟩
    exact hset_last _ _ _
  have k2 : Kp [] H1 ((H1 ++ L) ++ [.pcells (stc (stOf g b) x1 x2)]) := (Kp.app H1 L).trans (Kp.app _ _) (by simp)
  have hb2 := hb1.kp0 k2
  have hz2 := k2.get hz1 ((by intro h; cases h)) (by simp)
  have he2 : hget ((H1 ++ L) ++ [.pcells (stc (stOf g b) x1 x2)]) (H1 ++ L).length = .pcells (stc (stOf g b) x1 x2) := hget_append_same _ _
  obtain ⟨H2, hH2⟩ : ∃ H2, H2 = (H1 ++ L) ++ [.pcells (stc (stOf g b) x1 x2)] := ⟨_, rfl⟩
  obtain ⟨E, hE⟩ : ∃ E, E = (H1 ++ L).length := ⟨_, rfl⟩
  rw [← hH2, ← hE] at he2 ⊢
  rw [← hH2] at hb2 hz2
  -- Save
  refine seq_join (fun ex r G => (ex = .exit 3 ∧ Agr r [(6, .ptr D 0), (8, .ptr V 0), (10, .ptr A 0), (44, .pv (.sl xl l.length (flat stcx l))), (45, .pv (.int .i64 l.length)), (46, .pv (.int .i64 i))] ∧ Base G D V A ⟨a, 65556, -1, false, wr, Wv, g⟩ S g e b cs) ∨
    (ex = .normal ∧ saves z.s ∧ Agr r [(6, .ptr D 0), (8, .ptr V 0), (10, .ptr A 0), (44, .pv (.sl xl l.length (flat stcx l))), (45, .pv (.int .i64 l.length)), (46, .pv (.int .i64 i)), (13, .pv (.int .i64 g)), (14, .ptr E 0)] ∧ hget G E = .pcells (stc (stOf g b) x1 x2) ∧ ∃ wr' Wv' e' S', S' = upS S ((g + 1) % 2) (W.frame (g + 1) (putB z.s) ++ (S ((g + 1) % 2)).drop (W.frame (g + 1) (putB z.s)).length) ∧ okx e' (putB z.s) ∧
      Base G D V A ⟨a, 65556, -1, false, wr', Wv', g + 1⟩ S' (g + 1) e' (putB z.s) cs)) ?_ (fun ex r G hJ => ?_)
  · refine hgetK_has _ hz2 ?_
    refine secK_has (v := stc z.s z.x z.y) rfl (of_decide_eq_true rfl) ?_
    refine callSK_has' ((save_ok hb2.dk rfl rfl (by show g ≤ 100000; omega) hb2.v (by omega) z.s z.x z.y hsm h4 false (.inl ⟨rfl, rfl⟩)).mono fun w hw => ?_)
    obtain ⟨w1, G⟩ := w
    rcases hw with ⟨_, q1, q2⟩ | ⟨p0, q1, left, wr', Wv', q2, q3, q4, q5, e', q6, q7⟩
    · dsimp only at q1 q2 ⊢
      subst q1
      refine boolK_bne_t (by decide) ?_
      exact Has.intro (.inl ⟨rfl, ⟨rfl, rfl, rfl, rfl, rfl, rfl, trivial⟩, hb2.kp0 q2⟩)
    · dsimp only at q1 q2 q3 q7 ⊢
      subst q1
      rw [q4 rfl] at q2
      refine boolK_bne_f rfl ?_
      have hEo : E ∉ V :: dids D ⟨a, 65556, -1, false, wr, Wv, g⟩ := by
        intro hm
        rcases List.mem_cons.1 hm with hm | hm
        · have := hb2.v; rw [← hm, he2] at this; cases this
        · exact a_out hb2.dk (by show 4 ≤ 65556; decide) he2 rfl hm
      have hAo : A ∉ V :: dids D ⟨a, 65556, -1, false, wr, Wv, g⟩ := by
        intro hm
        rcases List.mem_cons.1 hm with hm | hm
        · exact hb2.va hm
        · exact hb2.aout hm
      refine Has.intro (.inr ⟨rfl, p0, ⟨rfl, rfl, rfl, rfl, rfl, rfl, rfl, rfl, trivial⟩, q3.get he2 ((by intro h; cases h)) hEo, wr', Wv', e', _, rfl, q6, ?_, q7, q3.get hb2.a ((by intro h; cases h)) hAo, hb2.al, rfl⟩)
      have : (bif false then 3 else (W.frame (g + 1) (putB z.s)).length) = (W.frame (g + 1) (putB z.s)).length := rfl
      rw [this, List.take_length] at q2
      exact q2
  rcases hJ with ⟨rfl, hA1, hB1⟩ | ⟨rfl, hsv, hA1, heG, wr1, Wv1, e1, S1, hS1, ox1, hB1⟩
  · exact Has.intro ⟨.inr rfl, ⟨G, wr, Wv, S, g, e, b, cs⟩, ⟨hB1, hv, by show g ≤ i + 1; omega⟩, hA1, rfl⟩
  rw [← hA1.eq]
  refine seqK_norm ?_
  -- the elder state is kept
  have hAG := hget_lt hB1.a ((by intro h; cases h))
  refine seq_on [(6, .ptr D 0), (8, .ptr V 0), (10, .ptr A 0), (44, .pv (.sl xl l.length (flat stcx l))), (45, .pv (.int .i64 l.length)), (46, .pv (.int .i64 i)), (13, .pv (.int .i64 g))] (hset G A (.pcells (stc (stOf g b) x1 x2))) ?_ (fun r => ?_)
  · refine hgetK_has _ heG ?_
    refine secK_has (v := stc (stOf g b) x1 x2) rfl (of_decide_eq_true rfl) ?_
    refine hgetK_has _ hB1.a ?_
    refine needK_has (by rw [hB1.al]; rfl) ?_
    refine eqK_has_eq _ (st_take hB1.al) ?_
    (refine Has.intro ⟨rfl, ?_, rfl⟩; (repeat (first | exact trivial | refine ⟨rfl, ?_⟩)))
  have kA := Kp.set G A (.pcells (stc (stOf g b) x1 x2))
  have hb3 : Base (hset G A (.pcells (stc (stOf g b) x1 x2))) D V A ⟨a, 65556, -1, false, wr1, Wv1, g + 1⟩ S1 (g + 1) e1 (putB z.s) (stc (stOf g b) x1 x2) :=
    ⟨hB1.dk.kp kA (fun j hj hm => by simp at hm; subst hm; exact hB1.aout hj), kA.get hB1.v ((by intro h; cases h)) (by simp; exact fun h => hB1.va h.symm), hget_hset_same _ hAG, rfl, rfl⟩
  obtain ⟨H3, hH3⟩ : ∃ H3, H3 = hset G A (.pcells (stc (stOf g b) x1 x2)) := ⟨_, rfl⟩
  rw [← hH3] at hb3 ⊢
  -- the clone
  refine seq_st (σ := Heap × Nat × Dk) (fun s => [(6, .ptr D 0), (8, .ptr V 0), (10, .ptr A 0), (44, .pv (.sl xl l.length (flat stcx l))), (45, .pv (.int .i64 l.length)), (46, .pv (.int .i64 i)), (13, .pv (.int .i64 g)), (15, .ptr s.2.1 0)]) (fun s => s.1) (fun s => Base s.1 D V A ⟨a, 65556, -1, false, wr1, Wv1, g + 1⟩ S1 (g + 1) e1 (putB z.s) (stc (stOf g b) x1 x2) ∧ DkOK s.1 s.2.1 s.2.2 S1 ∧ s.2.2.n = 65556 ∧ s.2.2.left = -1 ∧ s.2.2.down = false ∧ s.2.2.k ≤ 100000 ∧
    ∀ j ∈ dids s.2.1 s.2.2, H3.length ≤ j) ?_ (fun s hs r => ?_)
  · refine callSK_has' ((clone_disk hb3.dk (by show 1 ≤ 65556 ∧ 65556 ≤ 262144; decide) (by show 1 ≤ g + 1 ∧ g + 1 ≤ 100000; omega)).mono fun w hw => ?_)
    obtain ⟨w1, G1⟩ := w
    obtain ⟨C, c, q1, q2, q3, q4, q5, q6, q7, q8⟩ := hw
    dsimp only at q1 q2 q3 q4 q5 q6 q7 ⊢
    subst q1
    exact Has.intro ⟨rfl, (G1, C, c), ⟨hb3.kp0 q7, q2, q3, q4, q5, by rw [q6]; omega, q8⟩, ⟨rfl, rfl, rfl, rfl, rfl, rfl, rfl, rfl, trivial⟩, rfl⟩
  obtain ⟨H4, C, c⟩ := s
  obtain ⟨hb4, hc4, n4, l4, w4, kk4, o4⟩ := hs
  dsimp only at hb4 hc4 n4 l4 w4 kk4 o4 ⊢
  have lD : ∀ j ∈ dids D ⟨a, 65556, -1, false, wr1, Wv1, g + 1⟩, j ∉ dids C c := fun j hj hm => by
    have := o4 j hm
    have := hb3.dk.ids j hj
    omega
  have lV : V ∉ dids C c := fun hm => by have := o4 V hm; have := hget_lt hb3.v ((by intro h; cases h)); omega
  have lA : A ∉ dids C c := fun hm => by have := o4 A hm; have := hget_lt hb3.a ((by intro h; cases h)); omega
  -- it is spoilt
  obtain ⟨S2, hS2⟩ : ∃ S2, S2 = upS S1 ((g + 1) % 2) (([0] : List UInt8).take 1 ++ (S1 ((g + 1) % 2)).drop 1) := ⟨_, rfl⟩
  refine seq_st (σ := Heap × Dk) (fun s => [(6, .ptr D 0), (8, .ptr V 0), (10, .ptr A 0), (44, .pv (.sl xl l.length (flat stcx l))), (45, .pv (.int .i64 l.length)), (46, .pv (.int .i64 i)), (13, .pv (.int .i64 g)), (15, .ptr C 0)]) (fun s => s.1) (fun s => Base s.1 D V A ⟨a, 65556, -1, false, wr1, Wv1, g + 1⟩ S1 (g + 1) e1 (putB z.s) (stc (stOf g b) x1 x2) ∧ DkOK s.1 C s.2 S2 ∧ s.2.n = 65556 ∧ s.2.down = false) ?_ (fun s hs r => ?_)
  · refine callSK_has (gen_ok hb4.v) ?_
    refine callPK_has (slot_fn (g + 1)) ?_
    refine callSK_has' ((write_ok hc4 (by rw [n4]; decide) ((g + 1) % 2) (by omega) w4 .nnx (.inr rfl) [0] (by rw [n4]; decide) kk4 1 false (.inl ⟨l4, rfl, rfl⟩)).mono fun w hw => ?_)
    obtain ⟨w1, G1⟩ := w
    obtain ⟨q1, left, wr2, Wv2, q2, q3, q4, q5⟩ := hw
    dsimp only at q1 q2 q3 ⊢
    subst q1
    rw [← hS2] at q2
    exact Has.intro ⟨rfl, (G1, _), ⟨hb4.kp q3 lD lV lA, q2, n4, rfl⟩, ⟨rfl, rfl, rfl, rfl, rfl, rfl, rfl, rfl, trivial⟩, rfl⟩
  obtain ⟨H5, c5⟩ := s
  obtain ⟨hb5, hc5, n5, w5⟩ := hs
  dsimp only at hb5 hc5 n5 w5 ⊢
  have hne : (g % 2) ≠ (g + 1) % 2 := by omega
  have e20 : S2 (g % 2) = S (g % 2) := by rw [hS2, hS1]; simp [upS, hne]
  have e21 : S2 ((g + 1) % 2) = ([0] : List UInt8).take 1 ++ (S1 ((g + 1) % 2)).drop 1 := by rw [hS2]; simp [upS]
  have hlen21 : (S2 ((g + 1) % 2)).length = 65556 := by rw [← n5]; exact (hc5.row _ (by omega)).2
  have acc5 : acc S2 2 = (g, b) := acc_par (by rw [e20]; exact hv.c) (cnt_no (by omega) (by rw [e21]; exact spoil_no _)) hv.z
  -- it is opened
  refine seq_st (σ := Heap × Nat × Ext) (fun s => [(6, .ptr D 0), (8, .ptr V 0), (10, .ptr A 0), (44, .pv (.sl xl l.length (flat stcx l))), (45, .pv (.int .i64 l.length)), (46, .pv (.int .i64 i)), (13, .pv (.int .i64 g)), (16, .ptr s.2.1 0), (17, .pv (.int .i64 0))]) (fun s => s.1) (fun s => Base s.1 D V A ⟨a, 65556, -1, false, wr1, Wv1, g + 1⟩ S1 (g + 1) e1 (putB z.s) (stc (stOf g b) x1 x2) ∧ hget s.1 s.2.1 = vobj C g s.2.2 b ∧ okx s.2.2 b) ?_ (fun s hs r => ?_)
  · refine callSK_has' ((open_ok hc5 n5 w5).mono fun w hw => ?_)
    obtain ⟨w1, G1⟩ := w
    obtain ⟨V', e', q1, q2, q3, q4, q5⟩ := hw
    dsimp only at q1 q3 q5
    subst q1
    rw [acc5] at q3 q4
    exact Has.intro ⟨rfl, (G1, V', e'), ⟨hb5.kp0 q5, q3, q4⟩, ⟨rfl, rfl, rfl, rfl, rfl, rfl, rfl, rfl, rfl, trivial⟩, rfl⟩
  obtain ⟨H6, V6, e6⟩ := s
  obtain ⟨hb6, hw6, ox6⟩ := hs
  dsimp only at hb6 hw6 ox6 ⊢
  obtain ⟨L6, y1, y2, hst6⟩ := state_ok hw6 ox6 (by have := hv.l; omega)
  have ha7 : hget (H6 ++ L6) A = .pcells (stc (stOf g b) x1 x2) := (hget_app _ (hget_lt hb6.a ((by intro h; cases h)))).trans hb6.a
  refine boolK_bne_f rfl ?_
  refine callSK_has (gen_ok hb6.v) ?_
  refine eqK_has_eq ((g + 1 : Nat) : Int) (i64_succ (by omega)) ?_
  refine boolK_bne_f rfl ?_
  refine callSK_has (gen_ok hw6) ?_
  refine boolK_bne_f rfl ?_
  refine callSK_has hst6 ?_
  refine hgetK_has _ ha7 ?_
  refine secK_has (v := stc (stOf g b) x1 x2) rfl (of_decide_eq_true rfl) ?_
  refine callPK_has ((rsameS_ok (stOf g b) (stOf g b) y1 y2 x1 x2 hv.s hv.s).trans (by rw [decide_eq_true (same_refl _)])) ?_
  refine sameK_has (by rw [hb6.a, ha7]) (by rw [hb6.a]; rfl) ?_
  have hinv : Inv S1 (g + 1) e1 (putB z.s) := by
    refine ⟨ox1, ?_, (fun hh => by omega), hsv.2.2, ?_⟩
    · rw [hS1]
      simp only [upS, if_true]
      exact cnt_frame hsv hsm.2.2.2 (by omega) (by omega) _
    · rw [st_frame hsv hsm.2.2.2 (by omega)]
      exact small_norm hsm
  exact Has.intro ⟨.inl rfl, ⟨H6 ++ L6, wr1, Wv1, S1, g + 1, e1, putB z.s, stc (stOf g b) x1 x2⟩, ⟨hb6.kp0 (Kp.app _ _), hinv, by show g + 1 ≤ i + 1; omega⟩, ⟨rfl, rfl, rfl, rfl, rfl, rfl, trivial⟩, rfl⟩
end Go.Proofs.Ytflfdglnelbbiaa.Di

namespace Go.Proofs.Ytflfdglnelbbiaa.Di
open Go Go.VM

theorem block_one {R : Type} {Q : R → Prop} {env : Env} {E : Orc} {id : Nat} {c : VCode} {r : Regs} {h : Heap} {k : Ex → Regs → Heap → Option R} (hx : Has (evK env E c R r h (blockK id k)) Q) : Has (evK env E (.block id c) R r h k) Q := hx
set_option maxHeartbeats 4000000 in
theorem round_ok {D V A : Nat} {xl : Ext} {l : List StX} {a : Nat → Nat} {i : Nat} (hi : i < l.length) (h400 : l.length ≤ 400) {z : StX} (hz : l[i]? = some z) (hok : okZ z) (h4 : rightP z.s → z.s.hs.length ≤ 400) (s : LS) (hs : LOk D V A a i s) (r : Regs) :
    Has (evK env (EE env) (VCode.at c3 [1, 1, 1, 1, 1, 1, 1, 0, 1, 0, 0]) Res (setL r [(6, .ptr D 0), (8, .ptr V 0), (10, .ptr A 0), (44, .pv (.sl xl l.length (flat stcx l))), (45, .pv (.int .i64 l.length)), (46, .pv (.int .i64 i))]) s.H doneK) fun x => x.1 = .normal ∧ ∃ s', LOk D V A a (i + 1) s' ∧ Agr x.2.1 [(6, .ptr D 0), (8, .ptr V 0), (10, .ptr A 0), (44, .pv (.sl xl l.length (flat stcx l))), (45, .pv (.int .i64 l.length)), (46, .pv (.int .i64 (i + 1 : Nat)))] ∧ x.2.2 = s'.H := by
  refine seq_on [(6, .ptr D 0), (8, .ptr V 0), (10, .ptr A 0), (44, .pv (.sl xl l.length (flat stcx l))), (45, .pv (.int .i64 l.length)), (46, .pv (.int .i64 i)), (47, .pv (.bool true))] s.H ?_ (fun r => ?_)
  · refine boolK_dec_t (by omega) ?_
    (refine Has.intro ⟨rfl, ?_, rfl⟩; (repeat (first | exact trivial | refine ⟨rfl, ?_⟩)))
  refine seq_on [(6, .ptr D 0), (8, .ptr V 0), (10, .ptr A 0), (44, .pv (.sl xl l.length (flat stcx l))), (45, .pv (.int .i64 l.length)), (46, .pv (.int .i64 i))] s.H (by (refine Has.intro ⟨rfl, ?_, rfl⟩; (repeat (first | exact trivial | refine ⟨rfl, ?_⟩)))) (fun r => ?_)
  refine seq_join (fun ex r G => ex = .normal ∧ ∃ s', LOk D V A a (i + 1) s' ∧ Agr r [(6, .ptr D 0), (8, .ptr V 0), (10, .ptr A 0), (44, .pv (.sl xl l.length (flat stcx l))), (45, .pv (.int .i64 l.length)), (46, .pv (.int .i64 i))] ∧ G = s'.H) ?_ (fun ex r G hJ => ?_)
  · refine block_one ?_
    refine evK_split ((body_ok hi h400 hz hok h4 s hs _ ⟨rfl, rfl, rfl, rfl, rfl, rfl, trivial⟩).mono fun x hx => ?_)
    obtain ⟨ex, r', G'⟩ := x
    obtain ⟨hex, hx⟩ := hx
    dsimp only at hex
    rcases hex with rfl | rfl
    · exact Has.intro ⟨rfl, hx⟩
    · exact Has.intro ⟨rfl, hx⟩
  obtain ⟨rfl, s', h1, h2, rfl⟩ := hJ
  rw [← h2.eq]
  refine seqK_norm ?_
  refine eqK_has_eq ((i + 1 : Nat) : Int) (i64_succ (by omega)) ?_
  exact Has.intro ⟨rfl, s', h1, ⟨rfl, rfl, rfl, rfl, rfl, rfl, trivial⟩, rfl⟩
set_option maxHeartbeats 8000000 in
theorem elder_law (ps : List PV) (h : HasArgsB Bk [.sl 3 TSt] ps) : ∃ H', EE env (.fn 3) (ps.map .pv) [] = some (.pv (.bool true), H') := by
  obtain ⟨p, _, rfl, h1, rfl⟩ := h
  obtain ⟨xl, l, rfl, hl, hok⟩ := arg_sts h1
  have hl' : l.length ≤ 1048576 := hl
  obtain ⟨P, hP⟩ : ∃ P, P = AV.pv (.sl xl l.length (flat stcx l)) := ⟨_, rfl⟩
  refine law_end (EE_has (fn_has rfl ?_))
  refine seq_on [(0, P)] [] (by rw [hP]; (refine Has.intro ⟨rfl, ?_, rfl⟩; (repeat (first | exact trivial | refine ⟨rfl, ?_⟩)))) (fun r => ?_)
  refine seq_on [(0, P)] [] ?_ (fun r => ?_)
  · refine callPK_has first_ok ?_
    exact Has.intro ⟨rfl, ⟨rfl, trivial⟩, rfl⟩
  refine seq_on [(0, P), (3, .pv (.int .i64 0))] [] (by (refine Has.intro ⟨rfl, ?_, rfl⟩; (repeat (first | exact trivial | refine ⟨rfl, ?_⟩)))) (fun r => ?_)
  refine seq_join (fun ex r G => (ex = .ret ∧ Agr r [(2, .pv (.bool true))]) ∨ (ex = .normal ∧ Agr r [(0, P)] ∧ l.length ≤ 400 ∧ ∀ z ∈ l, rightP z.s → z.s.hs.length ≤ 400)) ?_ (fun ex r G hJ => ?_)
  · rw [hP]
    refine loopK_has ?_
    refine iterE_loopJ (σ := Nat × Int) (fun t => l.length - t.1) (fun t => [(0, .pv (.sl xl l.length (flat stcx l))), (3, .pv (.int .i64 t.2)), (20, .pv (.sl xl l.length (flat stcx l))), (21, .pv (.int .i64 l.length)), (22, .pv (.int .i64 t.1))]) (fun _ => [])
      (fun t => t.1 ≤ l.length ∧ 20 * (t.1 : Int) ≤ t.2 ∧ t.2 ≤ 8000 ∧ ∀ j z, j < t.1 → l[j]? = some z → rightP z.s → z.s.hs.length ≤ 400) (fun ⟨i, n⟩ ⟨hi, hn0, hn1, hq⟩ r J => ?_) (0, 0) ⟨Nat.zero_le _, by dsimp only; omega, by dsimp only; omega, fun j z hj => by dsimp only at hj; omega⟩ [] ⟨rfl, rfl, rfl, rfl, rfl, trivial⟩ rfl
    dsimp only at hi hn0 hn1 hq ⊢
    refine boolK_dec (fun hc => ?_) (fun hc => ?_)
    · have hlt : i < l.length := by omega
      obtain ⟨z, hz⟩ : ∃ z, l[i]? = some z := ⟨_, List.getElem?_eq_getElem hlt⟩
      obtain ⟨o1, o2, o3⟩ := hok z (List.mem_of_getElem? hz)
      obtain ⟨f1, f2⟩ := flat_get stcx_len hz
      obtain ⟨m, e1, m1, m2, m3⟩ := great_bd z.s z.x z.y o1 o2 o3
      refine needK_has (by (first | rfl | (simp; done) | (simp; omega))) ?_
      refine secK_has f1 f2 ?_
      refine hgetK_last ?_
      refine needK_has rfl ?_
      refine eqK_has_eq (stcx z) rfl ?_
      rw [hset_last]
      refine hgetK_last ?_
      refine secK_has (v := stc z.s z.x z.y) rfl (of_decide_eq_true rfl) ?_
      refine callPK_has e1 ?_
      refine eqK_has_eq (20 + m) (wrap_i64 (by omega) (by omega)) ?_
      refine eqK_has_eq (n + (20 + m)) (wrap_i64 (by omega) (by omega)) ?_
      refine boolK_dec (fun hg => ?_) (fun hg => ?_)
      · exact Has.intro (Has.intro (.inl ⟨rfl, ⟨rfl, trivial⟩⟩))
      · refine eqK_has_eq _ (i64_succ (by omega)) ?_
        refine Has.intro ⟨(i + 1, n + (20 + m)), ⟨by dsimp only; omega, by dsimp only; omega, by dsimp only; omega, fun j z' hj hz' hr => ?_⟩, (by dsimp only; omega), ⟨rfl, rfl, rfl, rfl, rfl, trivial⟩, _, List.append_assoc _ _ _⟩
        dsimp only at hj
        rcases Nat.lt_or_ge j i with hji | hji
        · exact hq j z' hji hz' hr
        · have : j = i := by omega
          subst this
          rw [hz] at hz'
          injection hz' with hz'
          subst hz'
          exact m1 hr (by omega)
    · have : i = l.length := by omega
      subst this
      refine Has.intro (Has.intro (.inr ⟨rfl, ⟨rfl, trivial⟩, by omega, fun z hz hr => ?_⟩))
      obtain ⟨j, hj⟩ := List.getElem?_of_mem hz
      exact hq j z (List.getElem?_eq_some_iff.1 hj).1 hj hr
  rcases hJ with ⟨rfl, hA⟩ | ⟨rfl, hA, h400, hq⟩
  · rw [← hA.eq]
    exact Has.intro rfl
  rw [← hA.eq]
  refine seqK_norm ?_
  obtain ⟨H1, Z, a, hZ, hZ4, hnew, d1, _⟩ := new_room G
  obtain ⟨D, hD⟩ : ∃ D, D = G.length + 2 := ⟨_, rfl⟩
  rw [← hD] at hnew d1
  refine seq_on [(0, P), (6, .ptr D 0)] H1 ?_ (fun r => ?_)
  · refine callSK_has hnew ?_
    (refine Has.intro ⟨rfl, ?_, rfl⟩; (repeat (first | exact trivial | refine ⟨rfl, ?_⟩)))
  have cz : cnt Z = (0, []) := cnt_no (by omega) (by rw [hZ4]; decide)
  have az : acc (fun _ => Z) 2 = (0, []) := acc_no cz cz
  refine seq_st (σ := Heap × Nat × Ext) (fun s => [(0, P), (6, .ptr D 0), (8, .ptr s.2.1 0)]) (fun s => s.1) (fun s => DkOK s.1 D ⟨a, 65556, -1, false, 0, .pv (.sl .nil 0 []), 0⟩ (fun _ => Z) ∧ hget s.1 s.2.1 = vobj D 0 s.2.2 [] ∧ okx s.2.2 []) ?_ (fun s hs r => ?_)
  · refine callSK_has' ((open_ok d1 rfl rfl).mono fun y hy => ?_)
    obtain ⟨v, G⟩ := y
    obtain ⟨V, e, q1, q2, q3, q4, q5⟩ := hy
    dsimp only at q1 q3 q5
    subst q1
    rw [az] at q3 q4
    exact Has.intro ⟨rfl, (G, V, e), ⟨d1.kp q5 (fun _ _ h => by cases h), q3, q4⟩, ⟨rfl, rfl, rfl, trivial⟩, rfl⟩
  obtain ⟨H2, V, e⟩ := s
  obtain ⟨d2, v2, x2⟩ := hs
  dsimp only at d2 v2 x2 ⊢
  refine seq_on [(0, P), (6, .ptr D 0), (8, .ptr V 0), (10, .ptr H2.length 0)] (H2 ++ [.pcells (stc s0 .nil .nil)]) ?_ (fun r => ?_)
  · refine hgetK_last ?_
    refine needK_has rfl ?_
    refine eqK_has ?_
    refine Has.intro ⟨rfl, ⟨rfl, rfl, rfl, rfl, trivial⟩, ?_⟩
    exact hset_last _ _ _
  have k3 := Kp.app H2 [HObj.pcells (stc s0 .nil .nil)]
  have b3 : Base (H2 ++ [.pcells (stc s0 .nil .nil)]) D V H2.length ⟨a, 65556, -1, false, 0, .pv (.sl .nil 0 []), 0⟩ (fun _ => Z) 0 e [] (stc s0 .nil .nil) :=
    ⟨d2.kp k3 (fun _ _ h => by cases h), k3.get v2 ((by intro h; cases h)) (by simp), hget_append_same _ _, rfl, rfl⟩
  refine seq_join (fun ex _ _ => ex = .normal) ?_ (fun ex r G hJ => ?_)
  · rw [hP]
    refine loopK_has ?_
    refine iterE_loop (σ := Nat × LS) (fun t => l.length - t.1) (fun t => [(6, .ptr D 0), (8, .ptr V 0), (10, .ptr H2.length 0), (44, .pv (.sl xl l.length (flat stcx l))), (45, .pv (.int .i64 l.length)), (46, .pv (.int .i64 t.1))]) (fun t => t.2.H)
      (fun t => t.1 ≤ l.length ∧ LOk D V H2.length a t.1 t.2) (fun ⟨i, s⟩ ⟨hi, hs⟩ r => ?_) (0, ⟨H2 ++ [.pcells (stc s0 .nil .nil)], 0, .pv (.sl .nil 0 []), fun _ => Z, 0, e, [], stc s0 .nil .nil⟩) ⟨Nat.zero_le _, b3, ⟨x2, cz, fun _ => rfl, Nat.zero_le _, small_s0⟩, Nat.le_refl _⟩ ⟨rfl, rfl, rfl, rfl, rfl, rfl, trivial⟩ rfl
    dsimp only at hi hs ⊢
    rcases Nat.lt_or_ge i l.length with hlt | hge
    · obtain ⟨z, hz⟩ : ∃ z, l[i]? = some z := ⟨_, List.getElem?_eq_getElem hlt⟩
      have hzm := List.mem_of_getElem? hz
      refine (round_ok hlt h400 hz (hok z hzm) (hq z hzm) s hs r).mono fun x hx => ?_
      obtain ⟨ex, r', G'⟩ := x
      obtain ⟨rfl, s', hs', hA', hG'⟩ := hx
      exact ⟨(i + 1, s'), ⟨hlt, hs'⟩, (by dsimp only; omega), hA', hG'⟩
    · refine boolK_dec_f (by omega) ?_
      exact Has.intro (Has.intro rfl)
  subst hJ
  exact Has.intro rfl
end Go.Proofs.Ytflfdglnelbbiaa.Di
