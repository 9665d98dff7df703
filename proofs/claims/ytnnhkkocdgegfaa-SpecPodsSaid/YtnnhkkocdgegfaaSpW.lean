/-
  What a resize is.
-/
import Derived.Test.YtnnhkkocdgegfaaSpV
set_option linter.all false
set_option linter.unusedVariables false
set_option linter.unusedSimpArgs false
set_option linter.unusedSectionVars false
namespace Go.Proofs.Ytnnhkkocdgegfaa
open Go Go.VM

structure Ch where
  name : List UInt8
  rq : Vc
  lm : Vc
def chv (c : Ch) : List PV := [sv c.name, .int .i64 c.rq.c, .int .i64 c.rq.m, .int .i64 c.rq.h, .int .i64 c.lm.c, .int .i64 c.lm.m, .int .i64 c.lm.h]
theorem chv_len (c : Ch) : (chv c).length = 7 := rfl
def pz : Pd := ⟨[], 0, 0, []⟩
def wl (p : Pd) (L : List Ct) : Pd := ⟨p.name, p.prio, p.pol, L⟩
def giveC (c : Ct) (x : Ch) : Ct := ⟨c.name, x.rq, x.lm, c.r0, c.r1, c.r2⟩
def putc (L : List Ct) (k : Nat) (x : Ch) : List Ct := match L[k]? with
  | some c => L.set k (giveC c x)
  | none => L
def gv (l0 : List Ct) (x : Ch) : Bool := match l0[(findI x.name l0).toNat]? with
  | some d => givenB d.lm x.lm
  | none => false
def rzF (l0 : List Ct) : List Ch → List Ch → List Ct → Int × List Ct
  | _, [], L => (0, L)
  | done, x :: xs, L => if findI x.name l0 < 0 then (21, []) else if done.any (fun y => decide (y.name = x.name)) = true then (22, []) else if gv l0 x = true then (28, [])
    else rzF l0 (done ++ [x]) xs (putc L (findI x.name l0).toNat x)
noncomputable def rzQ (p : Pd) (r : Int × List Ct) : Int × Pd :=
  if r.1 ≠ 0 then (r.1, pz) else if ¬ podP (wl p r.2) then (2, pz) else if classI r.2 ≠ classI p.l then (28, pz) else (0, wl p r.2)
/-- What a resize answers: the error, and the pod. -/
noncomputable def rzP (p : Pd) (l : List Ch) : Int × Pd := if podP p ∧ l ≠ [] then rzQ p (rzF p.l [] l p.l) else (2, pz)
theorem rzF_step {l0 : List Ct} {l : List Ch} {i : Nat} {x : Ch} {L : List Ct} (h : l[i]? = some x) : rzF l0 (l.take i) (l.drop i) L =
    if findI x.name l0 < 0 then (21, []) else if (l.take i).any (fun y => decide (y.name = x.name)) = true then (22, []) else if gv l0 x = true then (28, [])
    else rzF l0 (l.take (i + 1)) (l.drop (i + 1)) (putc L (findI x.name l0).toNat x) := by
  rw [drop_of h, rzF, List.take_add_one, h]; rfl
theorem rzF_end {l0 : List Ct} {l : List Ch} {L : List Ct} : rzF l0 (l.take l.length) (l.drop l.length) L = (0, L) := by
  rw [List.drop_length]; cases l.take l.length <;> rfl
theorem putc_some {L : List Ct} {k : Nat} {x : Ch} {c : Ct} (h : L[k]? = some c) : putc L k x = L.set k (giveC c x) := by unfold putc; rw [h]
theorem putc_names (L : List Ct) (k : Nat) (x : Ch) : (putc L k x).map Ct.name = L.map Ct.name := by
  unfold putc
  split
  · rename_i c h
    rw [List.map_set]
    exact set_same (by rw [List.getElem?_map, h]; rfl)
  · rfl
theorem names_len {L l : List Ct} (h : L.map Ct.name = l.map Ct.name) : L.length = l.length := by
  have := congrArg List.length h
  simpa using this
theorem names_small {p : Pd} {L : List Ct} (hs : small p) (h : L.map Ct.name = p.l.map Ct.name) : small (wl p L) := by
  refine ⟨hs.1, ?_, fun c hc => ?_⟩
  · show L.length ≤ maxLen
    rw [names_len h]; exact hs.2.1
  · have : c.name ∈ L.map Ct.name := List.mem_map_of_mem hc
    rw [h] at this
    obtain ⟨d, hd, e⟩ := List.mem_map.1 this
    rw [← e]; exact hs.2.2 d hd
theorem findI_inj {l0 : List Ct} {a b : List UInt8} {k : Nat} (h : findI a l0 = (k : Int)) : findI b l0 = (k : Int) ↔ b = a := by
  constructor
  · intro hb
    obtain ⟨i, d, h1, h2, h3⟩ := findI_ge (name := a) (l := l0) (by omega)
    obtain ⟨j, e, g1, g2, g3⟩ := findI_ge (name := b) (l := l0) (by omega)
    have : i = j := by omega
    subst this
    rw [h2] at g2; injection g2 with g2; subst g2
    rw [← g3, h3]
  · rintro rfl; exact h
def seenB (l0 : List Ct) (done : List Ch) (k : Nat) : Bool := done.any fun y => findI y.name l0 == (k : Int)
theorem seenB_at {l0 : List Ct} {done : List Ch} {x : Ch} {k : Nat} (h : findI x.name l0 = (k : Int)) : seenB l0 done k = done.any (fun y => decide (y.name = x.name)) := by
  unfold seenB
  congr 1
  funext y
  rw [Bool.eq_iff_iff, beq_iff_eq, decide_eq_true_iff]
  exact findI_inj h
def sb (f : Nat → Bool) : List PV := [.bool (f 0), .bool (f 1), .bool (f 2), .bool (f 3), .bool (f 4), .bool (f 5)]
theorem sb_get (f : Nat → Bool) {k : Nat} (h : k < 6) : (sb f)[k]? = some (.bool (f k)) := by
  have : k = 0 ∨ k = 1 ∨ k = 2 ∨ k = 3 ∨ k = 4 ∨ k = 5 := by omega
  rcases this with rfl | rfl | rfl | rfl | rfl | rfl <;> rfl
theorem sb_set {l0 : List Ct} {l : List Ch} {i : Nat} {x : Ch} {k : Nat} (hx : l[i]? = some x) (h : findI x.name l0 = (k : Int)) (hk : k < 6) : (sb (seenB l0 (l.take i))).set k (.bool true) = sb (seenB l0 (l.take (i + 1))) := by
  have hs (j : Nat) : seenB l0 (l.take (i + 1)) j = (seenB l0 (l.take i) j || (k == j)) := by
    unfold seenB
    rw [List.take_add_one, hx]
    simp only [Option.toList, List.any_append, List.any_cons, List.any_nil, Bool.or_false, h]
    congr 1
    rw [Bool.eq_iff_iff, beq_iff_eq, beq_iff_eq]; omega
  unfold sb
  simp only [hs]
  have : k = 0 ∨ k = 1 ∨ k = 2 ∨ k = 3 ∨ k = 4 ∨ k = 5 := by omega
  rcases this with rfl | rfl | rfl | rfl | rfl | rfl <;> simp
theorem flat_splice {α : Type} {f : α → List PV} {es : Nat} (hf : ∀ a, (f a).length = es) {q : List PV} {j n : Nat} (hj : j + n ≤ es) (hq : q.length = n) (hn : 0 < n) : ∀ {l : List α} {i : Nat} {a a' : α}, l[i]? = some a → (f a).take j ++ q ++ (f a).drop (j + n) = f a' →
    (flat f l).take (i * es + j) ++ q ++ (flat f l).drop (i * es + j + n) = flat f (l.set i a') := by
  intro l
  induction l with
  | nil => intro i a a' h; cases h
  | cons b l ih =>
    intro i a a' h e
    have hc : ∀ (b : α) (l : List α), flat f (b :: l) = f b ++ flat f l := fun b l => by simp [flat]
    cases i with
    | zero =>
      injection h with h; subst h
      rw [List.set_cons_zero, hc, hc, ← e, Nat.zero_mul, Nat.zero_add, List.take_append_of_le_length (by rw [hf]; omega), List.drop_append_of_le_length (by rw [hf]; omega)]
      simp only [List.append_assoc]
    | succ i =>
      rw [List.getElem?_cons_succ] at h
      have e1 : (i + 1) * es + j = es + (i * es + j) := by rw [Nat.succ_mul]; omega
      rw [List.set_cons_succ, hc, hc, ← ih h e, e1]
      have e2 : es + (i * es + j) = (f b).length + (i * es + j) := by rw [hf]
      have e3 : es + (i * es + j) + n = (f b).length + (i * es + j + n) := by rw [hf]; omega
      rw [e3, e2, List.take_length_add_append, List.drop_length_add_append]
      simp only [List.append_assoc]
theorem out_pd {G : Heap} {p : Pd} {id cap : Nat} {w : PV} (h : hget G id = .pcells (flat ct p.l)) : out G (.tup [.agg (pdh p id cap), .pv w]) = some (.tup [.agg (pdc p .nn), w]) := by
  have hl : (flat ct p.l).length = p.l.length * 10 := flat_len ct_len _
  have h1 : out1 G (.hs 10 id 0 p.l.length cap) = some (.sl .nn p.l.length (flat ct p.l)) := by
    unfold out1
    simp only [h, hl, Nat.zero_add, List.drop_zero]
    rw [Nat.ble_self_eq_true, List.take_of_length_le (by omega)]; rfl
  unfold out outs out2 pdh outL outL outL outL outs
  simp only [h1]
  rfl
end Go.Proofs.Ytnnhkkocdgegfaa
