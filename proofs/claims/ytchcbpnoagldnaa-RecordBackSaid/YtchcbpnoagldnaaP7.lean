/-
  Part 7 of the functions and the law.
  RecordTells, RecordBack in the abstract machine.
  RecordBack in the abstract machine.
-/
import Derived.Test.YtchcbpnoagldnaaP6
set_option linter.all false
set_option linter.unusedVariables false
set_option linter.unusedSimpArgs false
set_option linter.unusedSectionVars false
namespace Go.Proofs.Ytchcbpnoagldnaa
open Go Go.VM

abbrev TV : Ty := .st [(1, .int .i64), (1, .int .i64), (1, .int .i64)]
abbrev TCt : Ty := .st [(1, .str), (3, TV), (3, TV), (3, .arr 3 1 .bool)]
abbrev TPd : Ty := .st [(1, .str), (1, .int .i64), (1, .int .i64), (1, .sl 10 TCt)]
abbrev TEn : Ty := .st [(4, TPd), (4, TPd), (1, .int .i64), (1, .int .i64)]
abbrev TOw : Ty := .st [(1, .str), (1, .str), (1, .int .i64)]
abbrev THo : Ty := .st [(3, TOw), (8, .arr 8 1 (.int .i64))]
abbrev TSt : Ty := .st [(1, .int .i64), (1, .sl 10 TEn), (1, .sl 11 THo)]
theorem dec_str (s : ByteArray) : ∃ l : List UInt8, PV.str s = sv l ∧ l.length = s.size := ⟨s.data.toList, rfl, rfl⟩
theorem dec_v {cs : List PV} (h : HasTy TV cs) : ∃ v, cs = vc v := by
  obtain ⟨_, _, rfl, _, ⟨a, rfl, _⟩, _, _, rfl, _, ⟨b, rfl, _⟩, _, _, rfl, _, ⟨c, rfl, _⟩, rfl⟩ := h
  exact ⟨⟨a, b, c⟩, rfl⟩
theorem dec_ct {cs : List PV} (h : HasTy TCt cs) : ∃ c, cs = ct c ∧ c.name.length ≤ maxLen := by
  obtain ⟨_, _, rfl, _, ⟨s, rfl, hs⟩, _, _, rfl, _, hv, _, _, rfl, _, hw, _, _, rfl, _, ⟨_, _, rfl, _, ⟨a, rfl⟩, _, _, rfl, _, ⟨b, rfl⟩, _, _, rfl, _, ⟨c, rfl⟩, rfl⟩, rfl⟩ := h
  obtain ⟨v, rfl⟩ := dec_v hv
  obtain ⟨w, rfl⟩ := dec_v hw
  obtain ⟨l, h1, h2⟩ := dec_str s
  rw [h1]
  exact ⟨⟨l, v, w, a, b, c⟩, rfl, by show l.length ≤ _; omega⟩
theorem els_dec {α : Type} {f : α → List PV} {P : α → Prop} {T : Ty} {es : Nat} (hd : ∀ cs, HasTy T cs → ∃ a, cs = f a ∧ P a) : ∀ (n : Nat) (cs : List PV), Els (HasTy T) es n cs → ∃ l : List α, l.length = n ∧ cs = flat f l ∧ ∀ a ∈ l, P a := by
  intro n
  induction n with
  | zero => intro cs h; exact ⟨[], rfl, h, fun a ha => by cases ha⟩
  | succ n ih =>
    intro cs h
    obtain ⟨x, y, rfl, _, h1, h2⟩ := h
    obtain ⟨a, rfl, ha⟩ := hd _ h1
    obtain ⟨l, rfl, rfl, hl⟩ := ih _ h2
    refine ⟨a :: l, rfl, by simp [flat], fun b hb => ?_⟩
    rcases List.mem_cons.1 hb with rfl | hb
    · exact ha
    · exact hl b hb
theorem dec_pd {cs : List PV} (h : HasTy TPd cs) : ∃ q x, cs = pdc q x ∧ small q := by
  obtain ⟨_, _, rfl, _, ⟨s, rfl, hs⟩, _, _, rfl, _, ⟨a, rfl, _⟩, _, _, rfl, _, ⟨b, rfl, _⟩, _, _, rfl, _, ⟨x, n, cells, rfl, _, hn, he⟩, rfl⟩ := h
  obtain ⟨l, h1, h2⟩ := dec_str s
  obtain ⟨cs, rfl, rfl, hc⟩ := els_dec (fun _ h => dec_ct h) n cells he
  rw [h1]
  exact ⟨⟨l, a, b, cs⟩, x, rfl, by show l.length ≤ _; omega, hn, hc⟩
theorem dec_en {cs : List PV} (h : HasTy TEn cs) : ∃ e, cs = en e ∧ smallE e := by
  obtain ⟨_, _, rfl, _, hp, _, _, rfl, _, hq, _, _, rfl, _, ⟨a, rfl, _⟩, _, _, rfl, _, ⟨b, rfl, _⟩, rfl⟩ := h
  obtain ⟨p, x, rfl, h1⟩ := dec_pd hp
  obtain ⟨q, y, rfl, h2⟩ := dec_pd hq
  exact ⟨⟨p, q, x, y, a, b⟩, rfl, h1, h2⟩
theorem dec_ho {cs : List PV} (h : HasTy THo cs) : ∃ e, cs = hoc e ∧ e.sp.length = 8 := by
  obtain ⟨_, _, rfl, _, ⟨_, _, rfl, _, ⟨s, rfl, _⟩, _, _, rfl, _, ⟨t, rfl, _⟩, _, _, rfl, _, ⟨k, rfl, _⟩, rfl⟩, _, _, rfl, _,
    ⟨_, _, rfl, _, ⟨a0, rfl, _⟩, _, _, rfl, _, ⟨a1, rfl, _⟩, _, _, rfl, _, ⟨a2, rfl, _⟩, _, _, rfl, _, ⟨a3, rfl, _⟩, _, _, rfl, _, ⟨a4, rfl, _⟩, _, _, rfl, _, ⟨a5, rfl, _⟩, _, _, rfl, _, ⟨a6, rfl, _⟩, _, _, rfl, _, ⟨a7, rfl, _⟩, rfl⟩, rfl⟩ := h
  obtain ⟨l, h1, h2⟩ := dec_str s
  obtain ⟨m, h3, h4⟩ := dec_str t
  rw [h1, h3]
  exact ⟨⟨⟨l, m, k⟩, [a0, a1, a2, a3, a4, a5, a6, a7]⟩, rfl, rfl⟩
theorem arg_st {p : PV} (h : HasArg TSt p) : ∃ s x y, p = .agg (stc s x y) ∧ smallS s := by
  obtain ⟨ps, rfl, _, _, rfl, _, ⟨n, rfl, _⟩, _, _, rfl, _, ⟨x, k, cells, rfl, _, hk, he⟩, _, _, rfl, _, ⟨y, m, cells2, rfl, _, hm, hf⟩, rfl⟩ := h
  obtain ⟨es, rfl, rfl, h1⟩ := els_dec (fun _ h => dec_en h) k cells he
  obtain ⟨hs, rfl, rfl, h2⟩ := els_dec (fun _ h => dec_ho h) m cells2 hf
  exact ⟨⟨n, es, hs⟩, x, y, rfl, hk, hm, h1, h2⟩
theorem arg_str {p : PV} (h : HasArg .str p) : ∃ l, p = sv l ∧ l.length ≤ maxLen := by
  obtain ⟨s, h1, h2⟩ := h
  injection h1 with h1
  obtain ⟨l, h3, h4⟩ := dec_str s
  exact ⟨l, h1.trans h3, by omega⟩
theorem tells_end (n : Int) : (PV.int IntKind.i64 (if 0 > n then 0 else n)) = .int .i64 (if 0 > n then 0 else n) := rfl
set_option maxHeartbeats 8000000 in
theorem tells_law (ps : List PV) (h : HasArgs [TSt, TSt, .str] ps) : ∃ H', EE env (.fn 3) (ps.map .pv) [] = some (.pv (.bool true), H') := by
  obtain ⟨p1, _, rfl, h1, p2, _, rfl, h2, p3, _, rfl, h3, rfl⟩ := h
  obtain ⟨a, x, y, rfl, ha⟩ := arg_st h1
  obtain ⟨b, x', y', rfl, hb⟩ := arg_st h2
  obtain ⟨name, rfl, hn⟩ := arg_str h3
  have hal := ha.1
  have hbl := hb.1
  rw [maxLen_eq] at hal hbl
  obtain ⟨na, ga, ga2⟩ := great_ok' a x y ha
  obtain ⟨nb, gb, _⟩ := great_ok' b x' y' hb
  have hkin : ∀ (u v : Bool), (!(u == v)) = decide (u ≠ v) := fun u v => by cases u <;> cases v <;> rfl
  refine law_end (EE_has (fn_has rfl ?_))
  refine seq_on [(2, .pv (sv name)), (3, .ptr 0 0), (4, .ptr 1 0)] [.pcells (stc a x y), .pcells (stc b x' y')] (Has.intro ⟨rfl, ⟨rfl, rfl, rfl, trivial⟩, rfl⟩) (fun r => ?_)
  refine seq_on [(2, .pv (sv name)), (3, .ptr 0 0), (4, .ptr 1 0)] [.pcells (stc a x y), .pcells (stc b x' y')] ?_ (fun r => ?_)
  · refine callPK_has first_ok ?_
    exact Has.intro ⟨rfl, ⟨rfl, rfl, rfl, trivial⟩, rfl⟩
  refine seq_if [(6, .pv (.bool true))] True [(2, .pv (sv name)), (3, .ptr 0 0), (4, .ptr 1 0)] (na ≤ 8000) [.pcells (stc a x y), .pcells (stc b x' y')] ?_ (fun _ r => ?_) (fun q1 r => ?_)
  · (refine hgetK_has _ rfl ?_)
    (refine secK_has (v := stc a x y) rfl (of_decide_eq_true rfl) ?_)
    refine callPK_has ga ?_
    refine boolK_dec (fun q1 => ?_) (fun q1 => ?_)
    · exact Has.intro (.inl ⟨rfl, ⟨rfl, trivial⟩, rfl, trivial⟩)
    (refine hgetK_has _ rfl ?_)
    (refine secK_has (v := stc b x' y') rfl (of_decide_eq_true rfl) ?_)
    refine callPK_has gb ?_
    refine boolK_dec (fun q2 => ?_) (fun q2 => ?_)
    · exact Has.intro (.inl ⟨rfl, ⟨rfl, trivial⟩, rfl, trivial⟩)
    refine boolK_dec (fun q3 => ?_) (fun q3 => ?_)
    · exact Has.intro (.inl ⟨rfl, ⟨rfl, trivial⟩, rfl, trivial⟩)
    · exact Has.intro (.inr ⟨rfl, ⟨rfl, rfl, rfl, trivial⟩, rfl, by omega⟩)
  · exact Has.intro rfl
  obtain ⟨w, hw, e, hp, hx⟩ : ∃ w, (rightP a → w = putB a) ∧ ∃ e, EP (EE env) 19 [.agg (stc a x y)] = some (.sl e w.length (bc w)) ∧ (¬ rightP a → w = []) := by
    by_cases hr : rightP a
    · obtain ⟨e, hp, _⟩ := put_ok' a x y ha hr (ga2 hr (by omega))
      exact ⟨putB a, fun _ => rfl, e, hp, fun h => absurd hr h⟩
    · exact ⟨[], fun h => absurd h hr, .nil, put_no a x y ha hr, fun _ => rfl⟩
  refine seq_on [(2, .pv (sv name)), (3, .ptr 0 0), (4, .ptr 1 0), (7, .pv (sv []))] [.pcells (stc a x y), .pcells (stc b x' y')] (Has.intro ⟨rfl, ⟨rfl, rfl, rfl, rfl, trivial⟩, rfl⟩) (fun r => ?_)
  refine seq_on [(2, .pv (sv name)), (3, .ptr 0 0), (4, .ptr 1 0), (7, .pv (sv w))] [.pcells (stc a x y), .pcells (stc b x' y')] ?_ (fun r => ?_)
  · (refine hgetK_has _ rfl ?_)
    (refine secK_has (v := stc a x y) rfl (of_decide_eq_true rfl) ?_)
    refine callPK_dec (rright_ok' a x y ha) (fun hr => ?_) (fun hr => ?_)
    · (refine hgetK_has _ rfl ?_)
      (refine secK_has (v := stc a x y) rfl (of_decide_eq_true rfl) ?_)
      rw [hw hr]
      refine callPK_has (rput_ok a x y ha hr (ga2 hr q1)) ?_
      exact Has.intro ⟨rfl, ⟨rfl, rfl, rfl, rfl, trivial⟩, rfl⟩
    · rw [hx hr]
      exact Has.intro ⟨rfl, ⟨rfl, rfl, rfl, rfl, trivial⟩, rfl⟩
  refine seq_st (σ := Heap) (fun _ => [(2, .pv (sv name)), (3, .ptr 0 0), (4, .ptr 1 0), (7, .pv (sv w))]) (fun J => [.pcells (stc a x y), .pcells (stc b x' y')] ++ J) (fun _ => True) ?_ (fun J _ r => ?_)
  · (refine hgetK_has _ rfl ?_)
    refine getK_has (v := .sl x a.es.length (flat en a.es)) rfl ?_
    refine loopK_has ?_
    refine iterE_loopJ (σ := Nat) (fun i => a.es.length - i) (fun i => [(2, .pv (sv name)), (3, .ptr 0 0), (4, .ptr 1 0), (7, .pv (sv w)), (33, .pv (.sl x a.es.length (flat en a.es))), (34, .pv (.int .i64 a.es.length)), (35, .pv (.int .i64 i))]) (fun _ => [.pcells (stc a x y), .pcells (stc b x' y')])
      (fun i => i ≤ a.es.length) (fun i hi r J => ?_) 0 (Nat.zero_le _) [] ⟨rfl, rfl, rfl, rfl, rfl, rfl, rfl, trivial⟩ rfl
    refine boolK_dec (fun hc => ?_) (fun hc => ?_)
    · have hlt : i < a.es.length := by omega
      obtain ⟨e, hg⟩ : ∃ c, a.es[i]? = some c := ⟨_, List.getElem?_eq_getElem hlt⟩
      have hE := ha.2.2.1 e (List.mem_of_getElem? hg)
      obtain ⟨g1, g2⟩ := flat_get en_len hg
      refine needK_has (by (first | rfl | (simp; done) | (simp; omega))) ?_
      refine secK_has g1 g2 ?_
      refine hgetK_last ?_
      (refine needK_has rfl ?_)
      refine eqK_has_eq (en e) rfl ?_
      rw [hset_last]
      refine hgetK_last ?_
      refine secK_has (v := en e) rfl (of_decide_eq_true rfl) ?_
      refine callPK_has (ent_ok e hE) ?_
      refine hgetK_last ?_
      refine secK_has (v := en e) rfl (of_decide_eq_true rfl) ?_
      refine callPK_has (rent_ok e hE) ?_
      refine boolK_has_eq (c := false) (by simp) ?_
      refine hgetK_last ?_
      refine secK_has (v := pdc e.d e.dx) rfl (of_decide_eq_true rfl) ?_
      refine hgetK_last ?_
      refine secK_has (v := pdc e.a e.ax) rfl (of_decide_eq_true rfl) ?_
      refine callPK_has (kin_ok e.dx e.ax e.d e.a hE.1.2.1) ?_
      refine hgetK_last ?_
      refine secK_has (v := pdc e.d e.dx) rfl (of_decide_eq_true rfl) ?_
      refine hgetK_last ?_
      refine secK_has (v := pdc e.a e.ax) rfl (of_decide_eq_true rfl) ?_
      refine callPK_has (rkin_ok e.dx e.ax e.d e.a hE.1.2.1) ?_
      refine boolK_has_eq (c := false) (by simp) ?_
      (refine hgetK_has _ rfl ?_)
      refine getK_has (v := .sl x' b.es.length (flat en b.es)) rfl ?_
      refine boolK_dec (fun hc2 => ?_) (fun hc2 => ?_)
      · obtain ⟨f, hf⟩ : ∃ c, b.es[i]? = some c := ⟨_, List.getElem?_eq_getElem (by omega)⟩
        obtain ⟨p1, p2⟩ := flat_part en_len hf (j := 0) (n := 4) (by decide)
        refine hgetK_last ?_
        refine secK_has (v := pdc e.d e.dx) rfl (of_decide_eq_true rfl) ?_
        (refine hgetK_has _ rfl ?_)
        refine getK_has (v := .sl x' b.es.length (flat en b.es)) rfl ?_
        refine needK_has (by (first | rfl | (simp; done) | (simp; omega))) ?_
        refine secK_has (v := pdc f.d f.dx) (by rw [at_ij]; exact p1) (by rw [at_ij]; exact p2) ?_
        refine callPK_has (kin_ok e.dx f.dx e.d f.d hE.1.2.1) ?_
        refine hgetK_last ?_
        refine secK_has (v := pdc e.d e.dx) rfl (of_decide_eq_true rfl) ?_
        (refine hgetK_has _ rfl ?_)
        refine getK_has (v := .sl x' b.es.length (flat en b.es)) rfl ?_
        refine needK_has (by (first | rfl | (simp; done) | (simp; omega))) ?_
        refine secK_has (v := pdc f.d f.dx) (by rw [at_ij]; exact p1) (by rw [at_ij]; exact p2) ?_
        refine callPK_has (rkin_ok e.dx f.dx e.d f.d hE.1.2.1) ?_
        refine boolK_has_eq (c := false) (by simp) ?_
        refine eqK_has_eq _ (i64_succ (by omega)) ?_
        exact Has.intro ⟨i + 1, hlt, by omega, ⟨rfl, rfl, rfl, rfl, rfl, rfl, rfl, trivial⟩, _, List.append_assoc _ _ _⟩
      · refine eqK_has_eq _ (i64_succ (by omega)) ?_
        exact Has.intro ⟨i + 1, hlt, by omega, ⟨rfl, rfl, rfl, rfl, rfl, rfl, rfl, trivial⟩, _, List.append_assoc _ _ _⟩
    · exact Has.intro (Has.intro ⟨rfl, J, trivial, ⟨rfl, rfl, rfl, rfl, trivial⟩, rfl⟩)
  refine seq_on [(2, .pv (sv name)), (3, .ptr 0 0), (4, .ptr 1 0), (7, .pv (sv w)), (10, .pv (.int .i64 (if 0 > findE name a.es then 0 else findE name a.es))), (11, .pv (.bool (decide (findE name a.es ≥ 0))))] ([.pcells (stc a x y), .pcells (stc b x' y')] ++ J) ?_ (fun r => ?_)
  · (refine hgetK_has _ rfl ?_)
    (refine secK_has (v := stc a x y) rfl (of_decide_eq_true rfl) ?_)
    refine callPK_has (findE_ok a x y ha.1 name) ?_
    exact Has.intro ⟨rfl, ⟨rfl, rfl, rfl, rfl, rfl, rfl, trivial⟩, rfl⟩
  refine seq_on [(2, .pv (sv name)), (3, .ptr 0 0), (4, .ptr 1 0), (7, .pv (sv w)), (10, .pv (.int .i64 (if 0 > findE name a.es then 0 else findE name a.es))), (11, .pv (.bool (decide (findE name a.es ≥ 0)))), (12, .pv (.int .i64 (findE name a.es)))] ([.pcells (stc a x y), .pcells (stc b x' y')] ++ J) ?_ (fun r => ?_)
  · (refine hgetK_has _ rfl ?_)
    (refine secK_has (v := stc a x y) rfl (of_decide_eq_true rfl) ?_)
    refine callPK_has (rfindE_ok a x y ha.1 name) ?_
    exact Has.intro ⟨rfl, ⟨rfl, rfl, rfl, rfl, rfl, rfl, rfl, trivial⟩, rfl⟩
  refine seq_on [(6, .pv (.bool true))] ([.pcells (stc a x y), .pcells (stc b x' y')] ++ J) ?_ (fun r => ?_)
  · (refine hgetK_has _ rfl ?_)
    (refine secK_has (v := stc a x y) rfl (of_decide_eq_true rfl) ?_)
    refine callPK_has (right_ok' a x y ha) ?_
    (refine hgetK_has _ rfl ?_)
    (refine secK_has (v := stc a x y) rfl (of_decide_eq_true rfl) ?_)
    refine callPK_has (rright_ok' a x y ha) ?_
    refine boolK_has_true (by simp) ?_
    (refine hgetK_has _ rfl ?_)
    (refine secK_has (v := stc a x y) rfl (of_decide_eq_true rfl) ?_)
    (refine hgetK_has _ rfl ?_)
    (refine secK_has (v := stc b x' y') rfl (of_decide_eq_true rfl) ?_)
    refine callPK_has (sameS_ok a b x y x' y' ha hb) ?_
    (refine hgetK_has _ rfl ?_)
    (refine secK_has (v := stc a x y) rfl (of_decide_eq_true rfl) ?_)
    (refine hgetK_has _ rfl ?_)
    (refine secK_has (v := stc b x' y') rfl (of_decide_eq_true rfl) ?_)
    refine callPK_has (rsameS_ok a b x y x' y' ha hb) ?_
    refine boolK_has_true (by simp) ?_
    (refine hgetK_has _ rfl ?_)
    (refine secK_has (v := stc a x y) rfl (of_decide_eq_true rfl) ?_)
    refine callPK_has hp ?_
    refine needK_has (by rw [T.bc_len]; exact Nat.beq_refl _) ?_
    refine bindK_has (bc_str _) ?_
    refine boolK_has_true (by simp) ?_
    refine boolK_dec (fun q5 => ?_) (fun q5 => ?_)
    · refine boolK_has_true (by rw [decide_eq_true q5]; rfl) ?_
      refine eqK_has_eq _ rfl ?_
      refine boolK_beq_t rfl ?_
      exact Has.intro ⟨rfl, ⟨rfl, trivial⟩, rfl⟩
    · refine boolK_has_true (by rw [decide_eq_false q5]; rfl) ?_
      refine eqK_has_eq _ rfl ?_
      refine boolK_beq_t rfl ?_
      exact Has.intro ⟨rfl, ⟨rfl, trivial⟩, rfl⟩
  exact Has.intro rfl
end Go.Proofs.Ytchcbpnoagldnaa

namespace Go.Proofs.Ytchcbpnoagldnaa
open Go Go.VM

set_option maxHeartbeats 8000000 in
theorem back_law (ps : List PV) (h : HasArgs [TSt, .sl 1 (.int .u8)] ps) : ∃ H', EE env (.fn 5) (ps.map .pv) [] = some (.pv (.bool true), H') := by
  obtain ⟨p1, _, rfl, h1, p2, _, rfl, h2, rfl⟩ := h
  obtain ⟨a, x, y, rfl, ha⟩ := arg_st h1
  obtain ⟨xb, b, rfl, hbm, hxb⟩ := arg_bytes h2
  obtain ⟨na, ga, ga2⟩ := great_ok' a x y ha
  refine law_end (EE_has (fn_has rfl ?_))
  refine seq_on [(1, .pv (.sl xb b.length (bc b))), (2, .ptr 0 0)] [.pcells (stc a x y)] (Has.intro ⟨rfl, ⟨rfl, rfl, trivial⟩, rfl⟩) (fun r => ?_)
  refine seq_on [(1, .pv (.sl xb b.length (bc b))), (2, .ptr 0 0)] [.pcells (stc a x y)] ?_ (fun r => ?_)
  · refine callPK_has first_ok ?_
    exact Has.intro ⟨rfl, ⟨rfl, rfl, trivial⟩, rfl⟩
  refine seq_if [(4, .pv (.bool true))] True [(1, .pv (.sl xb b.length (bc b))), (2, .ptr 0 0)] (na ≤ 8000 ∧ b.length ≤ 5000) [.pcells (stc a x y)] ?_ (fun _ r => ?_) (fun ⟨q1, q2⟩ r => ?_)
  · (refine hgetK_has _ rfl ?_)
    (refine secK_has (v := stc a x y) rfl (of_decide_eq_true rfl) ?_)
    refine callPK_has ga ?_
    refine boolK_dec (fun q1 => ?_) (fun q1 => ?_)
    · exact Has.intro (.inl ⟨rfl, ⟨rfl, trivial⟩, rfl, trivial⟩)
    refine boolK_dec (fun q2 => ?_) (fun q2 => ?_)
    · exact Has.intro (.inl ⟨rfl, ⟨rfl, trivial⟩, rfl, trivial⟩)
    · exact Has.intro (.inr ⟨rfl, ⟨rfl, rfl, trivial⟩, rfl, by omega, by omega⟩)
  · exact Has.intro rfl
  refine seq_st (σ := Heap) (fun _ => [(1, .pv (.sl xb b.length (bc b)))]) (fun J => J) (fun _ => True) ?_ (fun J _ r => ?_)
  · (refine hgetK_has _ rfl ?_)
    (refine secK_has (v := stc a x y) rfl (of_decide_eq_true rfl) ?_)
    refine callPK_dec (right_ok' a x y ha) (fun hr => ?_) (fun hr => ?_)
    · obtain ⟨e, hp, he⟩ := put_ok' a x y ha hr (ga2 hr q1)
      obtain ⟨y1, y2, hg⟩ := get_ok' e (putB a) he (by have := put_len ha hr; omega)
      rw [get_put hr ha.2.2.2] at hg
      (refine hgetK_has _ rfl ?_)
      (refine secK_has (v := stc a x y) rfl (of_decide_eq_true rfl) ?_)
      refine callPK_has hp ?_
      refine callPK_has hg ?_
      (refine hgetK_has _ rfl ?_)
      (refine needK_has rfl ?_)
      refine eqK_has_eq (stc (normS a) y1 y2) rfl ?_
      refine boolK_bne_f rfl ?_
      (refine hgetK_has _ rfl ?_)
      refine secK_has (v := stc (normS a) y1 y2) rfl (of_decide_eq_true rfl) ?_
      (refine hgetK_has _ rfl ?_)
      (refine secK_has (v := stc a x y) rfl (of_decide_eq_true rfl) ?_)
      refine callPK_dec_t (sameS_ok (normS a) a y1 y2 x y (small_norm ha) ha) (same_norm a) ?_
      (refine hgetK_has _ rfl ?_)
      refine secK_has (v := stc (normS a) y1 y2) rfl (of_decide_eq_true rfl) ?_
      refine callPK_dec_t (right_ok' (normS a) y1 y2 (small_norm ha)) (right_norm hr) ?_
      exact Has.intro ⟨rfl, _, trivial, ⟨rfl, trivial⟩, rfl⟩
    · exact Has.intro ⟨rfl, _, trivial, ⟨rfl, trivial⟩, rfl⟩
  obtain ⟨y1, y2, hg⟩ := get_ok' xb b (by rcases hxb with h | h; exact .inl h; exact .inr (.inl h)) (by omega)
  have hsm := getS_small (b := b) (by omega)
  have hpg := put_get (b := b)
  generalize getS b = g at *
  obtain ⟨s, e⟩ := g
  dsimp only at hsm hpg hg
  refine seq_st (σ := Nat × Heap) (fun q => [(1, .pv (.sl xb b.length (bc b))), (7, .ptr q.1 0), (8, .pv (.int .i64 e))]) (fun q => q.2) (fun q => hget q.2 q.1 = .pcells (stc s y1 y2)) ?_ (fun ⟨q, J⟩ k r => ?_)
  · refine callPK_has hg ?_
    refine hgetK_last ?_
    (refine needK_has rfl ?_)
    refine eqK_has_eq (stc s y1 y2) rfl ?_
    rw [hset_last]
    exact Has.intro ⟨rfl, (J.length, J ++ [.pcells (stc s y1 y2)]), hget_append_same _ _, ⟨rfl, rfl, rfl, trivial⟩, rfl⟩
  dsimp only at k ⊢
  refine seq_on [(4, .pv (.bool true))] J ?_ (fun r => ?_)
  · refine boolK_bne (fun h1 => ?_) (fun h1 => ?_)
    · exact Has.intro ⟨rfl, ⟨rfl, trivial⟩, rfl⟩
    · obtain ⟨hr, hb, _⟩ := hpg h1
      obtain ⟨e2, hp, _⟩ := put_ok' s y1 y2 hsm hr (by have := hs_192 hr; omega)
      refine hgetK_has _ k ?_
      refine secK_has (v := stc s y1 y2) rfl (of_decide_eq_true rfl) ?_
      refine callPK_has hp ?_
      refine needK_has (by rw [T.bc_len]; exact Nat.beq_refl _) ?_
      refine bindK_has (bc_str _) ?_
      refine needK_has (by rw [T.bc_len]; exact Nat.beq_refl _) ?_
      refine bindK_has (bc_str _) ?_
      refine boolK_has_true (by rw [hb]; simp) ?_
      exact Has.intro ⟨rfl, ⟨rfl, trivial⟩, rfl⟩
  exact Has.intro rfl
end Go.Proofs.Ytchcbpnoagldnaa
