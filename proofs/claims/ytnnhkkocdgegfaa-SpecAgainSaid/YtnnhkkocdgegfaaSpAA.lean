/-
  The laws' arguments; SpecNames.
-/
import Derived.Test.YtnnhkkocdgegfaaSpZ
set_option linter.all false
set_option linter.unusedVariables false
set_option linter.unusedSimpArgs false
set_option linter.unusedSectionVars false
namespace Go.Proofs.Ytnnhkkocdgegfaa
open Go Go.VM

abbrev TV : Ty := .st [(1, .int .i64), (1, .int .i64), (1, .int .i64)]
abbrev TCt : Ty := .st [(1, .str), (3, TV), (3, TV), (3, .arr 3 1 .bool)]
abbrev TPd : Ty := .st [(1, .str), (1, .int .i64), (1, .int .i64), (1, .sl 10 TCt)]
abbrev TCh : Ty := .st [(1, .str), (3, TV), (3, TV)]
theorem dec_str (s : ByteArray) : ∃ l : List UInt8, PV.str s = sv l ∧ l.length = s.size := ⟨s.data.toList, rfl, rfl⟩
theorem dec_v {cs : List PV} (h : HasTy TV cs) : ∃ v, cs = vc v := by
  obtain ⟨_, _, rfl, _, ⟨a, rfl, _⟩, _, _, rfl, _, ⟨b, rfl, _⟩, _, _, rfl, _, ⟨c, rfl, _⟩, rfl⟩ := h
  exact ⟨⟨a, b, c⟩, rfl⟩
theorem dec_ct {cs : List PV} (h : HasTy TCt cs) : ∃ c, cs = ct c ∧ c.name.length ≤ maxLen := by
  obtain ⟨_, _, rfl, _, ⟨s, rfl, hs⟩, _, _, rfl, _, hv, _, _, rfl, _, hw, _, _, rfl, _, ⟨_, _, rfl, _, ⟨a, rfl⟩, _, _, rfl, _, ⟨b, rfl⟩, _, _, rfl, _, ⟨c, rfl⟩, rfl⟩, rfl⟩ := h
  obtain ⟨v, rfl⟩ := dec_v hv
  obtain ⟨w, rfl⟩ := dec_v hw
  obtain ⟨l, h1, h2⟩ := dec_str s
  rw [h1]
  exact ⟨⟨l, v, w, a, b, c⟩, rfl, by show l.length ≤ _; omega⟩
theorem dec_ch {cs : List PV} (h : HasTy TCh cs) : ∃ c, cs = chv c ∧ True := by
  obtain ⟨_, _, rfl, _, ⟨s, rfl, hs⟩, _, _, rfl, _, hv, _, _, rfl, _, hw, rfl⟩ := h
  obtain ⟨v, rfl⟩ := dec_v hv
  obtain ⟨w, rfl⟩ := dec_v hw
  obtain ⟨l, h1, h2⟩ := dec_str s
  rw [h1]
  exact ⟨⟨l, v, w⟩, rfl, trivial⟩
theorem els_dec {α : Type} {f : α → List PV} {P : α → Prop} {T : Ty} {es : Nat} (hd : ∀ cs, HasTy T cs → ∃ a, cs = f a ∧ P a) : ∀ (n : Nat) (cs : List PV), Els (HasTy T) es n cs → ∃ l : List α, l.length = n ∧ cs = flat f l ∧ ∀ a ∈ l, P a := by
  intro n
  induction n with
  | zero => intro cs h; exact ⟨[], rfl, h, fun a ha => by cases ha⟩
  | succ n ih =>
    intro cs h
    obtain ⟨x, y, rfl, _, h1, h2⟩ := h
    obtain ⟨a, rfl, ha⟩ := hd _ h1
    obtain ⟨l, rfl, rfl, hl⟩ := ih _ h2
    refine ⟨a :: l, rfl, by simp [flat], fun b hb => ?_⟩
    rcases List.mem_cons.1 hb with rfl | hb
    · exact ha
    · exact hl b hb
theorem arg_str {p : PV} (h : HasArg .str p) : ∃ l, p = sv l ∧ l.length ≤ maxLen := by
  obtain ⟨s, h1, h2⟩ := h
  injection h1 with h1
  obtain ⟨l, h3, h4⟩ := dec_str s
  exact ⟨l, h1.trans h3, by omega⟩
theorem arg_ct {p : PV} (h : HasArg TCt p) : ∃ c, p = .agg (ct c) ∧ c.name.length ≤ maxLen := by
  obtain ⟨ps, rfl, h⟩ := h
  obtain ⟨c, rfl, hc⟩ := dec_ct h
  exact ⟨c, rfl, hc⟩
theorem arg_pd {p : PV} (h : HasArg TPd p) : ∃ q x, p = .agg (pdc q x) ∧ small q := by
  obtain ⟨ps, rfl, _, _, rfl, _, ⟨s, rfl, hs⟩, _, _, rfl, _, ⟨a, rfl, _⟩, _, _, rfl, _, ⟨b, rfl, _⟩, _, _, rfl, _, ⟨x, n, cells, rfl, _, hn, he⟩, rfl⟩ := h
  obtain ⟨l, h1, h2⟩ := dec_str s
  obtain ⟨cs, rfl, rfl, hc⟩ := els_dec (fun _ h => dec_ct h) n cells he
  rw [h1]
  exact ⟨⟨l, a, b, cs⟩, x, rfl, by show l.length ≤ _; omega, hn, hc⟩
theorem arg_chs {p : PV} (h : HasArg (.sl 7 TCh) p) : ∃ x l, p = .sl x l.length (flat chv l) ∧ l.length ≤ maxLen := by
  obtain ⟨x, n, cells, h1, _, hn, he⟩ := h
  injection h1 with h1
  obtain ⟨cs, rfl, rfl, hc⟩ := els_dec (fun _ h => dec_ch h) n cells he
  exact ⟨x, cs, h1, hn⟩
theorem names_law (ps : List PV) (h : HasArgs [.str, TCt] ps) : ∃ H', EE env (.fn 3) (ps.map .pv) [] = some (.pv (.bool true), H') := by
  obtain ⟨p1, _, rfl, h1, p2, _, rfl, h2, rfl⟩ := h
  obtain ⟨s, rfl, hs⟩ := arg_str h1
  obtain ⟨c, rfl, hc⟩ := arg_ct h2
  refine law_end (EE_has ?_)
  refine callPK_has first_ok ?_
  refine boolK_dec (fun h3 => ?_) (fun h3 => ?_)
  · exact Has.intro rfl
  refine hgetK_has (.pcells (ct c)) rfl ?_
  refine getK_has rfl ?_
  refine boolK_dec (fun h4 => ?_) (fun h4 => ?_)
  · exact Has.intro rfl
  refine callPK_has (name_ok s hs) ?_
  refine callPK_has (rname_ok s hs) ?_
  refine boolK_has_true (beq_self_eq_true _) ?_
  refine hgetK_has (.pcells (ct c)) rfl ?_
  refine secK_has (v := ct c) rfl (of_decide_eq_true rfl) ?_
  refine callPK_has (ctr_ok c hc) ?_
  refine hgetK_has (.pcells (ct c)) rfl ?_
  refine secK_has (v := ct c) rfl (of_decide_eq_true rfl) ?_
  refine callPK_has (rctr_ok c hc) ?_
  refine boolK_has_true (beq_self_eq_true _) ?_
  exact Has.intro rfl
end Go.Proofs.Ytnnhkkocdgegfaa
