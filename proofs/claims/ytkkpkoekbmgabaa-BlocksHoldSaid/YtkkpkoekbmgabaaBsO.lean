/-
  Blocks: Rows, of a table.
-/
import Derived.Test.YtkkpkoekbmgabaaBsN
set_option linter.all false
set_option linter.unusedVariables false
set_option linter.unusedSimpArgs false
set_option linter.unusedSectionVars false
namespace Go.Proofs.Ytkkpkoekbmgabaa
open Go Go.VM
variable {H : Heap} {p m : Nat} {zs : List Zn} {L : List Rw}

theorem all_ok (h : Tb H p zs m L) : ∃ H', EE env (.fn 33) [.ptr p 0] H = some (.fn 40 [] [.ptr (H.length + 1) 0], H') ∧ Kp [] H H' ∧ ∃ m', hget H' (H.length + 1) = .cells [.map m'] ∧ MapOf H' m' L := by
  refine Has.sh (EE_has ?_)
  obtain ⟨J, hJ⟩ : ∃ J, J = hset (H ++ [HObj.map 0 []] ++ [HObj.pcells [.nilm]]) (H ++ [HObj.map 0 []]).length (.cells [.map H.length]) := ⟨_, rfl⟩
  have k1 : Kp [] H J := by rw [hJ]; exact (((Kp.refl _ _).app _).app _).set _ _ (.inr (by simp))
  have n1 : J.length = H.length + 2 := by rw [hJ, hset_len]; simp
  have a1 : hget J (H ++ [HObj.map 0 []]).length = .cells [.map H.length] := by rw [hJ]; exact hget_hset_same _ (by simp)
  obtain ⟨x, hx⟩ := (h.kp k1 (by simp) (by simp)).z.obj
  obtain ⟨clk, E, hm, hst, hpm⟩ := (h.kp k1 (by simp) (by simp)).map
  have e1 : H.length + 1 = (H ++ [HObj.map 0 []]).length := by simp
  have f1 : ∀ x, hget (J ++ [x]) (H ++ [HObj.map 0 []]).length = .cells [.map H.length] := fun x => (hget_app _ (by rw [n1, ← e1]; omega)).trans a1
  have f2 : ∀ x, (∃ m', hget (hset (J ++ [.map clk (E.map ent)]) (H ++ [HObj.map 0 []]).length (.cells [.map J.length])) (H ++ [HObj.map 0 []]).length = .cells [.map m'] ∧ MapOf (hset (J ++ [.map clk (E.map ent)]) (H ++ [HObj.map 0 []]).length (.cells [.map J.length])) m' L) ∧ Kp [] H (hset (J ++ [.map clk (E.map ent)]) (H ++ [HObj.map 0 []]).length x) := fun x =>
    ⟨⟨_, hget_hset_same _ (by rw [← e1, List.length_append, n1]; simp), clk, E, (hget_hset_ne _ _ (by rw [n1, ← e1]; omega)).trans (hget_append_same _ _), hst, hpm⟩, (k1.app _).set _ _ (.inr (by simp))⟩
  rw [hJ] at hx hm f1 f2
  rw [e1]
  refine hgetK_last ?_
  refine hgetK_has _ hx ?_
  refine callSK_has (mclone_ok hm) ?_
  refine hgetK_has _ (f1 _) ?_
  exact Has.intro ⟨rfl, (f2 _).2, (f2 (.dead)).1⟩
/-- The first rows, in their order. -/
theorem rows_aux {t : AV} {most : Nat} (hL : L.length ≤ 100000) (hs : Sorted L) (hall : ∀ J, Kp [] H J → ∃ H', EE env (.fn 33) [t] J = some (.fn 40 [] [.ptr (J.length + 1) 0], H') ∧ Kp [] J H' ∧ ∃ m', hget H' (J.length + 1) = .cells [.map m'] ∧ MapOf H' m' L)
    (ht : ∃ p, t = .ptr p 0 ∨ t = .pv .nilp) :
    Has (EE env (.fn 11) [t, .pv (iv most)] H) fun y => Kp [] H y.2 ∧ AppV y.2 y.1 .nil 11 (min most L.length) (rcs (L.take most)) := by
  refine EE_has ?_
  have k0 : Kp [] H (H ++ [HObj.pcells [iv most]] ++ [HObj.pcells [.sl .nil 0 []]]) := ((Kp.refl _ _).app _).app _
  obtain ⟨H1, h1, k1, m', h2, hM⟩ := hall _ k0
  have e1 : H.length + 1 = (H ++ [HObj.pcells [iv most]]).length := by simp
  have h3 : hget H1 H.length = .pcells [iv most] := k1.get (hget_two1 ..) (by intro h; cases h) (by simp)
  have h5 : hget H1 (H ++ [HObj.pcells [iv most]]).length = .pcells [.sl .nil 0 []] := k1.get (hget_append_same _ _) (by intro h; cases h) (by simp)
  have main : ∀ R0 : Regs, R0 3 = .ptr H.length 0 → R0 5 = .ptr (H ++ [HObj.pcells [iv most]]).length 0 → Has (EE env (.fn 40) [.yield H1.length, .ptr ((H ++ [HObj.pcells [iv most]] ++ [HObj.pcells [.sl .nil 0 []]]).length + 1) 0] (H1 ++ [gor R0 .ready])) fun y =>
      Kp [] H y.2 ∧ (hget y.2 H1.length = gor R0 .ready ∨ hget y.2 H1.length = gor R0 (.done (.exit 0))) ∧ ∃ v, hget y.2 (H ++ [HObj.pcells [iv most]]).length = bx v ∧ AppV y.2 v .nil 11 (min most L.length) (rcs (L.take most)) := fun R0 r3 r5 => by
    have ka : Kp [] H1 (H1 ++ [gor R0 .ready]) := (Kp.refl _ _).app _
    refine Has.mono (all1_ok (most := most) (ka.get h2 (by intro h; cases h) (by simp)) (hM.kp ka (by simp)) hL hs r3 r5 (hget_append_same _ _) (ka.get h3 (by intro h; cases h) (by simp)) (ka.get h5 (by intro h; cases h) (by simp))) fun y hy => ?_
    refine ⟨?_, hy.2⟩
    have := ((k0.step k1).step ka).trans (l' := [H1.length, (H ++ [HObj.pcells [iv most]]).length]) hy.1 fun i hi => by
      have := (k0.step k1).1
      simp at hi
      rcases hi with rfl | rfl
      · exact .inr this
      · exact .inr (by omega)
    exact this
  have fin : ∀ (J : Heap), Kp [] H J → Kp [] H (hset J H1.length .dead) ∧ ∀ v, hget J (H ++ [HObj.pcells [iv most]]).length = bx v → hget (hset J H1.length .dead) (H ++ [HObj.pcells [iv most]]).length = bx v := fun J hk =>
    ⟨hk.set _ _ (.inr (k0.step k1).1), fun v hv => (hget_hset_ne _ _ (by have := k1.1; simp at this ⊢; omega)).trans hv⟩
  have last : ∀ (J : Heap) (v : AV), Kp [] H J → AppV J v .nil 11 (min most L.length) (rcs (L.take most)) → hget J H1.length ≠ .dead → (∀ n es, hget J H1.length ≠ .tok n es) → AppV (hset J H1.length .dead) v .nil 11 (min most L.length) (rcs (L.take most)) := fun J v _ hv _ h2 => by
    rcases hv with h | ⟨a, b, t, rfl, ht⟩
    · exact .inl h
    · exact .inr ⟨a, b, t, rfl, (hget_hset_ne _ _ fun e => h2 _ _ (e ▸ ht)).trans ht⟩
  obtain ⟨p, rfl | rfl⟩ := ht
  · refine callSK_has h1 ?_
    refine callSK_has' ((main _ rfl rfl).mono fun y hy => ?_)
    obtain ⟨w, J⟩ := y
    obtain ⟨y1, y2, v, y3, y4⟩ := hy
    dsimp only at y1 y2 y3 y4 ⊢
    ((rcases y2 with y2 | y2 <;> (refine hgetK_has _ y2 ?_; have y5 := last J v y1 y4 (by rw [y2]; intro h; cases h) (by rw [y2]; intro _ _ h; cases h); rcases y4 with ⟨_, _, rfl, _⟩ | ⟨_, _, t, rfl, _⟩ <;> first | (refine hgetK_has _ ((fin J y1).2 _ y3) ?_; refine getK_has rfl ?_; exact Has.intro ⟨(fin J y1).1, y5⟩) | (refine hgetK_has _ ((fin J y1).2 _ y3) ?_; exact Has.intro ⟨(fin J y1).1, y5⟩))))
  · refine callSK_has h1 ?_
    refine callSK_has' ((main _ rfl rfl).mono fun y hy => ?_)
    obtain ⟨w, J⟩ := y
    obtain ⟨y1, y2, v, y3, y4⟩ := hy
    dsimp only at y1 y2 y3 y4 ⊢
    ((rcases y2 with y2 | y2 <;> (refine hgetK_has _ y2 ?_; have y5 := last J v y1 y4 (by rw [y2]; intro h; cases h) (by rw [y2]; intro _ _ h; cases h); rcases y4 with ⟨_, _, rfl, _⟩ | ⟨_, _, t, rfl, _⟩ <;> first | (refine hgetK_has _ ((fin J y1).2 _ y3) ?_; refine getK_has rfl ?_; exact Has.intro ⟨(fin J y1).1, y5⟩) | (refine hgetK_has _ ((fin J y1).2 _ y3) ?_; exact Has.intro ⟨(fin J y1).1, y5⟩))))
end Go.Proofs.Ytkkpkoekbmgabaa
