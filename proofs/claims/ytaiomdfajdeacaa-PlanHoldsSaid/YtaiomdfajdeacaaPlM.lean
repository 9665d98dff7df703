/-
  The first steps, as the law asks for them.
-/
import Derived.Test.YtaiomdfajdeacaaPlL
set_option linter.all false
set_option linter.unusedVariables false
set_option linter.unusedSimpArgs false
set_option linter.unusedSectionVars false
namespace Go.Proofs.Ytaiomdfajdeacaa
open Go Go.VM

/-- What stands while the steps are ranged over. -/
structure Inv (r : Regs) (k : Nat) (podTo : Kn) (yv : PV) (p : Kn) (acc : List Stp) (v : AV) (H : Heap) : Prop where
  h1 : hget H 1 = .pcells [.int .i64 (k : Int)]
  h2 : hget H 2 = cellOf v
  h4 : hget H 4 = .pcells (kn podTo)
  h6 : hget H 6 = .pcells [yv]
  h7 : hget H 7 = lo r .ready
  h8 : hget H 8 = .pcells (kn p)
  hv : AppV H v .nil 3 acc.length (flat sc acc)
/-- What stands behind. -/
def Fin (k : Nat) (r : Regs) (all : List Stp) (H : Heap) : Prop :=
  ∃ v st, (st = .ready ∨ st = .done (.exit 0)) ∧ hget H 7 = lo r st ∧ hget H 2 = cellOf v ∧ AppV H v .nil 3 (all.take k).length (flat sc (all.take k))
set_option maxHeartbeats 1000000 in
theorem iter_ok (r : Regs) (k : Nat) (hk : k ≤ 200) (pod podTo : Kn) (x y : Ext) (now to : List Kn) (hl : now.length ≤ 12) (hx : okX x now) (H : Heap)
    (h1 : hget H 1 = .pcells [.int .i64 (k : Int)]) (h2 : hget H 2 = .pcells [.sl .nil 0 []]) (h3 : hget H 3 = .pcells (kn pod)) (h4 : hget H 4 = .pcells (kn podTo)) (h5 : hget H 5 = .pcells [.sl x now.length (kns now)])
    (h6 : hget H 6 = .pcells [.sl y to.length (kns to)]) (h7 : hget H 7 = lo r .ready) (hlen : H.length = 8) :
    Has (EE env (.fn 36) [.yield 7, .ptr 3 0, .ptr 5 0, .ptr 4 0, .ptr 6 0] H) (fun w => Fin k r (allS pod podTo now to) w.2) := by
  refine EE_has (fn_has rfl ?_)
  have e8 : H.length = 8 := hlen
  refine seq_st (σ := Heap) (fun _ => [(0, .yield 7), (3, .ptr 4 0), (4, .ptr 6 0), (6, .ptr 8 0), (7, .pv (.sl x now.length (kns now)))]) (fun H => H) (fun H => Inv r k podTo (.sl y to.length (kns to)) pod [] (.pv (.sl .nil 0 [])) H) ?_ (fun H ho r1 => ?_)
  · refine hgetK_has _ ((hget_app _ (by omega)).trans h3) ?_
    refine secK_has (v := kn pod) rfl (Nat.le_refl _) ?_
    refine hgetK_has _ ((hget_app _ (by omega)).trans h5) ?_
    refine getK_has rfl ?_
    refine hgetK_last ?_
    refine needK_has rfl ?_
    refine eqK_has_eq (kn pod) rfl ?_
    refine sameK_has ?_ ?_ ?_
    · rw [show hget (hset (H ++ [HObj.pcells [.int .i64 0, .int .i64 0, .int .i64 0, .int .i64 0, .int .i64 0]]) H.length (.pcells (kn pod))) 5 = hget (H ++ [HObj.pcells [.int .i64 0, .int .i64 0, .int .i64 0, .int .i64 0, .int .i64 0]]) 5 from hget_hset_ne _ _ (by omega)]
    · rw [show hget (H ++ [HObj.pcells [.int .i64 0, .int .i64 0, .int .i64 0, .int .i64 0, .int .i64 0]]) 5 = _ from (hget_app _ (by omega)).trans h5]; rfl
    have kp := fun i o (h : hget H i = o) (ho : o ≠ .dead) => keep2 (.pcells [.int .i64 0, .int .i64 0, .int .i64 0, .int .i64 0, .int .i64 0]) (.pcells (kn pod)) h ho
    refine Has.intro ⟨rfl, _, ⟨kp 1 _ h1 ((by intro h; cases h)), kp 2 _ h2 ((by intro h; cases h)), kp 4 _ h4 ((by intro h; cases h)), kp 6 _ h6 ((by intro h; cases h)), kp 7 _ h7 ((by intro h; cases h)), ?_, .inl ⟨rfl, rfl, rfl, rfl⟩⟩, ⟨rfl, rfl, rfl, ?_, rfl, trivial⟩, rfl⟩
    · have := hget_hset_same (H := H ++ [HObj.pcells [.int .i64 0, .int .i64 0, .int .i64 0, .int .i64 0, .int .i64 0]]) (id := H.length) (.pcells (kn pod)) (by simp)
      rw [e8] at this ⊢
      exact this
    · show AV.ptr H.length 0 = _
      rw [e8]
  refine loopK_has ?_
  refine iterE_loop (σ := Kn × List Kn × Ext × List Stp × AV × Heap) (fun s => D s.1 podTo s.2.1 to)
    (fun s => [(0, .yield 7), (3, .ptr 4 0), (4, .ptr 6 0), (6, .ptr 8 0), (7, .pv (.sl s.2.2.1 s.2.1.length (kns s.2.1)))]) (fun s => s.2.2.2.2.2)
    (fun s => s.2.1.length = now.length ∧ okX s.2.2.1 s.2.1 ∧ Inv r k podTo (.sl y to.length (kns to)) s.1 s.2.2.2.1 s.2.2.2.2.1 s.2.2.2.2.2 ∧
      allS pod podTo now to = s.2.2.2.1 ++ allS s.1 podTo s.2.1 to ∧ s.2.2.2.1.length + D s.1 podTo s.2.1 to ≤ 65 ∧ s.2.2.2.1.length ≤ k) (fun ⟨p, l, xl, acc, v, H⟩ ⟨hll, hxl, hI, hall, hD, hak⟩ r2 => ?_)
    (pod, now, x, [], .pv (.sl .nil 0 []), H) ⟨rfl, hx, ho, rfl, by
      have := df_le pod podTo
      have := dl_le now to
      simp only [D, List.length_nil]; omega, Nat.zero_le _⟩ ⟨rfl, rfl, rfl, rfl, rfl, trivial⟩ rfl
  clear h1 h2 h3 h4 h5 h6 h7 hlen e8 ho
  dsimp only at hll hxl hI hall hD hak ⊢
  obtain ⟨h1, h2, h4, h6, h7, h8, hv⟩ := hI
  have l8 : 8 < H.length := hget_lt h8 ((by intro h; cases h))
  have hnx := next_ok p podTo xl y l to (by rw [maxLen_eq]; omega)
  refine hgetK_has _ h8 ?_
  refine secK_has (v := kn p) rfl (Nat.le_refl _) ?_
  refine hgetK_has _ h4 ?_
  refine secK_has (v := kn podTo) rfl (Nat.le_refl _) ?_
  refine hgetK_has _ h6 ?_
  refine getK_has rfl ?_
  cases hq : nxt p podTo l to with
  | none =>
    rw [hq] at hnx
    refine callPK_has hnx ?_
    refine hgetK_last ?_
    refine needK_has rfl ?_
    refine eqK_has_eq (sc ⟨0, 0, 0⟩) rfl ?_
    rw [allS_none hq, List.append_nil] at hall
    rw [hall]
    refine Has.intro (Has.intro ?_)
    refine ⟨v, .ready, .inl rfl, keep2 _ _ h7 ((by intro h; cases h)), keep2 _ _ h2 cellOf_ne.1, ?_⟩
    rw [List.take_of_length_le hak]
    exact AppV_put (AppV_grow hv _) _ (hget_append_same H _) ((fun _ _ h => by cases h))
  | some s =>
    rw [hq] at hnx
    have hst := (nxt_ph hq)
    have hDs := D_step (ph_is hst.1 hst.2)
    refine callPK_has hnx ?_
    refine hgetK_last ?_
    refine needK_has rfl ?_
    refine eqK_has_eq (sc s) rfl ?_
    refine hgetK_set ?_
    refine secK_has (v := sc s) rfl (Nat.le_refl 3) ?_
    have kp := fun i o (h : hget H i = o) (ho : o ≠ .dead) => keep2 (.pcells [.int .i64 0, .int .i64 0, .int .i64 0]) (.pcells (sc s)) h ho
    have hs1 : hget (hset (H ++ [HObj.pcells [.int .i64 0, .int .i64 0, .int .i64 0]]) H.length (.pcells (sc s))) H.length = .pcells (sc s) := hget_hset_same _ (by simp)
    refine callSK_has' ((yd r k acc (by omega) s v _ (kp 1 _ h1 ((by intro h; cases h))) (kp 2 _ h2 cellOf_ne.1) (kp 7 _ h7 ((by intro h; cases h))) (AppV_put (AppV_grow hv _) _ (hget_append_same H _) ((fun _ _ h => by cases h)))).mono fun w hw => ?_)
    obtain ⟨b, H'⟩ := w
    dsimp only at hw ⊢
    rcases hw with ⟨hge, rfl, g7, g2, gv⟩ | ⟨hlt, rfl, g7, v', g2, gv, same⟩
    · refine Has.intro (Has.intro ?_)
      refine ⟨v, .done (.exit 0), .inr rfl, g7, g2, ?_⟩
      have : acc.length = k := by omega
      rw [hall, ← this, List.take_left]
      exact gv
    · have q := fun i (h2 : i ≠ 2) (h7 : i ≠ 7) o (h : hget H i = o) (ho : o ≠ .dead) (ht : ∀ n es, o ≠ .tok n es) => same i h2 h7 o (kp i o h ho) ho ht
      have q8 := q 8 (by decide) (by decide) _ h8 ((by intro h; cases h)) ((fun _ _ h => by cases h))
      refine hgetK_has _ q8 ?_
      refine secK_has (v := kn p) rfl (Nat.le_refl _) ?_
      refine hgetK_has _ (same H.length (by omega) (by omega) _ hs1 ((by intro h; cases h)) ((fun _ _ h => by cases h))) ?_
      refine secK_has (v := sc s) rfl (Nat.le_refl 3) ?_
      refine callPK_has (apply_ok p xl l hxl (by omega) s) ?_
      refine hgetK_has _ q8 ?_
      refine needK_has rfl ?_
      refine eqK_has_eq (kn (ap p l s).1) rfl ?_
      have ne := fun i (h : i ≠ 8) => hget_hset_ne H' (i := 8) (.pcells (kn (ap p l s).1)) h
      refine Has.intro ⟨((ap p l s).1, (ap p l s).2, cpx xl l, acc ++ [s], v', hset H' 8 (.pcells (kn (ap p l s).1))), ⟨?_, ?_, ⟨?_, ?_, ?_, ?_, ?_, ?_, ?_⟩, ?_, ?_, ?_⟩, ?_, ⟨rfl, rfl, rfl, rfl, ?_, trivial⟩, rfl⟩
      · dsimp only; rw [ap_len]; exact hll
      · dsimp only
        have hl2 := ap_len p l s
        have := cpx_ok xl l
        revert this hl2
        generalize (ap p l s).2 = l2
        intro hl2 this
        rcases this with ⟨h, rfl⟩ | h | h
        · exact .inl ⟨h, List.eq_nil_of_length_eq_zero hl2⟩
        · exact .inr (.inl h)
        · exact .inr (.inr h)
      · exact (ne 1 (by decide)).trans (q 1 (by decide) (by decide) _ h1 ((by intro h; cases h)) ((fun _ _ h => by cases h)))
      · exact (ne 2 (by decide)).trans g2
      · exact (ne 4 (by decide)).trans (q 4 (by decide) (by decide) _ h4 ((by intro h; cases h)) ((fun _ _ h => by cases h)))
      · exact (ne 6 (by decide)).trans (q 6 (by decide) (by decide) _ h6 ((by intro h; cases h)) ((fun _ _ h => by cases h)))
      · exact (ne 7 (by decide)).trans g7
      · exact hget_hset_same _ (hget_lt q8 ((by intro h; cases h)))
      · exact AppV_put gv _ q8 ((fun _ _ h => by cases h))
      · dsimp only
        rw [hall, allS_some hq, List.append_assoc]; rfl
      · dsimp only
        rw [List.length_append, List.length_singleton]
        omega
      · dsimp only
        rw [List.length_append, List.length_singleton]
        omega
      · dsimp only; omega
      · dsimp only
        rw [ap_len]; rfl

/-! ### the law's list of steps -/
def stC (pod podTo : Kn) (x y : Ext) (now to : List Kn) (most : Int) : List PV := kn pod ++ (kn podTo ++ [.sl x now.length (kns now), .sl y to.length (kns to), .int .i64 most])
theorem bare (o : HObj) : True := trivial
set_option maxHeartbeats 1000000 in
theorem steps_ok (pod podTo : Kn) (x y : Ext) (now to : List Kn) (hl : now.length ≤ 12) (hl2 : to.length ≤ 12) (hx : okX x now) (hy : okX y to) (most : Int) (k : Nat) (hk : k ≤ 200) :
    EP (EE env) 10 [.agg (stC pod podTo x y now to most), .int .i64 (k : Int)] = some (stl ((allS pod podTo now to).take k)) := by
  have hc1 := clone_ok x now hx (by omega)
  have hc2 := clone_ok y to hy (by omega)
  refine Has.eq (EP_has (fn_has rfl ?_))
  refine seq_on [(2, .ptr 0 0), (3, .ptr 1 0)] [HObj.pcells (stC pod podTo x y now to most), .pcells [.int .i64 (k : Int)]] (Has.intro ⟨rfl, ⟨rfl, rfl, trivial⟩, rfl⟩) (fun r => ?_)
  refine seq_on [(2, .ptr 0 0), (3, .ptr 1 0), (5, .ptr 2 0)] ([HObj.pcells (stC pod podTo x y now to most), .pcells [.int .i64 (k : Int)], .pcells [.sl .nil 0 []]]) (Has.intro ⟨rfl, ⟨rfl, rfl, rfl, trivial⟩, rfl⟩) (fun r => ?_)
  refine seq_on [(3, .ptr 1 0), (5, .ptr 2 0), (6, .fn 36 [] [.ptr 3 0, .ptr 5 0, .ptr 4 0, .ptr 6 0])] (([HObj.pcells (stC pod podTo x y now to most), .pcells [.int .i64 (k : Int)], .pcells [.sl .nil 0 []]]) ++ [.pcells (kn pod), .pcells (kn podTo), .pcells [.sl (cpx x now) now.length (kns now)], .pcells [.sl (cpx y to) to.length (kns to)]]) ?_ (fun r => ?_)
  · refine hgetK_has _ rfl ?_
    refine secK_has (v := kn pod) rfl (by show 5 ≤ 13; decide) ?_
    refine hgetK_has _ rfl ?_
    refine secK_has (v := kn podTo) rfl (by show 10 ≤ 13; decide) ?_
    refine hgetK_has _ rfl ?_
    refine getK_has rfl ?_
    refine hgetK_has _ rfl ?_
    refine getK_has rfl ?_
    refine callSK_has' (EE_has ?_)
    refine callPK_has hc1 ?_
    refine callPK_has hc2 ?_
    refine hgetK_has _ rfl ?_
    refine needK_has rfl ?_
    refine eqK_has_eq [.sl (cpx x now) now.length (kns now)] rfl ?_
    refine hgetK_has _ rfl ?_
    refine needK_has rfl ?_
    refine eqK_has_eq [.sl (cpx y to) to.length (kns to)] rfl ?_
    refine Has.intro ?_
    exact Has.intro ⟨rfl, ⟨rfl, rfl, rfl, trivial⟩, rfl⟩
  refine seq_on [(3, .ptr 1 0), (5, .ptr 2 0), (6, .fn 36 [] [.ptr 3 0, .ptr 5 0, .ptr 4 0, .ptr 6 0])] (([HObj.pcells (stC pod podTo x y now to most), .pcells [.int .i64 (k : Int)], .pcells [.sl .nil 0 []]]) ++ [.pcells (kn pod), .pcells (kn podTo), .pcells [.sl (cpx x now) now.length (kns now)], .pcells [.sl (cpx y to) to.length (kns to)]]) (Has.intro ⟨rfl, ⟨rfl, rfl, rfl, trivial⟩, rfl⟩) (fun r => ?_)
  have hw : ∀ r : Regs, Agr r [(3, .ptr 1 0), (5, .ptr 2 0)] →
      Has (EE env (.fn 36) [.yield 7, .ptr 3 0, .ptr 5 0, .ptr 4 0, .ptr 6 0] (([HObj.pcells (stC pod podTo x y now to most), .pcells [.int .i64 (k : Int)], .pcells [.sl .nil 0 []]]) ++ [.pcells (kn pod), .pcells (kn podTo), .pcells [.sl (cpx x now) now.length (kns now)], .pcells [.sl (cpx y to) to.length (kns to)]] ++ [.loop ⟨.ready, r, [20], asgC, bodC⟩]))
        (fun w => ∃ r, Fin k r (allS pod podTo now to) w.2) := by
    intro r hA
    have e : lo r .ready = .loop ⟨.ready, r, [20], asgC, bodC⟩ := by unfold lo; rw [hA.eq]
    rw [← e]
    exact (iter_ok r k hk pod podTo (cpx x now) (cpx y to) now to hl (cpx_ok x now) _ rfl rfl rfl rfl rfl rfl rfl rfl).mono fun w hw => ⟨r, hw⟩
  refine callSK_has' ((hw _ ⟨rfl, rfl, trivial⟩).mono fun w hw => ?_)
  obtain ⟨b, H'⟩ := w
  obtain ⟨r3, v, st, hst, g7, g2, gv⟩ := hw
  dsimp only at g7 g2 gv ⊢
  have g2' : hget (hset H' 7 .dead) 2 = cellOf v := (hget_hset_ne _ _ (by decide)).trans g2
  generalize (allS pod podTo now to).take k = A at *
  have hend : (∃ e, v = .pv e ∧ A = [] ∧ e = .sl .nil 0 []) ∨ ∃ t, v = .tsl t A.length (flat sc A) ∧ A ≠ [] := by
    rcases gv with ⟨hn, _, rfl, _⟩ | ⟨hn, _, t, rfl, _⟩
    · exact .inl ⟨_, rfl, List.eq_nil_of_length_eq_zero hn, rfl⟩
    · exact .inr ⟨t, rfl, fun h => by rw [h] at hn; exact hn rfl⟩
  rcases hend with ⟨e, rfl, rfl, rfl⟩ | ⟨t, rfl, hne⟩
  · rcases hst with rfl | rfl
    all_goals
      refine hgetK_has _ g7 ?_
      refine hgetK_has _ g2' ?_
      refine getK_has rfl ?_
      (refine Has.intro (Has.intro ?_))
      rfl
  · rcases hst with rfl | rfl
    all_goals
      refine hgetK_has _ g7 ?_
      refine hgetK_has _ g2' ?_
      (refine Has.intro (Has.intro ?_))
      cases A with
      | nil => exact absurd rfl hne
      | cons a A => rfl
end Go.Proofs.Ytaiomdfajdeacaa
