/-
  TapeReads in the abstract machine: what is read, one after the other.
-/
import Derived.Test.YtpebkojodmjleaaTbC
set_option linter.all false
set_option linter.unusedVariables false
set_option linter.unusedSimpArgs false
set_option linter.unusedSectionVars false
namespace Go.Proofs.Ytpebkojodmjleaa
open Go Go.VM

theorem Left.out' {p : Nat} {v : PV} {bs : List UInt8} {e : Int} {H : Heap} {y : AV × Heap} (h : Left p v bs e H y) : ∃ x, y = (.pv v, hset H p (rdO x bs e)) := by
  obtain ⟨h1, x, h2⟩ := h
  exact ⟨x, by rw [← h1, ← h2]⟩
structure In where
  k : Int
  n : Int
  m : Int
  u : Nat
def inC (o : In) : List PV := [.int .i64 o.k, .int .i64 o.n, .int .i64 o.m, .int .u64 (o.u : Int)]
theorem inC_len (o : In) : (inC o).length = 4 := rfl
def okI (o : In) : Prop := o.n ≤ 9223372036854775807 ∧ o.u < 18446744073709551616
/-- The program's reader and the document's have the same before them. -/
def Two (s : RS) (J : Heap) : Prop := (∃ x, hget J 1 = rdO x s.1 s.2) ∧ SD J 0 s ∧ s.1.length ≤ 3000
theorem two_step {J J3 : Heap} {s : RS} {x : Ext} (hl : 1 < J.length) (h1 : SD J3 0 s) (h2 : KR 0 (hset J 1 (rdO x s.1 s.2)) J3) (hs : s.1.length ≤ 3000) : Two s J3 :=
  ⟨⟨x, h2.obj (by decide) (hget_hset_same _ hl) ((by intro h; cases h))⟩, h1, hs⟩
abbrev LP : VCode := c4.at [1, 1, 1, 1, 0]
abbrev BB : VCode := LP.at [1, 0, 0, 1, 1, 0, 0]
def Li (x : Ext) (l : List In) (i : Nat) : List (Nat × AV) := [(5, .ptr 1 0), (6, .ptr 0 0), (27, .pv (.sl x l.length (flat inC l))), (28, .pv (.int .i64 l.length)), (29, .pv (.int .i64 i))]
theorem gT_short (m : Int) (r : RS) : (gT m r).2.1.length ≤ r.1.length := (rTxt_short r.1 r.2 m).2
theorem gS_short (a b : Int) (r : RS) : (gS a b r).2.1.length ≤ r.1.length := rSig_short r.1 r.2 a b
theorem gF_short (r : RS) : (gF r).2.1.length ≤ r.1.length := rFlg_short r.1 r.2
theorem rEndS_short (r : RS) : (rEndS r).1.length ≤ r.1.length := by
  unfold rEndS; split
  · exact Nat.zero_le _
  · exact Nat.le_refl _
set_option maxHeartbeats 4000000 in
theorem case_ok (x : Ext) (l : List In) (i : Nat) (s : RS) (J : Heap) (hT : Two s J) (o : In) (ho : okI o) (a : Nat) (ha : 1 < a) (k8 : hget J a = .pcells (inC o)) (r0 : Regs) :
    Has (evK env (EE env) (BB.at [1, 1, 0]) Res (setL r0 ((8, .ptr a 0) :: (9, .pv (.bool true)) :: Li x l i)) J doneK) (fun y => y.1 = .normal ∧ ∃ t : RS × Heap, Two t.1 t.2 ∧ Agr y.2.1 ((9, .pv (.bool true)) :: Li x l i) ∧ y.2.2 = t.2) := by
  obtain ⟨⟨z, hz⟩, hq, hs⟩ := hT
  obtain ⟨hn, hu⟩ := ho
  have hb : s.1.length ≤ 1000000 := by omega
  have hl : 1 < J.length := hget_lt hz ((by intro h; cases h))
  have k8' : ∀ ob, hget (hset J 1 ob) a = .pcells (inC o) := fun ob => (hget_hset_ne _ _ (by omega)).trans k8
  refine hgetK_has _ k8 ?_
  refine getK_has rfl ?_
  refine eqK_has ?_
  refine needK_has rfl ?_
  refine eqK_has_name (fun c hc => ?_)
  clear hc
  refine boolK_beq (fun _ => ?_) (fun _ => ?_)
  · refine hgetK_has _ k8 ?_
    refine getK_has rfl ?_
    refine callSK_has' ((rnum_ok 1 z s.1 hb s.2 J hz o.u).mono fun y hy => ?_)
    obtain ⟨z2, rfl⟩ := hy.out'
    dsimp only
    refine hgetK_has _ (k8' _) ?_
    refine getK_has rfl ?_
    refine callSK_has' ((snum_rd (hq.set _ (by decide)) o.u hu).mono fun y hy => ?_)
    obtain ⟨v, J3⟩ := y
    obtain ⟨rfl, h1, h2⟩ := hy
    refine boolK_beq_t rfl ?_
    refine sameK_has (by rw [k8, k8']) (by rw [k8]; rfl) ?_
    exact Has.intro ⟨rfl, (_, J3), two_step hl h1 h2 (Nat.le_trans (gN_short _ _) hs), (⟨rfl, rfl, rfl, rfl, rfl, rfl, trivial⟩), rfl⟩
  refine boolK_beq (fun _ => ?_) (fun _ => ?_)
  · refine hgetK_has _ k8 ?_
    refine getK_has rfl ?_
    refine hgetK_has _ k8 ?_
    refine getK_has rfl ?_
    refine callSK_has' ((rsig_ok 1 z s.1 hb s.2 J hz o.n o.m).mono fun y hy => ?_)
    obtain ⟨z2, rfl⟩ := hy.out'
    dsimp only
    refine hgetK_has _ (k8' _) ?_
    refine getK_has rfl ?_
    refine hgetK_has _ (k8' _) ?_
    refine getK_has rfl ?_
    refine callSK_has' ((ssig_rd (hq.set _ (by decide)) o.n o.m).mono fun y hy => ?_)
    obtain ⟨v, J3⟩ := y
    obtain ⟨rfl, h1, h2⟩ := hy
    refine boolK_beq_t rfl ?_
    refine sameK_has (by rw [k8, k8']) (by rw [k8]; rfl) ?_
    refine sameK_has (by rw [k8, k8']) (by rw [k8]; rfl) ?_
    exact Has.intro ⟨rfl, (_, J3), two_step hl h1 h2 (Nat.le_trans (gS_short _ _ _) hs), (⟨rfl, rfl, rfl, rfl, rfl, rfl, trivial⟩), rfl⟩
  refine boolK_beq (fun _ => ?_) (fun _ => ?_)
  · refine hgetK_has _ k8 ?_
    refine getK_has rfl ?_
    refine callSK_has' ((rtxt_ok 1 z s.1 hb s.2 J hz o.n hn).mono fun y hy => ?_)
    obtain ⟨z2, rfl⟩ := hy.out'
    dsimp only
    refine hgetK_has _ (k8' _) ?_
    refine getK_has rfl ?_
    refine callSK_has' ((stxt_rd (hq.set _ (by decide)) o.n hn).mono fun y hy => ?_)
    obtain ⟨v, J3⟩ := y
    obtain ⟨rfl, h1, h2⟩ := hy
    refine boolK_has_true (beq_self_eq_true _) ?_
    refine sameK_has (by rw [k8, k8']) (by rw [k8]; rfl) ?_
    exact Has.intro ⟨rfl, (_, J3), two_step hl h1 h2 (Nat.le_trans (gT_short _ _) hs), (⟨rfl, rfl, rfl, rfl, rfl, rfl, trivial⟩), rfl⟩
  refine boolK_beq (fun _ => ?_) (fun _ => ?_)
  · refine callSK_has' ((rflg_ok 1 z s.1 hb s.2 J hz).mono fun y hy => ?_)
    obtain ⟨z2, rfl⟩ := hy.out'
    dsimp only
    refine callSK_has' ((sflg_rd (hq.set _ (by decide))).mono fun y hy => ?_)
    obtain ⟨v, J3⟩ := y
    obtain ⟨rfl, h1, h2⟩ := hy
    refine boolK_has_true (beq_self_eq_true _) ?_
    exact Has.intro ⟨rfl, (_, J3), two_step hl h1 h2 (Nat.le_trans (gF_short _) hs), (⟨rfl, rfl, rfl, rfl, rfl, rfl, trivial⟩), rfl⟩
  refine boolK_beq (fun _ => ?_) (fun _ => ?_)
  · refine hgetK_has _ k8 ?_
    refine getK_has rfl ?_
    obtain ⟨z2, hf⟩ := fail_s 1 z s J hz o.n
    refine callSK_has hf ?_
    refine hgetK_has _ (k8' _) ?_
    refine getK_has rfl ?_
    have hq2 := hq.set (rdO z2 (rFail o.n s).1 (rFail o.n s).2) (i := 1) (by decide)
    refine callSK_has (sfail_s hq2 o.n) ?_
    exact Has.intro ⟨rfl, (_, _), two_step hl ⟨hget_hset_same _ hq2.lt, Nat.le_trans (rFail_short _ _) hb⟩ (KR.put 0 _ _) (Nat.le_trans (rFail_short _ _) hs), (⟨rfl, rfl, rfl, rfl, rfl, rfl, trivial⟩), rfl⟩
  have hes := Nat.le_trans (rEndS_short s) hs
  obtain ⟨bs, e⟩ := s
  refine hgetK_has _ hq.1 ?_
  refine getK_has rfl ?_
  refine boolK_sne (b := []) (fun h1 => ?_) (fun h1 => ?_)
  · refine callSK_has (sfail_s hq 13) ?_
    have he : rFail 13 (bs, e) = rEndS (bs, e) := by
      unfold rFail rEndS
      by_cases h0 : e = 0
      · rw [if_pos ⟨h0, by decide⟩, if_pos ⟨h0, h1⟩]
      · rw [if_neg (fun h => h0 h.1), if_neg (fun h => h0 h.1)]
    rw [he]
    have hz2 : hget (hset J 0 (so (rEndS (bs, e)))) 1 = rdO z bs e := (hget_hset_ne _ _ (by decide)).trans hz
    have hq2 : SD (hset J 0 (so (rEndS (bs, e)))) 0 (rEndS (bs, e)) := ⟨hget_hset_same _ hq.lt, by omega⟩
    obtain ⟨z2, hf⟩ := end_s 1 z (bs, e) _ hz2
    refine callSK_has hf ?_
    have hl2 : 1 < (hset J 0 (so (rEndS (bs, e)))).length := hget_lt hz2 ((by intro h; cases h))
    have hq3 := hq2.set (rdO z2 (rEndS (bs, e)).1 (rEndS (bs, e)).2) (i := 1) (by decide)
    refine hgetK_has _ hq3.1 ?_
    refine getK_has rfl ?_
    refine boolK_beq_t rfl ?_
    refine sameK_has (by rw [hq3.1, hq2.1]) (by first | (rw [hq3.1]; rfl) | (rw [hq2.1]; rfl)) ?_
    exact Has.intro ⟨rfl, (_, _), two_step hl2 hq3 (KR.refl 0 _) hes, (⟨rfl, rfl, rfl, rfl, rfl, rfl, trivial⟩), rfl⟩
  · have he : rEndS (bs, e) = (bs, e) := by unfold rEndS; rw [if_neg (fun h => h.2 h1)]
    have hz2 : hget J 1 = rdO z bs e := hz
    have hq2 : SD J 0 (rEndS (bs, e)) := by rw [he]; exact hq
    obtain ⟨z2, hf⟩ := end_s 1 z (bs, e) _ hz2
    refine callSK_has hf ?_
    have hl2 : 1 < (J).length := hget_lt hz2 ((by intro h; cases h))
    have hq3 := hq2.set (rdO z2 (rEndS (bs, e)).1 (rEndS (bs, e)).2) (i := 1) (by decide)
    refine hgetK_has _ hq3.1 ?_
    refine getK_has rfl ?_
    refine boolK_beq_t rfl ?_
    refine sameK_has (by rw [hq3.1, hq2.1]) (by first | (rw [hq3.1]; rfl) | (rw [hq2.1]; rfl)) ?_
    exact Has.intro ⟨rfl, (_, _), two_step hl2 hq3 (KR.refl 0 _) hes, (⟨rfl, rfl, rfl, rfl, rfl, rfl, trivial⟩), rfl⟩
end Go.Proofs.Ytpebkojodmjleaa
