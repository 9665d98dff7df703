/-
  What must be answered ahead of everything else; TapeWrites in the abstract machine.
-/
import Derived.Test.YtpebkojodmjleaaTaF
set_option linter.all false
set_option linter.unusedVariables false
set_option linter.unusedSimpArgs false
set_option linter.unusedSectionVars false
namespace Go.Proofs.Ytpebkojodmjleaa
open Go Go.VM

theorem TP.put {H : Heap} {p q : Nat} {bs : List UInt8} (h : TP H p bs) {o : HObj} (o' : HObj) (hq : hget H q = o) (ho : ∀ n es, o ≠ .tok n es) (hne : p ≠ q) : TP (hset H q o') p bs := by
  obtain ⟨v, h1, h2⟩ := h
  exact ⟨v, (hget_hset_ne _ _ hne).trans h1, AppV_put h2 o' hq ho⟩
theorem TP.grow {H : Heap} {p : Nat} {bs : List UInt8} (h : TP H p bs) (L : Heap) : TP (H ++ L) p bs := by
  obtain ⟨v, h1, h2⟩ := h
  exact ⟨v, (hget_app L (hget_lt h1 cellOf_ne.1)).trans h1, AppV_grow h2 L⟩
def B0 : List UInt8 := [172, 2, 1, 2, 97, 98, 1]
theorem b0_eq : ((([] ++ enc 300) ++ enc (zn (-1))) ++ enc ([97, 98] : List UInt8).length ++ [97, 98]) ++ enc true.toNat = B0 := by
  have e1 : enc 300 = [172, 2] := by rw [enc_hi (by decide), enc_lo (by decide)]; rfl
  have e2 : enc (zn (-1)) = [1] := by rw [show zn (-1) = 1 from by decide, enc_lo (by decide)]; rfl
  have e3 : enc ([97, 98] : List UInt8).length = [2] := by rw [enc_lo (by decide)]; rfl
  have e4 : enc true.toNat = [1] := by rw [enc_lo (by decide)]; rfl
  rw [e1, e2, e3, e4]; rfl
set_option maxRecDepth 10000 in
set_option maxHeartbeats 2000000 in
theorem first_ok : EP (EE env) 6 [] = some (.bool true) := by
  refine Has.eq (EP_has ?_)
  refine callSK_has' ((number_ok 0 300 (by decide) [] (by simp) [.pcells [.sl .nil 0 []]] ⟨.pv (.sl .nil 0 []), rfl, AppV.new rfl⟩).mono fun y hy => ?_)
  rw [forceK_def]
  refine callSK_has' ((signed_ok 0 (-1) (by decide) (by decide) _ (by have := enc_ten (u := 300) (by decide); rw [List.nil_append]; omega) y.2 hy.1).mono fun y2 hy2 => ?_)
  rw [forceK_def]
  have l1 := enc_ten (u := 300) (by decide)
  have l2 := enc_ten (u := zn (-1)) (by decide)
  refine callSK_has' ((text_ok 0 [97, 98] (by decide) _ (by rw [List.nil_append, List.length_append]; omega) y2.2 hy2.1).mono fun y3 hy3 => ?_)
  rw [forceK_def]
  have l3 := enc_ten (u := ([97, 98] : List UInt8).length) (by decide)
  refine callSK_has' ((flag_ok 0 true _ (by rw [List.nil_append, List.length_append, List.length_append, List.length_append]; show _ + 2 ≤ _; omega) y3.2 hy3.1).mono fun y4 hy4 => ?_)
  rw [forceK_def]
  have hT := hy4.1
  rw [b0_eq] at hT
  generalize y4.2 = H at *
  clear hy hy2 hy3 hy4 l1 l2 l3
  obtain ⟨e1, hb1, hx1⟩ := bytes_ok 0 B0 (by decide) H hT
  refine callSK_has hb1 ?_
  obtain ⟨e2, hr⟩ := read_ok e1 B0 hx1 (by decide) H
  refine callSK_has hr ?_
  have hp0 : (0 : Nat) ≠ H.length := by have := TP.len hT; omega
  have hq : hget (H ++ [rdO e2 B0 0]) H.length = rdO e2 B0 0 := hget_append_same H _
  have hT := TP.grow hT [rdO e2 B0 0]
  generalize H.length = p at *
  generalize H ++ [rdO e2 B0 0] = H at *
  -- the numbers
  have n1 : rNum B0 0 300 = (300, [1, 2, 97, 98, 1], 0) := by decide +kernel
  refine callSK_has' ((rnum_ok p e2 B0 (by decide) 0 H hq 300).mono fun y hy => ?_)
  rw [n1] at hy
  obtain ⟨v, H1⟩ := y
  obtain ⟨rfl, x1, rfl⟩ := hy
  have hT := TP.put hT (rdO x1 [1, 2, 97, 98, 1] 0) hq ((fun _ _ h => by cases h)) hp0
  have hq := hget_hset_same (H := H) (id := p) (rdO x1 [1, 2, 97, 98, 1] 0) (hget_lt hq ((by intro h; cases h)))
  dsimp only
  generalize hset H p (rdO x1 [1, 2, 97, 98, 1] 0) = H at *
  have n2 : rSig [1, 2, 97, 98, 1] 0 (-1) 1 = (-1, [2, 97, 98, 1], 0) := by decide +kernel
  refine callSK_has' ((rsig_ok p x1 _ (by decide) 0 H hq (-1) 1).mono fun y hy => ?_)
  rw [n2] at hy
  obtain ⟨v, H1⟩ := y
  obtain ⟨rfl, x2, rfl⟩ := hy
  have hT := TP.put hT (rdO x2 [2, 97, 98, 1] 0) hq ((fun _ _ h => by cases h)) hp0
  have hq := hget_hset_same (H := H) (id := p) (rdO x2 [2, 97, 98, 1] 0) (hget_lt hq ((by intro h; cases h)))
  dsimp only
  generalize hset H p (rdO x2 [2, 97, 98, 1] 0) = H at *
  have n3 : rTxt [2, 97, 98, 1] 0 2 = ([97, 98], [1], 0) := by decide +kernel
  refine callSK_has' ((rtxt_ok p x2 _ (by decide) 0 H hq 2 (by decide)).mono fun y hy => ?_)
  rw [n3] at hy
  obtain ⟨v, H1⟩ := y
  obtain ⟨rfl, x3, rfl⟩ := hy
  have hT := TP.put hT (rdO x3 [1] 0) hq ((fun _ _ h => by cases h)) hp0
  have hq := hget_hset_same (H := H) (id := p) (rdO x3 [1] 0) (hget_lt hq ((by intro h; cases h)))
  dsimp only
  generalize hset H p (rdO x3 [1] 0) = H at *
  have n4 : rFlg [1] 0 = (true, [], 0) := by decide +kernel
  refine callSK_has' ((rflg_ok p x3 _ (by decide) 0 H hq).mono fun y hy => ?_)
  rw [n4] at hy
  obtain ⟨v, H1⟩ := y
  obtain ⟨rfl, x4, rfl⟩ := hy
  have hT := TP.put hT (rdO x4 [] 0) hq ((fun _ _ h => by cases h)) hp0
  have hq := hget_hset_same (H := H) (id := p) (rdO x4 [] 0) (hget_lt hq ((by intro h; cases h)))
  dsimp only
  generalize hset H p (rdO x4 [] 0) = H at *
  -- another reader
  obtain ⟨e5, hr⟩ := read_ok .nnx [128] (.inr (.inr rfl)) (by decide) H
  refine callSK_has hr ?_
  have hpl := hget_lt hq ((by intro h; cases h))
  have hq := (hget_app [rdO e5 [128] 0] hpl).trans hq
  have hT := TP.grow hT [rdO e5 [128] 0]
  have hs : hget (H ++ [rdO e5 [128] 0]) H.length = rdO e5 [128] 0 := hget_append_same H _
  have hne : p ≠ H.length := by omega
  have hs0 : (0 : Nat) ≠ H.length := by omega
  generalize H.length = s at *
  generalize H ++ [rdO e5 [128] 0] = H at *
  have n5 : rNum [128] 0 9 = (0, [], 10) := by decide +kernel
  refine callSK_has' ((rnum_ok s e5 [128] (by decide) 0 H hs 9).mono fun y hy => ?_)
  rw [n5] at hy
  obtain ⟨v, H1⟩ := y
  obtain ⟨rfl, x5, rfl⟩ := hy
  have hT := TP.put hT (rdO x5 [] 10) hs ((fun _ _ h => by cases h)) hs0
  have hq := (hget_hset_ne H (rdO x5 [] 10) hne).trans hq
  have hs := hget_hset_same (H := H) (id := s) (rdO x5 [] 10) (hget_lt hs ((by intro h; cases h)))
  dsimp only
  generalize hset H s (rdO x5 [] 10) = H at *
  obtain ⟨e6, hb6, hx6⟩ := bytes_ok 0 B0 (by decide) H hT
  refine callSK_has hb6 ?_
  refine needK_has rfl ?_
  refine bindK_has (bc_str B0) ?_
  refine boolK_has_true (by decide +kernel) ?_
  refine boolK_has_true rfl ?_
  refine boolK_has_true rfl ?_
  refine boolK_has_true (by decide +kernel) ?_
  refine callSK_has' ((end_ok p x4 [] 0 H hq).mono fun y hy => ?_)
  obtain ⟨v, H1⟩ := y
  obtain ⟨rfl, o, rfl⟩ := hy
  dsimp only
  refine boolK_has_true rfl ?_
  refine callSK_has (err_ok s x5 [] 10 _ ((hget_hset_ne _ _ (fun e => hne e.symm)).trans hs)) ?_
  refine boolK_has_true rfl ?_
  have n6 : (enc 128).length = 2 := by rw [enc_hi (by decide), enc_lo (by decide)]; rfl
  have hsz := size_ok 128 (by decide)
  rw [n6] at hsz
  refine callPK_has hsz ?_
  refine boolK_has_true rfl ?_
  exact Has.intro (Has.intro rfl)
end Go.Proofs.Ytpebkojodmjleaa
