/-
  TapeBack in the abstract machine.
-/
import Derived.Test.YtpebkojodmjleaaTaI
set_option linter.all false
set_option linter.unusedVariables false
set_option linter.unusedSimpArgs false
set_option linter.unusedSectionVars false
namespace Go.Proofs.Ytpebkojodmjleaa
open Go Go.VM

theorem Left.out {p : Nat} {v : PV} {bs : List UInt8} {e : Int} {H : Heap} {y : AV × Heap} (h : Left p v bs e H y) : ∃ x, y = (.pv v, hset H p (rdO x bs e)) := by
  obtain ⟨h1, x, h2⟩ := h
  exact ⟨x, by rw [← h1, ← h2]⟩
/-- What stands while the list is ranged over. -/
structure Bk (b : List UInt8) (r x a : Nat) (bs xs cs : List UInt8) (e : Int) (H : Heap) : Prop where
  hr : ∃ z, hget H r = rdO z bs 0
  hx : ∃ z, hget H x = rdO z xs e
  ha : TP H a cs
  mir : Mir b xs e cs
  short : xs.length ≤ 3000
theorem Bk.setr {b : List UInt8} {r x a : Nat} {bs xs cs bs' : List UInt8} {e : Int} {H : Heap} (h : Bk b r x a bs xs cs e H) (z : Ext) (hrx : r ≠ x) (hra : r ≠ a) : Bk b r x a bs' xs cs e (hset H r (rdO z bs' 0)) := by
  obtain ⟨⟨z1, h1⟩, ⟨z2, h2⟩, h3, h4, h5⟩ := h
  exact ⟨⟨z, hget_hset_same _ (hget_lt h1 ((by intro h; cases h)))⟩, ⟨z2, (hget_hset_ne _ _ (fun e => hrx e.symm)).trans h2⟩, TP.put h3 _ h1 ((fun _ _ h => by cases h)) (fun e => hra e.symm), h4, h5⟩
theorem Bk.setx {b : List UInt8} {r x a : Nat} {bs xs cs xs' new : List UInt8} {e e' : Int} {H : Heap} (h : Bk b r x a bs xs cs e H) (z : Ext) (hrx : r ≠ x) (hxa : x ≠ a) (hs : xs'.length ≤ xs.length) (hm : e' = 0 → e = 0 ∧ xs = new ++ xs') {y : AV × Heap}
    (hw : TP (hset H x (rdO z xs' e')) a cs → Wrote a (cs ++ new) (hset H x (rdO z xs' e')) y) (hra : r ≠ a) : Bk b r x a bs xs' (cs ++ new) e' y.2 := by
  obtain ⟨⟨z1, h1⟩, ⟨z2, h2⟩, h3, h4, h5⟩ := h
  obtain ⟨g1, g2⟩ := hw (TP.put h3 _ h2 ((fun _ _ h => by cases h)) (fun e => hxa e.symm))
  refine ⟨⟨z1, g2.2 r _ hra ((hget_hset_ne _ _ hrx).trans h1) ((by intro h; cases h)) ((fun _ _ h => by cases h))⟩, ⟨z, g2.2 x _ hxa (hget_hset_same _ (hget_lt h2 ((by intro h; cases h)))) ((by intro h; cases h)) ((fun _ _ h => by cases h))⟩, g1, h4.step hm, by omega⟩
theorem Bk.box {b : List UInt8} {r x a : Nat} {bs xs cs : List UInt8} {e : Int} {H : Heap} (h : Bk b r x a bs xs cs e H) (z o' : HObj) (hz : ∀ n es, z ≠ .tok n es) : Bk b r x a bs xs cs e (hset (H ++ [z]) H.length o') := by
  obtain ⟨⟨z1, h1⟩, ⟨z2, h2⟩, h3, h4, h5⟩ := h
  exact ⟨⟨z1, keep2 _ _ h1 ((by intro h; cases h))⟩, ⟨z2, keep2 _ _ h2 ((by intro h; cases h))⟩, TP.box h3 _ _ hz, h4, h5⟩
set_option maxHeartbeats 4000000 in
theorem back_ok (ps : List PV) (h : HasArgs [.sl 4 TO, .sl 1 (.int .u8)] ps) : ∃ H', EE env (.fn 5) (ps.map .pv) [] = some (.pv (.bool true), H') := by
  obtain ⟨p1, _, rfl, h1, p2, _, rfl, h2, rfl⟩ := h
  obtain ⟨x, l, rfl, hl, hok⟩ := arg_lo h1
  obtain ⟨xb, b, rfl, hbm, hxb⟩ := arg_bytes h2
  have hl' := hl
  rw [maxLen_eq] at hl'
  refine law_end (EE_has ?_)
  refine callPK_has first_ok ?_
  refine callSK_has' ((written_ok x l hl hok).mono fun y hy => ?_)
  obtain ⟨v, H⟩ := y
  rcases hy with ⟨hg, rfl, hT⟩ | ⟨hg, s, rfl⟩
  rotate_left
  · dsimp only
    exact Has.intro rfl
  dsimp only at hT ⊢
  refine boolK_dec (fun h3 => ?_) (fun h3 => ?_)
  · exact Has.intro rfl
  have hwl := wrs_good hg hok
  obtain ⟨e1, hb1, hx1⟩ := bytes_ok 0 (wrs l) (by omega) H hT
  refine callSK_has hb1 ?_
  obtain ⟨e2, hr⟩ := read_ok e1 (wrs l) hx1 (by omega) H
  refine callSK_has hr ?_
  have hq1 : hget (H ++ [rdO e2 (wrs l) 0]) H.length = rdO e2 (wrs l) 0 := hget_append_same H _
  have hr0 := TP.len hT
  have hlen1 : (H ++ [rdO e2 (wrs l) 0]).length = H.length + 1 := by simp
  generalize H ++ [rdO e2 (wrs l) 0] = H1 at *
  generalize H.length = r at *
  obtain ⟨e3, hr⟩ := read_ok xb b (by rcases hxb with h | h; exact .inl h; exact .inr (.inl h)) (by omega) H1
  refine callSK_has hr ?_
  have hB : Bk b r H1.length (H1.length + 1) (wrs l) b [] 0 ((H1 ++ [rdO e3 b 0]) ++ [.pcells [.sl .nil 0 []]]) := by
    refine ⟨⟨e2, (hget_app _ (by simp; omega)).trans ((hget_app _ (by omega)).trans hq1)⟩, ⟨e3, (hget_app _ (by simp)).trans (hget_append_same H1 _)⟩, ⟨.pv (.sl .nil 0 []), ?_, AppV.new rfl⟩, .inr rfl, by omega⟩
    have := hget_append_same (H1 ++ [rdO e3 b 0]) (.pcells [.sl .nil 0 []])
    show hget _ _ = HObj.pcells [.sl .nil 0 []]
    simpa using this
  have hrx : r ≠ H1.length := by omega
  have hra : r ≠ H1.length + 1 := by omega
  have hxa : H1.length ≠ H1.length + 1 := by omega
  have hH2 : (H1 ++ [rdO e3 b 0]).length = H1.length + 1 := by simp
  generalize H1 ++ [rdO e3 b 0] = H2 at *
  refine loopK_has ?_
  rw [hH2]
  generalize H1.length + 1 = a at *
  generalize H1.length = xx at *
  refine iterE_loop (σ := Nat × List UInt8 × List UInt8 × Int × Heap) (fun s => l.length - s.1) (fun s => [(1, .pv (.sl xb b.length (bc b))), (7, .pv (.bool true)), (8, .ptr r 0), (9, .ptr xx 0), (10, .ptr a 0), (35, .pv (.sl x l.length (flat ou l))), (36, .pv (.int .i64 l.length)), (37, .pv (.int .i64 s.1))]) (fun s => s.2.2.2.2)
    (fun s => s.1 ≤ l.length ∧ s.2.2.1.length ≤ s.1 * 3010 ∧ Bk b r xx a (wrs (l.drop s.1)) s.2.1 s.2.2.1 s.2.2.2.1 s.2.2.2.2) (fun ⟨i, xs, cs, e, J⟩ ⟨hi, hcs, hBk⟩ rr => ?_) (0, b, [], 0, _) ⟨Nat.zero_le _, Nat.zero_le _, hB⟩ ⟨rfl, rfl, rfl, rfl, rfl, rfl, rfl, rfl, trivial⟩ rfl
  dsimp only at hi hcs hBk ⊢
  have hg1 := hg.1
  refine boolK_dec (fun hc => ?_) (fun hc => ?_)
  · have hlt : i < l.length := by omega
    obtain ⟨o, ho⟩ : ∃ o, l[i]? = some o := ⟨_, List.getElem?_eq_getElem hlt⟩
    have hom : o ∈ l := List.mem_of_getElem? ho
    have hoo := hok o hom
    have hos := hg.2 o hom
    obtain ⟨g1, g2⟩ := flat_get ou_len ho
    rw [wrs_drop ho] at hBk
    refine needK_has (by (first | rfl | (simp; done) | (simp; omega))) ?_
    refine secK_has g1 g2 ?_
    refine hgetK_last ?_
    refine needK_has rfl ?_
    refine eqK_has_eq (ou o) rfl ?_
    refine hgetK_set ?_
    refine getK_has rfl ?_
    refine eqK_has_eq _ rfl ?_
    refine needK_has rfl ?_
    refine eqK_has_eq _ (kind4 o.k) ?_
    have hBk2 := Bk.box hBk (.pcells [.int .i64 0, .int .i64 0, .int .u64 0, .str ⟨#[]⟩]) (.pcells (ou o)) ((fun _ _ h => by cases h))
    have hk := hget_hset_same (H := J ++ [HObj.pcells [.int .i64 0, .int .i64 0, .int .u64 0, .str ⟨#[]⟩]]) (id := J.length) (.pcells (ou o)) (by simp)
    have hrl : r ≠ J.length := by obtain ⟨_, h⟩ := hBk.hr; have := hget_lt h ((by intro h; cases h)); omega
    have hxl : xx ≠ J.length := by obtain ⟨_, h⟩ := hBk.hx; have := hget_lt h ((by intro h; cases h)); omega
    have hal : a ≠ J.length := by have := TP.len hBk.ha; omega
    generalize hset (J ++ [HObj.pcells [.int .i64 0, .int .i64 0, .int .u64 0, .str ⟨#[]⟩]]) J.length (.pcells (ou o)) = J2 at *
    generalize J.length = q at *
    have hob : outB o = if o.k % 4 = 0 then enc o.u else if o.k % 4 = 1 then enc (zn o.n) else if o.k % 4 = 2 then enc o.s.length ++ o.s else enc (odd o.n).toNat := rfl
    have hb1 := outB_len hoo hos
    have hbl : (outB o ++ wrs (l.drop (i + 1))).length ≤ 1000000 := by
      rw [← wrs_drop ho]
      have := wrs_len (l := l.drop i) (fun o h => hok o (List.mem_of_mem_drop h)) (fun o h => hg.2 o (List.mem_of_mem_drop h))
      rw [List.length_drop] at this; omega
    clear hBk
    have hk4 : o.k % 4 = 0 ∨ o.k % 4 = 1 ∨ o.k % 4 = 2 ∨ o.k % 4 = 3 := by omega
    rcases hk4 with e4 | e4 | e4 | e4
    · rw [if_pos e4] at hob
      rw [e4]
      rw [hob] at hBk2 hbl
      obtain ⟨⟨z1, hr1⟩, _⟩ := id hBk2
      refine boolK_beq_t rfl ?_
      (refine hgetK_has _ hk ?_; refine getK_has rfl ?_)
      refine callSK_has' ((rnum_ok r z1 _ hbl 0 J2 hr1 o.u).mono fun y hy => ?_)
      rw [rNum_enc hoo.2.1 _ _ (Nat.le_refl _)] at hy
      obtain ⟨z2, rfl⟩ := hy.out
      dsimp only
      have hk3 := (hget_hset_ne J2 (rdO z2 (wrs (l.drop (i + 1))) 0) (fun e => hrl e.symm)).trans hk
      refine hgetK_has _ hk3 ?_
      refine getK_has rfl ?_
      refine boolK_beq_t rfl ?_
      refine sameK_has (by rw [hk, hk3]) (by rw [hk]; rfl) ?_
      have hBk3 := hBk2.setr (bs' := wrs (l.drop (i + 1))) z2 hrx hra
      generalize hset J2 r (rdO z2 (wrs (l.drop (i + 1))) 0) = J3 at *
      clear hBk2 hr1 hk hk3 hy
      obtain ⟨_, ⟨zx, hx3⟩, hT3, _, hsh⟩ := id hBk3
      refine callSK_has' ((rnum_ok xx zx xs (by omega) e J3 hx3 maxU).mono fun y hy => ?_)
      obtain ⟨zx2, rfl⟩ := hy.out
      dsimp only
      clear hy
      have hT4 := TP.put hT3 (rdO zx2 (rNum xs e maxU).2.1 (rNum xs e maxU).2.2) hx3 ((fun _ _ h => by cases h)) (fun e => hxa e.symm)
      have hv := rNum_lt xs e maxU
      have hle := enc_ten hv
      refine callSK_has' ((number_ok a (rNum xs e maxU).1 hv cs (by omega) _ hT4).mono fun y hy => ?_)
      rw [forceK_def]
      have hBk4 := hBk3.setx zx2 hrx hxa (rNum_short xs e maxU) rNum_back (new := enc (rNum xs e maxU).1) (y := y) (fun _ => hy) hra
      refine eqK_has_eq _ (i64_succ (by omega)) ?_
      exact Has.intro ⟨(i + 1, (rNum xs e maxU).2.1, cs ++ enc (rNum xs e maxU).1, (rNum xs e maxU).2.2, y.2), ⟨hlt, (by have := hle; dsimp only; rw [List.length_append]; omega), hBk4⟩, (by dsimp only; omega), ⟨rfl, rfl, rfl, rfl, rfl, rfl, rfl, rfl, trivial⟩, rfl⟩
    · rw [if_neg (by omega), if_pos e4] at hob
      rw [e4]
      rw [hob] at hBk2 hbl
      obtain ⟨⟨z1, hr1⟩, _⟩ := id hBk2
      refine boolK_beq_f (by decide) ?_
      refine boolK_beq_t rfl ?_
      (refine hgetK_has _ hk ?_; refine getK_has rfl ?_)
      (refine hgetK_has _ hk ?_; refine getK_has rfl ?_)
      refine callSK_has' ((rsig_ok r z1 _ hbl 0 J2 hr1 o.n o.n).mono fun y hy => ?_)
      rw [rSig_enc hoo.1.1 hoo.1.2] at hy
      obtain ⟨z2, rfl⟩ := hy.out
      dsimp only
      have hk3 := (hget_hset_ne J2 (rdO z2 (wrs (l.drop (i + 1))) 0) (fun e => hrl e.symm)).trans hk
      refine hgetK_has _ hk3 ?_
      refine getK_has rfl ?_
      refine boolK_beq_t rfl ?_
      refine sameK_has (by rw [hk, hk3]) (by rw [hk]; rfl) ?_
      have hBk3 := hBk2.setr (bs' := wrs (l.drop (i + 1))) z2 hrx hra
      generalize hset J2 r (rdO z2 (wrs (l.drop (i + 1))) 0) = J3 at *
      clear hBk2 hr1 hk hk3 hy
      obtain ⟨_, ⟨zx, hx3⟩, hT3, _, hsh⟩ := id hBk3
      refine callSK_has' ((rsig_ok xx zx xs (by omega) e J3 hx3 minI maxI).mono fun y hy => ?_)
      obtain ⟨zx2, rfl⟩ := hy.out
      dsimp only
      clear hy
      have hT4 := TP.put hT3 (rdO zx2 (rSig xs e minI maxI).2.1 (rSig xs e minI maxI).2.2) hx3 ((fun _ _ h => by cases h)) (fun e => hxa e.symm)
      obtain ⟨hv1, hv2⟩ := rSig_in xs e
      have hle := enc_ten (zn_lt hv1 hv2).1
      refine callSK_has' ((signed_ok a (rSig xs e minI maxI).1 hv1 hv2 cs (by omega) _ hT4).mono fun y hy => ?_)
      rw [forceK_def]
      have hBk4 := hBk3.setx zx2 hrx hxa (rSig_short xs e minI maxI) rSig_back (new := enc (zn (rSig xs e minI maxI).1)) (y := y) (fun _ => hy) hra
      refine eqK_has_eq _ (i64_succ (by omega)) ?_
      exact Has.intro ⟨(i + 1, (rSig xs e minI maxI).2.1, cs ++ enc (zn (rSig xs e minI maxI).1), (rSig xs e minI maxI).2.2, y.2), ⟨hlt, (by have := hle; dsimp only; rw [List.length_append]; omega), hBk4⟩, (by dsimp only; omega), ⟨rfl, rfl, rfl, rfl, rfl, rfl, rfl, rfl, trivial⟩, rfl⟩
    · rw [if_neg (by omega), if_neg (by omega), if_pos e4] at hob
      rw [e4]
      rw [hob] at hBk2 hbl
      obtain ⟨⟨z1, hr1⟩, _⟩ := id hBk2
      refine boolK_beq_f (by decide) ?_
      refine boolK_beq_f (by decide) ?_
      refine boolK_beq_t rfl ?_
      (refine hgetK_has _ hk ?_; refine getK_has rfl ?_)
      refine callSK_has' ((rtxt_ok r z1 _ hbl 0 J2 hr1 ((⟨o.s.toArray⟩ : ByteArray).size : Int) (by rw [sv_size]; omega)).mono fun y hy => ?_)
      rw [sv_size, rTxt_enc (by omega)] at hy
      obtain ⟨z2, rfl⟩ := hy.out
      dsimp only
      have hk3 := (hget_hset_ne J2 (rdO z2 (wrs (l.drop (i + 1))) 0) (fun e => hrl e.symm)).trans hk
      refine hgetK_has _ hk3 ?_
      refine getK_has rfl ?_
      refine boolK_has_true (by simp) ?_
      refine sameK_has (by rw [hk, hk3]) (by rw [hk]; rfl) ?_
      have hBk3 := hBk2.setr (bs' := wrs (l.drop (i + 1))) z2 hrx hra
      generalize hset J2 r (rdO z2 (wrs (l.drop (i + 1))) 0) = J3 at *
      clear hBk2 hr1 hk hk3 hy
      obtain ⟨_, ⟨zx, hx3⟩, hT3, _, hsh⟩ := id hBk3
      refine callSK_has' ((rtxt_ok xx zx xs (by omega) e J3 hx3 3000 (by decide)).mono fun y hy => ?_)
      obtain ⟨zx2, rfl⟩ := hy.out
      dsimp only
      clear hy
      have hT4 := TP.put hT3 (rdO zx2 (rTxt xs e 3000).2.1 (rTxt xs e 3000).2.2) hx3 ((fun _ _ h => by cases h)) (fun e => hxa e.symm)
      have hv := (rTxt_short xs e 3000).1
      have hle := enc_ten (u := (rTxt xs e 3000).1.length) (by omega)
      refine callSK_has' ((text_ok a (rTxt xs e 3000).1 (by omega) cs (by omega) _ hT4).mono fun y hy => ?_)
      rw [forceK_def]
      have hBk4 := hBk3.setx zx2 hrx hxa ((rTxt_short xs e 3000).2) rTxt_back (new := (enc (rTxt xs e 3000).1.length ++ (rTxt xs e 3000).1)) (y := y) (fun _ => (by rw [List.append_assoc] at hy; exact hy)) hra
      refine eqK_has_eq _ (i64_succ (by omega)) ?_
      exact Has.intro ⟨(i + 1, (rTxt xs e 3000).2.1, cs ++ (enc (rTxt xs e 3000).1.length ++ (rTxt xs e 3000).1), (rTxt xs e 3000).2.2, y.2), ⟨hlt, (by have := hle; dsimp only; rw [List.length_append, List.length_append]; omega), hBk4⟩, (by dsimp only; omega), ⟨rfl, rfl, rfl, rfl, rfl, rfl, rfl, rfl, trivial⟩, rfl⟩
    · rw [if_neg (by omega), if_neg (by omega), if_neg (by omega)] at hob
      rw [e4]
      rw [hob] at hBk2 hbl
      obtain ⟨⟨z1, hr1⟩, _⟩ := id hBk2
      refine boolK_beq_f (by decide) ?_
      refine boolK_beq_f (by decide) ?_
      refine boolK_beq_f (by decide) ?_
      have hodd : (o.n % 2 == (1 : Int)) = odd o.n := by unfold odd; rw [Bool.eq_iff_iff, beq_iff_eq, decide_eq_true_iff]
      refine callSK_has' ((rflg_ok r z1 _ hbl 0 J2 hr1).mono fun y hy => ?_)
      rw [rFlg_enc] at hy
      obtain ⟨z2, rfl⟩ := hy.out
      dsimp only
      have hk3 := (hget_hset_ne J2 (rdO z2 (wrs (l.drop (i + 1))) 0) (fun e => hrl e.symm)).trans hk
      refine hgetK_has _ hk3 ?_
      refine getK_has rfl ?_
      refine eqK_has_eq _ (and1 o.n) ?_
      refine boolK_has_eq hodd ?_
      refine boolK_has_true (by simp) ?_
      refine sameK_has (by rw [hk, hk3]) (by rw [hk]; rfl) ?_
      have hBk3 := hBk2.setr (bs' := wrs (l.drop (i + 1))) z2 hrx hra
      generalize hset J2 r (rdO z2 (wrs (l.drop (i + 1))) 0) = J3 at *
      clear hBk2 hr1 hk hk3 hy
      obtain ⟨_, ⟨zx, hx3⟩, hT3, _, hsh⟩ := id hBk3
      refine callSK_has' ((rflg_ok xx zx xs (by omega) e J3 hx3).mono fun y hy => ?_)
      obtain ⟨zx2, rfl⟩ := hy.out
      dsimp only
      clear hy
      have hT4 := TP.put hT3 (rdO zx2 (rFlg xs e).2.1 (rFlg xs e).2.2) hx3 ((fun _ _ h => by cases h)) (fun e => hxa e.symm)
      have hle := enc_ten (u := (rFlg xs e).1.toNat) (by cases (rFlg xs e).1 <;> decide)
      refine callSK_has' ((flag_ok a (rFlg xs e).1 cs (by omega) _ hT4).mono fun y hy => ?_)
      rw [forceK_def]
      have hBk4 := hBk3.setx zx2 hrx hxa (rFlg_short xs e) rFlg_back (new := enc (rFlg xs e).1.toNat) (y := y) (fun _ => hy) hra
      refine eqK_has_eq _ (i64_succ (by omega)) ?_
      exact Has.intro ⟨(i + 1, (rFlg xs e).2.1, cs ++ enc (rFlg xs e).1.toNat, (rFlg xs e).2.2, y.2), ⟨hlt, (by have := hle; dsimp only; rw [List.length_append]; omega), hBk4⟩, (by dsimp only; omega), ⟨rfl, rfl, rfl, rfl, rfl, rfl, rfl, rfl, trivial⟩, rfl⟩
  · have : i = l.length := by omega
    subst this
    rw [List.drop_length] at hBk
    obtain ⟨⟨z1, hr1⟩, ⟨z2, hx1⟩, hT1, hM, hsh⟩ := hBk
    refine Has.intro ?_
    refine callSK_has' ((end_ok r z1 [] 0 J hr1).mono fun y hy => ?_)
    obtain ⟨v, H5⟩ := y
    obtain ⟨rfl, o1, rfl⟩ := hy
    dsimp only
    refine boolK_beq_t rfl ?_
    have hx2 := (hget_hset_ne J o1 (fun e => hrx e.symm)).trans hx1
    have hT2 := TP.put hT1 o1 hr1 ((fun _ _ h => by cases h)) (fun e => hra e.symm)
    generalize hset J r o1 = J2 at *
    refine callSK_has' ((end_ok xx z2 xs e J2 hx2).mono fun y hy => ?_)
    obtain ⟨v, H5⟩ := y
    obtain ⟨rfl, o2, rfl⟩ := hy
    dsimp only
    refine boolK_bne (fun h1 => ?_) (fun h1 => ?_)
    · exact Has.intro rfl
    · have hT3 := TP.put hT2 o2 hx2 ((fun _ _ h => by cases h)) (fun e => hxa e.symm)
      obtain ⟨e9, hb9, _⟩ := bytes_ok a cs (by omega) _ hT3
      refine callSK_has hb9 ?_
      refine needK_has (by rw [bc_len]; exact Nat.beq_refl _) ?_
      refine bindK_has (bc_str _) ?_
      refine needK_has (by rw [bc_len]; exact Nat.beq_refl _) ?_
      refine bindK_has (bc_str _) ?_
      have hbc : cs = b := by
        unfold rEnd at h1
        have h0 : e = 0 := by
          split at h1
          · simp at h1
          · exact h1
        have hn : xs = [] := by
          refine Classical.not_not.1 (fun h => ?_)
          rw [if_pos ⟨h0, h⟩] at h1
          simp at h1
        rcases hM with h | h
        · exact absurd h0 h
        · rw [h, hn, List.append_nil]
      refine boolK_has_true (by rw [hbc]; simp) ?_
      exact Has.intro rfl
end Go.Proofs.Ytpebkojodmjleaa
