/-
  What is put is got; what must be answered ahead of everything else.
-/
import Derived.Test.YtnkdddlkghkpjaaSlF
set_option linter.all false
set_option linter.unusedVariables false
set_option linter.unusedSimpArgs false
set_option linter.unusedSectionVars false
namespace Go.Proofs.Ytnkdddlkghkpjaa
open Go Go.VM

theorem mid {A B C : List UInt8} {a b : Nat} (ha : A.length = a) (hb : a + B.length = b) : ((A ++ (B ++ C)).take b).drop a = B := by
  subst ha; subst hb
  rw [List.take_length_add_append, List.drop_left, List.take_left]
theorem frame_get {g : Nat} {body : List UInt8} (h1 : 1 ≤ g) (h2 : g ≤ 1152921504606846976) (hb : body.length ≤ 65536) (rest : List UInt8) : getM (frame g body ++ rest) = (g, body, 0) := by
  have hs : frame g body ++ rest = magic ++ (bigB g 8 ++ (bigB body.length 4 ++ (body ++ (four8 (crc (head g body)) ++ rest)))) := by
    simp only [frame, head, List.append_assoc]
  have hfl := frame_len g body
  have hlen : (frame g body ++ rest).length = 20 + body.length + rest.length := by rw [List.length_append, hfl]
  have m4 : (frame g body ++ rest).take 4 = magic := by rw [hs]; rfl
  have e1 : gN (frame g body ++ rest) = g := by
    unfold gN
    rw [hs, mid (a := 4) (b := 12) rfl (by rw [bigB_len]), num_bigB]
    exact Nat.mod_eq_of_lt (Nat.lt_of_le_of_lt h2 (by decide))
  have e2 : nN (frame g body ++ rest) = body.length := by
    unfold nN
    rw [hs, ← List.append_assoc magic, mid (a := 12) (b := 16) (by rw [List.length_append, bigB_len]; rfl) (by rw [bigB_len]), num_bigB]
    exact Nat.mod_eq_of_lt (Nat.lt_of_le_of_lt hb (by decide))
  have e3 : bodyN (frame g body ++ rest) = body := by
    unfold bodyN
    rw [e2, hs, ← List.append_assoc magic, ← List.append_assoc (magic ++ bigB g 8)]
    exact mid (by rw [List.length_append, List.length_append, bigB_len, bigB_len]; rfl) rfl
  have e4 : (frame g body ++ rest).take (20 + body.length) = frame g body := by
    rw [← hfl, List.take_left]
  unfold getM
  rw [if_neg (by omega), if_neg (fun h => h m4), if_neg (by omega), e1, e2, e3, e4, if_neg (by omega), if_neg (by omega), if_neg (by omega), if_neg (fun h => h rfl)]
theorem frame_get0 {g : Nat} {body : List UInt8} (h1 : 1 ≤ g) (h2 : g ≤ 1152921504606846976) (hb : body.length ≤ 65536) : getM (frame g body) = (g, body, 0) := by
  have := frame_get h1 h2 hb []
  rwa [List.append_nil] at this
abbrev F5 : List UInt8 := frame 5 [97, 98]
abbrev F6 : List UInt8 := frame 6 []
theorem g5 (rest : List UInt8) : getM (F5 ++ rest) = (5, [97, 98], 0) := frame_get (by decide) (by decide) (by decide) rest
theorem g6 : getM F6 = (6, [], 0) := frame_get0 (by decide) (by decide) (by decide)
theorem g5' : getM F5 = (5, [97, 98], 0) := frame_get0 (by decide) (by decide) (by decide)
theorem cut21 : getM (F5.take 21) = (0, [], 10) := by decide +kernel
theorem cut1 : getM (F5.drop 1) = (0, [], 11) := by decide +kernel
theorem p56 : pickM F5 F6 = (1, 6, [], true) := by
  unfold pickM; rw [g5', g6]; rfl
theorem p00 : pickM [] (F5.drop 1) = (0, 0, [], false) := by
  unfold pickM; rw [cut1]; rfl
theorem t65 : tornB F6 F5 3 = F6 := by decide +kernel
theorem put5 : putB 5 [97, 98] = F5 := rfl
theorem put6 : putB 6 [] = F6 := rfl
theorem ne56 : F6 ≠ F5 := by
  intro h
  have := congrArg List.length h
  rw [frame_len, frame_len] at this
  exact absurd this (by decide)
theorem m65 : metM F6 F5 3 = false := by
  unfold metM
  rw [t65, g6]
  exact decide_eq_false (fun h => by rcases h.2.2 with h | h; exact h rfl; exact h rfl)
theorem l5 : F5.length = 22 := frame_len 5 [97, 98]
theorem l6 : F6.length = 20 := frame_len 6 []
theorem ep5 (x : Ext) : EP (EE env) 12 [.int .i64 5, .sl x 2 (bc [97, 98])] = some (.sl .nn 22 (bc F5)) := by
  have := put_ok 5 (by decide) x [97, 98] (by decide)
  rw [put5, l5] at this; exact this
theorem ep6 : EP (EE env) 12 [.int .i64 6, .sl .nil 0 []] = some (.sl .nn 20 (bc F6)) := by
  have := put_ok 6 (by decide) .nil [] (by decide)
  rw [put6, l6] at this; exact this
theorem getV_at {s b : List UInt8} {g n : Nat} {e : Int} {x : Ext} (h : getM s = (g, b, e)) (hx : okG x s) (hn : s.length = n) (hl : n ≤ 1000000) : EP (EE env) 8 [.sl x n (bc s)] = some (.tup [.int .i64 g, .sl (if e = 0 then cx b else .nil) b.length (bc b), .int .i64 e]) := by
  subst hn
  have := get_ok x s hx hl
  unfold getV getX at this
  rw [h] at this; exact this
set_option maxHeartbeats 2000000 in
theorem first_ok : EP (EE env) 7 [] = some (.bool true) := by
  refine Has.eq (EP_has (fn_has rfl ?_))
  refine seq_on [] [] (by (refine Has.intro ⟨rfl, ?_, rfl⟩; (repeat (first | exact trivial | refine ⟨rfl, ?_⟩)))) (fun r => ?_)
  refine seq_on [(1, .pv (.sl .nn 22 (bc F5)))] [.dead] ?_ (fun r => ?_)
  · refine hgetK_has _ rfl ?_
    refine needK_has rfl ?_
    refine callPK_has (ep5 .nn) ?_
    (refine Has.intro ⟨rfl, ?_, rfl⟩; (repeat (first | exact trivial | refine ⟨rfl, ?_⟩)))
  refine seq_on [(1, .pv (.sl .nn 22 (bc F5))), (2, .pv (.sl .nn 20 (bc F6)))] [.dead] ?_ (fun r => ?_)
  · refine callPK_has ep6 ?_
    (refine Has.intro ⟨rfl, ?_, rfl⟩; (repeat (first | exact trivial | refine ⟨rfl, ?_⟩)))
  refine seq_on [(1, .pv (.sl .nn 22 (bc F5))), (2, .pv (.sl .nn 20 (bc F6))), (3, .pv (.int .i64 5)), (4, .pv (.sl .nn 2 (bc [97, 98]))), (5, .pv (.int .i64 0))] [.dead, .tok 24 1] ?_ (fun r => ?_)
  · refine app_plain rfl rfl (by rw [bc_length, l5]) (by decide) (by decide) ?_
    refine app_tsl (m := 2) (new := bc [1, 2]) rfl (by rw [List.nil_append, bc_length, l5]) rfl (by decide) ?_
    refine callPK_has ((congrArg (fun c => EP (EE env) 8 [.sl .nn 24 c]) (bc_append F5 [1, 2])).trans (getV_at (n := 24) (g5 [1, 2]) (.inr rfl) (by rw [List.length_append, l5]; rfl) (by decide))) ?_
    (refine Has.intro ⟨rfl, ?_, rfl⟩; (repeat (first | exact trivial | refine ⟨rfl, ?_⟩)))
  refine seq_on [(1, .pv (.sl .nn 22 (bc F5))), (2, .pv (.sl .nn 20 (bc F6))), (3, .pv (.int .i64 5)), (4, .pv (.sl .nn 2 (bc [97, 98]))), (5, .pv (.int .i64 0)), (8, .pv (.int .i64 10))] [.dead, .tok 24 1] ?_ (fun r => ?_)
  · refine eqK_has_eq 21 rfl ?_
    refine needK_has rfl ?_
    refine eqK_has_eq (bc (F5.take 21)) (take_cells F5 (Nat.zero_le 21)) ?_
    refine callPK_has (getV_at cut21 (.inr rfl) (by rw [List.length_take, l5]; rfl) (by decide)) ?_
    (refine Has.intro ⟨rfl, ?_, rfl⟩; (repeat (first | exact trivial | refine ⟨rfl, ?_⟩)))
  refine seq_on [(1, .pv (.sl .nn 22 (bc F5))), (2, .pv (.sl .nn 20 (bc F6))), (3, .pv (.int .i64 5)), (4, .pv (.sl .nn 2 (bc [97, 98]))), (5, .pv (.int .i64 0)), (8, .pv (.int .i64 10)), (9, .pv (.int .i64 1)), (10, .pv (.int .i64 6)), (11, .pv (.sl .nnx 0 [])), (12, .pv (.bool true))] [.dead, .tok 24 1] ?_ (fun r => ?_)
  · have hp := pick_ok .nn .nn F5 F6 (.inr rfl) (.inr rfl) (by rw [l5]; decide) (by rw [l6]; decide)
    rw [l5, l6, pickV_of p56] at hp
    refine callPK_has hp ?_
    (refine Has.intro ⟨rfl, ?_, rfl⟩; (repeat (first | exact trivial | refine ⟨rfl, ?_⟩)))
  refine seq_on [(1, .pv (.sl .nn 22 (bc F5))), (2, .pv (.sl .nn 20 (bc F6))), (3, .pv (.int .i64 5)), (4, .pv (.sl .nn 2 (bc [97, 98]))), (5, .pv (.int .i64 0)), (8, .pv (.int .i64 10)), (9, .pv (.int .i64 1)), (10, .pv (.int .i64 6)), (11, .pv (.sl .nnx 0 [])), (12, .pv (.bool true)), (16, .pv (.bool false))] [.dead, .tok 24 1] ?_ (fun r => ?_)
  · have hd : (F5.drop 1).length = 21 := by rw [List.length_drop, l5]
    have hp := pick_ok .nil .nn [] (F5.drop 1) (.inl rfl) (.inr rfl) (by decide) (by rw [hd]; decide)
    rw [hd, pickV_of p00] at hp
    refine eqK_has_eq 1 rfl ?_
    refine needK_has rfl ?_
    refine eqK_has_eq (bc (F5.drop 1)) (by have := take_cells F5 (a := 1) (b := 22) (by decide); rw [show F5.take 22 = F5 from List.take_of_length_le (Nat.le_of_eq l5)] at this; exact this) ?_
    refine callPK_has hp ?_
    (refine Has.intro ⟨rfl, ?_, rfl⟩; (repeat (first | exact trivial | refine ⟨rfl, ?_⟩)))
  refine boolK_beq_t rfl ?_
  refine boolK_beq_t rfl ?_
  refine needK_has rfl ?_
  refine bindK_has (strOf_bc [97, 98]) ?_
  refine boolK_has_true ((str_beq [97, 98] [97, 98]).trans (by decide)) ?_
  refine boolK_beq_t rfl ?_
  refine boolK_beq_t rfl ?_
  refine boolK_beq_t rfl ?_
  refine boolK_beq_t rfl ?_
  refine boolK_beq_t rfl ?_
  refine callPK_has (size_ok 2) ?_
  refine boolK_beq_t (by decide) ?_
  have ht := torn_ok .nn .nn F6 F5 3 (.inr rfl) (by rw [l6]; decide) (by rw [l5]; decide)
  rw [l5, l6, t65] at ht
  refine callPK_has ht ?_
  refine needK_has (by rw [bc_length, l6]; rfl) ?_
  refine bindK_has (strOf_bc F6) ?_
  refine needK_has (by rw [bc_length, l6]; rfl) ?_
  refine bindK_has (strOf_bc F6) ?_
  refine boolK_has_true ((str_beq F6 F6).trans (decide_eq_true rfl)) ?_
  have hm := met_ok .nn .nn F6 F5 3 (.inr rfl) (by rw [l6]; decide) (by rw [l5]; decide)
  rw [l5, l6, m65] at hm
  refine callPK_has hm ?_
  exact Has.intro (Has.intro rfl)
end Go.Proofs.Ytnkdddlkghkpjaa
