/-
  SlotTears in the abstract machine.
-/
import Derived.Test.YtnkdddlkghkpjaaSlJ
set_option linter.all false
set_option linter.unusedVariables false
set_option linter.unusedSimpArgs false
set_option linter.unusedSectionVars false
namespace Go.Proofs.Ytnkdddlkghkpjaa
open Go Go.VM

def zs : List UInt8 := List.replicate 600 0
theorem zs_len : zs.length = 600 := List.length_replicate
theorem zs_cells : zerosOf [.int .u8 0] 600 = bc zs := bc_zeros 600
set_option maxHeartbeats 4000000 in
theorem tears_law (ps : List PV) (hA : HasArgs [.arr 3 1 (.int .i64), .sl 1 (.int .u8), .sl 1 (.int .u8)] ps) : ∃ H', EE env (.fn 5) (ps.map .pv) [] = some (.pv (.bool true), H') := by
  obtain ⟨p1, _, rfl, ⟨cs, rfl, hcs⟩, p2, _, rfl, h1, p3, _, rfl, h2, rfl⟩ := hA
  obtain ⟨l, hl, rfl, hlb⟩ := els_ints _ _ hcs
  obtain ⟨g0, g1, n, rfl⟩ : ∃ g0 g1 n, l = [g0, g1, n] := by
    match l, hl with
    | [a, b, c], _ => exact ⟨a, b, c, rfl⟩
  have hg0 := hlb g0 (by simp)
  have hg1 := hlb g1 (by simp)
  obtain ⟨x, a, rfl, _, hx⟩ := arg_bytes h1
  obtain ⟨y, b, rfl, _, hy⟩ := arg_bytes h2
  refine law_end (EE_has (fn_has rfl ?_))
  refine seq_on [(1, .pv (.sl x a.length (bc a))), (2, .pv (.sl y b.length (bc b))), (3, .ptr 0 0)] [.pcells [.int .i64 g0, .int .i64 g1, .int .i64 n]] (by (refine Has.intro ⟨rfl, ?_, rfl⟩; (repeat (first | exact trivial | refine ⟨rfl, ?_⟩)))) (fun r => ?_)
  refine seq_on [(1, .pv (.sl x a.length (bc a))), (2, .pv (.sl y b.length (bc b))), (3, .ptr 0 0)] [.pcells [.int .i64 g0, .int .i64 g1, .int .i64 n]] ?_ (fun r => ?_)
  · refine callPK_has first_ok ?_
    (refine Has.intro ⟨rfl, ?_, rfl⟩; (repeat (first | exact trivial | refine ⟨rfl, ?_⟩)))
  refine seq_on [(1, .pv (.sl x a.length (bc a))), (2, .pv (.sl y b.length (bc b))), (3, .ptr 0 0), (7, .pv (.int .i64 n))] [.pcells [.int .i64 g0, .int .i64 g1, .int .i64 n]] ?_ (fun r => ?_)
  · refine needK_has rfl ?_
    refine hgetK_has _ rfl ?_
    refine getK_has (v := .int .i64 n) rfl ?_
    (refine Has.intro ⟨rfl, ?_, rfl⟩; (repeat (first | exact trivial | refine ⟨rfl, ?_⟩)))
  refine seq_if [(6, .pv (.bool true))] True [(1, .pv (.sl x a.length (bc a))), (2, .pv (.sl y b.length (bc b))), (3, .ptr 0 0), (7, .pv (.int .i64 n))] (a.length ≤ 500 ∧ b.length ≤ 500) [.pcells [.int .i64 g0, .int .i64 g1, .int .i64 n]] ?_ (fun h r => Has.intro rfl) (fun ⟨hla, hlb⟩ r => ?_)
  · refine boolK_dec (fun h1 => ?_) (fun h1 => ?_)
    · exact Has.intro (.inl ⟨rfl, ⟨rfl, trivial⟩, rfl, trivial⟩)
    refine boolK_dec (fun h2 => ?_) (fun h2 => ?_)
    · exact Has.intro (.inl ⟨rfl, ⟨rfl, trivial⟩, rfl, trivial⟩)
    · exact Has.intro (.inr ⟨rfl, ⟨rfl, rfl, rfl, rfl, trivial⟩, rfl, by omega, by omega⟩)
  have hp0 := put_ok g0 hg0 x a (by omega)
  have hp1 := put_ok g1 hg1 y b (by omega)
  have hn0 := @putB_nil g0 a (by omega)
  have hn1 := @putB_nil g1 b (by omega)
  have he0 := @putE_of g0 a
  have he1 := @putE_of g1 b
  have hX := putB_len g0 a
  have hY := putB_len g1 b
  generalize putB g0 a = X at *
  generalize putB g1 b = Y at *
  generalize putE g0 a = ex at *
  generalize putE g1 b = ey at *
  refine seq_on [(1, .pv (.sl x a.length (bc a))), (2, .pv (.sl y b.length (bc b))), (3, .ptr 0 0), (7, .pv (.int .i64 n)), (8, .pv (.sl ex X.length (bc X))), (9, .pv (.sl ey Y.length (bc Y)))] [.pcells [.int .i64 g0, .int .i64 g1, .int .i64 n]] ?_ (fun r => ?_)
  · (refine needK_has rfl ?_; refine hgetK_has _ rfl ?_; refine getK_has (v := .int .i64 g0) rfl ?_)
    refine callPK_has hp0 ?_
    (refine needK_has rfl ?_; refine hgetK_has _ rfl ?_; refine getK_has (v := .int .i64 g1) rfl ?_)
    refine callPK_has hp1 ?_
    (refine Has.intro ⟨rfl, ?_, rfl⟩; (repeat (first | exact trivial | refine ⟨rfl, ?_⟩)))
  refine seq_if [(6, .pv (.bool true))] True [(1, .pv (.sl x a.length (bc a))), (2, .pv (.sl y b.length (bc b))), (3, .ptr 0 0), (7, .pv (.int .i64 n)), (8, .pv (.sl ex X.length (bc X))), (9, .pv (.sl ey Y.length (bc Y)))] (X ≠ [] ∧ Y ≠ []) [.pcells [.int .i64 g0, .int .i64 g1, .int .i64 n]] ?_ (fun h r => Has.intro rfl) (fun ⟨hX0, hY0⟩ r => ?_)
  · refine boolK_beq (fun h1 => ?_) (fun h1 => ?_)
    · have hg := hn0 (List.eq_nil_of_length_eq_zero (by omega))
      (refine needK_has rfl ?_; refine hgetK_has _ rfl ?_; refine getK_has (v := .int .i64 g0) rfl ?_)
      refine boolK_dec (fun h2 => ?_) (fun h2 => ?_)
      · exact Has.intro (.inl ⟨rfl, ⟨rfl, trivial⟩, rfl, trivial⟩)
      (refine needK_has rfl ?_; refine hgetK_has _ rfl ?_; refine getK_has (v := .int .i64 g0) rfl ?_)
      refine boolK_dec_t (by omega) ?_
      exact Has.intro (.inl ⟨rfl, ⟨rfl, trivial⟩, rfl, trivial⟩)
    refine boolK_beq (fun h2 => ?_) (fun h2 => ?_)
    · have hg := hn1 (List.eq_nil_of_length_eq_zero (by omega))
      (refine needK_has rfl ?_; refine hgetK_has _ rfl ?_; refine getK_has (v := .int .i64 g0) rfl ?_)
      refine boolK_dec (fun h2 => ?_) (fun h2 => ?_)
      · exact Has.intro (.inl ⟨rfl, ⟨rfl, trivial⟩, rfl, trivial⟩)
      (refine needK_has rfl ?_; refine hgetK_has _ rfl ?_; refine getK_has (v := .int .i64 g0) rfl ?_)
      refine boolK_dec (fun h2 => ?_) (fun h2 => ?_)
      · exact Has.intro (.inl ⟨rfl, ⟨rfl, trivial⟩, rfl, trivial⟩)
      (refine needK_has rfl ?_; refine hgetK_has _ rfl ?_; refine getK_has (v := .int .i64 g1) rfl ?_)
      refine boolK_dec (fun h2 => ?_) (fun h2 => ?_)
      · exact Has.intro (.inl ⟨rfl, ⟨rfl, trivial⟩, rfl, trivial⟩)
      (refine needK_has rfl ?_; refine hgetK_has _ rfl ?_; refine getK_has (v := .int .i64 g1) rfl ?_)
      refine boolK_dec_t (by omega) ?_
      exact Has.intro (.inl ⟨rfl, ⟨rfl, trivial⟩, rfl, trivial⟩)
    · exact Has.intro (.inr ⟨rfl, ⟨rfl, rfl, rfl, rfl, rfl, rfl, trivial⟩, rfl, fun h => h1 (by rw [h]; rfl), fun h => h2 (by rw [h]; rfl)⟩)
  obtain ⟨rfl, ⟨q01, q02⟩, rfl⟩ := he0 hX0
  obtain ⟨rfl, ⟨q11, q12⟩, rfl⟩ := he1 hY0
  obtain ⟨G0, rfl⟩ : ∃ G : Nat, g0 = G := ⟨g0.toNat, by omega⟩
  obtain ⟨G1, rfl⟩ : ∃ G : Nat, g1 = G := ⟨g1.toNat, by omega⟩
  simp only [Int.toNat_natCast] at *
  have gW : getM (frame G0 a ++ zs) = (G0, a, 0) := frame_get (by omega) (by omega) (by omega) zs
  have hXl := frame_len G0 a
  have hYl := frame_len G1 b
  have hWl : (frame G0 a ++ zs).length = (frame G0 a).length + 600 := by rw [List.length_append, zs_len]
  obtain ⟨X, hXd⟩ : ∃ X, X = frame G0 a := ⟨_, rfl⟩
  rw [← hXd] at gW hXl hWl hX0 hp0 hX ⊢
  refine seq_on [(1, .pv (.sl x a.length (bc a))), (2, .pv (.sl y b.length (bc b))), (3, .ptr 0 0), (7, .pv (.int .i64 n)), (9, .pv (.sl .nn (frame G1 b).length (bc (frame G1 b)))), (10, .tsl 1 (X ++ zs).length (bc (X ++ zs)))] [.pcells [.int .i64 G0, .int .i64 G1, .int .i64 n], .tok (X ++ zs).length 1] ?_ (fun r => ?_)
  · refine app_plain rfl rfl (by rw [bc_length, Nat.mul_one]) (by omega) (by show (0 + X.length) * 1 ≤ 140737488355328; omega) ?_
    refine needK_has rfl ?_
    refine eqK_has_eq (bc zs) zs_cells ?_
    refine app_tsl (m := 600) (new := bc zs) rfl (by rw [List.nil_append, bc_length]; omega) (by rw [bc_length, zs_len]) (by show (0 + X.length + 600) * 1 ≤ 140737488355328; omega) ?_
    have e1 : 0 + X.length + 600 = (X ++ zs).length := by omega
    have e2 : [] ++ bc X ++ bc zs = bc (X ++ zs) := by rw [List.nil_append, bc_append]
    rw [e1, e2]
    (refine Has.intro ⟨rfl, ?_, rfl⟩; (repeat (first | exact trivial | refine ⟨rfl, ?_⟩)))
  generalize hW : X ++ zs = W at *
  have hgw := get_ok .nn W (.inr rfl) (by omega)
  rw [getV_ok gW] at hgw
  refine seq_on [(1, .pv (.sl x a.length (bc a))), (2, .pv (.sl y b.length (bc b))), (3, .ptr 0 0), (7, .pv (.int .i64 n)), (9, .pv (.sl .nn (frame G1 b).length (bc (frame G1 b)))), (10, .tsl 1 W.length (bc W)), (11, .pv (.int .i64 G0)), (12, .pv (.sl (cx a) a.length (bc a))), (13, .pv (.int .i64 0))] [.pcells [.int .i64 G0, .int .i64 G1, .int .i64 n], .tok W.length 1] ?_ (fun r => ?_)
  · refine callPK_has hgw ?_
    (refine Has.intro ⟨rfl, ?_, rfl⟩; (repeat (first | exact trivial | refine ⟨rfl, ?_⟩)))
  refine seq_on [(1, .pv (.sl x a.length (bc a))), (2, .pv (.sl y b.length (bc b))), (3, .ptr 0 0), (7, .pv (.int .i64 n)), (9, .pv (.sl .nn (frame G1 b).length (bc (frame G1 b)))), (10, .tsl 1 W.length (bc W))] [.pcells [.int .i64 G0, .int .i64 G1, .int .i64 n], .tok W.length 1] ?_ (fun r => ?_)
  · refine boolK_bne_f rfl ?_
    refine needK_has rfl ?_
    refine hgetK_has _ rfl ?_
    refine getK_has (v := .int .i64 G0) rfl ?_
    refine boolK_bne_f rfl ?_
    refine needK_has (by rw [bc_length]; simp) ?_
    refine bindK_has (strOf_bc a) ?_
    refine needK_has (by rw [bc_length]; simp) ?_
    refine bindK_has (strOf_bc a) ?_
    refine boolK_has_eq (c := false) ((str_bne a a).trans (decide_eq_false (fun h => h rfl))) ?_
    (refine Has.intro ⟨rfl, ?_, rfl⟩; (repeat (first | exact trivial | refine ⟨rfl, ?_⟩)))
  have htorn := torn_ok .nn .nn W (frame G1 b) n (.inr rfl) (by omega) (by omega)
  have hmet := met_ok .nn .nn W (frame G1 b) n (.inr rfl) (by omega) (by omega)
  have hgt := get_ok (tx .nn W) (tornB W (frame G1 b) n) (torn_okG (.inr rfl)) (by rw [tornB_len]; omega)
  rw [tornB_len] at hgt
  obtain ⟨t1, t2, t3⟩ := getM_le (tornB W (frame G1 b) n)
  unfold metM at hmet
  rw [gW] at hmet
  unfold getV getX at hgt
  generalize tornB W (frame G1 b) n = T at *
  generalize getM T = M at *
  obtain ⟨g, p, e⟩ := M
  dsimp only at hmet hgt t1 t2 t3
  obtain ⟨gx, hgx⟩ : ∃ gx, gx = (if e = 0 then cx p else Ext.nil) := ⟨_, rfl⟩
  rw [← hgx] at hgt
  refine seq_on [(1, .pv (.sl x a.length (bc a))), (2, .pv (.sl y b.length (bc b))), (3, .ptr 0 0), (7, .pv (.int .i64 n)), (9, .pv (.sl .nn (frame G1 b).length (bc (frame G1 b)))), (10, .tsl 1 W.length (bc W)), (11, .pv (.int .i64 g)), (12, .pv (.sl gx p.length (bc p))), (13, .pv (.int .i64 e))] [.pcells [.int .i64 G0, .int .i64 G1, .int .i64 n], .tok W.length 1] ?_ (fun r => ?_)
  · refine callPK_has htorn ?_
    refine callPK_has hgt ?_
    (refine Has.intro ⟨rfl, ?_, rfl⟩; (repeat (first | exact trivial | refine ⟨rfl, ?_⟩)))
  have hgX : putB G0 a = X := by rw [hXd]; exact putB_of (by omega) (by omega) (by omega)
  refine seq_if [(6, .pv (.bool true))] True [(1, .pv (.sl x a.length (bc a))), (2, .pv (.sl y b.length (bc b))), (3, .ptr 0 0), (11, .pv (.int .i64 g)), (12, .pv (.sl gx p.length (bc p)))] ((g = G0 ∧ p = a) ∨ (g = G1 ∧ p = b)) [.pcells [.int .i64 G0, .int .i64 G1, .int .i64 n], .tok W.length 1] ?_ (fun h r => Has.intro rfl) (fun hor r => ?_)
  · refine boolK_bne (fun h1 => ?_) (fun h1 => ?_)
    · exact Has.intro (.inl ⟨rfl, ⟨rfl, trivial⟩, rfl, trivial⟩)
    refine callPK_dec hmet (fun h2 => ?_) (fun h2 => ?_)
    · exact Has.intro (.inl ⟨rfl, ⟨rfl, trivial⟩, rfl, trivial⟩)
    · refine Has.intro (.inr ⟨rfl, ⟨rfl, rfl, rfl, rfl, rfl, trivial⟩, rfl, ?_⟩)
      have hpg := putB_of (t3 h1) t1 t2
      by_cases h3 : putB g p = frame G1 b
      · rw [hpg] at h3
        exact .inr (frame_inj (t3 h1) t1 t2 (by omega) (by omega) (by omega) h3)
      · have h4 : putB g p = putB G0 a := Classical.byContradiction fun h4 => h2 ⟨h1, h3, .inr h4⟩
        rw [hpg, hgX, hXd] at h4
        exact .inl (frame_inj (t3 h1) t1 t2 (by omega) (by omega) (by omega) h4)
  refine needK_has rfl ?_
  refine hgetK_has _ rfl ?_
  refine getK_has (v := .int .i64 G0) rfl ?_
  refine boolK_beq (fun h1 => ?_) (fun h1 => ?_)
  · refine needK_has (by rw [bc_length]; simp) ?_
    refine bindK_has (strOf_bc p) ?_
    refine needK_has (by rw [bc_length]; simp) ?_
    refine bindK_has (strOf_bc a) ?_
    refine boolK_has_eq (c := decide (p = a)) (str_beq p a) ?_
    by_cases h2 : p = a
    · rw [decide_eq_true h2]
      exact Has.intro rfl
    · rw [decide_eq_false h2]
      obtain ⟨h3, h4⟩ : g = G1 ∧ p = b := by
        rcases hor with h | h
        · exact absurd h.2 h2
        · exact h
      refine needK_has rfl ?_
      refine hgetK_has _ rfl ?_
      refine getK_has (v := .int .i64 G1) rfl ?_
      refine boolK_beq_t (by omega) ?_
      refine needK_has (by rw [bc_length]; simp) ?_
      refine bindK_has (strOf_bc p) ?_
      refine needK_has (by rw [bc_length]; simp) ?_
      refine bindK_has (strOf_bc b) ?_
      refine boolK_has_eq (c := true) ((str_beq p b).trans (decide_eq_true h4)) ?_
      exact Has.intro rfl
  · obtain ⟨h3, h4⟩ : g = G1 ∧ p = b := by
      rcases hor with h | h
      · exact absurd (by rw [h.1]) h1
      · exact h
    refine needK_has rfl ?_
    refine hgetK_has _ rfl ?_
    refine getK_has (v := .int .i64 G1) rfl ?_
    refine boolK_beq_t (by omega) ?_
    refine needK_has (by rw [bc_length]; simp) ?_
    refine bindK_has (strOf_bc p) ?_
    refine needK_has (by rw [bc_length]; simp) ?_
    refine bindK_has (strOf_bc b) ?_
    refine boolK_has_eq (c := true) ((str_beq p b).trans (decide_eq_true h4)) ?_
    exact Has.intro rfl
end Go.Proofs.Ytnkdddlkghkpjaa
