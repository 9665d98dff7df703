/-
  Numbers, texts and flags on a tape, and what the document has for them.
-/
import Derived.Test.YtpebkojodmjleaaTaA
set_option linter.all false
set_option linter.unusedVariables false
set_option linter.unusedSimpArgs false
set_option linter.unusedSectionVars false
namespace Go.Proofs.Ytpebkojodmjleaa
open Go Go.VM

theorem enc_ne (u : Nat) : enc u ≠ [] := by rw [enc]; split <;> simp
def zn (n : Int) : Nat := (zig n).toNat
theorem fit_of {n : Int} (h0 : -9223372036854775808 ≤ n) (h1 : n ≤ 9223372036854775807) : fit n = true := (fit_iff n).2 ⟨h0, h1⟩
theorem zn_lt {n : Int} (h0 : -9223372036854775808 ≤ n) (h1 : n ≤ 9223372036854775807) : zn n < 18446744073709551616 ∧ ((zn n : Nat) : Int) = zig n := by
  unfold zn zig; split <;> omega
theorem signed_ok (p : Nat) (n : Int) (h0 : -9223372036854775808 ≤ n) (h1 : n ≤ 9223372036854775807) (bs : List UInt8) (hb : bs.length ≤ 1000000) (H : Heap) (ht : TP H p bs) :
    Has (EE env (.fn 27) [.ptr p 0, .pv (.int .i64 n)] H) (Wrote p (bs ++ enc (zn n)) H) := by
  obtain ⟨g1, g2⟩ := zn_lt h0 h1
  refine EE_has ?_
  refine callPK_has (zig_ok (fit_of h0 h1)) ?_
  rw [← g2]
  refine callSK_has' ((number_ok p (zn n) g1 bs hb H ht).mono fun y hy => ?_)
  exact forceK_def y.1 _ ▸ Has.intro hy
theorem flag_ok (p : Nat) (b : Bool) (bs : List UInt8) (hb : bs.length ≤ 1000000) (H : Heap) (ht : TP H p bs) :
    Has (EE env (.fn 28) [.ptr p 0, .pv (.bool b)] H) (Wrote p (bs ++ enc b.toNat) H) := by
  cases b with
  | true =>
    refine EE_has ?_
    refine callSK_has' ((number_ok p 1 (by decide) bs hb H ht).mono fun y hy => ?_)
    rw [forceK_def]
    exact Has.intro hy
  | false =>
    refine EE_has ?_
    refine callSK_has' ((number_ok p 0 (by decide) bs hb H ht).mono fun y hy => ?_)
    rw [forceK_def]
    exact Has.intro hy
theorem bytes_sv (l : List UInt8) : bytesCells ⟨l.toArray⟩ = bc l := by
  unfold bytesCells bc; simp
theorem text_nil (l : List UInt8) (H : Heap) (hl : l.length < 9223372036854775808) : EE env (.fn 9) [.pv .nilp, .pv (sv l)] H = some (undefV, H) := by
  refine Has.eq (EE_has ?_)
  refine eqK_has ?_
  refine callSK_has (number_nil _ H) ?_
  exact Has.intro rfl
theorem text_ok (p : Nat) (l : List UInt8) (hl : l.length ≤ 1000000) (bs : List UInt8) (hb : bs.length ≤ 1000000) (H : Heap) (ht : TP H p bs) :
    Has (EE env (.fn 9) [.ptr p 0, .pv (sv l)] H) (Wrote p (bs ++ enc l.length ++ l) H) := by
  refine EE_has (fn_has rfl ?_)
  have hsz : ((⟨l.toArray⟩ : ByteArray).size : Int) = (l.length : Int) := by rw [sv_size]
  refine seq_st (σ := Heap) (fun _ => [(0, .ptr p 0), (1, .pv (sv l))]) (fun H => H) (fun H1 => TP H1 p (bs ++ enc l.length) ∧ Keep p H H1) ?_ (fun J ⟨hT, hK⟩ r => ?_)
  · refine eqK_has_eq ((l.length : Nat) : Int) (by rw [hsz, wrap_u64_emod]; omega) ?_
    refine callSK_has' ((number_ok p l.length (by omega) bs hb H ht).mono fun y hy => ?_)
    rw [forceK_def]
    exact Has.intro ⟨rfl, y.2, hy, ⟨rfl, rfl, trivial⟩, rfl⟩
  rcases hT.out with ⟨_, h⟩ | ⟨_, t, hv1, ht1⟩
  · exact absurd h (by simp [enc_ne])
  have hle := enc_ten (u := l.length) (by omega)
  have hv0 : AppV J (.tsl t (bs ++ enc l.length).length (bc (bs ++ enc l.length))) .nil 1 (bs ++ enc l.length).length (bc (bs ++ enc l.length)) :=
    .inr ⟨by rw [List.length_append]; have := List.length_pos_iff.2 (enc_ne l.length); omega, by rw [bc_len, Nat.mul_one], t, rfl, ht1⟩
  refine hgetK_has _ hv1 ?_
  refine app_cells (x := .pv (sv l)) (m := l.length) (new := bc l) hv0 (by show some (ByteArray.size _) = _; rw [sv_size]) (fun G => by show G (bytesCells _) = _; rw [bytes_sv]) (by rw [bc_len, Nat.mul_one]) (by rw [List.length_append]; show _ * 1 ≤ 140737488355328; omega) (fun v' H' hv' hf _ => ?_)
  have f1 := Fr.obj hv0 hf hv1 ((by intro h; cases h)) ((fun _ _ h => by cases h))
  have hv0' := AppV_put hv' (cellOf v') f1 ((fun _ _ h => by cases h))
  rw [bc_app] at hv' hv0'
  rcases hv' with ⟨hn', _⟩ | ⟨hn', hc', t', rfl, ht'⟩
  · have := List.length_pos_iff.2 (enc_ne l.length)
    rw [List.length_append] at hn'; omega
  refine hgetK_has _ f1 ?_
  refine Has.intro ⟨⟨_, (show hget (hset H' p (cellOf (.tsl t' ((bs ++ enc l.length).length + l.length) (bc (bs ++ enc l.length ++ l))))) p = _ from hget_hset_same _ (hget_lt f1 ((by intro h; cases h)))), ?_⟩, (hK.trans (Keep.of_fr hv0 hf p)).set _⟩
  rw [show (bs ++ enc l.length ++ l).length = (bs ++ enc l.length).length + l.length from List.length_append]
  exact hv0'

/-! ### its bytes -/
theorem clone_ok (x : Ext) (l : List UInt8) (hx : (x = .nil ∧ l = []) ∨ x = .nn ∨ x = .nnx) (hl : l.length ≤ 1000000) : ∃ e, EP (EE env) 32 [.sl x l.length (bc l)] = some (.sl e l.length (bc l)) ∧ ((e = .nil ∧ l = []) ∨ e = .nn ∨ e = .nnx) := by
  cases l with
  | nil =>
    rcases hx with ⟨rfl, _⟩ | rfl | rfl
    · exact ⟨.nil, Has.eq (EP_has (Has.intro (Has.intro rfl))), .inl ⟨rfl, rfl⟩⟩
    · refine ⟨.nnx, Has.eq (EP_has ?_), .inr (.inr rfl)⟩
      refine app_none ?_
      exact Has.intro (Has.intro rfl)
    · refine ⟨.nnx, Has.eq (EP_has ?_), .inr (.inr rfl)⟩
      refine app_none ?_
      exact Has.intro (Has.intro rfl)
  | cons a l =>
    refine ⟨.nn, ?_, .inr (.inl rfl)⟩
    rcases hx with ⟨_, h⟩ | rfl | rfl
    · cases h
    all_goals
      refine Has.eq (EP_has ?_)
      refine app_plain rfl rfl (by rw [bc_len, Nat.mul_one]) (by simp) (by show (0 + (a :: l).length) * 1 ≤ 140737488355328; omega) ?_
      refine Has.intro (Has.intro ?_)
      show PV.sl .nn (0 + (a :: l).length) ([] ++ bc (a :: l)) = _
      rw [Nat.zero_add]; rfl
theorem bytes_nil (H : Heap) : EE env (.fn 10) [.pv .nilp] H = some (.pv (.sl .nil 0 []), H) := by
  refine Has.eq (EE_has ?_)
  exact Has.intro rfl
theorem bytes_ok (p : Nat) (bs : List UInt8) (hb : bs.length ≤ 1000000) (H : Heap) (ht : TP H p bs) : ∃ e, EE env (.fn 10) [.ptr p 0] H = some (.pv (.sl e bs.length (bc bs)), H) ∧ ((e = .nil ∧ bs = []) ∨ e = .nn ∨ e = .nnx) := by
  rcases ht.out with ⟨h1, rfl⟩ | ⟨hne, t, h1, ht⟩
  · obtain ⟨e, he, hx⟩ := clone_ok .nil [] (.inl ⟨rfl, rfl⟩) (by simp)
    refine ⟨e, ?_, hx⟩
    refine Has.eq (EE_has ?_)
    refine hgetK_has _ h1 ?_
    refine getK_has rfl ?_
    refine callPK_has he ?_
    exact Has.intro rfl
  · obtain ⟨e, he, hx⟩ := clone_ok .nn bs (.inr (.inl rfl)) hb
    refine ⟨e, ?_, hx⟩
    refine Has.eq (EE_has ?_)
    refine hgetK_has _ h1 ?_
    refine callPK_has he ?_
    exact Has.intro rfl

/-! ### the document's -/
theorem rem128 (u : Nat) : ((u : Nat) : Int).tmod 128 = ((u % 128 : Nat) : Int) := rfl
theorem quo128 {u : Nat} (hu : u < 18446744073709551616) : IntKind.u64.wrap (((u : Nat) : Int).tdiv 128) = ((u / 128 : Nat) : Int) := by
  have : ((u : Nat) : Int).tdiv 128 = ((u / 128 : Nat) : Int) := rfl
  rw [this, wrap_u64_emod]; omega
theorem u8_128 {u : Nat} : IntKind.u8.wrap (((u % 128 : Nat) : Int) + 128) = (((UInt8.ofNat (u % 128 + 128)).toNat : Nat) : Int) := by
  have : ((u % 128 : Nat) : Int) + 128 = ((u % 128 + 128 : Nat) : Int) := by omega
  rw [this, u8_wrap, UInt8.toNat_ofNat']
theorem str_one (b : UInt8) : strOfCells [.int .u8 ((b.toNat : Nat) : Int)] = some [b] := bc_str [b]
set_option maxHeartbeats 1000000 in
theorem rnumber_ok (u : Nat) (hu : u < 18446744073709551616) : EP (EE env) 12 [.int .u64 (u : Int)] = some (sv (enc u)) := by
  have hu10 := enc_ten hu
  refine Has.eq (EP_has (fn_has rfl ?_))
  refine seq_on [(0, .pv (.int .u64 (u : Int)))] [] (Has.intro ⟨rfl, ⟨rfl, trivial⟩, rfl⟩) (fun r => ?_)
  refine seq_on [(0, .pv (.int .u64 (u : Int))), (3, .pv (sv []))] [] (Has.intro ⟨rfl, ⟨rfl, rfl, trivial⟩, rfl⟩) (fun r => ?_)
  refine seq_st (σ := Nat × List UInt8) (fun s => [(0, .pv (.int .u64 (s.1 : Int))), (3, .pv (sv s.2))]) (fun _ => [])
    (fun s => s.1 < 128 ∧ enc u = s.2 ++ [UInt8.ofNat s.1]) ?_ (fun ⟨w, cs⟩ ⟨hw, he⟩ r => ?_)
  · refine loopK_has ?_
    refine iterE_loop (σ := Nat × List UInt8) (fun s => s.1) (fun s => [(0, .pv (.int .u64 (s.1 : Int))), (3, .pv (sv s.2))]) (fun _ => [])
      (fun s => s.1 < 18446744073709551616 ∧ enc u = s.2 ++ enc s.1) (fun ⟨w, cs⟩ ⟨hw, he⟩ r => ?_) (u, []) ⟨hu, rfl⟩ ⟨rfl, rfl, trivial⟩ rfl
    dsimp only at hw he ⊢
    have hcl : cs.length ≤ 10 := by
      have := congrArg List.length he
      rw [List.length_append] at this
      omega
    refine boolK_dec (fun hge => ?_) (fun hlt => ?_)
    · have hge' : ¬ w < 128 := by omega
      refine needK_has rfl ?_
      refine eqK_has_eq _ (rem128 w) ?_
      refine eqK_has_eq _ ((wrap_u64_emod _).trans (by omega : _ = ((w % 128 : Nat) : Int) + 128)) ?_
      refine eqK_has_eq _ (u8_128 (u := w)) ?_
      refine needK_has rfl ?_
      refine bindK_has (str_one _) ?_
      refine needK_has (by rw [decide_eq_true_iff, sv_size, sv_size]; simp; omega) ?_
      refine eqK_has_eq _ (sv_app cs [UInt8.ofNat (w % 128 + 128)]) ?_
      refine needK_has rfl ?_
      refine eqK_has_eq _ (quo128 hw) ?_
      refine Has.intro ⟨(w / 128, cs ++ [UInt8.ofNat (w % 128 + 128)]), ⟨by dsimp only; omega, ?_⟩, by dsimp only; omega, ⟨rfl, rfl, trivial⟩, rfl⟩
      dsimp only; rw [he, enc_hi hge', List.append_assoc]; rfl
    · refine Has.intro ?_
      exact Has.intro ⟨rfl, (w, cs), ⟨by omega, by rw [he, enc_lo (by omega)]⟩, ⟨rfl, rfl, trivial⟩, rfl⟩
  dsimp only at hw he ⊢
  have hcl : cs.length ≤ 10 := by
    have := congrArg List.length he
    rw [List.length_append] at this
    omega
  refine eqK_has_eq (((UInt8.ofNat w).toNat : Nat) : Int) ((u8_wrap w).trans (by rw [u8_low hw]; omega)) ?_
  refine needK_has rfl ?_
  refine bindK_has (str_one _) ?_
  refine needK_has (by rw [decide_eq_true_iff, sv_size, sv_size]; simp; omega) ?_
  refine eqK_has_eq _ (sv_app cs [UInt8.ofNat w]) ?_
  (refine Has.intro (Has.intro ?_))
  rw [he]; rfl
theorem rsigned_ok (n : Int) (h0 : -9223372036854775808 ≤ n) (h1 : n ≤ 9223372036854775807) : EP (EE env) 29 [.int .i64 n] = some (sv (enc (zn n))) := by
  obtain ⟨g1, g2⟩ := zn_lt h0 h1
  have hr := rnumber_ok (zn n) g1
  rw [g2] at hr
  refine Has.eq (EP_has ?_)
  refine boolK_dec (fun h => ?_) (fun h => ?_)
  · have e : zig n = -1 - 2 * n := if_pos h
    rw [e] at hr
    refine eqK_has_eq _ (wrap_i64 (by omega) (by omega)) ?_
    refine eqK_has_eq (-(n + 1)) ((wrap_i64 (by omega) (by omega)).trans (by omega)) ?_
    refine eqK_has_eq (-(n + 1)) ((wrap_u64_emod _).trans (by omega)) ?_
    refine eqK_has_eq (-(n + 1) * 2) ((wrap_u64_emod _).trans (by omega)) ?_
    refine eqK_has_eq (-1 - 2 * n) ((wrap_u64_emod _).trans (by omega)) ?_
    refine callPK_has hr ?_
    (refine Has.intro (Has.intro ?_))
    rfl
  · have e : zig n = 2 * n := if_neg h
    rw [e] at hr
    refine eqK_has_eq n ((wrap_u64_emod _).trans (by omega)) ?_
    refine eqK_has_eq (2 * n) ((wrap_u64_emod _).trans (by omega)) ?_
    refine callPK_has hr ?_
    (refine Has.intro (Has.intro ?_))
    rfl
theorem rtext_ok (l : List UInt8) (hl : l.length ≤ 1000000) : EP (EE env) 30 [sv l] = some (sv (enc l.length ++ l)) := by
  have hle := enc_ten (u := l.length) (by omega)
  refine Has.eq (EP_has ?_)
  refine eqK_has_eq ((l.length : Nat) : Int) (by rw [sv_size, wrap_u64_emod]; omega) ?_
  refine callPK_has (rnumber_ok l.length (by omega)) ?_
  refine needK_has (by rw [decide_eq_true_iff, sv_size, sv_size]; omega) ?_
  refine eqK_has_eq _ (sv_app _ _) ?_
  (refine Has.intro (Has.intro ?_))
  rfl
theorem rflag_ok (b : Bool) : EP (EE env) 31 [.bool b] = some (sv (enc b.toNat)) := by
  cases b with
  | true =>
    refine Has.eq (EP_has ?_)
    (refine Has.intro (Has.intro ?_))
    rw [enc_lo (by decide)]; rfl
  | false =>
    refine Has.eq (EP_has ?_)
    (refine Has.intro (Has.intro ?_))
    rw [enc_lo (by decide)]; rfl
theorem size_ok (u : Nat) (hu : u < 18446744073709551616) : EP (EE env) 11 [.int .u64 (u : Int)] = some (.int .i64 ((enc u).length : Nat)) := by
  have hu10 := enc_ten hu
  refine Has.eq (EP_has ?_)
  refine loopK_has ?_
  refine iterE_loop (σ := Nat × Nat) (fun s => s.1) (fun s => [(0, .pv (.int .u64 (s.1 : Int))), (3, .pv (.int .i64 (s.2 : Int)))]) (fun _ => [])
      (fun s => s.1 < 18446744073709551616 ∧ (enc u).length + 1 = s.2 + (enc s.1).length) (fun ⟨w, c⟩ ⟨hw, he⟩ r => ?_) (u, 1) ⟨hu, by dsimp only; omega⟩ ⟨rfl, rfl, trivial⟩ rfl
  dsimp only at hw he ⊢
  refine boolK_dec (fun hge => ?_) (fun hlt => ?_)
  · rw [enc_hi (show ¬ w < 128 by omega), List.length_cons] at he
    refine eqK_has_eq ((c + 1 : Nat) : Int) (i64_succ (by omega)) ?_
    refine needK_has rfl ?_
    refine eqK_has_eq _ (shr7 w) ?_
    exact Has.intro ⟨(w / 128, c + 1), ⟨by dsimp only; omega, by dsimp only; omega⟩, by dsimp only; omega, ⟨rfl, rfl, trivial⟩, rfl⟩
  · rw [enc_lo (show w < 128 by omega), List.length_singleton] at he
    (refine Has.intro (Has.intro (Has.intro ?_)))
    congr 1; omega
end Go.Proofs.Ytpebkojodmjleaa
