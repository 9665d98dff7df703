/-
  CrcPlays in the abstract machine: the law.
-/
import Derived.Test.YtgfedlikbaailaaCrcK
set_option linter.all false
set_option linter.unusedVariables false
set_option linter.unusedSimpArgs false
set_option linter.unusedSectionVars false
namespace Go.Proofs.Ytgfedlikbaailaa
open Go Go.VM

theorem tmod_nats (a b : Nat) : (a : Int).tmod (b : Int) = ((a % b : Nat) : Int) := rfl
theorem opc_len (o : Opx) : (opc o).length = 3 := rfl
theorem u64_nat' (x : Int) : ∃ a : Nat, IntKind.u64.wrap x = (a : Int) := ⟨(x % 18446744073709551616).toNat, by rw [wrap_u64_emod]; omega⟩
theorem srcA_new {R : Type} (L : Heap) (v : AV) (G : List AV → Option R) : srcA (L ++ [.cells [v]]) (.hs 1 L.length 0 1 1) G = G [v] := by
  simp only [srcA, hgetK_def, hget_append_same, secK_def]
  rfl
theorem seqK_normal {R : Type} {Q : R → Prop} {b : VCode} {k : Ex → Regs → Heap → Option R} {r : Regs} {h : Heap} (hx : Has (evK env (EE env) b R r h k) Q) : Has (seqK (evK env (EE env) b R) k .normal r h) Q := hx
set_option maxHeartbeats 4000000 in
theorem plays_ok (ps : List PV) (h : HasArgs [.sl 3 TOp] ps) : ∃ H', EE env (.fn 6) (ps.map .pv) [] = some (.pv (.bool true), H') := by
  obtain ⟨p1, _, rfl, h1, rfl⟩ := h
  obtain ⟨x, l, rfl, hl, hok⟩ := arg_lop h1
  rw [maxLen_eq] at hl
  refine law_end (EE_has (fn_has rfl ?_))
  refine seq_on [(0, .pv (.sl x l.length (flat opc l)))] [] (Has.intro ⟨rfl, ⟨rfl, trivial⟩, rfl⟩) fun r1 => ?_
  refine seq_on [(0, .pv (.sl x l.length (flat opc l)))] [] (callPK_has first_ok (Has.intro ⟨rfl, ⟨rfl, trivial⟩, rfl⟩)) fun r2 => ?_
  refine seq_on [(0, .pv (.sl x l.length (flat opc l))), (3, .gs 1 1), (4, .gs 2 1)] [.pcells [u32 0xffffffff#32], .row 1 1 [.ptr 0 0], .row 1 1 [.pv (sv [])]] (callSK_has new_nil (Has.intro ⟨rfl, ⟨rfl, rfl, rfl, trivial⟩, rfl⟩)) fun r3 => ?_
  refine seq_join (fun e r h => (e = .ret ∧ r 2 = .pv (.bool true)) ∨ (e = .normal ∧ ∃ s : CS, s.ok ∧ s.i ≤ 60 ∧ h = s.h ∧ r 3 = .gs 1 s.ws.length ∧ r 4 = .gs 2 s.ws.length)) ?_ ?_
  · refine loopK_has ?_
    refine iterE_loop (σ := CS) (fun s => l.length - s.i) (fun s => [(3, .gs 1 s.ws.length), (4, .gs 2 s.ws.length), (15, .pv (.sl x l.length (flat opc l))), (16, .pv (.int .i64 l.length)), (17, .pv (.int .i64 s.i))]) (fun s => s.h) (fun s => s.ok ∧ s.i ≤ l.length ∧ s.i ≤ 60) (fun s hs r => ?_)
      ⟨0, [.pcells [u32 0xffffffff#32], .row 1 1 [.ptr 0 0], .row 1 1 [.pv (sv [])]], [0], [[]]⟩ ⟨⟨rfl, by decide, by decide, rfl, rfl, fun k id w h1 h2 => ?_, fun j k id h1 h2 => ?_, fun w hw => ?_⟩, Nat.zero_le _, Nat.zero_le _⟩ ⟨rfl, rfl, rfl, rfl, rfl, trivial⟩ rfl
    · obtain ⟨hs, hi, hi60⟩ := hs
      have hn60 := hs.most
      have hn0 := hs.pos
      refine boolK_dec (fun hlt => ?_) (fun hge => ?_)
      · have hlt : s.i < l.length := by omega
        refine needK_has (by simp; omega) ?_
        obtain ⟨o, ho⟩ : ∃ o, l[s.i]? = some o := ⟨l[s.i], List.getElem?_eq_getElem hlt⟩
        obtain ⟨g1, g2⟩ := flat_get opc_len ho
        refine secK_has g1 g2 ?_
        obtain ⟨ok1, ok2⟩ := hok o (List.mem_of_getElem? ho)
        refine hgetK_last ?_
        refine needK_has rfl ?_
        refine eqK_has_eq (opc o) rfl ?_
        obtain ⟨H1, hH1⟩ : ∃ H1, H1 = hset (s.h ++ [.pcells [.int .i64 0, .int .i64 0, .sl .nil 0 []]]) s.h.length (.pcells (opc o)) := ⟨_, rfl⟩
        have hs1 : ({ s with h := H1 } : CS).ok := by rw [hH1, hset_last]; exact hs.grow _
        have hb1 : hget H1 s.h.length = .pcells (opc o) := by rw [hH1, hset_last]; exact hget_append_same _ _
        rw [← hH1]
        clear hH1 hs
        obtain ⟨B, hB⟩ : ∃ B, B = s.h.length := ⟨_, rfl⟩
        rw [← hB] at hb1 ⊢
        have lena : (ptrs s.ids).length = s.ws.length := by simp [ptrs, hs1.len]
        have lenb : (txts s.ws).length = s.ws.length := by simp [txts]
        refine boolK_dec (fun h60 => ?_) (fun h60 => ?_)
        · exact Has.intro (Has.intro (.inl ⟨rfl, rfl⟩))
        have h60 : s.i < 60 := by omega
        refine hgetK_has _ hb1 ?_
        refine getK_has rfl ?_
        refine boolK_dec (fun h100 => ?_) (fun h100 => ?_)
        · exact Has.intro (Has.intro (.inl ⟨rfl, rfl⟩))
        have h100 : o.b.length ≤ 100 := by omega
        refine hgetK_has _ hb1 ?_
        refine getK_has rfl ?_
        obtain ⟨a, ha⟩ := u64_nat' o.at_
        refine eqK_has_eq (a : Int) ha ?_
        refine eqK_has_eq ((s.ws.length : Nat) : Int) (u64_nat (by omega)) ?_
        refine needK_has (by rw [Bool.not_eq_true', decide_eq_false_iff_not]; omega) ?_
        refine eqK_has_eq _ (tmod_nats a s.ws.length) ?_
        have hk : a % s.ws.length < s.ws.length := Nat.mod_lt _ hn0
        obtain ⟨k, hk'⟩ : ∃ k, k = a % s.ws.length := ⟨_, rfl⟩
        rw [← hk'] at hk ⊢
        refine eqK_has_eq (k : Int) (wrap_i64 (by omega) (by omega)) ?_
        refine hgetK_has _ hb1 ?_
        refine getK_has rfl ?_
        obtain ⟨kd, hkd⟩ := u64_nat' o.kind
        refine eqK_has_eq (kd : Int) hkd ?_
        refine needK_has rfl ?_
        refine eqK_has_eq _ (tmod_nats kd 4) ?_
        obtain ⟨id, hid⟩ : ∃ id, s.ids[k]? = some id := ⟨s.ids[k]'(by rw [hs1.len]; exact hk), List.getElem?_eq_getElem _⟩
        obtain ⟨w, hw⟩ : ∃ w, s.ws[k]? = some w := ⟨s.ws[k], List.getElem?_eq_getElem hk⟩
        have ga : (ptrs s.ids)[k]? = some (.ptr id 0) := by simp [ptrs, hid]
        have gb : (txts s.ws)[k]? = some (.pv (sv w)) := by simp [txts, hw]
        have gs := hs1.sums k id w hid hw
        have hwl := hs1.size w (List.mem_of_getElem? hw)
        dsimp only at gs hwl
        refine boolK_dec (fun h3 => ?_) (fun h3 => ?_)
        · refine needK_has (by simp; omega) ?_
          refine hgetK_has _ hs1.ra ?_
          refine needK_has (Nat.beq_refl _) ?_
          refine getK_has (show (ptrs s.ids)[mulE _ 1]? = _ from by rw [mulE_eq]; simpa using ga) ?_
          refine hgetK_has _ hb1 ?_
          refine getK_has rfl ?_
          refine callSK_has (add1_ok H1 id _ gs _ _ o.b (by rw [maxLen_eq]; omega)) ?_
          refine needK_has (by simp; omega) ?_
          have hr2 : hget (hset H1 id (.pcells [u32 (sum (sum 0xffffffff#32 w) o.b)])) 2 = .row s.ws.length 1 (txts s.ws) := (hget_hset_ne _ _ (hs1.ne hid).2.symm).trans hs1.rb
          have hBid : B ≠ id := fun e => by rw [e, gs] at hb1; cases hb1
          have hrB : hget (hset H1 id (.pcells [u32 (sum (sum 0xffffffff#32 w) o.b)])) B = .pcells (opc o) := (hget_hset_ne _ _ hBid).trans hb1
          refine hgetK_has _ hr2 ?_
          refine needK_has (Nat.beq_refl _) ?_
          refine getK_has (show (txts s.ws)[mulE _ 1]? = _ from by rw [mulE_eq]; simpa using gb) ?_
          refine hgetK_has _ hrB ?_
          refine getK_has rfl ?_
          refine needK_has (by rw [bc_length]; exact Nat.beq_refl _) ?_
          refine bindK_has (bc_str o.b) ?_
          refine needK_has (by rw [sv_size, sv_size]; exact decide_eq_true (by omega)) ?_
          refine eqK_has_eq _ (sv_app w o.b) ?_
          refine needK_has (by simp; omega) ?_
          refine hgetK_has _ hr2 ?_
          refine needK_has (by
            simp only [Bool.and_eq_true]
            refine ⟨⟨Nat.beq_refl _, rfl⟩, ?_⟩
            rw [mulE_eq, lenb]
            exact Nat.ble_eq_true_of_le (by simpa using Nat.succ_le_of_lt hk)) ?_
          refine eqK_has_eq ((txts s.ws).set k (.pv (sv (w ++ o.b)))) (by
            show (txts s.ws).set (mulE _ 1) (.pv (sv (w ++ o.b))) = _
            rw [mulE_eq]
            simp) ?_
          refine eqK_has_eq _ (i64_succ (by omega)) ?_
          have := hs1.add hid hw o.b h100
          refine Has.intro ⟨_, ⟨this, ?_, ?_⟩, ?_, ⟨?_, ?_, rfl, rfl, rfl, trivial⟩, rfl⟩
          · exact hlt
          · show s.i + 1 ≤ 60; omega
          · show l.length - (s.i + 1) < l.length - s.i; omega
          · show AV.gs 1 s.ws.length = .gs 1 (s.ws.set k (w ++ o.b)).length; rw [List.length_set]
          · show AV.gs 2 s.ws.length = .gs 2 (s.ws.set k (w ++ o.b)).length; rw [List.length_set]
        · refine boolK_dec (fun h4 => ?_) (fun h4 => ?_)
          · have h4 : s.ws.length < 4 := by omega
            refine needK_has (by simp; omega) ?_
            refine hgetK_has _ hs1.ra ?_
            refine needK_has (Nat.beq_refl _) ?_
            refine getK_has (show (ptrs s.ids)[mulE _ 1]? = _ from by rw [mulE_eq]; simpa using ga) ?_
            refine callSK_has (clone_ok H1 id _ gs) ?_
            have hs2 := hs1.grow [.pcells [u32 (sum 0xffffffff#32 w)]]
            have hs3 := hs2.grow [.cells [.ptr H1.length 0]]
            dsimp only at hs2 hs3
            have hL : hget ((H1 ++ [.pcells [u32 (sum 0xffffffff#32 w)]]) ++ [.cells [.ptr H1.length 0]]) H1.length = .pcells [u32 (sum 0xffffffff#32 w)] := (hget_app _ (by simp)).trans (hget_append_same _ _)
            have e1 := hget_lt hs1.ra (by intro h; cases h)
            have e2 := hget_lt hs1.rb (by intro h; cases h)
            dsimp only at e1 e2
            have hnew : H1.length ∉ s.ids := fun h => by
              obtain ⟨j, hj⟩ := List.getElem?_of_mem h
              have hjl : j < s.ws.length := by rw [← hs1.len]; exact (List.getElem?_eq_some_iff.1 hj).1
              have := hget_lt (hs1.sums j _ _ hj (List.getElem?_eq_getElem hjl)) (by intro h; cases h)
              exact Nat.lt_irrefl _ this
            have := hs3.clone hw h4 ⟨by omega, by omega⟩ hnew hL
            dsimp only at this
            refine app_grow (n := s.ws.length) (m := 1) (new := [.ptr H1.length 0]) hs3.ra ?_ ?_ (by decide) ?_ ?_ ?_ ?_
            · rfl
            · intro G; exact srcA_new (H1 ++ [.pcells [u32 (sum 0xffffffff#32 w)]]) (.ptr H1.length 0) G
            · unfold mostBytes; omega
            · rw [lena]; omega
            · rfl
            refine needK_has (by simp; omega) ?_
            have hr2 : hget (hset ((H1 ++ [.pcells [u32 (sum 0xffffffff#32 w)]]) ++ [.cells [.ptr H1.length 0]]) 1 (.row (s.ws.length + 1) 1 (ptrs s.ids ++ [.ptr H1.length 0]))) 2 = .row s.ws.length 1 (txts s.ws) := (hget_hset_ne _ _ (by decide)).trans hs3.rb
            refine hgetK_has _ hr2 ?_
            refine needK_has (Nat.beq_refl _) ?_
            refine getK_has (show (txts s.ws)[mulE _ 1]? = _ from by rw [mulE_eq]; simpa using gb) ?_
            refine app_grow (n := s.ws.length) (m := 1) (new := [.pv (sv w)]) hr2 ?_ ?_ (by decide) ?_ ?_ ?_ ?_
            · rfl
            · intro G; rfl
            · unfold mostBytes; omega
            · rw [lenb]; omega
            · rfl
            have same : ∀ H H' : Heap, hget H 2 = .row s.ws.length 1 (txts s.ws) → hget H' 2 = .row s.ws.length 1 (txts s.ws) → readG (hget H 2) s.ws.length (mulE (Int.toNat (k : Int)) 1) none = readG (hget H' 2) s.ws.length (mulE (Int.toNat (k : Int)) 1) none ∧ (readG (hget H 2) s.ws.length (mulE (Int.toNat (k : Int)) 1) none).isSome = true := by
              intro H H' h1 h2
              rw [h1, h2]
              refine ⟨rfl, ?_⟩
              simp only [readG, Nat.beq_refl, cond_true]
              rw [mulE_eq, show (k : Int).toNat * 1 = k by simp, gb]
              rfl
            obtain ⟨q1, q2⟩ := same H1 (H1 ++ [.pcells [u32 (sum 0xffffffff#32 w)]]) hs1.rb hs2.rb
            refine sameK_has q1 q2 ?_
            obtain ⟨q1, q2⟩ := same (H1 ++ [.pcells [u32 (sum 0xffffffff#32 w)]]) ((H1 ++ [.pcells [u32 (sum 0xffffffff#32 w)]]) ++ [.cells [.ptr H1.length 0]]) hs2.rb hs3.rb
            refine sameK_has q1 q2 ?_
            obtain ⟨q1, q2⟩ := same ((H1 ++ [.pcells [u32 (sum 0xffffffff#32 w)]]) ++ [.cells [.ptr H1.length 0]]) _ hs3.rb hr2
            refine sameK_has q1 q2 ?_
            refine eqK_has_eq _ (i64_succ (by omega)) ?_
            refine Has.intro ⟨_, ⟨this, ?_, ?_⟩, ?_, ⟨?_, ?_, rfl, rfl, rfl, trivial⟩, rfl⟩
            · exact hlt
            · show s.i + 1 ≤ 60; omega
            · show l.length - (s.i + 1) < l.length - s.i; omega
            · show AV.gs 1 (s.ws.length + 1) = .gs 1 (s.ws ++ [w]).length; rw [List.length_append]; rfl
            · show AV.gs 2 (s.ws.length + 1) = .gs 2 (s.ws ++ [w]).length; rw [List.length_append]; rfl
          · refine eqK_has_eq _ (i64_succ (by omega)) ?_
            refine Has.intro ⟨⟨s.i + 1, H1, s.ids, s.ws⟩, ⟨⟨hs1.len, hs1.pos, hs1.most, hs1.ra, hs1.rb, hs1.sums, hs1.apart, fun w' hw' => ?_⟩, ?_, ?_⟩, ?_, ⟨rfl, rfl, rfl, rfl, rfl, trivial⟩, rfl⟩
            · have := hs1.size w' hw'
              dsimp only at this ⊢; omega
            · exact hlt
            · show s.i + 1 ≤ 60; omega
            · show l.length - (s.i + 1) < l.length - s.i; omega
      · exact Has.intro (Has.intro (.inr ⟨rfl, s, hs, hi60, rfl, rfl, rfl⟩))
    · cases k with
      | zero => simp at h1 h2; subst h1; subst h2; rfl
      | succ k => simp at h1
    · cases j with
      | zero => cases k with
        | zero => rfl
        | succ k => simp at h2
      | succ j => simp at h1
    · simp at hw; subst hw; simp
  · intro e r h hj
    rcases hj with ⟨rfl, h2⟩ | ⟨rfl, s, hs, hi, rfl, h3, h4⟩
    · refine Has.intro ?_
      show r 2 = _
      exact h2
    have ha : Agr r [(3, .gs 1 s.ws.length), (4, .gs 2 s.ws.length)] := ⟨h3, h4, trivial⟩
    rw [← ha.eq]
    refine seqK_normal ?_
    refine seq_on [] s.h ?_ fun r6 => ?_
    case refine_2 => exact Has.intro rfl
    refine loopK_has ?_
    have lena : (ptrs s.ids).length = s.ws.length := by simp [ptrs, hs.len]
    have lenb : (txts s.ws).length = s.ws.length := by simp [txts]
    have hm := hs.most
    refine iterE_up s.ws.length (fun i => [(4, .gs 2 s.ws.length), (79, .gs 1 s.ws.length), (80, .pv (.int .i64 s.ws.length)), (81, .pv (.int .i64 i))]) (fun _ => s.h) (fun i hi r7 => ?_) (fun r7 => ?_) ⟨rfl, rfl, rfl, rfl, trivial⟩ rfl
    · refine boolK_dec_t (by omega) ?_
      obtain ⟨id, hid⟩ : ∃ id, s.ids[i]? = some id := ⟨s.ids[i]'(by rw [hs.len]; exact hi), List.getElem?_eq_getElem _⟩
      obtain ⟨w, hw⟩ : ∃ w, s.ws[i]? = some w := ⟨s.ws[i], List.getElem?_eq_getElem hi⟩
      have ga : (ptrs s.ids)[i]? = some (.ptr id 0) := by simp [ptrs, hid]
      have gb : (txts s.ws)[i]? = some (.pv (sv w)) := by simp [txts, hw]
      have gs := hs.sums i id w hid hw
      have hwl := hs.size w (List.mem_of_getElem? hw)
      refine needK_has (by simp; omega) ?_
      refine hgetK_has _ hs.ra ?_
      refine needK_has (Nat.beq_refl _) ?_
      refine getK_has (show (ptrs s.ids)[mulE _ 1]? = _ from by rw [mulE_eq]; simpa using ga) ?_
      refine callSK_has (value_ok s.h id _ gs) ?_
      refine needK_has (by simp; omega) ?_
      refine hgetK_has _ hs.rb ?_
      refine needK_has (Nat.beq_refl _) ?_
      refine getK_has (show (txts s.ws)[mulE _ 1]? = _ from by rw [mulE_eq]; simpa using gb) ?_
      refine callPK_has (refOf_ok ⟨w.toArray⟩ (by rw [sv_size]; omega)) ?_
      refine boolK_bne_f rfl ?_
      refine sameK_has rfl ?_ ?_
      · show (readG (hget s.h 2) s.ws.length (mulE (Int.toNat (i : Int)) 1) none).isSome = true
        rw [hs.rb]
        simp only [readG, Nat.beq_refl, cond_true]
        rw [mulE_eq, show (i : Int).toNat * 1 = i by simp, gb]
        rfl
      refine eqK_has_eq _ (i64_succ (by omega)) ?_
      exact Has.intro ⟨⟨rfl, rfl, rfl, rfl, trivial⟩, rfl⟩
    · refine boolK_dec_f (by omega) ?_
      exact Has.intro (Has.intro ⟨rfl, trivial, rfl⟩)
end Go.Proofs.Ytgfedlikbaailaa
