/-
  PlanCounts in the abstract machine.
-/
import Derived.Test.YtaiomdfajdeacaaPlP
set_option linter.all false
set_option linter.unusedVariables false
set_option linter.unusedSimpArgs false
set_option linter.unusedSectionVars false
namespace Go.Proofs.Ytaiomdfajdeacaa
open Go Go.VM

def dfu (a b : Kn) : Nat → Nat
  | 0 => 0
  | j + 1 => dfu a b j + if at_ a j = at_ b j then 0 else 1
theorem dfu_df (a b : Kn) : dfu a b 5 = df a b := by
  show 0 + (if a.c = b.c then 0 else 1) + (if a.w = b.w then 0 else 1) + (if a.mn = b.mn then 0 else 1) + (if a.mx = b.mx then 0 else 1) + (if a.hg = b.hg then 0 else 1) = _
  unfold df; omega
theorem dfu_le (a b : Kn) (j : Nat) : dfu a b j ≤ j := by
  induction j with
  | zero => exact Nat.le_refl _
  | succ j ih => unfold dfu; split <;> omega
theorem dl_take {A B : List Kn} {i : Nat} {a b : Kn} (h1 : A[i]? = some a) (h2 : B[i]? = some b) : dl (A.take (i + 1)) (B.take (i + 1)) = dl (A.take i) (B.take i) + df a b := by
  induction A generalizing B i with
  | nil => simp at h1
  | cons x A ih =>
    cases B with
    | nil => simp at h2
    | cons y B =>
      cases i with
      | zero =>
        simp at h1 h2; subst h1; subst h2
        simp [dl]
      | succ i =>
        have := ih (by simpa using h1) (by simpa using h2)
        simp only [List.take_succ_cons, dl]; omega
theorem kn_at {k : Kn} {j : Nat} (hj : j < 5) : (kn k)[j]? = some (.int .i64 (at_ k j)) := by
  have : j = 0 ∨ j = 1 ∨ j = 2 ∨ j = 3 ∨ j = 4 := by omega
  rcases this with rfl | rfl | rfl | rfl | rfl <;> rfl
theorem kns_f {l : List Kn} {i : Nat} {k : Kn} (h : l[i]? = some k) {j : Nat} (hj : j < 5) : (kns l)[addO (mulE ((i : Nat) : Int).toNat 5) j]? = (kn k)[j]? := by
  rw [addO_eq]; exact kns_cell h hj
theorem flat_take {l : List Stp} {i : Nat} (h : i ≤ l.length) : ((flat sc l).drop (mulE 0 3)).take (mulE (((i : Nat) : Int).toNat - 0) 3) = flat sc (l.take i) := by
  show ((flat sc l).drop 0).take (i * 3) = _
  rw [List.drop_zero]
  conv => lhs; rw [← List.take_append_drop i l, ← flat_app]
  have hl : (flat sc (l.take i)).length = i * 3 := by rw [flat_len sc_len, List.length_take]; congr 1; omega
  rw [List.take_append_of_le_length (by omega), List.take_of_length_le (by omega)]
/-- What a list becomes by an append to one that was just made. -/
theorem app_pl {R : Type} {Q : R → Prop} {F : AV → Heap → Option R} {H : Heap} {e e' : Ext} {es bytes n m : Nat} {cs new : List PV} (he : e.noApp = false) (hc : cs.length = n * es) (hl : new.length = m * es)
    (hb : (n + m) * bytes ≤ mostBytes) (k : ∀ v J, (v = .pv (.sl e (n + m) (cs ++ new)) ∨ v = .tsl H.length (n + m) (cs ++ new)) → Has (F v (H ++ J)) Q) :
    Has (appS false es bytes (.pv (.sl e n cs)) (.pv (.sl e' m new)) H F) Q := by
  by_cases hm : m = 0
  · subst hm
    have : new = [] := List.eq_nil_of_length_eq_zero (by omega)
    subst this
    refine app_none ?_
    have := k (.pv (.sl e n cs)) [] (.inl (by rw [Nat.add_zero, List.append_nil]))
    rwa [List.append_nil] at this
  · exact app_plain he hc hl hm hb (k _ _ (.inr rfl))
theorem okX_len {x : Ext} {l m : List Kn} (h : okX x l) (hl : m.length = l.length) : okX x m := by
  rcases h with ⟨h, rfl⟩ | h | h
  · exact .inl ⟨h, List.eq_nil_of_length_eq_zero hl⟩
  · exact .inr (.inl h)
  · exact .inr (.inr h)
/-- A list of groups, however it is held. -/
def SLV (v : AV) (l : List Kn) : Prop := (∃ e, v = .pv (.sl e l.length (kns l))) ∨ ∃ t, v = .tsl t l.length (kns l)

set_option maxRecDepth 4000 in
set_option maxHeartbeats 2000000 in
theorem counts_ok (ps : List PV) (h : HasArgs [TC] ps) : ∃ H', EE env (.fn 5) (ps.map .pv) [] = some (.pv (.bool true), H') := by
  obtain ⟨p1, _, rfl, ⟨cs, rfl, h⟩, rfl⟩ := h
  obtain ⟨pod, podTo, x, y, now, to, most, rfl, hx, hy, hm1, hm2⟩ := arg_tc h
  clear h
  rw [maxLen_eq] at hm1 hm2
  refine law_end (EE_has (fn_has rfl ?_))
  refine seq_on [(1, .ptr 0 0)] [(HObj.pcells (stC pod podTo x y now to most))] (Has.intro ⟨rfl, ⟨rfl, trivial⟩, rfl⟩) (fun r => ?_)
  refine seq_on [(1, .ptr 0 0)] [(HObj.pcells (stC pod podTo x y now to most))] ?_ (fun r => ?_)
  · refine callPK_has first_ok ?_
    (refine Has.intro ⟨rfl, ?_, rfl⟩; (repeat (first | exact trivial | refine ⟨rfl, ?_⟩)))
  by_cases hb : now.length > 12 ∨ now.length ≠ to.length
  · ((refine hgetK_has (HObj.pcells (stC pod podTo x y now to most)) rfl ?_); refine getK_has rfl ?_)
    refine boolK_dec (fun h1 => ?_) (fun h1 => ?_)
    · exact Has.intro rfl
    · ((refine hgetK_has (HObj.pcells (stC pod podTo x y now to most)) rfl ?_); refine getK_has rfl ?_)
      ((refine hgetK_has (HObj.pcells (stC pod podTo x y now to most)) rfl ?_); refine getK_has rfl ?_)
      refine boolK_bne_t (by omega) ?_
      exact Has.intro rfl
  have hl : now.length ≤ 12 := by omega
  have hlen : now.length = to.length := by omega
  refine seq_on [(1, .ptr 0 0)] [(HObj.pcells (stC pod podTo x y now to most))] ?_ (fun r => ?_)
  · ((refine hgetK_has (HObj.pcells (stC pod podTo x y now to most)) rfl ?_); refine getK_has rfl ?_)
    refine boolK_dec_f (by omega) ?_
    ((refine hgetK_has (HObj.pcells (stC pod podTo x y now to most)) rfl ?_); refine getK_has rfl ?_)
    ((refine hgetK_has (HObj.pcells (stC pod podTo x y now to most)) rfl ?_); refine getK_has rfl ?_)
    refine boolK_bne_f (by omega) ?_
    (refine Has.intro ⟨rfl, ?_, rfl⟩; (repeat (first | exact trivial | refine ⟨rfl, ?_⟩)))
  have hst := steps_ok pod podTo x y now to hl (by omega) hx hy most 200 (by decide)
  have hall := allS_len (pod := pod) (podTo := podTo) (to := to) hl
  obtain ⟨hend, hSD⟩ := allS_end (D pod podTo now to) pod now (Nat.le_refl _) hlen
  have honce := fun i j s t => @once pod podTo now to i j s t
  have hDe : dl (pod :: now) (podTo :: to) = D pod podTo now to := rfl
  rw [List.take_of_length_le (by omega)] at hst
  obtain ⟨e1, he1⟩ := stl_sl (allS pod podTo now to)
  rw [he1] at hst
  generalize allS pod podTo now to = S at *
  refine seq_st (σ := AV × AV × Heap) (fun s => [(1, .ptr 0 0), (3, s.1), (4, s.2.1)]) (fun s => [(HObj.pcells (stC pod podTo x y now to most))] ++ s.2.2) (fun s => SLV s.1 (pod :: now) ∧ SLV s.2.1 (podTo :: to)) ?_ (fun ⟨va, vb, J⟩ ⟨hva, hvb⟩ r => ?_)
  · ((refine hgetK_has (HObj.pcells (stC pod podTo x y now to most)) rfl ?_); refine secK_has (v := kn pod) rfl (by show 5 ≤ 13; decide) ?_)
    ((refine hgetK_has (HObj.pcells (stC pod podTo x y now to most)) rfl ?_); refine getK_has rfl ?_)
    refine app_pl rfl rfl (by rw [kns_len]) (by show (1 + now.length) * 40 ≤ 140737488355328; omega) (fun va J hva => ?_)
    have hna : 1 + now.length = (pod :: now).length := by rw [List.length_cons]; omega
    have hnb : 1 + to.length = (podTo :: to).length := by rw [List.length_cons]; omega
    have hva' : SLV va (pod :: now) := by
      rcases hva with rfl | rfl
      · exact .inl ⟨.nnx, by rw [hna]; rfl⟩
      · exact .inr ⟨_, by rw [hna]; rfl⟩
    rcases hva with rfl | rfl
    all_goals
      ((refine hgetK_has (HObj.pcells (stC pod podTo x y now to most)) rfl ?_); refine secK_has (v := kn podTo) rfl (by show 10 ≤ 13; decide) ?_)
      ((refine hgetK_has (HObj.pcells (stC pod podTo x y now to most)) rfl ?_); refine getK_has rfl ?_)
      refine app_pl rfl rfl (by rw [kns_len]) (by show (1 + to.length) * 40 ≤ 140737488355328; omega) (fun vb J hvb => ?_)
      have hvb' : SLV vb (podTo :: to) := by
        rcases hvb with rfl | rfl
        · exact .inl ⟨.nnx, by rw [hnb]; rfl⟩
        · exact .inr ⟨_, by rw [hnb]; rfl⟩
      rcases hvb with rfl | rfl
      all_goals
        refine sameK_has rfl rfl ?_
        refine sameK_has rfl rfl ?_
        exact Has.intro ⟨rfl, (_, _, _), ⟨hva', hvb'⟩, ⟨rfl, rfl, rfl, trivial⟩, rfl⟩
  refine seq_on [(1, .ptr 0 0), (3, va), (4, vb), (5, .pv (.int .i64 0))] ([(HObj.pcells (stC pod podTo x y now to most))] ++ J) (Has.intro ⟨rfl, ⟨rfl, rfl, rfl, rfl, trivial⟩, rfl⟩) (fun r => ?_)
  have hal : (pod :: now).length = now.length + 1 := rfl
  have hbl : (podTo :: to).length = to.length + 1 := rfl
  have hdl : ∀ i, dl ((pod :: now).take i) ((podTo :: to).take i) ≤ 5 * i := fun i => by
    have := dl_le ((pod :: now).take i) ((podTo :: to).take i)
    rw [List.length_take] at this
    omega
  generalize hPN : pod :: now = PN at *
  generalize hPT : podTo :: to = PT at *
  have hPTl : PT.length = PN.length := by omega
  refine seq_st (σ := Heap) (fun _ => [(1, .ptr 0 0), (5, .pv (.int .i64 ((dl PN PT : Nat) : Int)))]) (fun J => [(HObj.pcells (stC pod podTo x y now to most))] ++ J) (fun _ => True) ?_ (fun J _ r => ?_)
  · rcases hva with ⟨ea, rfl⟩ | ⟨ta, rfl⟩
    all_goals rcases hvb with ⟨eb, rfl⟩ | ⟨tb, rfl⟩
    all_goals
      refine loopK_has ?_
      refine iterE_upJ PN.length (fun i => [(1, .ptr 0 0), (3, _), (4, _), (5, .pv (.int .i64 ((dl (PN.take i) (PT.take i) : Nat) : Int))), (45, .pv (.int .i64 PN.length)), (46, .pv (.int .i64 i))]) (fun _ => [(HObj.pcells (stC pod podTo x y now to most))]) (fun i hi r J => ?_) (fun r J => ?_) J ⟨rfl, rfl, rfl, rfl, rfl, rfl, trivial⟩ rfl
      · obtain ⟨a, ha⟩ : ∃ a, PN[i]? = some a := ⟨_, List.getElem?_eq_getElem hi⟩
        obtain ⟨b, hb⟩ : ∃ b, PT[i]? = some b := ⟨PT[i]'(by omega), List.getElem?_eq_getElem (by omega)⟩
        have hd := dl_take ha hb
        have hdi := hdl i
        generalize dl (PN.take i) (PT.take i) = d at *
        refine boolK_dec_t (by omega) ?_
        refine needK_has (by (first | rfl | (simp; done) | (simp; omega))) ?_
        refine getK_has ((kns_f ha (by decide)).trans rfl) ?_
        refine needK_has (by (first | rfl | (simp; done) | (simp; omega))) ?_
        refine getK_has ((kns_f ha (by decide)).trans rfl) ?_
        refine needK_has (by (first | rfl | (simp; done) | (simp; omega))) ?_
        refine getK_has ((kns_f ha (by decide)).trans rfl) ?_
        refine needK_has (by (first | rfl | (simp; done) | (simp; omega))) ?_
        refine getK_has ((kns_f ha (by decide)).trans rfl) ?_
        refine needK_has (by (first | rfl | (simp; done) | (simp; omega))) ?_
        refine getK_has ((kns_f ha (by decide)).trans rfl) ?_
        refine hgetK_last ?_
        refine needK_has rfl ?_
        refine eqK_has_eq (kn a) rfl ?_
        refine needK_has (by (first | rfl | (simp; done) | (simp; omega))) ?_
        refine getK_has ((kns_f hb (by decide)).trans rfl) ?_
        refine needK_has (by (first | rfl | (simp; done) | (simp; omega))) ?_
        refine getK_has ((kns_f hb (by decide)).trans rfl) ?_
        refine needK_has (by (first | rfl | (simp; done) | (simp; omega))) ?_
        refine getK_has ((kns_f hb (by decide)).trans rfl) ?_
        refine needK_has (by (first | rfl | (simp; done) | (simp; omega))) ?_
        refine getK_has ((kns_f hb (by decide)).trans rfl) ?_
        refine needK_has (by (first | rfl | (simp; done) | (simp; omega))) ?_
        refine getK_has ((kns_f hb (by decide)).trans rfl) ?_
        refine hgetK_last ?_
        refine needK_has rfl ?_
        refine eqK_has_eq (kn b) rfl ?_
        have q1 := fun (X : HObj) => hget_hset_same (H := [(HObj.pcells (stC pod podTo x y now to most))] ++ J ++ [X]) (id := ([(HObj.pcells (stC pod podTo x y now to most))] ++ J).length) (.pcells (kn a)) (by simp)
        refine loopK_has ?_
        refine iterE_up 5 (fun j => [(1, .ptr 0 0), (3, _), (4, _), (5, .pv (.int .i64 ((d + dfu a b j : Nat) : Int))), (7, .ptr ([(HObj.pcells (stC pod podTo x y now to most))] ++ J).length 0), (8, .ptr _ 0), (45, .pv (.int .i64 PN.length)), (46, .pv (.int .i64 i)), (101, .pv (.int .i64 j))]) (fun _ => _) (fun j hj r => ?_) (fun r => ?_) ⟨rfl, rfl, rfl, rfl, rfl, rfl, rfl, rfl, rfl, trivial⟩ rfl
        · have hdf := dfu_le a b j
          have hds : dfu a b (j + 1) = dfu a b j + if at_ a j = at_ b j then 0 else 1 := rfl
          refine boolK_dec_t (by omega) ?_
          refine needK_has (by (first | rfl | (simp; done) | (simp; omega))) ?_
          refine hgetK_has _ (keep2 _ _ (q1 _) ((by intro h; cases h))) ?_
          refine getK_has (v := .int .i64 (at_ a j)) (kn_at hj) ?_
          refine needK_has (by (first | rfl | (simp; done) | (simp; omega))) ?_
          refine hgetK_has _ (hget_hset_same _ (by simp)) ?_
          refine getK_has (v := .int .i64 (at_ b j)) (kn_at hj) ?_
          refine boolK_bne (fun hne => ?_) (fun he => ?_)
          · refine eqK_has_eq ((d + dfu a b (j + 1) : Nat) : Int) ((wrap_i64 (by omega) (by omega)).trans (by rw [hds, if_neg hne]; omega)) ?_
            refine eqK_has_eq _ (i64_succ (by omega)) ?_
            exact Has.intro ⟨⟨rfl, rfl, rfl, rfl, rfl, rfl, rfl, rfl, rfl, trivial⟩, rfl⟩
          · refine eqK_has_eq _ (i64_succ (by omega)) ?_
            refine Has.intro ⟨⟨rfl, rfl, rfl, ?_, rfl, rfl, rfl, rfl, rfl, trivial⟩, rfl⟩
            show AV.pv (PV.int .i64 ((d + dfu a b j : Nat) : Int)) = _
            rw [hds, if_pos he, Nat.add_zero]
        · refine boolK_dec_f (by omega) ?_
          refine Has.intro ?_
          rw [dfu_df, ← hd]
          refine eqK_has_eq _ (i64_succ (by omega)) ?_
          exact Has.intro ⟨⟨rfl, rfl, rfl, rfl, rfl, rfl, trivial⟩, _, rfl⟩
      · refine boolK_dec_f (by omega) ?_
        refine Has.intro ?_
        rw [List.take_length, ← hPTl, List.take_length]
        exact Has.intro ⟨rfl, J, trivial, ⟨rfl, rfl, trivial⟩, rfl⟩
  clear hva hvb hdl
  refine seq_on [(1, .ptr 0 0), (5, .pv (.int .i64 ((dl PN PT : Nat) : Int))), (10, .pv (.sl e1 S.length (flat sc S)))] ([(HObj.pcells (stC pod podTo x y now to most))] ++ J) ?_ (fun r => ?_)
  · refine hgetK_has (HObj.pcells (stC pod podTo x y now to most)) rfl ?_
    refine secK_has (v := stC pod podTo x y now to most) rfl (Nat.le_refl 13) ?_
    refine callPK_has hst ?_
    (refine Has.intro ⟨rfl, ?_, rfl⟩; (repeat (first | exact trivial | refine ⟨rfl, ?_⟩)))
  refine seq_st (σ := Heap × Nat) (fun s => [(1, .ptr 0 0), (5, .pv (.int .i64 ((dl PN PT : Nat) : Int))), (10, .pv (.sl e1 S.length (flat sc S))), (11, .ptr s.2 0), (12, .pv (.sl x now.length (kns now)))]) (fun s => s.1)
    (fun s => hget s.1 0 = (HObj.pcells (stC pod podTo x y now to most)) ∧ hget s.1 s.2 = .pcells (kn pod) ∧ s.2 ≠ 0) ?_ (fun ⟨H, p⟩ ⟨h0, hp, hp0⟩ r => ?_)
  · ((refine hgetK_has (HObj.pcells (stC pod podTo x y now to most)) rfl ?_); refine secK_has (v := kn pod) rfl (by show 5 ≤ 13; decide) ?_)
    ((refine hgetK_has (HObj.pcells (stC pod podTo x y now to most)) rfl ?_); refine getK_has rfl ?_)
    refine hgetK_last ?_
    refine needK_has rfl ?_
    refine eqK_has_eq (kn pod) rfl ?_
    refine sameK_has rfl rfl ?_
    refine Has.intro ⟨rfl, (_, ([(HObj.pcells (stC pod podTo x y now to most))] ++ J).length), ⟨rfl, hget_hset_same _ (by simp), by simp⟩, ⟨rfl, rfl, rfl, rfl, rfl, trivial⟩, rfl⟩
  dsimp only at h0 hp hp0 ⊢
  have hwl := fun i => walk_len (S.take i) pod now
  refine seq_st (σ := Heap × Ext) (fun s => [(1, .ptr 0 0), (5, .pv (.int .i64 ((dl PN PT : Nat) : Int))), (10, .pv (.sl e1 S.length (flat sc S))), (11, .ptr p 0), (12, .pv (.sl s.2 (walk pod now S).2.length (kns (walk pod now S).2)))]) (fun s => s.1)
    (fun s => hget s.1 0 = (HObj.pcells (stC pod podTo x y now to most)) ∧ hget s.1 p = .pcells (kn (walk pod now S).1)) ?_ (fun ⟨H, ex⟩ ⟨h0, hp⟩ r => ?_)
  · refine loopK_has ?_
    refine iterE_loop (σ := Nat × Ext × Heap) (fun s => S.length - s.1) (fun s => [(1, .ptr 0 0), (5, .pv (.int .i64 ((dl PN PT : Nat) : Int))), (10, .pv (.sl e1 S.length (flat sc S))), (11, .ptr p 0), (12, .pv (.sl s.2.1 (walk pod now (S.take s.1)).2.length (kns (walk pod now (S.take s.1)).2))), (121, .pv (.sl e1 S.length (flat sc S))), (122, .pv (.int .i64 S.length)), (123, .pv (.int .i64 s.1))]) (fun s => s.2.2)
      (fun s => s.1 ≤ S.length ∧ okX s.2.1 (walk pod now (S.take s.1)).2 ∧ hget s.2.2 0 = (HObj.pcells (stC pod podTo x y now to most)) ∧ hget s.2.2 p = .pcells (kn (walk pod now (S.take s.1)).1)) (fun ⟨i, ex, H⟩ ⟨hi, hex, h0, hp⟩ r => ?_) (0, x, H) ⟨Nat.zero_le _, hx, h0, hp⟩ ⟨rfl, rfl, rfl, rfl, rfl, rfl, rfl, rfl, trivial⟩ rfl
    dsimp only at hi hex h0 hp ⊢
    rcases Nat.lt_or_ge i S.length with hlt | hge
    · obtain ⟨s, hs⟩ : ∃ s, S[i]? = some s := ⟨_, List.getElem?_eq_getElem hlt⟩
      obtain ⟨g1, g2⟩ := flat_get sc_len hs
      have hwi := hwl i
      have hnext := walk_take (pod := pod) (now := now) hs
      refine boolK_dec_t (by omega) ?_
      refine needK_has (by (first | rfl | (simp; done) | (simp; omega))) ?_
      refine secK_has g1 g2 ?_
      refine hgetK_last ?_
      refine needK_has rfl ?_
      refine eqK_has_eq (sc s) rfl ?_
      refine needK_has (by (first | rfl | (simp; done) | (simp; omega))) ?_
      refine eqK_has_eq (flat sc (S.take i)) (flat_take hi) ?_
      have k0 := keep2 (.pcells [.int .i64 0, .int .i64 0, .int .i64 0]) (.pcells (sc s)) h0 ((by intro h; cases h))
      have kp := keep2 (.pcells [.int .i64 0, .int .i64 0, .int .i64 0]) (.pcells (sc s)) hp ((by intro h; cases h))
      have kq := hget_hset_same (H := H ++ [HObj.pcells [.int .i64 0, .int .i64 0, .int .i64 0]]) (id := H.length) (.pcells (sc s)) (by simp)
      generalize hset (H ++ [HObj.pcells [.int .i64 0, .int .i64 0, .int .i64 0]]) H.length (.pcells (sc s)) = H2 at *
      generalize H.length = q at *
      generalize walk pod now (S.take i) = W at *
      have htl : (S.take i).length = i := by rw [List.length_take]; omega
      refine loopK_has ?_
      refine iterE_loop (σ := Nat × Heap) (fun s => i - s.1) (fun s => [(1, .ptr 0 0), (5, .pv (.int .i64 ((dl PN PT : Nat) : Int))), (10, .pv (.sl e1 S.length (flat sc S))), (11, .ptr p 0), (12, .pv (.sl ex W.2.length (kns W.2))), (14, .ptr q 0), (121, .pv (.sl e1 S.length (flat sc S))), (122, .pv (.int .i64 S.length)), (123, .pv (.int .i64 i)), (130, .pv (.sl _ i (flat sc (S.take i)))), (131, .pv (.int .i64 i)), (132, .pv (.int .i64 s.1))]) (fun s => s.2)
        (fun w => w.1 ≤ i ∧ hget w.2 0 = (HObj.pcells (stC pod podTo x y now to most)) ∧ hget w.2 p = .pcells (kn W.1) ∧ hget w.2 q = .pcells (sc s)) (fun ⟨j, H⟩ ⟨hj, h0, hp, hq⟩ r => ?_) (0, H2) ⟨Nat.zero_le _, k0, kp, kq⟩ ⟨rfl, rfl, rfl, rfl, rfl, rfl, rfl, rfl, rfl, rfl, rfl, rfl, trivial⟩ rfl
      dsimp only at hj h0 hp hq ⊢
      rcases Nat.lt_or_ge j i with hjl | hjg
      · obtain ⟨t, ht⟩ : ∃ t, (S.take i)[j]? = some t := ⟨_, List.getElem?_eq_getElem (by omega)⟩
        have ht2 : S[j]? = some t := by
          rw [List.getElem?_take, if_pos hjl] at ht
          exact ht
        obtain ⟨g1, g2⟩ := flat_get sc_len ht
        have hne := honce i j s t hs ht2 hjl
        refine boolK_dec_t (by omega) ?_
        refine needK_has (by (first | rfl | (simp; done) | (simp; omega))) ?_
        refine secK_has g1 g2 ?_
        refine hgetK_last ?_
        refine needK_has rfl ?_
        refine eqK_has_eq (sc t) rfl ?_
        refine hgetK_has _ (keep2 _ _ hq ((by intro h; cases h))) ?_
        refine getK_has rfl ?_
        refine hgetK_set ?_
        refine getK_has rfl ?_
        refine boolK_beq (fun hw => ?_) (fun hw => ?_)
        · refine hgetK_has _ (keep2 _ _ hq ((by intro h; cases h))) ?_
          refine getK_has rfl ?_
          refine hgetK_set ?_
          refine getK_has rfl ?_
          refine boolK_beq_f (fun hf => hne ⟨hw, hf⟩) ?_
          refine eqK_has_eq _ (i64_succ (by omega)) ?_
          exact Has.intro ⟨(j + 1, _), ⟨hjl, keep2 _ _ h0 ((by intro h; cases h)), keep2 _ _ hp ((by intro h; cases h)), keep2 _ _ hq ((by intro h; cases h))⟩, by dsimp only; omega, ⟨rfl, rfl, rfl, rfl, rfl, rfl, rfl, rfl, rfl, rfl, rfl, rfl, trivial⟩, rfl⟩
        · refine eqK_has_eq _ (i64_succ (by omega)) ?_
          exact Has.intro ⟨(j + 1, _), ⟨hjl, keep2 _ _ h0 ((by intro h; cases h)), keep2 _ _ hp ((by intro h; cases h)), keep2 _ _ hq ((by intro h; cases h))⟩, by dsimp only; omega, ⟨rfl, rfl, rfl, rfl, rfl, rfl, rfl, rfl, rfl, rfl, rfl, rfl, trivial⟩, rfl⟩
      · refine boolK_dec_f (by omega) ?_
        refine Has.intro ?_
        refine hgetK_has _ hp ?_
        refine secK_has (v := kn W.1) rfl (Nat.le_refl 5) ?_
        refine hgetK_has _ hq ?_
        refine secK_has (v := sc s) rfl (Nat.le_refl 3) ?_
        refine callPK_has (apply_ok W.1 ex W.2 hex (by omega) s) ?_
        refine hgetK_has _ hp ?_
        refine needK_has rfl ?_
        refine eqK_has_eq (kn (ap W.1 W.2 s).1) rfl ?_
        refine eqK_has_eq _ (i64_succ (by omega)) ?_
        have hal2 := ap_len W.1 W.2 s
        refine Has.intro ⟨(i + 1, cpx ex W.2, hset H p (.pcells (kn (ap W.1 W.2 s).1))), ⟨hlt, ?_, (hget_hset_ne _ _ (fun e => hp0 e.symm)).trans h0, ?_⟩, by dsimp only; omega, ⟨rfl, rfl, rfl, rfl, ?_, rfl, rfl, rfl, trivial⟩, rfl⟩
        · dsimp only
          rw [hnext]
          exact okX_len (cpx_ok ex W.2) hal2
        · dsimp only
          rw [hnext]
          exact hget_hset_same _ (hget_lt hp ((by intro h; cases h)))
        · dsimp only
          rw [hnext, hal2]; rfl
    · have : i = S.length := by omega
      subst this
      rw [List.take_length] at hp ⊢
      refine boolK_dec_f (by omega) ?_
      refine Has.intro ?_
      exact Has.intro ⟨rfl, (H, ex), ⟨h0, hp⟩, ⟨rfl, rfl, rfl, rfl, rfl, trivial⟩, rfl⟩
  dsimp only at h0 hp ⊢
  rw [hend] at hp ⊢
  refine boolK_beq_t (by rw [hSD, hDe]) ?_
  refine hgetK_has _ hp ?_
  refine secK_has (v := kn podTo) rfl (Nat.le_refl 5) ?_
  refine hgetK_has _ h0 ?_
  refine secK_has (v := kn podTo) rfl (by show 10 ≤ 13; decide) ?_
  refine bindK_has (aggK _ _) ?_
  refine boolK_has_true (decide_eq_true rfl) ?_
  refine hgetK_has _ h0 ?_
  refine getK_has rfl ?_
  have hsame := same_ok ex y to to (by omega)
  rw [decide_eq_true rfl] at hsame
  refine callPK_has hsame ?_
  exact Has.intro rfl
end Go.Proofs.Ytaiomdfajdeacaa
