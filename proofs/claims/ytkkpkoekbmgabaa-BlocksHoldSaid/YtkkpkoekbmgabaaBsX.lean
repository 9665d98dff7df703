/-
  Blocks: BlocksHold.
-/
import Derived.Test.YtkkpkoekbmgabaaBsY
set_option linter.all false
set_option linter.unusedVariables false
set_option linter.unusedSimpArgs false
set_option linter.unusedSectionVars false
namespace Go.Proofs.Ytkkpkoekbmgabaa
open Go Go.VM
variable {H : Heap} {p m : Nat} {zs : List Zn} {L : List Rw}

/-- Two spreads, cell by cell. -/
def csum (F : Nat → Int) : List PV := (List.range 16).map fun t => iv (F t)
theorem csum_get (F : Nat → Int) {t : Nat} (h : t < 16) : (csum F)[t]? = some (iv (F t)) := by
  unfold csum; rw [List.getElem?_map, List.getElem?_range h]; rfl
theorem csum_set (F : Nat → Int) (t : Nat) (v : Int) : (csum F).set t (iv v) = csum fun j => if j = t then v else F j := by
  unfold csum
  refine List.ext_getElem? fun j => ?_
  rw [List.getElem?_set, List.getElem?_map, List.getElem?_map]
  by_cases hj : t = j
  · subst hj
    by_cases h : t < 16
    · simp [h]
    · simp [h]
  · rw [if_neg hj]
    by_cases h : j < 16
    · rw [List.getElem?_range h]; simp [Ne.symm hj]
    · rw [List.getElem?_eq_none (by simp; omega)]; rfl
theorem csum_congr {F G : Nat → Int} (h : ∀ t, t < 16 → F t = G t) : csum F = csum G := by
  unfold csum
  exact List.map_congr_left fun t ht => by rw [h t (List.mem_range.1 ht)]
/-- What rows hold, by kinds and zones. -/
def allU (L : List Rw) (t : Nat) : Int := used L (t % 8) (t / 8 : Nat)
theorem rcs_get {l : List Rw} {i : Nat} {x : Rw} (h : l[i]? = some x) : ((rcs l).drop (i * 11)).take 11 = rc x := by
  induction l generalizing i with
  | nil => cases h
  | cons a l ih =>
    cases i with
    | zero => simp at h; subst h; simp [rcs, rc, oc, sc]
    | succ i =>
      have := ih (i := i) (by simpa using h)
      have e : (rcs (a :: l)).drop ((i + 1) * 11) = (rcs l).drop (i * 11) := by
        rw [show (i + 1) * 11 = 11 + i * 11 by omega, ← List.drop_drop]
        rfl
      rw [e]; exact this
theorem used_take {L : List Rw} {j : Nat} {r : Rw} (h : L[j]? = some r) (i : Nat) (k : Int) : used (L.take (j + 1)) i k = used (L.take j) i k + rowUse i k r := by
  rw [List.take_add_one, h, used_app]; simp [used]
/-- What is summed up when so many cells of a row were added. -/
def midU (L : List Rw) (j : Nat) (r : Rw) (i t : Nat) : Int := allU (L.take j) t + (if ((t / 8 : Nat) : Int) = r.1.kind ∧ t % 8 < i then r.2.at (t % 8) else 0)
theorem midU_zero (L : List Rw) (j : Nat) (r : Rw) : csum (midU L j r 0) = csum (allU (L.take j)) := csum_congr fun t _ => by unfold midU; rw [if_neg (by omega)]; omega
theorem midU_last {L : List Rw} {j : Nat} {r : Rw} (h : L[j]? = some r) : csum (midU L j r 8) = csum (allU (L.take (j + 1))) := csum_congr fun t ht => by
  unfold midU allU
  rw [used_take h]
  unfold rowUse
  by_cases hk : r.1.kind = ((t / 8 : Nat) : Int)
  · rw [if_pos hk, if_pos ⟨hk.symm, by omega⟩]
  · rw [if_neg hk, if_neg (fun h => hk h.1.symm)]
theorem midU_step (L : List Rw) (j : Nat) (r : Rw) {i k : Nat} (hi : i < 8) (hk : r.1.kind = (k : Int)) :
    (csum (midU L j r i)).set (k * 8 + i) (iv (midU L j r i (k * 8 + i) + r.2.at i)) = csum (midU L j r (i + 1)) := by
  rw [csum_set]
  refine csum_congr fun t ht => ?_
  by_cases h : t = k * 8 + i
  · subst h
    rw [if_pos rfl]
    unfold midU
    have e1 : (k * 8 + i) / 8 = k := by omega
    have e2 : (k * 8 + i) % 8 = i := by omega
    rw [e1, e2, hk, if_neg (by omega), if_pos ⟨rfl, by omega⟩]
    omega
  · rw [if_neg h]
    unfold midU
    by_cases h2 : ((t / 8 : Nat) : Int) = r.1.kind ∧ t % 8 < i
    · rw [if_pos h2, if_pos ⟨h2.1, by omega⟩]
    · rw [if_neg h2, if_neg (fun h3 => h2 ⟨h3.1, by
        have h4 : t / 8 = k := by have := h3.1; rw [hk] at this; omega
        omega⟩)]
theorem midU_val (L : List Rw) (j : Nat) (r : Rw) {i k : Nat} (hi : i < 8) : midU L j r i (k * 8 + i) = used (L.take j) i (k : Int) := by
  unfold midU allU
  have e1 : (k * 8 + i) / 8 = k := by omega
  have e2 : (k * 8 + i) % 8 = i := by omega
  rw [e1, e2, if_neg (by omega)]
  omega
def f3 (k : Int) : Bool := (IntKind.u64.wrap k).tmod 7 == 5
theorem hold_law (ps : List PV) (h : HasArgs [.sl 4 TZ, .sl 13 TOp] ps) : ∃ H', EE env (.fn 3) (ps.map .pv) [] = some (.pv (.bool true), H') := by
  obtain ⟨p1, _, rfl, h1, p2, _, rfl, h2, rfl⟩ := h
  obtain ⟨xz, zs, rfl, hz⟩ := arg_zs h1
  obtain ⟨xl, l, rfl, hl, hlo⟩ := arg_ops h2
  clear h1 h2
  refine law_end (EE_has (fn_has rfl ?_))
  let R : List (Nat × AV) := [(0, .pv (.sl xz zs.length (zcs zs))), (1, .pv (.sl xl l.length (ops l)))]
  refine seq_onK R (fun _ => True) ?_ (fun r J _ => ?_)
  · exact Has.intro ⟨rfl, by (repeat (first | exact trivial | refine ⟨rfl, ?_⟩)), trivial⟩
  refine seq_onK R (fun _ => True) ?_ (fun r J _ => ?_)
  · refine callPK_has first_ok ?_
    exact Has.intro ⟨rfl, by (repeat (first | exact trivial | refine ⟨rfl, ?_⟩)), trivial⟩
  refine seq_ifK [(4, .pv (.bool true))] (fun _ => True) R (fun J => smallL l ∧ zs.length ≤ 20) ?_ (fun r J hJ => ?_) (fun r J hJ => ?_)
  · refine callPK_has' ((great_ok xl l hl hlo).mono fun v hv => ?_)
    rcases hv with ⟨rfl, _⟩ | ⟨rfl, hv⟩
    · exact Has.intro (.inl ⟨rfl, by (repeat (first | exact trivial | refine ⟨rfl, ?_⟩)), trivial⟩)
    · refine boolK_dec (fun hz => ?_) (fun hz => ?_)
      · exact Has.intro (.inl ⟨rfl, by (repeat (first | exact trivial | refine ⟨rfl, ?_⟩)), trivial⟩)
      · exact Has.intro (.inr ⟨rfl, by (repeat (first | exact trivial | refine ⟨rfl, ?_⟩)), hv, by omega⟩)
  · exact Has.intro rfl
  obtain ⟨hsl, hz20⟩ := hJ
  by_cases hf : fits zs
  · refine seq_stK (σ := Nat × Nat) (fun s => (5, .ptr s.1 0) :: (6, .pv (iv 0)) :: R) (fun s J => Ts J s.1 zs s.2 []) ?_ (fun s r J hT => ?_)
    · refine callSK_has' ((new_ok zs hz20 xz).mono fun y hy => ?_)
      obtain ⟨v, J1⟩ := y
      obtain ⟨k1, ⟨_, h2, h3, h4⟩ | ⟨h2, _⟩⟩ := hy
      · dsimp only at k1 h2 h3 h4 ⊢
        subst h3
        exact Has.intro ⟨rfl, (J1.length - 1, J1.length - 2), by (repeat (first | exact trivial | refine ⟨rfl, ?_⟩)), h4, List.Pairwise.nil⟩
      · exact absurd hf h2
    obtain ⟨p, m⟩ := s
    dsimp only at hT
    refine seq_onK ((5, .ptr p 0) :: R) (fun J => Ts J p zs m []) ?_ (fun r J hT => ?_)
    · refine boolK_bne_f rfl ?_
      exact Has.intro ⟨rfl, by (repeat (first | exact trivial | refine ⟨rfl, ?_⟩)), hT⟩
    have hrl : ∀ i, (runA f3 zs [] (l.take i)).length ≤ 60 := fun i => by
      have := runA_len f3 zs (l.take i) []
      have := hsl.2
      rw [List.length_take] at *
      simp at *
      omega
    refine seq_onK ((5, .ptr p 0) :: R) (fun J => Ts J p zs m (runA f3 zs [] l)) ?_ (fun r J hT => ?_)
    · refine loopK_has ?_
      refine iterE_upK l.length (fun i => (36, .pv (iv i)) :: (35, .pv (iv l.length)) :: (34, .pv (.sl xl l.length (ops l))) :: (5, .ptr p 0) :: R) (fun i J => Ts J p zs m (runA f3 zs [] (l.take i))) (fun i hi r J hT => ?_) (fun r J hT => ?_) (by (repeat (first | exact trivial | refine ⟨rfl, ?_⟩))) hT
      · refine boolK_dec_t (by omega) ?_
        refine needK_has (by simp; omega) ?_
        refine secK_has (v := opc l[i]) (ops_get (List.getElem?_eq_getElem hi)) (by rw [ops_len]; show i * 13 + 13 ≤ _; omega) ?_
        have hsi := hlo l[i] (List.getElem_mem hi)
        have hk : ∀ a b, Kp [] J (hset (J ++ [a]) J.length b) := fun a b => ((Kp.refl _ _).app _).set _ _ (.inr (Nat.le_refl _))
        have hT1 := fun a b => hT.kp' (hk a b) (by simp) (by simp)
        have hst := runA_step (f := f3) (zs := zs) (L := []) (List.getElem?_eq_getElem hi)
        (repeat (first | refine hgetK_last ?_ | refine hgetK_set ?_ | refine hgetK_two1 ?_ | refine hgetK_two2 ?_ | refine hgetK_two3 ?_ | refine hgetK_two4 ?_ | refine hgetK_two5 ?_ | refine needK_has rfl ?_ | refine getK_has rfl ?_ | refine secK_has rfl (by first | exact Nat.le_refl _ | decide | exact Nat.le_of_ble_eq_true rfl) ?_ | refine eqK_has ?_))
        refine boolK_has (fun hb => ?_) (fun hb => ?_)
        · have hb' : f3 l[i].kind = true := hb
          rw [if_pos hb'] at hst
          (repeat (first | refine hgetK_last ?_ | refine hgetK_set ?_ | refine hgetK_two1 ?_ | refine hgetK_two2 ?_ | refine hgetK_two3 ?_ | refine hgetK_two4 ?_ | refine hgetK_two5 ?_ | refine needK_has rfl ?_ | refine getK_has rfl ?_ | refine secK_has rfl (by first | exact Nat.le_refl _ | decide | exact Nat.le_of_ble_eq_true rfl) ?_ | refine eqK_has ?_))
          obtain ⟨J1, g1, g2, g3⟩ := release_ts (hT1 (.pcells (opc ⟨0, 0, ⟨[], [], 0⟩, s0⟩)) (.pcells (opc l[i]))) (by have := hrl i; omega) l[i].o.pod
          refine callSK_has g1 ?_
          refine eqK_has_eq ((i + 1 : Nat) : Int) (i64_succ (by have : maxLen = 9223372036854775807 := rfl; omega)) ?_
          refine Has.intro ⟨by (repeat (first | exact trivial | refine ⟨rfl, ?_⟩)), ?_⟩
          rw [hst]; exact g3
        · have hb' : ¬ f3 l[i].kind = true := by
            intro h
            rw [show f3 l[i].kind = false from hb] at h; cases h
          rw [if_neg hb'] at hst
          (repeat (first | refine hgetK_last ?_ | refine hgetK_set ?_ | refine hgetK_two1 ?_ | refine hgetK_two2 ?_ | refine hgetK_two3 ?_ | refine hgetK_two4 ?_ | refine hgetK_two5 ?_ | refine needK_has rfl ?_ | refine getK_has rfl ?_ | refine secK_has rfl (by first | exact Nat.le_refl _ | decide | exact Nat.le_of_ble_eq_true rfl) ?_ | refine eqK_has ?_))
          obtain ⟨J1, g1, g2, g3⟩ := put_ts (hT1 (.pcells (opc ⟨0, 0, ⟨[], [], 0⟩, s0⟩)) (.pcells (opc l[i]))) l[i].o l[i].s hsi.1 hsi.2
          refine callSK_has g1 ?_
          refine eqK_has_eq ((i + 1 : Nat) : Int) (i64_succ (by have : maxLen = 9223372036854775807 := rfl; omega)) ?_
          refine Has.intro ⟨by (repeat (first | exact trivial | refine ⟨rfl, ?_⟩)), ?_⟩
          rw [hst]; exact g3
      · refine boolK_dec_f (by omega) ?_
        rw [List.take_of_length_le (Nat.le_refl _)] at hT
        exact Has.intro (Has.intro ⟨rfl, by (repeat (first | exact trivial | refine ⟨rfl, ?_⟩)), hT⟩)
    obtain ⟨L, hL⟩ : ∃ L, L = runA f3 zs [] l := ⟨_, rfl⟩
    have hLl : L.length ≤ 60 := by
      have := hrl l.length
      rw [List.take_of_length_le (Nat.le_refl _)] at this
      rw [hL]; exact this
    rw [← hL] at hT
    clear hL
    refine seq_stK (σ := Nat) (fun q => (9, .ptr q 0) :: (5, .ptr p 0) :: R) (fun q J => Ts J p zs m L ∧ hget J q = .pcells (csum fun _ => 0)) ?_ (fun q r J hJ => ?_)
    · exact Has.intro ⟨rfl, J.length, by (repeat (first | exact trivial | refine ⟨rfl, ?_⟩)), hT.kp' (l := []) ((Kp.refl _ _).app _) (by simp) (by simp), hget_append_same _ _⟩
    obtain ⟨hT, hq⟩ := hJ
    have hF := hT.fair
    have bnd : ∀ j i (k : Nat), 0 ≤ used (L.take j) i (k : Int) ∧ used (L.take j) i (k : Int) ≤ 1073741824 := fun j i k =>
      ⟨used_pos (hF.sub (List.take_sublist j L)).pos i k, Int.le_trans (used_le_sub hF.pos (List.take_sublist j L) i k) (Int.le_trans (hF.room i k) (room_bound hf i k).2)⟩
    have hpq : ∀ {J : Heap} {c : List PV}, Ts J p zs m L → hget J q = .pcells c → p ≠ q := fun hT hq e => by
      obtain ⟨x, hx⟩ := hT.z.obj
      rw [e, hq] at hx
      cases hx
    have hmq : ∀ {J : Heap} {c : List PV}, Ts J p zs m L → hget J q = .pcells c → m ≠ q := fun hT hq e => by
      obtain ⟨clk, E, hm, _⟩ := hT.map
      rw [e, hq] at hm
      cases hm
    refine seq_onK ((9, .ptr q 0) :: (5, .ptr p 0) :: R) (fun J => Ts J p zs m L ∧ hget J q = .pcells (csum (allU L))) ?_ (fun r J hJ => ?_)
    · refine callSK_has' ((rows_ts hT (by omega) 500).mono fun y hy => ?_)
      obtain ⟨v, J1⟩ := y
      obtain ⟨k1, k2⟩ := hy
      dsimp only at k1 k2 ⊢
      have hT1 := hT.kp' k1 (by simp) (by simp)
      have hq1 := k1.get hq (by intro h; cases h) (by simp)
      rw [List.take_of_length_le (by omega), show min 500 L.length = L.length by omega] at k2
      rcases k2 with ⟨h0, _, rfl, _⟩ | ⟨h0, hcl, t, rfl, ht⟩
      · have hL0 : L = [] := List.eq_nil_of_length_eq_zero h0
        subst hL0
        refine loopK_has ?_
        refine iterE_upK 0 (fun i => (60, .pv (iv i)) :: (59, .pv (iv 0)) :: (9, .ptr q 0) :: (5, .ptr p 0) :: R) (fun _ J => J = J1) (fun i hi => by omega) (fun r J hJ => ?_) (by (repeat (first | exact trivial | refine ⟨rfl, ?_⟩))) rfl
        subst hJ
        refine boolK_dec_f (by decide) ?_
        refine Has.intro (Has.intro ⟨rfl, by (repeat (first | exact trivial | refine ⟨rfl, ?_⟩)), hT1, hq1.trans ?_⟩)
        congr 1
      · refine loopK_has ?_
        refine iterE_upK L.length (fun i => (60, .pv (iv i)) :: (59, .pv (iv L.length)) :: (58, .tsl t L.length (rcs L)) :: (9, .ptr q 0) :: (5, .ptr p 0) :: R) (fun j J => Ts J p zs m L ∧ hget J q = .pcells (csum (allU (L.take j)))) (fun j hj r J hJ => ?_) (fun r J hJ => ?_) (by (repeat (first | exact trivial | refine ⟨rfl, ?_⟩))) ⟨hT1, hq1⟩
        · obtain ⟨hT, hq⟩ := hJ
          have hjg := List.getElem?_eq_getElem hj
          obtain ⟨k, hk, hk2⟩ : ∃ k : Nat, L[j].1.kind = (k : Int) ∧ k < 2 := by
            rcases hF.kind _ (List.getElem_mem hj) with h | h
            · exact ⟨0, h, by decide⟩
            · exact ⟨1, h, by decide⟩
          have hr1 := hF.pos _ (List.getElem_mem hj)
          refine boolK_dec_t (by omega) ?_
          refine needK_has (by simp; omega) ?_
          refine secK_has (v := rc L[j]) (rcs_get hjg) (by rw [rcs_len]; show j * 11 + 11 ≤ _; omega) ?_
          have kB : ∀ a b, Kp [] J (hset (J ++ [a]) J.length b) := fun a b => ((Kp.refl _ _).app _).set _ _ (.inr (Nat.le_refl _))
          (repeat (first | refine hgetK_last ?_ | refine hgetK_set ?_ | refine hgetK_two1 ?_ | refine hgetK_two2 ?_ | refine hgetK_two3 ?_ | refine hgetK_two4 ?_ | refine hgetK_two5 ?_ | refine needK_has rfl ?_ | refine getK_has rfl ?_ | refine secK_has rfl (by first | exact Nat.le_refl _ | decide | exact Nat.le_of_ble_eq_true rfl) ?_ | refine eqK_has ?_))
          refine boolK_dec_f (by rw [hk]; omega) ?_
          (repeat (first | refine hgetK_last ?_ | refine hgetK_set ?_ | refine hgetK_two1 ?_ | refine hgetK_two2 ?_ | refine hgetK_two3 ?_ | refine hgetK_two4 ?_ | refine hgetK_two5 ?_ | refine needK_has rfl ?_ | refine getK_has rfl ?_ | refine secK_has rfl (by first | exact Nat.le_refl _ | decide | exact Nat.le_of_ble_eq_true rfl) ?_ | refine eqK_has ?_))
          refine boolK_dec_f (by rw [hk]; omega) ?_
          (repeat (first | refine hgetK_last ?_ | refine hgetK_set ?_ | refine hgetK_two1 ?_ | refine hgetK_two2 ?_ | refine hgetK_two3 ?_ | refine hgetK_two4 ?_ | refine hgetK_two5 ?_ | refine needK_has rfl ?_ | refine getK_has rfl ?_ | refine secK_has rfl (by first | exact Nat.le_refl _ | decide | exact Nat.le_of_ble_eq_true rfl) ?_ | refine eqK_has ?_))
          refine loopK_has ?_
          have hql := hget_lt hq (by intro h; cases h)
          refine iterE_upK 8 (fun i => (76, .pv (iv i)) :: (75, .pv (.agg (sc L[j].2))) :: (11, .ptr J.length 0) :: (60, .pv (iv j)) :: (59, .pv (iv L.length)) :: (58, .tsl t L.length (rcs L)) :: (9, .ptr q 0) :: (5, .ptr p 0) :: R)
            (fun i J2 => Ts J2 p zs m L ∧ hget J2 J.length = .pcells (rc L[j]) ∧ hget J2 q = .pcells (csum (midU L j L[j] i))) (fun i hi r J2 hJ2 => ?_) (fun r J2 hJ2 => ?_) (by (repeat (first | exact trivial | refine ⟨rfl, ?_⟩))) ⟨hT.kp' (kB _ _) (by simp) (by simp), hget_hset_same _ (by simp), ((kB _ _).get hq (by intro h; cases h) (by simp)).trans (by rw [midU_zero])⟩
          · obtain ⟨t1, t2, t3⟩ := hJ2
            refine boolK_dec_t (by omega) ?_
            refine needK_has (by simp; omega) ?_
            refine getK_has (sc_get L[j].2 hi) ?_
            refine hgetK_has _ t2 ?_
            refine getK_has (v := iv (k : Int)) (by show some (iv L[j].1.kind) = _; rw [hk]) ?_
            refine needK_has (by simp; omega) ?_
            refine needK_has (by simp; omega) ?_
            refine hgetK_has _ t3 ?_
            have e8 : addO (addO 0 (mulE ((k : Int)).toNat 8)) (mulE ((i : Int)).toNat 1) = k * 8 + i := by rw [addO_eq, addO_eq, mulE_eq, mulE_eq, Int.toNat_natCast, Int.toNat_natCast]; omega
            have hm := midU_val L j L[j] (k := k) hi
            have hb1 := bnd j i k
            have hb2 := bnd (j + 1) i k
            have hb3 := used_take hjg i (k : Int)
            unfold rowUse at hb3
            rw [if_pos hk] at hb3
            refine getK_has (v := iv (midU L j L[j] i (k * 8 + i))) (by rw [e8]; exact csum_get _ (by omega)) ?_
            refine eqK_has_eq (midU L j L[j] i (k * 8 + i) + L[j].2.at i) (by show IntKind.i64.wrap (midU L j L[j] i (k * 8 + i) + L[j].2.at i) = _; exact wrap_i64 (by rw [hm]; omega) (by rw [hm]; omega)) ?_
            refine needK_has (by simp; omega) ?_
            refine needK_has (by simp; omega) ?_
            refine hgetK_has _ t3 ?_
            refine needK_has (by rw [e8]; simp [csum]; omega) ?_
            refine eqK_has_eq (csum (midU L j L[j] (i + 1))) (by rw [e8]; exact midU_step L j L[j] hi hk) ?_
            refine eqK_has_eq ((i + 1 : Nat) : Int) (i64_succ (by omega)) ?_
            have h3l := hget_lt t3 (by intro h; cases h)
            have hne : J.length ≠ q := by omega
            have kS : ∀ o, Kp [q] J2 (hset J2 q o) := fun o => (Kp.refl _ _).set _ _ (.inl (by simp))
            refine Has.intro ⟨by (repeat (first | exact trivial | refine ⟨rfl, ?_⟩)), t1.kp' (kS _) (by simpa using hpq t1 t3) (by simpa using hmq t1 t3), (hget_hset_ne _ _ hne).trans t2, hget_hset_same _ h3l⟩
          · obtain ⟨t1, t2, t3⟩ := hJ2
            refine boolK_dec_f (by decide) ?_
            refine Has.intro ?_
            refine eqK_has_eq ((j + 1 : Nat) : Int) (i64_succ (by omega)) ?_
            refine Has.intro ⟨by (repeat (first | exact trivial | refine ⟨rfl, ?_⟩)), t1, t3.trans (by rw [midU_last hjg])⟩
        · obtain ⟨hT, hq⟩ := hJ
          refine boolK_dec_f (by omega) ?_
          rw [List.take_of_length_le (Nat.le_refl _)] at hq
          exact Has.intro (Has.intro ⟨rfl, by (repeat (first | exact trivial | refine ⟨rfl, ?_⟩)), hT, hq⟩)
    refine seq_onK [] (fun _ => True) ?_ (fun r J hJ => ?_)
    · obtain ⟨hT, hq⟩ := hJ
      refine loopK_has ?_
      refine iterE_upK zs.length (fun i => [(95, .pv (iv i)), (94, .pv (iv zs.length)), (9, .ptr q 0), (5, .ptr p 0)]) (fun _ J => Ts J p zs m L ∧ hget J q = .pcells (csum (allU L))) (fun i hi r J hJ => ?_) (fun r J hJ => ?_) (by (repeat (first | exact trivial | refine ⟨rfl, ?_⟩))) ⟨hT, hq⟩
      · have hi8 : i < 8 := by have := hf.2.2; omega
        refine boolK_dec_t (by omega) ?_
        refine loopK_has ?_
        refine iterE_upK 2 (fun k => [(98, .pv (iv k)), (14, .pv (iv i)), (95, .pv (iv i)), (94, .pv (iv zs.length)), (9, .ptr q 0), (5, .ptr p 0)]) (fun _ J => Ts J p zs m L ∧ hget J q = .pcells (csum (allU L))) (fun k hk r J hJ => ?_) (fun r J hJ => ?_) (by (repeat (first | exact trivial | refine ⟨rfl, ?_⟩))) hJ
        · obtain ⟨hT, hq⟩ := hJ
          have hg : (csum (allU L))[k * 8 + i]? = some (iv (used L i (k : Int))) := by
            have hu : allU L (k * 8 + i) = used L i (k : Int) := by
              unfold allU
              have e1 : (k * 8 + i) / 8 = k := by omega
              have e2 : (k * 8 + i) % 8 = i := by omega
              rw [e1, e2]
            rw [← hu]; exact csum_get _ (by omega)
          refine Has.mono (hold_round (n := zs.length) hT hq hi8 hk hg (by (repeat (first | exact trivial | refine ⟨rfl, ?_⟩)))) fun y hy => ?_
          obtain ⟨ye, yr, yh⟩ := y
          obtain ⟨rfl, y2, y3⟩ := hy
          exact ⟨y2, hT.kp' y3 (by simp) (by simp), y3.get hq (by intro h; cases h) (by simp)⟩
        · refine boolK_dec_f (by decide) ?_
          refine Has.intro ?_
          refine eqK_has_eq ((i + 1 : Nat) : Int) (i64_succ (by omega)) ?_
          exact Has.intro ⟨by (repeat (first | exact trivial | refine ⟨rfl, ?_⟩)), hJ⟩
      · refine boolK_dec_f (by omega) ?_
        exact Has.intro (Has.intro ⟨rfl, trivial, trivial⟩)
    exact Has.intro rfl
  · refine seq_onK ((5, .pv .nilp) :: (6, .pv (iv 2)) :: R) (fun _ => True) ?_ (fun r J hJ => ?_)
    · refine callSK_has' ((new_ok zs hz20 xz).mono fun y hy => ?_)
      obtain ⟨v, J1⟩ := y
      obtain ⟨k1, ⟨h2, _⟩ | ⟨_, h2⟩⟩ := hy
      · exact absurd h2 hf
      · dsimp only at h2 ⊢
        subst h2
        exact Has.intro ⟨rfl, by (repeat (first | exact trivial | refine ⟨rfl, ?_⟩)), trivial⟩
    refine boolK_bne_t (by decide) ?_
    exact Has.intro rfl
end Go.Proofs.Ytkkpkoekbmgabaa
