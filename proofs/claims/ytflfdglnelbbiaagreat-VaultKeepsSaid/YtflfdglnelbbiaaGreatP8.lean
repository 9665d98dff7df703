/-
  Part 8 of the functions and the law.
  A vault's functions: what a slot counts for; Open, State, Gen, Disk, Room, Slot.
  A vault's Save.
  What must be answered ahead of everything else.
  The answer that stands ahead of everything else.
  The law's arguments: three states, a number.
  VaultKeeps in the abstract machine.
-/
import Derived.Test.YtflfdglnelbbiaaGreatP3
import Derived.Test.YtflfdglnelbbiaaGreatP2
import Derived.Test.YtflfdglnelbbiaaGreatP7
set_option linter.all false
set_option linter.unusedVariables false
set_option linter.unusedSimpArgs false
set_option linter.unusedSectionVars false
namespace Go.Proofs.YtflfdglnelbbiaaGreat.Di
open Go Go.VM

theorem Kp.setNew {H G : Heap} (h : Kp [] H G) {V : Nat} (hV : H.length ≤ V) (o : HObj) : Kp [] H (hset G V o) :=
  ⟨by rw [hset_len]; exact h.1, fun i hi hn => (hget_hset_ne _ _ (by omega)).trans (h.2 i hi hn)⟩
def vobj (D g : Nat) (e : Ext) (b : List UInt8) : HObj := .cells [.ptr D 0, .pv (.int .i64 g), .pv (.sl e b.length (bc b))]
theorem room_ok : EP (EE env) 31 [] = some (.int .i64 65556) := by
  refine Has.eq (EP_has ?_)
  refine callPK_has (W.size_ok 65536) ?_
  exact Has.intro (Has.intro rfl)
theorem slot_fn (n : Nat) : EP (EE env) 24 [.int .i64 n] = some (.int .i64 ((n % 2 : Nat) : Int)) := by
  refine Has.eq (EP_has ?_)
  refine boolK_dec_f (by omega) ?_
  refine needK_has (by decide) ?_
  refine eqK_has_eq ((n % 2 : Nat) : Int) (by rw [Int.tmod_eq_emod_of_nonneg (by omega)]; omega) ?_
  exact Has.intro (Has.intro rfl)
noncomputable def cnt (s : List UInt8) : Nat × List UInt8 := if (W.getM s).2.2 ≠ 0 then (0, []) else if (getS (W.getM s).2.1).2 ≠ 0 then (0, []) else ((W.getM s).1, (W.getM s).2.1)
theorem body_len {s : List UInt8} : (W.getM s).2.1.length ≤ 65536 := by
  unfold W.getM
  repeat' split
  all_goals first
    | exact Nat.zero_le _
    | (show (W.bodyN s).length ≤ 65536
       unfold W.bodyN
       simp only [List.length_drop, List.length_take]
       omega)
theorem okx_cx (b : List UInt8) : okx (W.cx b) b := by
  cases b with
  | nil => exact .inr (.inr rfl)
  | cons a b => exact .inr (.inl rfl)
variable {H : Heap} {D : Nat} {d : Dk} {S : Nat → List UInt8}
theorem counts_ok (h : DkOK H D d S) (hn : 1 ≤ d.n ∧ d.n ≤ 262144) (i : Nat) (hi : i = 0 ∨ i = 1) : ∃ L e, EE env (.fn 33) [.ptr D 0, .pv (.int .i64 i)] H = some (.pv (.tup [.int .i64 (cnt (S i)).1, .sl e (cnt (S i)).2.length (bc (cnt (S i)).2)]), H ++ L) ∧ okx e (cnt (S i)).2 := by
  have hl := (h.row i (by omega)).2
  have hg := W.get_ok .nn (S i) (.inr rfl) (by omega)
  rw [hl] at hg
  have hbl := body_len (s := S i)
  have main : Has (EE env (.fn 33) [.ptr D 0, .pv (.int .i64 i)] H) fun y => ∃ L e, y = (.pv (.tup [.int .i64 (cnt (S i)).1, .sl e (cnt (S i)).2.length (bc (cnt (S i)).2)]), H ++ L) ∧ okx e (cnt (S i)).2 := by
    refine EE_has ?_
    refine callSK_has (image_ok h (by omega) i hi) ?_
    refine callPK_has hg ?_
    have hnil : (cnt (S i)) = (0, []) → ∃ L e, ((AV.pv (.tup [.int .i64 0, .sl .nil 0 []])), H) = (AV.pv (.tup [.int .i64 (cnt (S i)).1, .sl e (cnt (S i)).2.length (bc (cnt (S i)).2)]), H ++ L) ∧ okx e (cnt (S i)).2 := fun h => by
      rw [h]
      exact ⟨[], .nil, by simp; rfl, .inl ⟨rfl, rfl⟩⟩
    refine boolK_bne (fun he => ?_) (fun he => ?_)
    · exact Has.intro (hnil (by unfold cnt; rw [if_pos he]))
    have hx : W.getX (S i) = W.cx (W.getM (S i)).2.1 := by unfold W.getX; rw [if_pos he]
    rw [hx]
    obtain ⟨x1, x2, hr⟩ := get_ok' (W.cx (W.getM (S i)).2.1) (W.getM (S i)).2.1 (okx_cx _) (by omega)
    refine callPK_has hr ?_
    refine hgetK_last ?_
    refine needK_has rfl ?_
    refine eqK_has ?_
    rw [hset_last]
    refine boolK_bne (fun hf => ?_) (fun hf => ?_)
    · have hc : cnt (S i) = (0, []) := by unfold cnt; rw [if_neg (fun hh => hh he), if_pos hf]
      rw [hc]
      exact Has.intro ⟨_, .nil, rfl, .inl ⟨rfl, rfl⟩⟩
    · have hc : cnt (S i) = ((W.getM (S i)).1, (W.getM (S i)).2.1) := by unfold cnt; rw [if_neg (fun hh => hh he), if_neg (fun hh => hh hf)]
      rw [hc]
      exact Has.intro ⟨_, _, rfl, okx_cx _⟩
  obtain ⟨y, h1, L, e, h2, h3⟩ := main
  exact ⟨L, e, by rw [h1, h2], h3⟩
noncomputable def acc (S : Nat → List UInt8) : Nat → Nat × List UInt8
  | 0 => (0, [])
  | i + 1 => if (cnt (S i)).1 > (acc S i).1 then cnt (S i) else acc S i
theorem open_nil (H : Heap) : EE env (.fn 8) [.pv .nilp] H = some (.pv (.tup [.nilp, .int .i64 1]), H) := by
  refine Has.eq (EE_has ?_)
  exact Has.intro rfl
set_option maxHeartbeats 4000000 in
theorem open_ok (h : DkOK H D d S) (hn : d.n = 65556) (hdn : d.down = false) : Has (EE env (.fn 8) [.ptr D 0] H) fun y => ∃ V e, y.1 = .tup [.ptr V 0, .pv (.int .i64 0)] ∧ H.length ≤ V ∧ hget y.2 V = vobj D (acc S 2).1 e (acc S 2).2 ∧ okx e (acc S 2).2 ∧ Kp [] H y.2 := by
  have hn' : 1 ≤ d.n ∧ d.n ≤ 262144 := by omega
  refine EE_has (fn_has rfl ?_)
  refine seq_on [(0, .ptr D 0)] H (by (refine Has.intro ⟨rfl, ?_, rfl⟩; (repeat (first | exact trivial | refine ⟨rfl, ?_⟩)))) (fun r => ?_)
  refine seq_on [(0, .ptr D 0)] H ?_ (fun r => ?_)
  · refine callSK_has (size_disk h) ?_
    refine callPK_has room_ok ?_
    refine boolK_dec_f (by omega) ?_
    refine callSK_has (down_disk h) ?_
    rw [hdn]
    (refine Has.intro ⟨rfl, ?_, rfl⟩; (repeat (first | exact trivial | refine ⟨rfl, ?_⟩)))
  refine seq_on [(0, .ptr D 0), (4, .ptr H.length 0)] (H ++ [vobj D 0 .nil []]) (by (refine Has.intro ⟨rfl, ?_, rfl⟩; (repeat (first | exact trivial | refine ⟨rfl, ?_⟩)))) (fun r => ?_)
  refine seq_st (σ := Heap × Ext) (fun _ => [(4, .ptr H.length 0)]) (fun s => s.1) (fun s => hget s.1 H.length = vobj D (acc S 2).1 s.2 (acc S 2).2 ∧ okx s.2 (acc S 2).2 ∧ Kp [] H s.1) ?_ (fun s hs r => ?_)
  · refine loopK_has ?_
    refine iterE_loop (σ := Nat × Heap × Ext) (fun s => 2 - s.1) (fun s => [(0, .ptr D 0), (4, .ptr H.length 0), (22, .pv (.int .i64 s.1))]) (fun s => s.2.1)
      (fun s => s.1 ≤ 2 ∧ hget s.2.1 H.length = vobj D (acc S s.1).1 s.2.2 (acc S s.1).2 ∧ okx s.2.2 (acc S s.1).2 ∧ Kp [] H s.2.1) (fun ⟨i, G, e⟩ ⟨hi, q1, q2, q3⟩ r => ?_) (0, H ++ [vobj D 0 .nil []], .nil) ⟨Nat.zero_le _, hget_append_same _ _, .inl ⟨rfl, rfl⟩, Kp.app _ _⟩ ⟨rfl, rfl, rfl, trivial⟩ rfl
    dsimp only at hi q1 q2 q3 ⊢
    refine boolK_dec (fun hc => ?_) (fun hc => ?_)
    · have hi2 : i = 0 ∨ i = 1 := by omega
      obtain ⟨L, e', c1, c2⟩ := counts_ok (h.kp q3 fun _ _ h => by cases h) hn' i hi2
      have hV : H.length < G.length := hget_lt q1 ((by intro h; cases h))
      have q1' : hget (G ++ L) H.length = vobj D (acc S i).1 e (acc S i).2 := (hget_app L hV).trans q1
      have q3' : Kp [] H (G ++ L) := q3.trans (Kp.app G L) (by simp)
      refine callSK_has c1 ?_
      refine hgetK_has _ q1' ?_
      refine boolK_dec (fun hgt => ?_) (fun hgt => ?_)
      · have ha : acc S (i + 1) = cnt (S i) := by show (if _ then _ else _) = _; rw [if_pos (by omega)]
        refine hgetK_has _ q1' ?_
        have q4 : hget (hset (G ++ L) H.length (.cells [.ptr D 0, .pv (.int .i64 (cnt (S i)).1), .pv (.sl e (acc S i).2.length (bc (acc S i).2))])) H.length = .cells [.ptr D 0, .pv (.int .i64 (cnt (S i)).1), .pv (.sl e (acc S i).2.length (bc (acc S i).2))] := hget_hset_same _ (by simp; omega)
        refine hgetK_has _ q4 ?_
        refine eqK_has_eq _ (i64_succ (by omega)) ?_
        refine Has.intro ⟨(i + 1, hset (hset (G ++ L) H.length (.cells [.ptr D 0, .pv (.int .i64 (cnt (S i)).1), .pv (.sl e (acc S i).2.length (bc (acc S i).2))])) H.length (vobj D (acc S (i + 1)).1 e' (acc S (i + 1)).2), e'), ⟨by dsimp only; omega, hget_hset_same _ (by rw [hset_len]; simp; omega), by rw [ha]; exact c2, (q3'.setNew (Nat.le_refl _) _).setNew (Nat.le_refl _) _⟩, (by dsimp only; omega), ⟨rfl, rfl, rfl, trivial⟩, ?_⟩
        dsimp only
        rw [ha]
        rfl
      · have ha : acc S (i + 1) = acc S i := by show (if _ then _ else _) = _; rw [if_neg (by omega)]
        refine eqK_has_eq _ (i64_succ (by omega)) ?_
        refine Has.intro ⟨(i + 1, G ++ L, e), ⟨by dsimp only; omega, by dsimp only; rw [ha]; exact q1', by dsimp only; rw [ha]; exact q2, q3'⟩, (by dsimp only; omega), ⟨rfl, rfl, rfl, trivial⟩, rfl⟩
    · have : i = 2 := by omega
      subst this
      refine Has.intro (Has.intro ⟨rfl, (G, e), ⟨q1, q2, q3⟩, ⟨rfl, trivial⟩, rfl⟩)
  obtain ⟨G, e⟩ := s
  obtain ⟨q1, q2, q3⟩ := hs
  exact Has.intro ⟨H.length, e, rfl, Nat.le_refl _, q1, q2, q3⟩
variable {V g : Nat} {e : Ext} {b : List UInt8}
theorem gen_ok (hv : hget H V = vobj D g e b) : EE env (.fn 19) [.ptr V 0] H = some (.pv (.int .i64 g), H) := by
  refine Has.eq (EE_has ?_)
  refine hgetK_has _ hv ?_
  exact Has.intro rfl
theorem disk_fn (hv : hget H V = vobj D g e b) : EE env (.fn 25) [.ptr V 0] H = some (.ptr D 0, H) := by
  refine Has.eq (EE_has ?_)
  refine hgetK_has _ hv ?_
  exact Has.intro rfl
noncomputable def stOf (g : Nat) (b : List UInt8) : St := if g = 0 then s0 else (getS b).1
theorem state_ok (hv : hget H V = vobj D g e b) (he : okx e b) (hb : b.length ≤ 1000000) : ∃ L x1 x2, EE env (.fn 21) [.ptr V 0] H = some (.pv (.agg (stc (stOf g b) x1 x2)), H ++ L) := by
  have hV := hget_lt hv ((by intro h; cases h))
  have main : Has (EE env (.fn 21) [.ptr V 0] H) fun y => ∃ L x1 x2, y = (.pv (.agg (stc (stOf g b) x1 x2)), H ++ L) := by
    refine EE_has ?_
    refine hgetK_has _ ((hget_app _ hV).trans hv) ?_
    refine boolK_beq (fun h0 => ?_) (fun h0 => ?_)
    · have h0' : g = 0 := by omega
      subst h0'
      refine hgetK_last ?_
      refine needK_has rfl ?_
      refine eqK_has ?_
      rw [hset_last]
      refine hgetK_last ?_
      refine secK_has (v := stc s0 .nil .nil) rfl (of_decide_eq_true rfl) ?_
      exact Has.intro ⟨_, .nil, .nil, rfl⟩
    · have h0' : g ≠ 0 := by omega
      obtain ⟨x1, x2, hr⟩ := get_ok' e b he hb
      refine hgetK_has _ ((hget_app _ hV).trans hv) ?_
      refine callPK_has hr ?_
      refine hgetK_last ?_
      refine needK_has rfl ?_
      refine eqK_has ?_
      rw [hset_last]
      refine hgetK_last ?_
      refine secK_has (v := stc (getS b).1 x1 x2) rfl (of_decide_eq_true rfl) ?_
      have hz : hget (H ++ [HObj.pcells [.int .i64 0, .sl .nil 0 [], .sl .nil 0 []]] ++ [HObj.pcells (stc (getS b).1 x1 x2)]) H.length = .pcells [.int .i64 0, .sl .nil 0 [], .sl .nil 0 []] := (hget_app _ (by simp)).trans (hget_append_same _ _)
      refine hgetK_has _ hz ?_
      refine needK_has rfl ?_
      refine eqK_has ?_
      refine hgetK_has (.pcells (stc (getS b).1 x1 x2)) (hget_hset_same _ (by simp)) ?_
      refine secK_has (v := stc (getS b).1 x1 x2) rfl (of_decide_eq_true rfl) ?_
      refine Has.intro ?_
      have e1 : hset (H ++ [HObj.pcells [.int .i64 0, .sl .nil 0 [], .sl .nil 0 []]] ++ [HObj.pcells (stc (getS b).1 x1 x2)]) H.length (.pcells (stc (getS b).1 x1 x2)) = H ++ [.pcells (stc (getS b).1 x1 x2), .pcells (stc (getS b).1 x1 x2)] := by
        have : ∀ (L : Heap) (a o o' : HObj), hset ((L ++ [a]) ++ [o]) L.length o' = L ++ [o', o] := by
          intro L a o o'
          induction L with
          | nil => rfl
          | cons x L ih => show x :: hset ((L ++ [a]) ++ [o]) L.length o' = _; rw [ih]; rfl
        exact this _ _ _ _
      refine ⟨[.pcells (stc (getS b).1 x1 x2), .pcells (stc (getS b).1 x1 x2)], x1, x2, ?_⟩
      rw [← e1]
      unfold stOf
      rw [if_neg h0']
      rfl
  obtain ⟨y, h1, L, x1, x2, h2⟩ := main
  exact ⟨L, x1, x2, by rw [h1, h2]⟩
end Go.Proofs.YtflfdglnelbbiaaGreat.Di

namespace Go.Proofs.YtflfdglnelbbiaaGreat.Di
open Go Go.VM

/-- A state's bytes may be saved. -/
def saves (s : St) : Prop := rightP s ∧ 1 ≤ (putB s).length ∧ (putB s).length ≤ 65536
theorem put_any (s : St) (x y : Ext) (hs : smallS s) (h4 : rightP s → s.hs.length ≤ 400) : ∃ w e, EP (EE env) 38 [.agg (stc s x y)] = some (.sl e w.length (bc w)) ∧ okx e w ∧ ((rightP s ∧ w = putB s) ∨ (¬ rightP s ∧ w = [])) := by
  by_cases hr : rightP s
  · obtain ⟨e, h1, h2⟩ := put_ok' s x y hs hr (h4 hr)
    exact ⟨putB s, e, h1, h2, .inl ⟨hr, rfl⟩⟩
  · exact ⟨[], .nil, put_no s x y hs hr, .inl ⟨rfl, rfl⟩, .inr ⟨hr, rfl⟩⟩
theorem v_out {H : Heap} {D : Nat} {d : Dk} {S : Nat → List UInt8} (h : DkOK H D d S) {V g : Nat} {e : Ext} {b : List UInt8} (hv : hget H V = vobj D g e b) : V ∉ dids D d := by
  intro hi
  unfold dids at hi
  simp only [List.mem_cons] at hi
  rcases hi with rfl | rfl | rfl | hi
  · rw [h.obj] at hv; cases hv
  · rw [(h.row 0 (by decide)).1] at hv; cases hv
  · rw [(h.row 1 (by decide)).1] at hv; cases hv
  · obtain ⟨ws, h1⟩ := h.app
    rcases h1 with ⟨_, _, h1, _⟩ | ⟨_, _, t, h1, h2⟩
    · rw [h1] at hi; simp [tokOf] at hi
    · rw [h1] at hi; simp [tokOf] at hi; subst hi
      rw [h2] at hv; cases hv
set_option maxHeartbeats 4000000 in
theorem save_gen {H : Heap} {D : Nat} {d : Dk} {S : Nat → List UInt8} (h : DkOK H D d S) (hn : d.n = 65556) (hdn : d.down = false) (hk : d.k ≤ 100000) {V g : Nat} {e : Ext} {b : List UInt8} (hv : hget H V = vobj D g e b) (hg : g ≤ 100000)
    (s : St) (x y : Ext) (hs : smallS s) (h4 : rightP s → s.hs.length ≤ 400) (m : Nat) (dn : Bool) (hm : saves s → (0 ≤ d.left ∧ d.left ≤ (W.frame (g + 1) (putB s)).length ∧ (m : Int) = d.left ∧ dn = true) ∨ ((d.left < 0 ∨ ((W.frame (g + 1) (putB s)).length : Int) < d.left) ∧ m = (W.frame (g + 1) (putB s)).length ∧ dn = false)) :
    Has (EE env (.fn 18) [.ptr V 0, .pv (.agg (stc s x y))] H) fun z =>
      (¬ saves s ∧ z.1 = .pv (.int .i64 2) ∧ Kp [] H z.2) ∨
      (saves s ∧ z.1 = .pv (.int .i64 (bif dn then 26 else 0)) ∧ ∃ left wr Wv, DkOK z.2 D ⟨d.a, d.n, left, dn, wr, Wv, d.k + 1⟩ (upS S ((g + 1) % 2) ((W.frame (g + 1) (putB s)).take m ++ (S ((g + 1) % 2)).drop m)) ∧
        Kp (V :: dids D d) H z.2 ∧ (d.left = -1 → left = -1) ∧ (∃ t, tokOf Wv = some t ∧ (tokOf d.W = some t ∨ H.length ≤ t)) ∧
        ∃ e', okx e' (putB s) ∧ hget z.2 V = bif dn then vobj D g e b else vobj D (g + 1) e' (putB s)) := by
  obtain ⟨w, ew, hput, hox, hw⟩ := put_any s x y hs h4
  have hV := hget_lt hv ((by intro h; cases h))
  refine EE_has (fn_has rfl ?_)
  refine seq_on [(0, .ptr V 0), (3, .ptr H.length 0)] (H ++ [.pcells (stc s x y)]) (by (refine Has.intro ⟨rfl, ?_, rfl⟩; (repeat (first | exact trivial | refine ⟨rfl, ?_⟩)))) (fun r => ?_)
  have h1 : DkOK (H ++ [.pcells (stc s x y)]) D d S := h.more _
  have hv1 : hget (H ++ [.pcells (stc s x y)]) V = vobj D g e b := (hget_app _ hV).trans hv
  have kp1 : Kp [] H (H ++ [.pcells (stc s x y)]) := Kp.app _ _
  obtain ⟨H1, hH1⟩ : ∃ H1, H1 = H ++ [.pcells (stc s x y)] := ⟨_, rfl⟩
  have hst : hget H1 H.length = .pcells (stc s x y) := by rw [hH1]; exact hget_append_same _ _
  rw [← hH1] at h1 hv1 kp1 ⊢
  refine seq_on [(0, .ptr V 0), (3, .ptr H.length 0)] H1 (by (refine Has.intro ⟨rfl, ?_, rfl⟩; (repeat (first | exact trivial | refine ⟨rfl, ?_⟩)))) (fun r => ?_)
  refine seq_on [(0, .ptr V 0), (5, .pv (.sl ew w.length (bc w)))] H1 ?_ (fun r => ?_)
  · refine hgetK_has _ hst ?_
    refine secK_has (v := stc s x y) rfl (of_decide_eq_true rfl) ?_
    refine callPK_has hput ?_
    (refine Has.intro ⟨rfl, ?_, rfl⟩; (repeat (first | exact trivial | refine ⟨rfl, ?_⟩)))
  refine seq_if [(4, .pv (.int .i64 2))] (¬ saves s) [(0, .ptr V 0), (5, .pv (.sl ew w.length (bc w)))] (saves s ∧ w = putB s) H1 ?_ (fun hp r => ?_) (fun hp r => ?_)
  · refine boolK_beq (fun h0 => ?_) (fun h0 => ?_)
    · refine Has.intro (.inl ⟨rfl, ⟨rfl, trivial⟩, rfl, fun hh => ?_⟩)
      rcases hw with ⟨_, q⟩ | ⟨q, _⟩
      · subst q; have := hh.2.1; omega
      · exact q hh.1
    refine boolK_dec (fun h0' => ?_) (fun h0' => ?_)
    · refine Has.intro (.inl ⟨rfl, ⟨rfl, trivial⟩, rfl, fun hh => ?_⟩)
      rcases hw with ⟨_, q⟩ | ⟨q, _⟩
      · subst q; have := hh.2.2; omega
      · exact q hh.1
    refine hgetK_has _ hv1 ?_
    refine boolK_dec_f (by omega) ?_
    rcases hw with ⟨q0, q⟩ | ⟨_, q⟩
    · subst q
      exact Has.intro (.inr ⟨rfl, ⟨rfl, rfl, trivial⟩, rfl, ⟨q0, by omega, by omega⟩, rfl⟩)
    · subst q; exact absurd rfl h0
  · exact Has.intro (.inl ⟨hp, rfl, kp1⟩)
  obtain ⟨hsv, rfl⟩ := hp
  have hfl := W.frame_len (g + 1) (putB s)
  have hfb : W.putB ((g + 1 : Nat) : Int) (putB s) = W.frame (g + 1) (putB s) := by
    unfold W.putB
    rw [if_pos ⟨⟨by omega, by omega⟩, hsv.2.2⟩, Int.toNat_natCast]
  have hfe : W.putE ((g + 1 : Nat) : Int) (putB s) = .nn := by
    unfold W.putE
    rw [if_pos ⟨⟨by omega, by omega⟩, hsv.2.2⟩]
  have hpf := W.put_ok ((g + 1 : Nat) : Int) ⟨by omega, by omega⟩ ew (putB s) (by have := hsv.2.2; omega)
  rw [hfb, hfe] at hpf
  have hwr := write_gen h1 (by omega) ((g + 1) % 2) (by omega) hdn .nn (.inl rfl) (W.frame (g + 1) (putB s)) (by rw [hfl, hn]; have := hsv.2.2; omega) hk m dn (hm hsv)
  have hin : V ∉ dids D d := v_out h1 hv1
  refine seq_join (fun e r G => ((dn = true ∧ e = .ret ∧ Agr r [(4, .pv (.int .i64 26))]) ∨ (dn = false ∧ e = .normal ∧ Agr r [(0, .ptr V 0), (5, .pv (.sl ew (putB s).length (bc (putB s))))])) ∧
    ∃ left wr Wv, DkOK G D ⟨d.a, d.n, left, dn, wr, Wv, d.k + 1⟩ (upS S ((g + 1) % 2) ((W.frame (g + 1) (putB s)).take m ++ (S ((g + 1) % 2)).drop m)) ∧ Kp (dids D d) H1 G ∧ (d.left = -1 → left = -1) ∧ ∃ t, tokOf Wv = some t ∧ (tokOf d.W = some t ∨ H1.length ≤ t)) ?_ (fun ex r G hJ => ?_)
  · refine hgetK_has _ hv1 ?_
    refine hgetK_has _ hv1 ?_
    refine eqK_has_eq ((g + 1 : Nat) : Int) (i64_succ (by omega)) ?_
    refine callPK_has (slot_fn (g + 1)) ?_
    refine hgetK_has _ hv1 ?_
    refine eqK_has_eq ((g + 1 : Nat) : Int) (i64_succ (by omega)) ?_
    refine callPK_has hpf ?_
    refine callSK_has' (hwr.mono fun z hz => ?_)
    obtain ⟨z1, z2⟩ := z
    obtain ⟨hz1, hz2⟩ := hz
    dsimp only at hz1 hz2 ⊢
    rw [hz1]
    cases dn with
    | true =>
      refine boolK_bne_t (by decide) ?_
      exact Has.intro ⟨.inl ⟨rfl, rfl, ⟨rfl, trivial⟩⟩, hz2⟩
    | false =>
      refine boolK_bne_f rfl ?_
      exact Has.intro ⟨.inr ⟨rfl, rfl, ⟨rfl, rfl, trivial⟩⟩, hz2⟩
  obtain ⟨hcs, left, wr, Wv, q1, q2, q3, t, q4, q5⟩ := hJ
  have hvG : hget G V = vobj D g e b := q2.get hv1 ((by intro h; cases h)) hin
  have hl1 : H.length ≤ H1.length := kp1.1
  have q5' : tokOf d.W = some t ∨ H.length ≤ t := q5.imp id (fun h => Nat.le_trans hl1 h)
  have kpG : Kp (V :: dids D d) H G := (kp1.more (by simp)).trans q2 (fun i hi => .inl (List.mem_cons_of_mem _ hi))
  rcases hcs with ⟨rfl, rfl, hA⟩ | ⟨rfl, rfl, hA⟩
  · rw [← hA.eq]
    exact Has.intro (.inr ⟨hsv, rfl, left, wr, Wv, q1, kpG, q3, ⟨t, q4, q5'⟩, ew, hox, hvG⟩)
  · rw [← hA.eq]
    have hVG : V < G.length := hget_lt hvG ((by intro h; cases h))
    refine hgetK_has _ hvG ?_
    refine eqK_has_eq ((g + 1 : Nat) : Int) (i64_succ (by omega)) ?_
    refine hgetK_has _ hvG ?_
    refine hgetK_has (vobj D (g + 1) e b) (hget_hset_same _ hVG) ?_
    refine Has.intro (.inr ⟨hsv, rfl, left, wr, Wv, ?_, ?_, q3, ⟨t, q4, q5'⟩, ew, hox, ?_⟩)
    · refine q1.kp ((Kp.set G V _).trans (Kp.set _ V _) (fun i hi => .inl hi)) (fun i hi hm => ?_)
      simp at hm; subst hm
      exact v_out q1 hvG hi
    · exact (kpG.trans (Kp.set G V _) (by simp)).trans (Kp.set _ V _) (by simp)
    · exact hget_hset_same _ (by rw [hset_len]; exact hVG)
theorem save_ok {H : Heap} {D : Nat} {d : Dk} {S : Nat → List UInt8} (h : DkOK H D d S) (hn : d.n = 65556) (hdn : d.down = false) (hk : d.k ≤ 100000) {V g : Nat} {e : Ext} {b : List UInt8} (hv : hget H V = vobj D g e b) (hg : g ≤ 100000)
    (s : St) (x y : Ext) (hs : smallS s) (h4 : rightP s → s.hs.length ≤ 400) (dn : Bool) (hm : (d.left = -1 ∧ dn = false) ∨ (d.left = 3 ∧ dn = true)) :
    Has (EE env (.fn 18) [.ptr V 0, .pv (.agg (stc s x y))] H) fun z =>
      (¬ saves s ∧ z.1 = .pv (.int .i64 2) ∧ Kp [] H z.2) ∨
      (saves s ∧ z.1 = .pv (.int .i64 (bif dn then 26 else 0)) ∧ ∃ left wr Wv, DkOK z.2 D ⟨d.a, d.n, left, dn, wr, Wv, d.k + 1⟩ (upS S ((g + 1) % 2) ((W.frame (g + 1) (putB s)).take (bif dn then 3 else (W.frame (g + 1) (putB s)).length) ++ (S ((g + 1) % 2)).drop (bif dn then 3 else (W.frame (g + 1) (putB s)).length))) ∧
        Kp (V :: dids D d) H z.2 ∧ (dn = false → left = -1) ∧ (∃ t, tokOf Wv = some t ∧ (tokOf d.W = some t ∨ H.length ≤ t)) ∧
        ∃ e', okx e' (putB s) ∧ hget z.2 V = bif dn then vobj D g e b else vobj D (g + 1) e' (putB s)) := by
  refine (save_gen h hn hdn hk hv hg s x y hs h4 (bif dn then 3 else (W.frame (g + 1) (putB s)).length) dn (fun hsv => ?_)).mono fun z hz => ?_
  · have := W.frame_len (g + 1) (putB s)
    rcases hm with ⟨e1, e2⟩ | ⟨e1, e2⟩
    · subst e2; exact .inr ⟨by omega, rfl, rfl⟩
    · subst e2; exact .inl ⟨by omega, by omega, by rw [e1]; rfl, rfl⟩
  · rcases hz with hz | ⟨q1, q2, left, wr, Wv, q3, q4, q5, q6⟩
    · exact .inl hz
    · refine .inr ⟨q1, q2, left, wr, Wv, q3, q4, fun e => ?_, q6⟩
      rcases hm with ⟨e1, _⟩ | ⟨_, e2⟩
      · exact q5 e1
      · rw [e] at e2; cases e2
end Go.Proofs.YtflfdglnelbbiaaGreat.Di

namespace Go.Proofs.YtflfdglnelbbiaaGreat.Di
open Go Go.VM

theorem new_room (H : Heap) : ∃ H' Z a, Z.length = 65556 ∧ Z.take 4 = [0, 0, 0, 0] ∧ EE env (.fn 7) [.pv (.int .i64 65556)] H = some (.tup [.ptr (H.length + 2) 0, .pv (.int .i64 0)], H') ∧ DkOK H' (H.length + 2) ⟨a, 65556, -1, false, 0, .pv (.sl .nil 0 []), 0⟩ (fun _ => Z) ∧ Kp [] H H' := by
  have key : ∀ n : Nat, n = 65556 → ∃ H' Z a, Z.length = n ∧ Z.take 4 = [0, 0, 0, 0] ∧ EE env (.fn 7) [.pv (.int .i64 n)] H = some (.tup [.ptr (H.length + 2) 0, .pv (.int .i64 0)], H') ∧ DkOK H' (H.length + 2) ⟨a, n, -1, false, 0, .pv (.sl .nil 0 []), 0⟩ (fun _ => Z) ∧ Kp [] H H' := by
    intro n hn
    obtain ⟨H', h1, h2, h3⟩ := new_disk n (by omega) (by omega) H
    refine ⟨H', _, _, by simp, ?_, h1, h2, h3⟩
    rw [List.take_replicate, show min 4 n = 4 by omega]
    rfl
  exact key 65556 rfl
theorem cnt_no {s : List UInt8} (h : 4 ≤ s.length) (hm : s.take 4 ≠ W.magic) : cnt s = (0, []) := by
  have : W.getM s = (0, [], 11) := by
    unfold W.getM
    rw [if_neg (by omega), if_pos hm]
  unfold cnt
  rw [this, if_pos (by decide)]
theorem cnt_frame {s : St} (hs : saves s) (h8 : ∀ h ∈ s.hs, h.sp.length = 8) {g : Nat} (h1 : 1 ≤ g) (h2 : g ≤ 1152921504606846976) (rest : List UInt8) : cnt (W.frame g (putB s) ++ rest) = (g, putB s) := by
  unfold cnt
  rw [W.frame_get h1 h2 hs.2.2 rest]
  dsimp only
  rw [if_neg (fun h => h rfl), get_put hs.1 h8, if_neg (fun h => h rfl)]
theorem st_frame {s : St} (hs : saves s) (h8 : ∀ h ∈ s.hs, h.sp.length = 8) {g : Nat} (h1 : 1 ≤ g) : stOf g (putB s) = normS s := by
  unfold stOf
  rw [if_neg (by omega), get_put hs.1 h8]
theorem acc_no {S : Nat → List UInt8} (h0 : cnt (S 0) = (0, [])) (h1 : cnt (S 1) = (0, [])) : acc S 2 = (0, []) := by
  simp [acc, h0, h1]
theorem acc_1 {S : Nat → List UInt8} {g : Nat} {b : List UInt8} (hg : 1 ≤ g) (h0 : cnt (S 0) = (0, [])) (h1 : cnt (S 1) = (g, b)) : acc S 2 = (g, b) := by
  simp [acc, h0, h1]; omega
def sN (n : Int) : St := ⟨n, [], []⟩
theorem small_N (n : Int) : smallS (sN n) := ⟨Nat.zero_le _, Nat.zero_le _, fun e h => (by cases h), fun e h => (by cases h)⟩
theorem right_N {n : Int} (h : 0 ≤ n ∧ n ≤ 1099511627776) : rightP (sN n) := ⟨h, by show 0 ≤ 16; decide, fun i e h => (by simp [sN] at h), fun i e h => (by simp [sN] at h)⟩
theorem enc_small {u : Nat} (h : u < 128) : T.enc u = [UInt8.ofNat u] := by unfold T.enc; rw [if_pos h]
theorem len_N {n : Int} (h : n.toNat < 128) : (putB (sN n)).length = 3 := by
  have e : putB (sN n) = T.enc n.toNat ++ T.enc 0 ++ [] ++ T.enc 0 ++ [] := rfl
  rw [e, enc_small h, enc_small (by decide)]
  rfl
theorem saves_N {n : Int} (h0 : 0 ≤ n ∧ n ≤ 1099511627776) (h : n.toNat < 128) : saves (sN n) := ⟨right_N h0, by rw [len_N h]; decide, by rw [len_N h]; decide⟩
theorem saves_7 : saves (sN 7) := saves_N (by decide) (by decide)
theorem saves_8 : saves (sN 8) := saves_N (by decide) (by decide)
theorem torn_no {g : Nat} {b Z : List UInt8} (hZ : Z.take 4 = [0, 0, 0, 0]) : ((W.frame g b).take 3 ++ Z.drop 3).take 4 ≠ W.magic := by
  have e1 : (W.frame g b).take 3 = W.magic.take 3 := by
    unfold W.frame W.head
    rw [List.append_assoc, List.take_append_of_le_length (by decide)]
  have e2 : (Z.drop 3).take 1 = [0] := by
    have : (Z.drop 3).take 1 = (Z.take 4).drop 3 := by rw [List.drop_take]
    rw [this, hZ]; rfl
  rw [e1, List.take_append, show (W.magic.take 3).length = 3 by decide, show 4 - 3 = 1 by decide, e2]
  decide
end Go.Proofs.YtflfdglnelbbiaaGreat.Di

namespace Go.Proofs.YtflfdglnelbbiaaGreat.Di
open Go Go.VM

set_option maxHeartbeats 4000000 in
theorem first_ok : EP (EE env) 5 [] = some (.bool true) := by
  obtain ⟨H1, Z, a, hZ, hZ4, hnew, d1, _⟩ := new_room []
  refine Has.eq (EP_has (fn_has rfl ?_))
  refine seq_on [] [] (by (refine Has.intro ⟨rfl, ?_, rfl⟩; (repeat (first | exact trivial | refine ⟨rfl, ?_⟩)))) (fun r => ?_)
  refine seq_on [(1, .ptr 2 0)] H1 ?_ (fun r => ?_)
  · refine callPK_has room_ok ?_
    refine callSK_has hnew ?_
    (refine Has.intro ⟨rfl, ?_, rfl⟩; (repeat (first | exact trivial | refine ⟨rfl, ?_⟩)))
  have cz : cnt Z = (0, []) := cnt_no (by omega) (by rw [hZ4]; decide)
  have az : acc (fun _ => Z) 2 = (0, []) := acc_no cz cz
  refine seq_st (σ := Heap × Nat × Ext) (fun s => [(1, .ptr 2 0), (3, .ptr s.2.1 0), (4, .pv (.int .i64 0))]) (fun s => s.1) (fun s => DkOK s.1 2 ⟨a, 65556, -1, false, 0, .pv (.sl .nil 0 []), 0⟩ (fun _ => Z) ∧ hget s.1 s.2.1 = vobj 2 0 s.2.2 []) ?_ (fun s hs r => ?_)
  · refine callSK_has' ((open_ok d1 rfl rfl).mono fun y hy => ?_)
    obtain ⟨v, G⟩ := y
    obtain ⟨V, e, q1, q2, q3, q4, q5⟩ := hy
    dsimp only at q1 q3 q5
    subst q1
    rw [az] at q3
    exact Has.intro ⟨rfl, (G, V, e), ⟨d1.kp q5 (fun _ _ h => by cases h), q3⟩, ⟨rfl, rfl, rfl, trivial⟩, rfl⟩
  obtain ⟨H2, V, e⟩ := s
  obtain ⟨d2, v2⟩ := hs
  dsimp only at d2 v2 ⊢
  refine seq_on [(1, .ptr 2 0), (3, .ptr V 0), (4, .pv (.int .i64 0)), (6, .pv (.int .i64 1))] H2 ?_ (fun r => ?_)
  · refine callSK_has (open_nil H2) ?_
    (refine Has.intro ⟨rfl, ?_, rfl⟩; (repeat (first | exact trivial | refine ⟨rfl, ?_⟩)))
  obtain ⟨S1, hS1⟩ : ∃ S1, S1 = upS (fun _ => Z) 1 ((W.frame 1 (putB (sN 7))).take (W.frame 1 (putB (sN 7))).length ++ Z.drop (W.frame 1 (putB (sN 7))).length) := ⟨_, rfl⟩
  refine seq_st (σ := Heap × Int × AV × Ext) (fun s => [(1, .ptr 2 0), (3, .ptr V 0), (4, .pv (.int .i64 0)), (6, .pv (.int .i64 1)), (7, .pv (.int .i64 0))]) (fun s => s.1) (fun s => DkOK s.1 2 ⟨a, 65556, -1, false, s.2.1, s.2.2.1, 1⟩ S1 ∧ hget s.1 V = vobj 2 1 s.2.2.2 (putB (sN 7)) ∧ okx s.2.2.2 (putB (sN 7))) ?_ (fun s hs r => ?_)
  · refine callSK_has' ((save_ok d2 rfl rfl (by show 0 ≤ 100000; decide) v2 (by decide) (sN 7) .nil .nil (small_N 7) (fun _ => by show 0 ≤ 400; decide) false (.inl ⟨rfl, rfl⟩)).mono fun z hz => ?_)
    obtain ⟨z1, G⟩ := z
    rcases hz with ⟨hn, _⟩ | ⟨_, h1, left, wr, Wv, q1, q2, q3, q4, e', q5, q6⟩
    · exact absurd saves_7 hn
    dsimp only at h1 q1 q6 ⊢
    rw [q3 rfl] at q1
    subst h1
    rw [hS1]
    exact Has.intro ⟨rfl, (G, wr, Wv, e'), ⟨q1, q6, q5⟩, ⟨rfl, rfl, rfl, rfl, rfl, trivial⟩, rfl⟩
  obtain ⟨H3, wr, Wv, e3⟩ := s
  obtain ⟨d3, v3, x3⟩ := hs
  dsimp only at d3 v3 x3 ⊢
  refine seq_on [(1, .ptr 2 0), (3, .ptr V 0), (4, .pv (.int .i64 0)), (6, .pv (.int .i64 1)), (7, .pv (.int .i64 0))] (hset H3 2 (dobj ⟨a, 65556, 3, false, wr, Wv, 1⟩)) ?_ (fun r => ?_)
  · refine callSK_has (arm_ok d3) ?_
    (refine Has.intro ⟨rfl, ?_, rfl⟩; (repeat (first | exact trivial | refine ⟨rfl, ?_⟩)))
  have d4 := d3.upd 3 false wr
  have hV2 : V ≠ 2 := fun hh => v_out d3 v3 (by simp [dids, hh])
  have v4 : hget (hset H3 2 (dobj ⟨a, 65556, 3, false, wr, Wv, 1⟩)) V = vobj 2 1 e3 (putB (sN 7)) := (hget_hset_ne _ _ hV2).trans v3
  obtain ⟨H4, hH4⟩ : ∃ H4, H4 = hset H3 2 (dobj ⟨a, 65556, 3, false, wr, Wv, 1⟩) := ⟨_, rfl⟩
  dsimp only at d4
  rw [← hH4] at d4 v4 ⊢
  obtain ⟨S2, hS2⟩ : ∃ S2, S2 = upS S1 0 ((W.frame 2 (putB (sN 8))).take 3 ++ (S1 0).drop 3) := ⟨_, rfl⟩
  refine seq_st (σ := Heap × Int × Int × AV) (fun s => [(1, .ptr 2 0), (3, .ptr V 0), (4, .pv (.int .i64 0)), (6, .pv (.int .i64 1)), (7, .pv (.int .i64 0)), (8, .pv (.int .i64 26))]) (fun s => s.1) (fun s => DkOK s.1 2 ⟨a, 65556, s.2.1, true, s.2.2.1, s.2.2.2, 2⟩ S2 ∧ hget s.1 V = vobj 2 1 e3 (putB (sN 7))) ?_ (fun s hs r => ?_)
  · refine callSK_has' ((save_ok d4 rfl rfl (by show 1 ≤ 100000; decide) v4 (by decide) (sN 8) .nil .nil (small_N 8) (fun _ => by show 0 ≤ 400; decide) true (.inr ⟨rfl, rfl⟩)).mono fun z hz => ?_)
    obtain ⟨z1, G⟩ := z
    rcases hz with ⟨hn, _⟩ | ⟨_, h1, left, wr', Wv', q1, q2, q3, q4, e', q5, q6⟩
    · exact absurd saves_8 hn
    dsimp only at h1 q1 q6 ⊢
    subst h1
    rw [hS2]
    exact Has.intro ⟨rfl, (G, left, wr', Wv'), ⟨q1, q6⟩, ⟨rfl, rfl, rfl, rfl, rfl, rfl, trivial⟩, rfl⟩
  obtain ⟨H5, left, wr5, Wv5⟩ := s
  obtain ⟨d5, v5⟩ := hs
  dsimp only at d5 v5 ⊢
  have hV5 : V ≠ 2 := fun hh => v_out d5 v5 (by simp [dids, hh])
  have d6 := (d5.upd left false wr5).upd (-1) false wr5
  obtain ⟨H6, hH6⟩ : ∃ H6, H6 = hset (hset H5 2 (dobj ⟨a, 65556, left, false, wr5, Wv5, 2⟩)) 2 (dobj ⟨a, 65556, -1, false, wr5, Wv5, 2⟩) := ⟨_, rfl⟩
  have v6 : hget H6 V = vobj 2 1 e3 (putB (sN 7)) := by rw [hH6]; exact (hget_hset_ne _ _ hV5).trans ((hget_hset_ne _ _ hV5).trans v5)
  dsimp only at d6
  rw [← hH6] at d6
  refine seq_on [(1, .ptr 2 0), (3, .ptr V 0), (4, .pv (.int .i64 0)), (6, .pv (.int .i64 1)), (7, .pv (.int .i64 0)), (8, .pv (.int .i64 26))] H6 ?_ (fun r => ?_)
  · refine callSK_has (up_ok d5) ?_
    rw [hH6]
    (refine Has.intro ⟨rfl, ?_, rfl⟩; (repeat (first | exact trivial | refine ⟨rfl, ?_⟩)))
  have hrow : (S1 0).take 4 = [0, 0, 0, 0] := by rw [hS1]; exact hZ4
  have c0 : cnt (S2 0) = (0, []) := by
    refine cnt_no (by have := (d6.row 0 (by decide)).2; dsimp only at this; omega) ?_
    rw [hS2]
    exact torn_no hrow
  have c1 : cnt (S2 1) = (1, putB (sN 7)) := by
    have e1 : S2 1 = S1 1 := by rw [hS2]; rfl
    rw [e1, hS1]
    show cnt ((W.frame 1 (putB (sN 7))).take (W.frame 1 (putB (sN 7))).length ++ Z.drop (W.frame 1 (putB (sN 7))).length) = _
    rw [List.take_length]
    exact cnt_frame saves_7 (fun h hh => by cases hh) (by decide) (by decide) _
  have a6 := acc_1 (by decide) c0 c1
  refine seq_st (σ := Heap × Nat × Ext) (fun s => [(1, .ptr 2 0), (3, .ptr V 0), (4, .pv (.int .i64 0)), (6, .pv (.int .i64 1)), (7, .pv (.int .i64 0)), (8, .pv (.int .i64 26)), (9, .ptr s.2.1 0), (10, .pv (.int .i64 0))]) (fun s => s.1) (fun s => hget s.1 V = vobj 2 1 e3 (putB (sN 7)) ∧ hget s.1 s.2.1 = vobj 2 1 s.2.2 (putB (sN 7)) ∧ okx s.2.2 (putB (sN 7))) ?_ (fun s hs r => ?_)
  · refine callSK_has' ((open_ok d6 rfl rfl).mono fun y hy => ?_)
    obtain ⟨v, G⟩ := y
    obtain ⟨V', e', q1, q2, q3, q4, q5⟩ := hy
    dsimp only at q1 q3 q5
    subst q1
    rw [a6] at q3 q4
    exact Has.intro ⟨rfl, (G, V', e'), ⟨q5.get v6 ((by intro h; cases h)) (by simp), q3, q4⟩, ⟨rfl, rfl, rfl, rfl, rfl, rfl, rfl, rfl, trivial⟩, rfl⟩
  obtain ⟨H7, V', e7⟩ := s
  obtain ⟨v7, w7, x7⟩ := hs
  dsimp only at v7 w7 x7 ⊢
  have hlen : (putB (sN 7)).length ≤ 1000000 := by rw [len_N (by decide)]; decide
  obtain ⟨L, y1, y2, hst⟩ := state_ok w7 x7 hlen
  have hs7 : (stOf 1 (putB (sN 7))).next = 7 := by rw [st_frame saves_7 (fun h hh => by cases hh) (by decide)]; rfl
  have w8 : hget (H7 ++ L) V' = vobj 2 1 e7 (putB (sN 7)) := (hget_app _ (hget_lt w7 ((by intro h; cases h)))).trans w7
  refine boolK_beq_t rfl ?_
  refine boolK_beq_t rfl ?_
  refine boolK_beq_t rfl ?_
  refine boolK_beq_t rfl ?_
  refine callSK_has (gen_ok v7) ?_
  refine boolK_beq_t rfl ?_
  refine boolK_beq_t rfl ?_
  refine callSK_has (gen_ok w7) ?_
  refine boolK_beq_t rfl ?_
  refine callSK_has hst ?_
  refine getK_has (v := .int .i64 (stOf 1 (putB (sN 7))).next) rfl ?_
  refine boolK_beq_t hs7 ?_
  refine callPK_has (slot_fn 3) ?_
  refine boolK_beq_t rfl ?_
  refine callPK_has room_ok ?_
  refine boolK_beq_t rfl ?_
  refine callSK_has (disk_fn w8) ?_
  exact Has.intro (Has.intro rfl)
end Go.Proofs.YtflfdglnelbbiaaGreat.Di

namespace Go.Proofs.YtflfdglnelbbiaaGreat.Di
open Go Go.VM

abbrev TV : Ty := .st [(1, .int .i64), (1, .int .i64), (1, .int .i64)]
abbrev TCt : Ty := .st [(1, .str), (3, TV), (3, TV), (3, .arr 3 1 .bool)]
abbrev TPd : Ty := .st [(1, .str), (1, .int .i64), (1, .int .i64), (1, .sl 10 TCt)]
abbrev TEn : Ty := .st [(4, TPd), (4, TPd), (1, .int .i64), (1, .int .i64)]
abbrev TOw : Ty := .st [(1, .str), (1, .str), (1, .int .i64)]
abbrev THo : Ty := .st [(3, TOw), (8, .arr 8 1 (.int .i64))]
abbrev TSt : Ty := .st [(1, .int .i64), (1, .sl 10 TEn), (1, .sl 11 THo)]
theorem dec_str (s : ByteArray) : ∃ l : List UInt8, PV.str s = sv l ∧ l.length = s.size := ⟨s.data.toList, rfl, rfl⟩
theorem dec_v {cs : List PV} (h : HasTy TV cs) : ∃ v, cs = vc v := by
  obtain ⟨_, _, rfl, _, ⟨a, rfl, _⟩, _, _, rfl, _, ⟨b, rfl, _⟩, _, _, rfl, _, ⟨c, rfl, _⟩, rfl⟩ := h
  exact ⟨⟨a, b, c⟩, rfl⟩
theorem dec_ct {cs : List PV} (h : HasTy TCt cs) : ∃ c, cs = ct c ∧ c.name.length ≤ maxLen := by
  obtain ⟨_, _, rfl, _, ⟨s, rfl, hs⟩, _, _, rfl, _, hv, _, _, rfl, _, hw, _, _, rfl, _, ⟨_, _, rfl, _, ⟨a, rfl⟩, _, _, rfl, _, ⟨b, rfl⟩, _, _, rfl, _, ⟨c, rfl⟩, rfl⟩, rfl⟩ := h
  obtain ⟨v, rfl⟩ := dec_v hv
  obtain ⟨w, rfl⟩ := dec_v hw
  obtain ⟨l, h1, h2⟩ := dec_str s
  rw [h1]
  exact ⟨⟨l, v, w, a, b, c⟩, rfl, by show l.length ≤ _; omega⟩
theorem els_dec {α : Type} {f : α → List PV} {P : α → Prop} {T : Ty} {es : Nat} (hd : ∀ cs, HasTy T cs → ∃ a, cs = f a ∧ P a) : ∀ (n : Nat) (cs : List PV), Els (HasTy T) es n cs → ∃ l : List α, l.length = n ∧ cs = flat f l ∧ ∀ a ∈ l, P a := by
  intro n
  induction n with
  | zero => intro cs h; exact ⟨[], rfl, h, fun a ha => by cases ha⟩
  | succ n ih =>
    intro cs h
    obtain ⟨x, y, rfl, _, h1, h2⟩ := h
    obtain ⟨a, rfl, ha⟩ := hd _ h1
    obtain ⟨l, rfl, rfl, hl⟩ := ih _ h2
    refine ⟨a :: l, rfl, by simp [flat], fun b hb => ?_⟩
    rcases List.mem_cons.1 hb with rfl | hb
    · exact ha
    · exact hl b hb
theorem dec_pd {cs : List PV} (h : HasTy TPd cs) : ∃ q x, cs = pdc q x ∧ small q := by
  obtain ⟨_, _, rfl, _, ⟨s, rfl, hs⟩, _, _, rfl, _, ⟨a, rfl, _⟩, _, _, rfl, _, ⟨b, rfl, _⟩, _, _, rfl, _, ⟨x, n, cells, rfl, _, hn, he⟩, rfl⟩ := h
  obtain ⟨l, h1, h2⟩ := dec_str s
  obtain ⟨cs, rfl, rfl, hc⟩ := els_dec (fun _ h => dec_ct h) n cells he
  rw [h1]
  exact ⟨⟨l, a, b, cs⟩, x, rfl, by show l.length ≤ _; omega, hn, hc⟩
theorem dec_en {cs : List PV} (h : HasTy TEn cs) : ∃ e, cs = en e ∧ smallE e := by
  obtain ⟨_, _, rfl, _, hp, _, _, rfl, _, hq, _, _, rfl, _, ⟨a, rfl, _⟩, _, _, rfl, _, ⟨b, rfl, _⟩, rfl⟩ := h
  obtain ⟨p, x, rfl, h1⟩ := dec_pd hp
  obtain ⟨q, y, rfl, h2⟩ := dec_pd hq
  exact ⟨⟨p, q, x, y, a, b⟩, rfl, h1, h2⟩
theorem dec_ho {cs : List PV} (h : HasTy THo cs) : ∃ e, cs = hoc e ∧ e.sp.length = 8 := by
  obtain ⟨_, _, rfl, _, ⟨_, _, rfl, _, ⟨s, rfl, _⟩, _, _, rfl, _, ⟨t, rfl, _⟩, _, _, rfl, _, ⟨k, rfl, _⟩, rfl⟩, _, _, rfl, _,
    ⟨_, _, rfl, _, ⟨a0, rfl, _⟩, _, _, rfl, _, ⟨a1, rfl, _⟩, _, _, rfl, _, ⟨a2, rfl, _⟩, _, _, rfl, _, ⟨a3, rfl, _⟩, _, _, rfl, _, ⟨a4, rfl, _⟩, _, _, rfl, _, ⟨a5, rfl, _⟩, _, _, rfl, _, ⟨a6, rfl, _⟩, _, _, rfl, _, ⟨a7, rfl, _⟩, rfl⟩, rfl⟩ := h
  obtain ⟨l, h1, h2⟩ := dec_str s
  obtain ⟨m, h3, h4⟩ := dec_str t
  rw [h1, h3]
  exact ⟨⟨⟨l, m, k⟩, [a0, a1, a2, a3, a4, a5, a6, a7]⟩, rfl, rfl⟩
structure StX where
  s : St
  x : Ext
  y : Ext
def stcx (z : StX) : List PV := stc z.s z.x z.y
theorem stcx_len (z : StX) : (stcx z).length = 3 := rfl
theorem dec_st {cs : List PV} (h : HasTy TSt cs) : ∃ z, cs = stcx z ∧ smallS z.s := by
  obtain ⟨_, _, rfl, _, ⟨n, rfl, _⟩, _, _, rfl, _, ⟨x, k, cells, rfl, _, hk, he⟩, _, _, rfl, _, ⟨y, m, cells2, rfl, _, hm, hf⟩, rfl⟩ := h
  obtain ⟨es, rfl, rfl, h1⟩ := els_dec (fun _ h => dec_en h) k cells he
  obtain ⟨hs, rfl, rfl, h2⟩ := els_dec (fun _ h => dec_ho h) m cells2 hf
  exact ⟨⟨⟨n, es, hs⟩, x, y⟩, rfl, hk, hm, h1, h2⟩
theorem arg_three {p : PV} (h : HasArg (.arr 3 3 TSt) p) : ∃ a b c, p = .agg (stcx a ++ (stcx b ++ stcx c)) ∧ smallS a.s ∧ smallS b.s ∧ smallS c.s := by
  obtain ⟨ps, rfl, he⟩ := h
  obtain ⟨l, hl, rfl, h1⟩ := els_dec (fun _ h => dec_st h) 3 ps he
  match l, hl with
  | [a, b, c], _ =>
    refine ⟨a, b, c, ?_, h1 a (by simp), h1 b (by simp), h1 c (by simp)⟩
    simp [flat]
theorem arg_int {p : PV} (h : HasArg (.int .i64) p) : ∃ n : Int, p = .int .i64 n := by
  obtain ⟨n, h1, _⟩ := h
  injection h1 with h1
  exact ⟨n, h1⟩
/-- A right state's bytes may be saved. -/
theorem saves_right {s : St} (hs : smallS s) (hr : rightP s) : saves s := by
  obtain ⟨_, _, _, h8⟩ := hs
  have h192 := hs_192 hr
  obtain ⟨r1, r2, r3, r4⟩ := id hr
  have l1 := num_len (n := s.next) (by unfold nok; omega)
  have l2 := len_enc (n := s.es.length) (by omega)
  have l3 := len_enc (n := s.hs.length) (by omega)
  have l4 := catB_len (f := entB) (b := 1200) (l := s.es) (fun e he => by
    obtain ⟨j, hj⟩ := List.getElem?_of_mem he
    exact entB_len (r3 j e hj).1)
  have l5 := catB_len (f := hoB) (b := 150) (l := s.hs) (fun e he => by
    obtain ⟨j, hj⟩ := List.getElem?_of_mem he
    exact hoB_len r3 (r4 j e hj).1 (h8 e he))
  have l6 : 1 ≤ (T.enc s.es.length).length := by
    unfold T.enc
    split <;> simp
  refine ⟨hr, ?_, ?_⟩ <;> unfold putB <;> simp only [List.length_append] <;> omega
theorem right_400 {s : St} (hr : rightP s) : s.hs.length ≤ 400 := by have := hs_192 hr; omega
theorem a_out {H : Heap} {D : Nat} {d : Dk} {S : Nat → List UInt8} (h : DkOK H D d S) (hn : 4 ≤ d.n) {A : Nat} {cs : List PV} (ha : hget H A = .pcells cs) (hl : cs.length = 3) : A ∉ dids D d := by
  intro hi
  have no : ∀ i, i < 2 → A ≠ d.a i := fun i hi2 e => by
    have := (h.row i hi2).1
    rw [← e, ha] at this
    injection this with this
    have h2 := (h.row i hi2).2
    rw [this, bc_length] at hl
    omega
  unfold dids at hi
  simp only [List.mem_cons] at hi
  rcases hi with rfl | rfl | rfl | hi
  · rw [h.obj] at ha; cases ha
  · exact no 0 (by decide) rfl
  · exact no 1 (by decide) rfl
  · obtain ⟨ws, h1⟩ := h.app
    rcases h1 with ⟨_, _, h1, _⟩ | ⟨_, _, t, h1, h2⟩
    · rw [h1] at hi; simp [tokOf] at hi
    · rw [h1] at hi; simp [tokOf] at hi; subst hi
      rw [h2] at ha; cases ha
end Go.Proofs.YtflfdglnelbbiaaGreat.Di

namespace Go.Proofs.YtflfdglnelbbiaaGreat.Di
open Go Go.VM

structure Obs (H : Heap) (a b c : StX) : Prop where
  o1 : hget H 1 = .pcells (stcx a)
  o2 : hget H 2 = .pcells (stcx b)
  o3 : hget H 3 = .pcells (stcx c)
theorem Obs.kp {H H' : Heap} {a b c : StX} {l : List Nat} (h : Obs H a b c) (k : Kp l H H') (h1 : 1 ∉ l) (h2 : 2 ∉ l) (h3 : 3 ∉ l) : Obs H' a b c := ⟨k.get h.o1 ((by intro h; cases h)) h1, k.get h.o2 ((by intro h; cases h)) h2, k.get h.o3 ((by intro h; cases h)) h3⟩
theorem Obs.kp0 {H H' : Heap} {a b c : StX} (h : Obs H a b c) (k : Kp [] H H') : Obs H' a b c := h.kp k (by simp) (by simp) (by simp)
theorem Obs.out {H : Heap} {a b c : StX} (h : Obs H a b c) {D V : Nat} {d : Dk} {S : Nat → List UInt8} {g : Nat} {e : Ext} {bs : List UInt8} (hd : DkOK H D d S) (hn : 4 ≤ d.n) (hv : hget H V = vobj D g e bs) : (1 ∉ V :: dids D d) ∧ (2 ∉ V :: dids D d) ∧ 3 ∉ V :: dids D d := by
  have key : ∀ (i : Nat) (z : StX), hget H i = .pcells (stcx z) → i ∉ V :: dids D d := fun i z hi hm => by
    rcases List.mem_cons.1 hm with hm | hm
    · rw [hm, hv] at hi; cases hi
    · exact a_out hd hn hi (stcx_len z) hm
  exact ⟨key 1 a h.o1, key 2 b h.o2, key 3 c h.o3⟩
/-- A vault on a disk with two saved states. -/
structure Va (H : Heap) (a b c : StX) (D V : Nat) (d : Dk) (S : Nat → List UInt8) (g : Nat) (e : Ext) (bs : List UInt8) : Prop where
  ob : Obs H a b c
  dk : DkOK H D d S
  v : hget H V = vobj D g e bs
  n : d.n = 65556
theorem Va.kp0 {H H' : Heap} {a b c : StX} {D V : Nat} {d : Dk} {S : Nat → List UInt8} {g : Nat} {e : Ext} {bs : List UInt8} (h : Va H a b c D V d S g e bs) (k : Kp [] H H') : Va H' a b c D V d S g e bs :=
  ⟨h.ob.kp0 k, h.dk.kp k (fun _ _ h => by cases h), k.get h.v ((by intro h; cases h)) (by simp), h.n⟩
/-- A saved state. -/
theorem save_va {H : Heap} {a b c : StX} {D V : Nat} {d : Dk} {S : Nat → List UInt8} {g : Nat} {e : Ext} {bs : List UInt8} (h : Va H a b c D V d S g e bs) (hdn : d.down = false) (hl : d.left = -1) (hk : d.k ≤ 100) (hg : g ≤ 100) (s : St) (x y : Ext) (hs : smallS s) :
    Has (EE env (.fn 18) [.ptr V 0, .pv (.agg (stc s x y))] H) fun z =>
      (¬ rightP s ∧ z.1 = .pv (.int .i64 2) ∧ Kp [] H z.2) ∨
      (rightP s ∧ z.1 = .pv (.int .i64 0) ∧ ∃ wr Wv e', okx e' (putB s) ∧ Va z.2 a b c D V ⟨d.a, d.n, -1, false, wr, Wv, d.k + 1⟩ (upS S ((g + 1) % 2) (W.frame (g + 1) (putB s) ++ (S ((g + 1) % 2)).drop (W.frame (g + 1) (putB s)).length)) (g + 1) e' (putB s)) := by
  refine (save_ok h.dk h.n hdn (by omega) h.v (by omega) s x y hs right_400 false (.inl ⟨hl, rfl⟩)).mono fun z hz => ?_
  obtain ⟨z1, G⟩ := z
  rcases hz with ⟨q0, q1, q2⟩ | ⟨p0, q1, left, wr, Wv, q2, q3, q4, q5, e', q6, q7⟩
  · exact .inl ⟨fun hr => q0 (saves_right hs hr), q1, q2⟩
  · right
    obtain ⟨n1, n2, n3⟩ := h.ob.out h.dk (by rw [h.n]; decide) h.v
    have e1 : (bif false then 3 else (W.frame (g + 1) (putB s)).length) = (W.frame (g + 1) (putB s)).length := rfl
    rw [q4 rfl, e1, List.take_length] at q2
    exact ⟨p0.1, q1, wr, Wv, e', q6, h.ob.kp q3 n1 n2 n3, q2, q7, h.n⟩
/-- What comes of a save that is cut off. -/
theorem cut_va {H : Heap} {a b c : StX} {D V : Nat} {d : Dk} {S : Nat → List UInt8} {g : Nat} {e : Ext} {bs : List UInt8} (h : Va H a b c D V d S g e bs) (hdn : d.down = false) (n : Int) (hl : d.left = max n (-1)) (hk : d.k ≤ 100) (hg : g ≤ 100) (s : St) (x y : Ext) (hs : smallS s) (hr : rightP s) :
    Has (EE env (.fn 18) [.ptr V 0, .pv (.agg (stc s x y))] H) fun z => ∃ (m : Nat) (dn : Bool), (dn = true ∧ 0 ≤ n ∧ (m : Int) = n ∧ m ≤ (W.frame (g + 1) (putB s)).length ∨ dn = false ∧ m = (W.frame (g + 1) (putB s)).length) ∧
      z.1 = .pv (.int .i64 (bif dn then 26 else 0)) ∧ Obs z.2 a b c ∧ ∃ left wr Wv, DkOK z.2 D ⟨d.a, d.n, left, dn, wr, Wv, d.k + 1⟩ (upS S ((g + 1) % 2) ((W.frame (g + 1) (putB s)).take m ++ (S ((g + 1) % 2)).drop m)) := by
  obtain ⟨n1, n2, n3⟩ := h.ob.out h.dk (by rw [h.n]; decide) h.v
  by_cases hc : 0 ≤ n ∧ n ≤ (W.frame (g + 1) (putB s)).length
  · refine (save_gen h.dk h.n hdn (by omega) h.v (by omega) s x y hs right_400 n.toNat true (fun _ => .inl ⟨by omega, by omega, by omega, rfl⟩)).mono fun z hz => ?_
    rcases hz with ⟨q0, _⟩ | ⟨p0, q1, left, wr, Wv, q2, q3, _⟩
    · exact absurd (saves_right hs hr) q0
    · exact ⟨n.toNat, true, .inl ⟨rfl, hc.1, by omega, by omega⟩, q1, h.ob.kp q3 n1 n2 n3, left, wr, Wv, q2⟩
  · refine (save_gen h.dk h.n hdn (by omega) h.v (by omega) s x y hs right_400 (W.frame (g + 1) (putB s)).length false (fun _ => .inr ⟨by omega, rfl, rfl⟩)).mono fun z hz => ?_
    rcases hz with ⟨q0, _⟩ | ⟨p0, q1, left, wr, Wv, q2, q3, _⟩
    · exact absurd (saves_right hs hr) q0
    · exact ⟨_, false, .inr ⟨rfl, rfl⟩, q1, h.ob.kp q3 n1 n2 n3, left, wr, Wv, q2⟩
/-! ### the plain law -/
theorem acc_two {S : Nat → List UInt8} {b : List UInt8} (h0 : cnt (S 0) = (2, b)) : acc S 2 = if (cnt (S 1)).1 > 2 then cnt (S 1) else (2, b) := by
  simp [acc, h0]
theorem cnt_some {T : List UInt8} {g : Nat} {body : List UInt8} (h : cnt T = (g, body)) (hg : 2 < g) : W.getM T = (g, body, 0) ∧ g ≤ 1152921504606846976 := by
  unfold cnt at h
  have hle := W.getM_le T
  split at h
  · injection h with h _; omega
  · rename_i h1
    split at h
    · injection h with h _; omega
    · generalize W.getM T = M at *
      obtain ⟨p, q, r⟩ := M
      injection h with e1 e2
      dsimp only at e1 e2 h1 hle
      subst e1; subst e2
      have : r = 0 := Classical.byContradiction fun hh => h1 hh
      subst this
      exact ⟨rfl, hle.1⟩
/-- Where the torn slot's frame is neither of the two, it has met. -/
theorem met_yes {was T : List UInt8} {a c : List UInt8} {n : Int} {m g : Nat} {body rest : List UInt8} (hm : (m : Int) = n) (hml : m ≤ (W.frame 3 c).length) (hw : was = W.frame 1 a ++ rest) (hwl : was.length = 65556) (ha : a.length ≤ 65536) (hc : c.length ≤ 65536)
    (hT : T = (W.frame 3 c).take m ++ was.drop m) (hcn : cnt T = (g, body)) (hg : 2 < g) (hno : ¬ (g = 3 ∧ body = c)) : W.metM was (W.frame 3 c) n = true := by
  have hfl := W.frame_len 3 c
  have ht : W.tornB was (W.frame 3 c) n = T := by
    have e1 : min (W.cut n (W.frame 3 c).length) was.length = m := by unfold W.cut; omega
    unfold W.tornB
    rw [e1, hT]
  obtain ⟨hgm, hg2⟩ := cnt_some hcn hg
  have hbl : body.length ≤ 65536 := by have := (W.getM_le T).2.1; rw [hgm] at this; exact this
  have hwas : W.getM was = (1, a, 0) := by rw [hw]; exact W.frame_get (by decide) (by decide) ha rest
  have hput : W.putB ((g : Nat) : Int) body = W.frame g body := by
    unfold W.putB
    rw [if_pos ⟨⟨by omega, by omega⟩, hbl⟩, Int.toNat_natCast]
  have hpa : W.putB ((1 : Nat) : Int) a = W.frame 1 a := by
    unfold W.putB
    rw [if_pos ⟨⟨by decide, by decide⟩, ha⟩]
    rfl
  have inj : ∀ {g' : Nat} {c' : List UInt8}, 1 ≤ g' → g' ≤ 1152921504606846976 → c'.length ≤ 65536 → W.frame g body = W.frame g' c' → g = g' ∧ body = c' := by
    intro g' c' h1 h2 h3 h
    have k1 := W.frame_get0 (by omega) hg2 hbl
    have k2 := W.frame_get0 h1 h2 h3
    rw [h, k2] at k1
    injection k1 with e1 e2
    injection e2 with e2 _
    exact ⟨e1.symm, e2.symm⟩
  unfold W.metM
  rw [ht, hgm, hwas]
  refine decide_eq_true ⟨rfl, ?_, .inr ?_⟩
  · dsimp only
    rw [hput]
    exact fun h => hno (inj (by decide) (by decide) hc h)
  · dsimp only
    rw [hput, hpa]
    intro h
    have := (inj (by decide) (by decide) ha h).1
    omega
theorem getS_small {b : List UInt8} (hb : b.length ≤ 1000000) : smallS (getS b).1 := by
  have h0 : smallS s0 := ⟨Nat.zero_le _, Nat.zero_le _, fun e h => (by cases h), fun e h => (by cases h)⟩
  unfold getS
  split
  · exact h0
  split
  · have hE := gEs_small (gN 16 (gN 1099511627776 (b, 0)).2).2 (by have : (gN 1099511627776 (b, 0)).2.1.length ≤ b.length := gN_short 1099511627776 (b, 0); have := gN_short 16 (gN 1099511627776 (b, 0)).2; omega) (gN 16 (gN 1099511627776 (b, 0)).2).1
    have hl := gEs_len (gN 16 (gN 1099511627776 (b, 0)).2).2 (gN 16 (gN 1099511627776 (b, 0)).2).1
    have hle := gN_le 16 (gN 1099511627776 (b, 0)).2
    have hH := gHs_eight (gN 192 (gEs (gN 16 (gN 1099511627776 (b, 0)).2).2 (gN 16 (gN 1099511627776 (b, 0)).2).1).2).2 (gN 192 (gEs (gN 16 (gN 1099511627776 (b, 0)).2).2 (gN 16 (gN 1099511627776 (b, 0)).2).1).2).1
    have hl2 := gHs_len (gN 192 (gEs (gN 16 (gN 1099511627776 (b, 0)).2).2 (gN 16 (gN 1099511627776 (b, 0)).2).1).2).2 (gN 192 (gEs (gN 16 (gN 1099511627776 (b, 0)).2).2 (gN 16 (gN 1099511627776 (b, 0)).2).1).2).1
    have hle2 := gN_le 192 (gEs (gN 16 (gN 1099511627776 (b, 0)).2).2 (gN 16 (gN 1099511627776 (b, 0)).2).1).2
    exact ⟨ml (show (gEs _ _).1.length ≤ _ by omega), ml (show (gHs _ _).1.length ≤ _ by omega), hE, hH⟩
  · exact h0
theorem stOf_small {g : Nat} {b : List UInt8} (hb : b.length ≤ 1000000) : smallS (stOf g b) := by
  unfold stOf
  split
  · exact ⟨Nat.zero_le _, Nat.zero_le _, fun e h => (by cases h), fun e h => (by cases h)⟩
  · exact getS_small hb
/-- The last answer. -/
theorem last_ok {H : Heap} {a b c : StX} (ob : Obs H a b c) (hb : smallS b.s) (hc : smallS c.s) (ra : rightP a.s) (rb : rightP b.s) (rc : rightP c.s) (ha : smallS a.s) {Wn C : Nat} {e : Ext} {R : Nat × List UInt8} {was T rest : List UInt8} {n : Int} {m : Nat} (r : Regs)
    (hw : hget H Wn = vobj C R.1 e R.2) (ox : okx e R.2) (hR : R = if (cnt T).1 > 2 then cnt T else (2, putB b.s)) (hm : (m : Int) = n) (hml : m ≤ (W.frame 3 (putB c.s)).length) (hwas : was = W.frame 1 (putB a.s) ++ rest) (hwl : was.length = 65556)
    (hT : T = (W.frame 3 (putB c.s)).take m ++ was.drop m) :
    Has (evK env (EE env) (VCode.at c4 [1, 1, 1, 1, 1, 1, 1, 1, 1, 1, 1, 1, 1, 1, 1, 1]) (AV × Heap) (setL r [(1, .pv (.int .i64 n)), (6, .ptr 2 0), (7, .ptr 3 0), (12, .pv (.sl .nn 65556 (bc was))), (14, .ptr Wn 0), (16, .pv (.sl .nn (W.frame 3 (putB c.s)).length (bc (W.frame 3 (putB c.s)))))]) H (endK v4.results fun v h => some (v, h))) fun x => x.1 = .pv (.bool true) := by
  have sb := saves_right hb rb
  have sc := saves_right hc rc
  have sa := saves_right ha ra
  have hmet := W.met_ok .nn .nn was (W.frame 3 (putB c.s)) n (.inr rfl) (by omega) (by have := W.frame_len 3 (putB c.s); have := sc.2.2; omega)
  rw [hwl] at hmet
  by_cases hg : (cnt T).1 > 2
  · rw [if_pos hg] at hR
    obtain ⟨g, body, hcn⟩ : ∃ g body, cnt T = (g, body) := ⟨_, _, rfl⟩
    rw [hcn] at hR hg
    subst hR
    dsimp only at hg hw ox
    have hbody : body.length ≤ 65536 := by have := (W.getM_le T).2.1; rw [(cnt_some hcn hg).1] at this; exact this
    have fin : ¬ (g = 3 ∧ body = putB c.s) → W.metM was (W.frame 3 (putB c.s)) n = true := met_yes hm hml hwas hwl sa.2.2 sc.2.2 hT hcn hg
    refine callSK_has (gen_ok hw) ?_
    refine boolK_beq_f (by omega) ?_
    refine callSK_has (gen_ok hw) ?_
    by_cases h3 : g = 3
    · refine boolK_beq_t (by omega) ?_
      obtain ⟨L, y1, y2, hst⟩ := state_ok hw ox (by omega)
      have o7 : hget (H ++ L) 3 = .pcells (stcx c) := (hget_app _ (hget_lt ob.o3 ((by intro h; cases h)))).trans ob.o3
      refine callSK_has hst ?_
      refine hgetK_has _ o7 ?_
      refine secK_has (v := stc c.s c.x c.y) rfl (of_decide_eq_true rfl) ?_
      by_cases hsame : sameS (stOf g body) c.s
      · refine callPK_has ((rsameS_ok (stOf g body) c.s y1 y2 c.x c.y (stOf_small (by omega)) hc).trans (by rw [decide_eq_true hsame])) ?_
        refine sameK_has (by rw [ob.o3, o7]) (by rw [ob.o3]; rfl) ?_
        exact Has.intro rfl
      · refine callPK_has ((rsameS_ok (stOf g body) c.s y1 y2 c.x c.y (stOf_small (by omega)) hc).trans (by rw [decide_eq_false hsame])) ?_
        refine callPK_has (hmet.trans (by rw [fin (fun hh => hsame (by rw [hh.2, st_frame sc hc.2.2.2 (by omega)]; exact same_norm _))])) ?_
        refine sameK_has (by rw [ob.o3, o7]) (by rw [ob.o3]; rfl) ?_
        exact Has.intro rfl
    · refine boolK_beq_f (by omega) ?_
      refine callPK_has (hmet.trans (by rw [fin (fun hh => h3 hh.1)])) ?_
      exact Has.intro rfl
  · rw [if_neg hg] at hR
    subst hR
    dsimp only at hw ox
    obtain ⟨L, y1, y2, hst⟩ := state_ok hw ox (by have := sb.2.2; omega)
    have o7 : hget (H ++ L) 2 = .pcells (stcx b) := (hget_app _ (hget_lt ob.o2 ((by intro h; cases h)))).trans ob.o2
    have hs2 : stOf 2 (putB b.s) = normS b.s := st_frame sb hb.2.2.2 (by decide)
    refine callSK_has (gen_ok hw) ?_
    refine boolK_beq_t rfl ?_
    refine callSK_has hst ?_
    refine hgetK_has _ o7 ?_
    refine secK_has (v := stc b.s b.x b.y) rfl (of_decide_eq_true rfl) ?_
    refine callPK_has ((rsameS_ok (stOf 2 (putB b.s)) b.s y1 y2 b.x b.y (stOf_small (by have := sb.2.2; omega)) hb).trans (by rw [hs2, decide_eq_true (same_norm _)])) ?_
    refine sameK_has (by rw [ob.o2, o7]) (by rw [ob.o2]; rfl) ?_
    exact Has.intro rfl
set_option maxHeartbeats 8000000 in
theorem keeps_rest {H : Heap} {a b c : StX} {D V : Nat} {ad : Nat → Nat} {wr : Int} {Wv : AV} {S2 : Nat → List UInt8} {e2 : Ext} {rest : List UInt8} {n : Int} (r : Regs) (va : Va H a b c D V ⟨ad, 65556, -1, false, wr, Wv, 2⟩ S2 2 e2 (putB b.s)) (ha : smallS a.s) (hb : smallS b.s) (hc : smallS c.s) (ra : rightP a.s) (rb : rightP b.s)
    (hS1 : S2 1 = W.frame 1 (putB a.s) ++ rest) (hS0 : cnt (S2 0) = (2, putB b.s)) :
    Has (evK env (EE env) (VCode.at c4 [1, 1, 1, 1, 1, 1, 1]) (AV × Heap) (setL r [(1, .pv (.int .i64 n)), (6, .ptr 2 0), (7, .ptr 3 0), (8, .ptr D 0), (10, .ptr V 0)]) H (endK v4.results fun v h => some (v, h))) fun x => x.1 = .pv (.bool true) := by
  by_cases rc : rightP c.s
  rotate_left
  · refine hgetK_has _ va.ob.o3 ?_
    refine secK_has (v := stc c.s c.x c.y) rfl (of_decide_eq_true rfl) ?_
    refine callPK_has ((rright_ok' c.s c.x c.y hc).trans (by rw [decide_eq_false rc])) ?_
    refine hgetK_has _ va.ob.o3 ?_
    refine secK_has (v := stc c.s c.x c.y) rfl (of_decide_eq_true rfl) ?_
    refine callSK_has' ((save_va va rfl rfl (by show 2 ≤ 100; decide) (by decide) c.s c.x c.y hc).mono fun z hz => ?_)
    obtain ⟨z1, G⟩ := z
    rcases hz with ⟨q0, q1, q2⟩ | ⟨q0, _⟩
    · dsimp only at q1 q2 ⊢
      subst q1
      refine boolK_beq_t rfl ?_
      refine callSK_has (gen_ok (va.kp0 q2).v) ?_
      refine boolK_beq_t rfl ?_
      exact Has.intro rfl
    · exact absurd q0 rc
  have sb := saves_right hb rb
  have sc := saves_right hc rc
  refine seq_on [(1, .pv (.int .i64 n)), (6, .ptr 2 0), (7, .ptr 3 0), (8, .ptr D 0), (10, .ptr V 0)] H ?_ (fun r => ?_)
  · refine hgetK_has _ va.ob.o3 ?_
    refine secK_has (v := stc c.s c.x c.y) rfl (of_decide_eq_true rfl) ?_
    refine callPK_has ((rright_ok' c.s c.x c.y hc).trans (by rw [decide_eq_true rc])) ?_
    (refine Has.intro ⟨rfl, ?_, rfl⟩; (repeat (first | exact trivial | refine ⟨rfl, ?_⟩)))
  refine seq_on [(1, .pv (.int .i64 n)), (6, .ptr 2 0), (7, .ptr 3 0), (8, .ptr D 0), (10, .ptr V 0), (12, .pv (.sl .nn 65556 (bc (S2 1))))] H ?_ (fun r => ?_)
  · refine callSK_has (image_ok va.dk (by show 1 ≤ 65556 ∧ 65556 ≤ 1000000; decide) 1 (.inr rfl)) ?_
    (refine Has.intro ⟨rfl, ?_, rfl⟩; (repeat (first | exact trivial | refine ⟨rfl, ?_⟩)))
  have hVD : V ≠ D := fun hh => v_out va.dk va.v (by simp [dids, hh])
  obtain ⟨o1, o2, o3⟩ := va.ob.out va.dk (by show 4 ≤ 65556; decide) va.v
  have od : ∀ i : Nat, i ∉ V :: dids D ⟨ad, 65556, -1, false, wr, Wv, 2⟩ → i ∉ [D] := fun i hi hm => hi (by simp at hm; subst hm; simp [dids])
  obtain ⟨H1, hH1⟩ : ∃ H1, H1 = hset H D (dobj ⟨ad, 65556, max n (-1), false, wr, Wv, 2⟩) := ⟨_, rfl⟩
  have va1 : Va H1 a b c D V ⟨ad, 65556, max n (-1), false, wr, Wv, 2⟩ S2 2 e2 (putB b.s) := by
    rw [hH1]
    exact ⟨va.ob.kp (Kp.set H D _) (od 1 o1) (od 2 o2) (od 3 o3), va.dk.upd (max n (-1)) false wr, (hget_hset_ne _ _ hVD).trans va.v, rfl⟩
  refine seq_on [(1, .pv (.int .i64 n)), (6, .ptr 2 0), (7, .ptr 3 0), (8, .ptr D 0), (10, .ptr V 0), (12, .pv (.sl .nn 65556 (bc (S2 1))))] H1 ?_ (fun r => ?_)
  · refine callSK_has (arm_gen va.dk n) ?_
    rw [hH1]
    (refine Has.intro ⟨rfl, ?_, rfl⟩; (repeat (first | exact trivial | refine ⟨rfl, ?_⟩)))
  refine seq_st (σ := Heap × Nat × Bool × Int × Int × AV) (fun s => [(1, .pv (.int .i64 n)), (6, .ptr 2 0), (7, .ptr 3 0), (8, .ptr D 0), (12, .pv (.sl .nn 65556 (bc (S2 1)))), (13, .pv (.int .i64 (bif s.2.2.1 then 26 else 0)))]) (fun s => s.1)
    (fun s => (s.2.2.1 = true ∧ 0 ≤ n ∧ (s.2.1 : Int) = n ∧ s.2.1 ≤ (W.frame 3 (putB c.s)).length ∨ s.2.2.1 = false ∧ s.2.1 = (W.frame 3 (putB c.s)).length) ∧ Obs s.1 a b c ∧ DkOK s.1 D ⟨ad, 65556, s.2.2.2.1, s.2.2.1, s.2.2.2.2.1, s.2.2.2.2.2, 3⟩ (upS S2 1 ((W.frame 3 (putB c.s)).take s.2.1 ++ (S2 1).drop s.2.1))) ?_ (fun s hs r => ?_)
  · refine hgetK_has _ va1.ob.o3 ?_
    refine secK_has (v := stc c.s c.x c.y) rfl (of_decide_eq_true rfl) ?_
    refine callSK_has' ((cut_va va1 rfl n rfl (by show 2 ≤ 100; decide) (by decide) c.s c.x c.y hc rc).mono fun z hz => ?_)
    obtain ⟨z1, G⟩ := z
    obtain ⟨m, dn, q1, q2, q3, left, wr', Wv', q4⟩ := hz
    dsimp only at q2 q3 q4 ⊢
    subst q2
    exact Has.intro ⟨rfl, (G, m, dn, left, wr', Wv'), ⟨q1, q3, q4⟩, ⟨rfl, rfl, rfl, rfl, rfl, rfl, trivial⟩, rfl⟩
  obtain ⟨H2, m, dn, left, wr2, Wv2⟩ := s
  obtain ⟨hmd, ob2, d2⟩ := hs
  dsimp only at hmd ob2 d2 ⊢
  obtain ⟨T, hT⟩ : ∃ T, T = (W.frame 3 (putB c.s)).take m ++ (S2 1).drop m := ⟨_, rfl⟩
  rw [← hT] at d2
  obtain ⟨H3, hH3⟩ : ∃ H3, H3 = hset (hset H2 D (dobj ⟨ad, 65556, left, false, wr2, Wv2, 3⟩)) D (dobj ⟨ad, 65556, -1, false, wr2, Wv2, 3⟩) := ⟨_, rfl⟩
  have d3 : DkOK H3 D ⟨ad, 65556, -1, false, wr2, Wv2, 3⟩ (upS S2 1 T) := by rw [hH3]; exact (d2.upd left false wr2).upd (-1) false wr2
  have ob3 : Obs H3 a b c := by
    rw [hH3]
    exact (ob2.kp (Kp.set H2 D _) (od 1 o1) (od 2 o2) (od 3 o3)).kp (Kp.set _ D _) (od 1 o1) (od 2 o2) (od 3 o3)
  refine seq_on [(1, .pv (.int .i64 n)), (6, .ptr 2 0), (7, .ptr 3 0), (8, .ptr D 0), (12, .pv (.sl .nn 65556 (bc (S2 1)))), (13, .pv (.int .i64 (bif dn then 26 else 0)))] H3 ?_ (fun r => ?_)
  · refine callSK_has (up_ok d2) ?_
    rw [hH3]
    (refine Has.intro ⟨rfl, ?_, rfl⟩; (repeat (first | exact trivial | refine ⟨rfl, ?_⟩)))
  have hacc : acc (upS S2 1 T) 2 = if (cnt T).1 > 2 then cnt T else (2, putB b.s) := acc_two (S := upS S2 1 T) hS0
  refine seq_st (σ := Heap × Nat × Ext) (fun s => [(1, .pv (.int .i64 n)), (6, .ptr 2 0), (7, .ptr 3 0), (12, .pv (.sl .nn 65556 (bc (S2 1)))), (13, .pv (.int .i64 (bif dn then 26 else 0))), (14, .ptr s.2.1 0), (15, .pv (.int .i64 0))]) (fun s => s.1) (fun s => Obs s.1 a b c ∧ hget s.1 s.2.1 = vobj D (acc (upS S2 1 T) 2).1 s.2.2 (acc (upS S2 1 T) 2).2 ∧ okx s.2.2 (acc (upS S2 1 T) 2).2) ?_ (fun s hs r => ?_)
  · refine callSK_has' ((open_ok d3 rfl rfl).mono fun y hy => ?_)
    obtain ⟨v, G⟩ := y
    obtain ⟨Wn, e, q1, q2, q3, q4, q5⟩ := hy
    dsimp only at q1 q3 q5
    subst q1
    exact Has.intro ⟨rfl, (G, Wn, e), ⟨ob3.kp0 q5, q3, q4⟩, ⟨rfl, rfl, rfl, rfl, rfl, rfl, rfl, trivial⟩, rfl⟩
  obtain ⟨H4, Wn, e4⟩ := s
  obtain ⟨ob4, hw4, ox4⟩ := hs
  dsimp only at ob4 hw4 ox4 ⊢
  refine seq_on [(1, .pv (.int .i64 n)), (6, .ptr 2 0), (7, .ptr 3 0), (12, .pv (.sl .nn 65556 (bc (S2 1)))), (13, .pv (.int .i64 (bif dn then 26 else 0))), (14, .ptr Wn 0)] H4 ?_ (fun r => ?_)
  · refine boolK_bne_f rfl ?_
    (refine Has.intro ⟨rfl, ?_, rfl⟩; (repeat (first | exact trivial | refine ⟨rfl, ?_⟩)))
  rcases hmd with ⟨rfl, hn0, hmn, hml⟩ | ⟨rfl, hml⟩
  · refine seq_on [(1, .pv (.int .i64 n)), (6, .ptr 2 0), (7, .ptr 3 0), (12, .pv (.sl .nn 65556 (bc (S2 1)))), (14, .ptr Wn 0)] H4 ?_ (fun r => ?_)
    · refine boolK_beq_f (by decide) ?_
      (refine Has.intro ⟨rfl, ?_, rfl⟩; (repeat (first | exact trivial | refine ⟨rfl, ?_⟩)))
    refine seq_on [(1, .pv (.int .i64 n)), (6, .ptr 2 0), (7, .ptr 3 0), (12, .pv (.sl .nn 65556 (bc (S2 1)))), (14, .ptr Wn 0), (16, .pv (.sl .nn (W.frame 3 (putB c.s)).length (bc (W.frame 3 (putB c.s)))))] H4 ?_ (fun r => ?_)
    · refine hgetK_has _ ob4.o3 ?_
      refine secK_has (v := stc c.s c.x c.y) rfl (of_decide_eq_true rfl) ?_
      refine callPK_has (rput_ok c.s c.x c.y hc rc (right_400 rc)) ?_
      refine callPK_has (W.rput_ok 3 (by decide) (putB c.s) (by have := sc.2.2; omega)) ?_
      refine eqK_has_eq (bc (W.frame 3 (putB c.s))) (Go.Proofs.YtflfdglnelbbiaaGreat.T.bytes_sv _) ?_
      rw [sv_size]
      (refine Has.intro ⟨rfl, ?_, rfl⟩; (repeat (first | exact trivial | refine ⟨rfl, ?_⟩)))
    have hwl : (S2 1).length = 65556 := (va.dk.row 1 (by decide)).2
    exact last_ok ob4 hb hc ra rb rc ha r hw4 ox4 hacc hmn hml hS1 hwl hT
  · have hTc : cnt T = (3, putB c.s) := by
      rw [hT, hml, List.take_length]
      exact cnt_frame sc hc.2.2.2 (by decide) (by decide) _
    rw [hTc, if_pos (show 3 > 2 by decide)] at hacc
    rw [hacc] at hw4 ox4
    dsimp only at hw4 ox4
    obtain ⟨L, y1, y2, hst⟩ := state_ok hw4 ox4 (by have := sc.2.2; omega)
    have o7 : hget (H4 ++ L) 3 = .pcells (stcx c) := (hget_app _ (hget_lt ob4.o3 ((by intro h; cases h)))).trans ob4.o3
    have hs3 : stOf 3 (putB c.s) = normS c.s := st_frame sc hc.2.2.2 (by decide)
    refine boolK_beq_t rfl ?_
    refine callSK_has (gen_ok hw4) ?_
    refine boolK_beq_t rfl ?_
    refine callSK_has hst ?_
    refine hgetK_has _ o7 ?_
    refine secK_has (v := stc c.s c.x c.y) rfl (of_decide_eq_true rfl) ?_
    refine callPK_has ((rsameS_ok (stOf 3 (putB c.s)) c.s y1 y2 c.x c.y (stOf_small (by have := sc.2.2; omega)) hc).trans (by rw [hs3, decide_eq_true (same_norm _)])) ?_
    refine sameK_has (by rw [ob4.o3, o7]) (by rw [ob4.o3]; rfl) ?_
    exact Has.intro rfl
set_option maxHeartbeats 8000000 in
theorem keeps_law (ps : List PV) (h : HasArgs [.arr 3 3 TSt, .int .i64] ps) : ∃ H', EE env (.fn 4) (ps.map .pv) [] = some (.pv (.bool true), H') := by
  obtain ⟨p1, _, rfl, h1, p2, _, rfl, h2, rfl⟩ := h
  obtain ⟨a, b, c, rfl, ha, hb, hc⟩ := arg_three h1
  obtain ⟨n, rfl⟩ := arg_int h2
  obtain ⟨na, ea, _⟩ := great_ok' a.s a.x a.y ha
  obtain ⟨nb, eb, _⟩ := great_ok' b.s b.x b.y hb
  obtain ⟨nc, ec, _⟩ := great_ok' c.s c.x c.y hc
  refine law_end (EE_has (fn_has rfl ?_))
  refine seq_on [(1, .pv (.int .i64 n)), (2, .ptr 0 0)] [.pcells (stcx a ++ (stcx b ++ stcx c))] (by (refine Has.intro ⟨rfl, ?_, rfl⟩; (repeat (first | exact trivial | refine ⟨rfl, ?_⟩)))) (fun r => ?_)
  refine seq_on [(1, .pv (.int .i64 n)), (2, .ptr 0 0)] [.pcells (stcx a ++ (stcx b ++ stcx c))] ?_ (fun r => ?_)
  · refine callPK_has first_ok ?_
    exact Has.intro ⟨rfl, ⟨rfl, rfl, trivial⟩, rfl⟩
  obtain ⟨HB, hHB⟩ : ∃ HB : Heap, HB = [.pcells (stcx a ++ (stcx b ++ stcx c)), .pcells (stcx a), .pcells (stcx b), .pcells (stcx c)] := ⟨_, rfl⟩
  refine seq_on [(1, .pv (.int .i64 n)), (5, .ptr 1 0), (6, .ptr 2 0), (7, .ptr 3 0)] HB ?_ (fun r => ?_)
  · rw [hHB]
    refine needK_has (by decide) ?_
    refine hgetK_has _ rfl ?_
    refine secK_has (v := stcx a) rfl (of_decide_eq_true rfl) ?_
    refine needK_has (by decide) ?_
    refine hgetK_has _ rfl ?_
    refine secK_has (v := stcx b) rfl (of_decide_eq_true rfl) ?_
    refine needK_has (by decide) ?_
    refine hgetK_has _ rfl ?_
    refine secK_has (v := stcx c) rfl (of_decide_eq_true rfl) ?_
    refine hgetK_has _ rfl ?_
    refine needK_has rfl ?_
    refine eqK_has ?_
    refine hgetK_has _ rfl ?_
    refine needK_has rfl ?_
    refine eqK_has ?_
    refine hgetK_has _ rfl ?_
    refine needK_has rfl ?_
    refine eqK_has ?_
    refine sameK_has rfl rfl ?_
    refine sameK_has rfl rfl ?_
    refine sameK_has rfl rfl ?_
    exact Has.intro ⟨rfl, ⟨rfl, rfl, rfl, rfl, trivial⟩, rfl⟩
  have ob0 : Obs HB a b c := by rw [hHB]; exact ⟨rfl, rfl, rfl⟩
  refine seq_if [(4, .pv (.bool true))] True [(1, .pv (.int .i64 n)), (5, .ptr 1 0), (6, .ptr 2 0), (7, .ptr 3 0)] True HB ?_ (fun _ r => ?_) (fun _ r => ?_)
  · refine hgetK_has _ ob0.o1 ?_
    refine secK_has (v := stc a.s a.x a.y) rfl (of_decide_eq_true rfl) ?_
    refine callPK_has ea ?_
    refine hgetK_has _ ob0.o2 ?_
    refine secK_has (v := stc b.s b.x b.y) rfl (of_decide_eq_true rfl) ?_
    refine callPK_has eb ?_
    refine eqK_has ?_
    refine hgetK_has _ ob0.o3 ?_
    refine secK_has (v := stc c.s c.x c.y) rfl (of_decide_eq_true rfl) ?_
    refine callPK_has ec ?_
    refine eqK_has ?_
    refine boolK_dec (fun _ => ?_) (fun _ => ?_)
    · exact Has.intro (.inl ⟨rfl, ⟨rfl, trivial⟩, rfl, trivial⟩)
    · exact Has.intro (.inr ⟨rfl, ⟨rfl, rfl, rfl, rfl, trivial⟩, rfl, trivial⟩)
  · exact Has.intro rfl
  obtain ⟨H1, Z, aa, hZ, hZ4, hnew, d1, k1⟩ := new_room HB
  obtain ⟨D, hD⟩ : ∃ D, D = HB.length + 2 := ⟨_, rfl⟩
  rw [← hD] at hnew d1
  refine seq_on [(1, .pv (.int .i64 n)), (5, .ptr 1 0), (6, .ptr 2 0), (7, .ptr 3 0), (8, .ptr D 0)] H1 ?_ (fun r => ?_)
  · refine callSK_has hnew ?_
    (refine Has.intro ⟨rfl, ?_, rfl⟩; (repeat (first | exact trivial | refine ⟨rfl, ?_⟩)))
  have cz : cnt Z = (0, []) := cnt_no (by omega) (by rw [hZ4]; decide)
  have az : acc (fun _ => Z) 2 = (0, []) := acc_no cz cz
  refine seq_st (σ := Heap × Nat × Ext) (fun s => [(1, .pv (.int .i64 n)), (5, .ptr 1 0), (6, .ptr 2 0), (7, .ptr 3 0), (8, .ptr D 0), (10, .ptr s.2.1 0)]) (fun s => s.1) (fun s => Va s.1 a b c D s.2.1 ⟨aa, 65556, -1, false, 0, .pv (.sl .nil 0 []), 0⟩ (fun _ => Z) 0 s.2.2 []) ?_ (fun s hs r => ?_)
  · refine callSK_has' ((open_ok d1 rfl rfl).mono fun y hy => ?_)
    obtain ⟨v, G⟩ := y
    obtain ⟨V, e, q1, q2, q3, q4, q5⟩ := hy
    dsimp only at q1 q3 q5
    subst q1
    rw [az] at q3 q4
    exact Has.intro ⟨rfl, (G, V, e), ⟨(ob0.kp0 k1).kp0 q5, d1.kp q5 (fun _ _ h => by cases h), q3, rfl⟩, ⟨rfl, rfl, rfl, rfl, rfl, rfl, trivial⟩, rfl⟩
  obtain ⟨H2, V, e⟩ := s
  dsimp only at hs ⊢
  -- two states are saved
  refine seq_join (fun ex r G => (ex = .ret ∧ Agr r [(4, .pv (.bool true))]) ∨ (ex = .normal ∧ Agr r [(1, .pv (.int .i64 n)), (6, .ptr 2 0), (7, .ptr 3 0), (8, .ptr D 0), (10, .ptr V 0)] ∧ rightP a.s ∧ rightP b.s ∧ ∃ wr Wv e2 S2 rest, S2 1 = W.frame 1 (putB a.s) ++ rest ∧ cnt (S2 0) = (2, putB b.s) ∧
    Va G a b c D V ⟨aa, 65556, -1, false, wr, Wv, 2⟩ S2 2 e2 (putB b.s))) ?_ (fun ex r G hJ => ?_)
  · refine hgetK_has _ hs.ob.o1 ?_
    refine secK_has (v := stc a.s a.x a.y) rfl (of_decide_eq_true rfl) ?_
    refine callSK_has' ((save_va hs rfl rfl (by show 0 ≤ 100; decide) (by decide) a.s a.x a.y ha).mono fun z hz => ?_)
    obtain ⟨z1, G⟩ := z
    rcases hz with ⟨q0, q1, q2⟩ | ⟨ra, q1, wr, Wv, e', ox, va1⟩
    · dsimp only at q1 q2 ⊢
      subst q1
      have hG := hs.kp0 q2
      refine boolK_bne_t (by decide) ?_
      refine hgetK_has _ hG.ob.o1 ?_
      refine secK_has (v := stc a.s a.x a.y) rfl (of_decide_eq_true rfl) ?_
      refine callPK_has ((rright_ok' a.s a.x a.y ha).trans (by rw [decide_eq_false q0])) ?_
      exact Has.intro (.inl ⟨rfl, ⟨rfl, trivial⟩⟩)
    · dsimp only at q1 va1 ⊢
      subst q1
      refine boolK_bne_f rfl ?_
      refine hgetK_has _ va1.ob.o2 ?_
      refine secK_has (v := stc b.s b.x b.y) rfl (of_decide_eq_true rfl) ?_
      refine callSK_has' ((save_va va1 rfl rfl (by show 1 ≤ 100; decide) (by decide) b.s b.x b.y hb).mono fun z hz => ?_)
      obtain ⟨z1, G⟩ := z
      rcases hz with ⟨q0, q1, q2⟩ | ⟨rb, q1, wr2, Wv2, e2, ox2, va2⟩
      · dsimp only at q1 q2 ⊢
        subst q1
        have hG := va1.kp0 q2
        refine boolK_bne_t (by decide) ?_
        refine hgetK_has _ hG.ob.o1 ?_
        refine secK_has (v := stc a.s a.x a.y) rfl (of_decide_eq_true rfl) ?_
        refine callPK_has ((rright_ok' a.s a.x a.y ha).trans (by rw [decide_eq_true ra])) ?_
        refine hgetK_has _ hG.ob.o2 ?_
        refine secK_has (v := stc b.s b.x b.y) rfl (of_decide_eq_true rfl) ?_
        refine callPK_has ((rright_ok' b.s b.x b.y hb).trans (by rw [decide_eq_false q0])) ?_
        exact Has.intro (.inl ⟨rfl, ⟨rfl, trivial⟩⟩)
      · dsimp only at q1 va2 ⊢
        subst q1
        refine boolK_bne_f rfl ?_
        exact Has.intro (.inr ⟨rfl, ⟨rfl, rfl, rfl, rfl, rfl, trivial⟩, ra, rb, wr2, Wv2, e2, _, _, rfl, cnt_frame (saves_right hb rb) hb.2.2.2 (by decide) (by decide) _, va2⟩)
  rcases hJ with ⟨rfl, hA⟩ | ⟨rfl, hA, ra, rb, wr, Wv, e2, S2, rest, hS1, hS0, va⟩
  · rw [← hA.eq]
    exact Has.intro rfl
  rw [← hA.eq]
  exact keeps_rest r va ha hb hc ra rb hS1 hS0
end Go.Proofs.YtflfdglnelbbiaaGreat.Di
