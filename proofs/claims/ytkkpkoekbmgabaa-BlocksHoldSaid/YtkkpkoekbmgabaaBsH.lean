/-
  Blocks: Release, Clone, New.
-/
import Derived.Test.YtkkpkoekbmgabaaBsG
set_option linter.all false
set_option linter.unusedVariables false
set_option linter.unusedSimpArgs false
set_option linter.unusedSectionVars false
namespace Go.Proofs.Ytkkpkoekbmgabaa
open Go Go.VM
variable {H : Heap} {p m : Nat} {zs : List Zn} {L : List Rw}

theorem release_ok (h : Tb H p zs m L) (hL : L.length ≤ 1000000) (pod : List UInt8) :
    ∃ H', EE env (.fn 9) [.ptr p 0, .pv (sv pod)] H = some (.pv (iv (L.length - (others L pod).length)), H') ∧ Kp [m] H H' ∧ MapOf H' m (others L pod) := by
  refine Has.sh (EE_has ?_)
  have hk : ∀ a, Kp [] H (H ++ [a]) := fun a => (Kp.refl _ _).app _
  have h' := fun a => h.kp (hk a) (by simp) (by simp)
  obtain ⟨x, hx⟩ := (h' (.pcells [sv pod])).z.obj
  obtain ⟨clk, E, hm, hst, hpm⟩ := (h' (.pcells [sv pod])).map
  have hEl : E.length = L.length := by rw [← hpm.length_eq, List.length_map]
  refine hgetK_has _ hx ?_
  refine hgetK_has _ hm ?_
  refine hgetK_has _ hx ?_
  obtain ⟨J, g1, g2, g3⟩ := delete_ok hm hst (h.keys.perm hpm.symm) H.length pod (hget_append_same _ _)
  refine callSK_has g1 ?_
  refine hgetK_has _ (g2.get hx (by intro h; cases h) (by simpa using h.ne)) ?_
  refine hgetK_has _ g3 ?_
  have ho : ((E.filter fun e => decide (e.2.1.pod ≠ pod)).map (·.2)).Perm (others L pod) := by
    have := hpm.filter fun r => decide (r.1.pod ≠ pod)
    rw [List.filter_map] at this
    exact this
  have hFl : (E.filter fun e => decide (e.2.1.pod ≠ pod)).length = (others L pod).length := by rw [← ho.length_eq, List.length_map]
  have hle : (others L pod).length ≤ L.length := List.length_filter_le ..
  refine eqK_has_eq ((L.length : Int) - (others L pod).length) ?_ ?_
  · rw [List.length_map, List.length_map, hEl, hFl]
    exact wrap_i64 (by omega) (by omega)
  refine Has.intro ⟨rfl, ((hk _).more (by simp)).trans g2 (fun i hi => .inl hi), clk, _, g3, stamps_sub hst _, ho⟩
theorem sclone_ok (x : Ext) (hz : 0 < zs.length) (hz2 : zs.length < 9) : EP (EE env) 28 [.sl x zs.length (zcs zs)] = some (.sl .nn zs.length (zcs zs)) := by
  refine Has.eq (EP_has ?_)
  obtain ⟨n, hn⟩ : ∃ n, zs.length = n + 1 := ⟨zs.length - 1, by omega⟩
  have hl := zcs_len zs
  rw [hn]
  cases x
  all_goals
    refine app_plain (m := n + 1) rfl rfl (by rw [hl, hn]) (by omega) (by show (0 + (n + 1)) * 32 ≤ 140737488355328; omega) ?_
    refine Has.intro (Has.intro ?_)
    rw [Nat.zero_add, List.nil_append]
theorem mclone_ok {clk : Nat} {es : List (Nat × PV × PV)} (hm : hget H m = .map clk es) : EE env (.fn 34) [.map m] H = some (.map H.length, H ++ [.map clk es]) := by
  refine Has.eq (EE_has ?_)
  refine bindK_has (v := (.map H.length, H ++ [.map clk es])) (by simp only [primK, hm]) ?_
  exact Has.intro rfl
theorem clone_ok (h : Tb H p zs m L) : ∃ H', EE env (.fn 14) [.ptr p 0] H = some (.ptr (H.length + 1) 0, H') ∧ Kp [] H H' ∧ Tb H' (H.length + 1) zs H.length L ∧ H'.length = H.length + 2 := by
  obtain ⟨x, hx⟩ := h.z.obj
  obtain ⟨clk, E, hm, hst, hpm⟩ := h.map
  have hf := h.z.fit.2
  refine ⟨H ++ [.map clk (E.map ent)] ++ [tobj .nn zs H.length], ?_, ((Kp.refl _ _).app _).app _, ⟨⟨⟨.nn, ?_⟩, h.z.fit⟩, ⟨clk, E, hget_two1 .., hst, hpm⟩, h.keys, h.fair⟩, by simp⟩
  · refine Has.eq (EE_has ?_)
    refine hgetK_has _ hx ?_
    refine callPK_has (sclone_ok x hf.1 hf.2) ?_
    refine hgetK_has _ hx ?_
    refine callSK_has (mclone_ok hm) ?_
    refine Has.intro ?_
    have : H.length + 1 = (H ++ [HObj.map clk (E.map ent)]).length := by simp
    rw [this]; rfl
  · have : H.length + 1 = (H ++ [HObj.map clk (E.map ent)]).length := by simp
    rw [this, hget_append_same]
def Zn.b (z : Zn) (k : Nat) : Int := if k = 0 then z.b0 else z.b1
def Zn.r (z : Zn) (k : Nat) : Int := if k = 0 then z.r0 else z.r1
theorem ok_iff (z : Zn) : z.ok ↔ ∀ k, k < 2 → 0 ≤ z.r k ∧ z.r k ≤ z.b k ∧ z.b k ≤ 1073741824 := by
  unfold Zn.ok
  constructor
  · rintro h k hk
    match k, hk with
    | 0, _ => exact ⟨h.1, h.2.1, h.2.2.1⟩
    | 1, _ => exact ⟨h.2.2.2.1, h.2.2.2.2.1, h.2.2.2.2.2⟩
  · intro h
    have h0 := h 0 (by decide)
    have h1 := h 1 (by decide)
    exact ⟨h0.1, h0.2.1, h0.2.2, h1.1, h1.2.1, h1.2.2⟩
/-- A new table. -/
theorem new_ok (zs : List Zn) (hz : zs.length ≤ 20) (x : Ext) : Has (EE env (.fn 8) [.pv (.sl x zs.length (zcs zs))] H) fun y =>
    Kp [] H y.2 ∧ ((fits zs ∧ H.length + 2 ≤ y.2.length ∧ y.1 = .tup [.ptr (y.2.length - 1) 0, .pv (iv 0)] ∧ Tb y.2 (y.2.length - 1) zs (y.2.length - 2) []) ∨ (¬ fits zs ∧ y.1 = .pv (.tup [.nilp, iv 2]))) := by
  refine EE_has (fn_has rfl ?_)
  refine seq_onK [(0, .pv (.sl x zs.length (zcs zs)))] (fun J => J = H) ?_ (fun r J hJ => ?_)
  · exact Has.intro ⟨rfl, by (repeat (first | exact trivial | refine ⟨rfl, ?_⟩)), rfl⟩
  subst hJ
  refine seq_ifK [(2, .pv .nilp), (3, .pv (iv 2))] (fun J' => J' = J ∧ ¬ fits zs) [(0, .pv (.sl x zs.length (zcs zs)))] (fun J' => J' = J ∧ 0 < zs.length ∧ zs.length < 9) ?_ (fun r J' hJ' => ?_) (fun r J' hJ' => ?_)
  · refine boolK_dec (fun h1 => ?_) (fun h1 => ?_)
    · exact Has.intro (.inl ⟨rfl, by (repeat (first | exact trivial | refine ⟨rfl, ?_⟩)), rfl, fun hf => by have := hf.2.1; omega⟩)
    · refine boolK_dec (fun h2 => ?_) (fun h2 => ?_)
      · exact Has.intro (.inl ⟨rfl, by (repeat (first | exact trivial | refine ⟨rfl, ?_⟩)), rfl, fun hf => by have := hf.2.2; omega⟩)
      · exact Has.intro (.inr ⟨rfl, by (repeat (first | exact trivial | refine ⟨rfl, ?_⟩)), rfl, by omega, by omega⟩)
  · obtain ⟨rfl, hf⟩ := hJ'
    exact Has.intro ⟨Kp.refl _ _, .inr ⟨hf, rfl⟩⟩
  obtain ⟨rfl, hl1, hl2⟩ := hJ'
  refine seq_ifK [(2, .pv .nilp), (3, .pv (iv 2))] (fun J => Kp [] J' J ∧ ¬ fits zs) [(0, .pv (.sl x zs.length (zcs zs)))] (fun J => Kp [] J' J ∧ fits zs) ?_ (fun r J hJ => ?_) (fun r J hJ => ?_)
  · refine loopK_has ?_
    refine iterE_upK zs.length (fun i => [(18, .pv (iv i)), (17, .pv (iv zs.length)), (16, .pv (.sl x zs.length (zcs zs))), (0, .pv (.sl x zs.length (zcs zs)))]) (fun i J => Kp [] J' J ∧ ∀ j z, j < i → zs[j]? = some z → z.ok) (fun i hi r J hJ => ?_) (fun r J hJ => ?_) (by (repeat (first | exact trivial | refine ⟨rfl, ?_⟩))) ⟨Kp.refl _ _, fun j z hj => by omega⟩
    · obtain ⟨k1, k2⟩ := hJ
      refine boolK_dec_t (by omega) ?_
      refine needK_has (by simp; omega) ?_
      refine secK_has (v := zc zs[i]) (zcs_get (List.getElem?_eq_getElem hi)) (by rw [zcs_len]; show i * 4 + 4 ≤ _; omega) ?_
      (repeat (first | refine hgetK_last ?_ | refine hgetK_set ?_ | refine hgetK_two1 ?_ | refine hgetK_two2 ?_ | refine hgetK_two3 ?_ | refine hgetK_two4 ?_ | refine hgetK_two5 ?_ | refine needK_has rfl ?_ | refine getK_has rfl ?_ | refine secK_has rfl (by first | exact Nat.le_refl _ | decide | exact Nat.le_of_ble_eq_true rfl) ?_ | refine eqK_has ?_))
      refine loopK_has ?_
      refine iterE_upK 2 (fun k => [(24, .pv (iv k)), (23, .pv (.agg [iv zs[i].b0, iv zs[i].b1])), (5, .ptr J.length 0), (18, .pv (iv i)), (17, .pv (iv zs.length)), (16, .pv (.sl x zs.length (zcs zs))), (0, .pv (.sl x zs.length (zcs zs)))])
        (fun k J2 => J2 = J ++ [.pcells (zc zs[i])] ∧ ∀ j, j < k → 0 ≤ zs[i].r j ∧ zs[i].r j ≤ zs[i].b j ∧ zs[i].b j ≤ 1073741824) (fun k hk r J2 hJ2 => ?_) (fun r J2 hJ2 => ?_) (by (repeat (first | exact trivial | refine ⟨rfl, ?_⟩))) ⟨hset_last .., fun j hj => by omega⟩
      · obtain ⟨rfl, c⟩ := hJ2
        have bad : ¬ (0 ≤ zs[i].r k ∧ zs[i].r k ≤ zs[i].b k ∧ zs[i].b k ≤ 1073741824) → ¬ fits zs := fun hn hf => hn ((ok_iff _).1 (hf.1 _ (List.getElem_mem hi)) k hk)
        have kJ : Kp [] J' (J ++ [.pcells (zc zs[i])]) := k1.app _
        refine boolK_dec_t (by omega) ?_
        refine needK_has (by simp; omega) ?_
        refine getK_has (v := iv (zs[i].b k)) (by match k, hk with | 0, _ => rfl | 1, _ => rfl) ?_
        refine boolK_dec (fun d1 => ?_) (fun d1 => ?_)
        · exact Has.intro (Has.intro (Has.intro (.inl ⟨rfl, by (repeat (first | exact trivial | refine ⟨rfl, ?_⟩)), kJ, bad fun h => by omega⟩)))
        · refine boolK_dec (fun d2 => ?_) (fun d2 => ?_)
          · exact Has.intro (Has.intro (Has.intro (.inl ⟨rfl, by (repeat (first | exact trivial | refine ⟨rfl, ?_⟩)), kJ, bad fun h => by omega⟩)))
          · refine needK_has (by simp; omega) ?_
            refine hgetK_last ?_
            refine getK_has (v := iv (zs[i].r k)) (by match k, hk with | 0, _ => rfl | 1, _ => rfl) ?_
            refine boolK_dec (fun d3 => ?_) (fun d3 => ?_)
            · exact Has.intro (Has.intro (Has.intro (.inl ⟨rfl, by (repeat (first | exact trivial | refine ⟨rfl, ?_⟩)), kJ, bad fun h => by omega⟩)))
            · refine needK_has (by simp; omega) ?_
              refine hgetK_last ?_
              refine getK_has (v := iv (zs[i].r k)) (by match k, hk with | 0, _ => rfl | 1, _ => rfl) ?_
              refine boolK_dec (fun d4 => ?_) (fun d4 => ?_)
              · exact Has.intro (Has.intro (Has.intro (.inl ⟨rfl, by (repeat (first | exact trivial | refine ⟨rfl, ?_⟩)), kJ, bad fun h => by omega⟩)))
              · refine eqK_has_eq ((k + 1 : Nat) : Int) (i64_succ (by omega)) ?_
                refine Has.intro ⟨by (repeat (first | exact trivial | refine ⟨rfl, ?_⟩)), rfl, fun j hj => ?_⟩
                by_cases hjk : j < k
                · exact c j hjk
                · obtain rfl : j = k := by omega
                  omega
      · obtain ⟨rfl, c⟩ := hJ2
        refine boolK_dec_f (by decide) ?_
        refine Has.intro ?_
        refine eqK_has_eq ((i + 1 : Nat) : Int) (i64_succ (by omega)) ?_
        refine Has.intro ⟨by (repeat (first | exact trivial | refine ⟨rfl, ?_⟩)), k1.app _, fun j z hj hz => ?_⟩
        by_cases hji : j < i
        · exact k2 j z hji hz
        · obtain rfl : j = i := by omega
          rw [List.getElem?_eq_getElem hi] at hz
          injection hz with hz
          rw [← hz]
          exact (ok_iff _).2 c
    · obtain ⟨k1, k2⟩ := hJ
      refine boolK_dec_f (by omega) ?_
      refine Has.intro (Has.intro (.inr ⟨rfl, by (repeat (first | exact trivial | refine ⟨rfl, ?_⟩)), k1, fun z hz => ?_, hl1, hl2⟩))
      obtain ⟨j, hj, rfl⟩ := List.getElem_of_mem hz
      exact k2 j _ hj (List.getElem?_eq_getElem hj)
  · exact Has.intro ⟨hJ.1, .inr ⟨hJ.2, rfl⟩⟩
  obtain ⟨hk, hf⟩ := hJ
  refine callPK_has (sclone_ok x hl1 hl2) ?_
  refine Has.intro ?_
  obtain ⟨G, hG⟩ : ∃ G, G = J ++ [HObj.map 0 []] ++ [tobj .nn zs J.length] := ⟨_, rfl⟩
  have hGl : G.length = J.length + 2 := by rw [hG]; simp
  have hG1 : hget G (J.length + 1) = tobj .nn zs J.length := by
    have : J.length + 1 = (J ++ [HObj.map 0 []]).length := by simp
    rw [hG, this, hget_append_same]
  have hG0 : hget G J.length = .map 0 [] := by rw [hG, hget_two1]
  have hkl := hk.1
  show Kp [] J' (J ++ [HObj.map 0 []] ++ [tobj .nn zs J.length]) ∧ _
  refine ⟨(hk.app _).app _, .inl ⟨hf, ?_, ?_, ?_⟩⟩
  · simp; omega
  · show AV.tup [.ptr (J ++ [HObj.map 0 []]).length 0, .pv (iv 0)] = .tup [.ptr ((J ++ [HObj.map 0 []] ++ [tobj .nn zs J.length]).length - 1) 0, .pv (iv 0)]
    simp
  · show Tb (J ++ [HObj.map 0 []] ++ [tobj .nn zs J.length]) ((J ++ [HObj.map 0 []] ++ [tobj .nn zs J.length]).length - 1) zs ((J ++ [HObj.map 0 []] ++ [tobj .nn zs J.length]).length - 2) []
    rw [← hG, hGl]
    refine ⟨⟨⟨.nn, hG1⟩, hf⟩, ⟨0, [], hG0, ⟨List.nodup_nil, fun e he => (by cases he)⟩, List.Perm.refl _⟩, List.nodup_nil, ⟨fun r hr => (by cases hr), fun r hr => (by cases hr), fun r hr => (by cases hr), fun i k => ?_⟩⟩
    exact (room_bound hf i k).1
end Go.Proofs.Ytkkpkoekbmgabaa
