/-
  Part 4 of an abstract machine that answers as the model does.
  Appending, copying, making, bytes and strings: what the model does.
  Copying, making, bytes and strings, arrays' parts, the least and the most.
  A continuation may be carried out later.
-/
import Derived.Test.YtgfedlikbaailaaV3
import Derived.Laws.BytesString
import Derived.Lib.AppendZerosOnto
import Derived.MapKept
import Derived.RangeFuncRecord
set_option linter.all false
set_option linter.unusedVariables false
set_option linter.unusedSimpArgs false
set_option linter.unusedSectionVars false
namespace Go.VM
open Go

section
variable {Γ : Ctx} {base : Nat} {κ : K} {H : Heap} {w : World}

/-- What an operation's run comes to. -/
def RunOK (Γ : Ctx) (base : Nat) (κ : K) (H : Heap) (w : World) (s : Sem Value) (v : AV) (H' : Heap) : Prop :=
  ∃ v' κ' w', s.run Γ.P w = .ok v' w' ∧ VRel κ' v v' ∧ SRel Γ base κ' H' w' ∧ Grow κ H w κ' H' w'

theorem RunOK.same {s : Sem Value} {v : AV} (hs : SRel Γ base κ H w) (h : ∃ v', s.run Γ.P w = .ok v' w ∧ VRel κ v v') : RunOK Γ base κ H w s v H := by
  obtain ⟨v', h1, h2⟩ := h
  exact ⟨v', κ, w, h1, h2, hs, Grow.refl _ _ _⟩

theorem mostBytes_cap {n bytes : Nat} (h : Nat.ble (n * bytes) mostBytes = true) (hb : 0 < bytes) : n * bytes ≤ 140737488355328 ∧ n ≤ 140737488355328 := by
  have h1 : n * bytes ≤ mostBytes := Nat.le_of_ble_eq_true h
  have h2 : n * 1 ≤ n * bytes := Nat.mul_le_mul_left n hb
  unfold mostBytes at h1
  omega

theorem zeroCells_list (z : Value) (n : Nat) : (Builtin.zeroCells z.cells n).toList = (List.replicate n z.cells.toList).flatten := by
  have := zeros_cells z.cells.toList n
  simpa [Builtin.zeroCells] using this

theorem hset_hget (H : Heap) (t : Nat) : hset H t (hget H t) = H := by
  induction H generalizing t with
  | nil => rfl
  | cons o H ih => cases t with
    | zero => rfl
    | succ t => simp [hset, hget, ih]

/-- What is appended, as the model's builtin takes it. -/
structure AppOps (Γ : Ctx) (w : World) (t u ty e : TypeId) (i : TypeInfo) (z : Value) (vx : Value) (m : Nat) (news : List Value) : Prop where
  ones : Ones news
  idle : m = 0 → ∀ (a : Option Addr) (n cap : Nat), n ≤ cap → (Builtin.append_ #[t, u] ty #[.slice a n cap, vx]).run Γ.P w = .ok (.slice a n cap) w
  grow : news.length = m * i.size → 0 < m → ∀ (a : Option Addr) (n cap : Nat) (olds : List Value), (Builtin.firstCells i.size n (.slice a n cap)).run Γ.P w.drew = .ok olds.toArray w.drew → cap < n + m →
    (n + m) * i.bytes ≤ 140737488355328 → n + m ≤ 140737488355328 → (Builtin.append_ #[t, u] ty #[.slice a n cap, vx]).run Γ.P w = .ok (.slice (some ⟨w.heap.size, 0, none⟩) (n + m) (grownCap w (n + m) cap e))
        (w.drew.alloc (.cells ((olds ++ news).toArray ++ Builtin.zeroCells z.cells (grownCap w (n + m) cap e - (n + m))) e))
  room : news.length = m * i.size → 0 < m → ∀ (k off n cap : Nat) (w' : World), n + m ≤ cap → (storeCells ⟨k, off + n * i.size, none⟩ news).run Γ.P w = .ok () w' →
    (Builtin.append_ #[t, u] ty #[.slice (some ⟨k, off, none⟩) n cap, vx]).run Γ.P w = .ok (.slice (some ⟨k, off, none⟩) (n + m) cap) w'

structure AppSrc (Γ : Ctx) (κ : K) (w : World) (t u ty e : TypeId) (i : TypeInfo) (z : Value) (vx : Value) (m : Nat) (new : List PV) (news : List Value) : Prop extends AppOps Γ w t u ty e i z vx m news where
  rel : PRels κ.imm new news

theorem appOps_of {t u ty e : TypeId} {d : TypeDesc} (ht : Γ.P.underlying t = some (.slice e)) (hu : Γ.P.underlying u = some d) (hd : d = .string ∨ ∃ e', d = .slice e')
    {i : TypeInfo} (hi : Γ.P.info? e = some i) {z : Value} (hzz : i.zero = some z) (hby : 0 < i.bytes) (hd1 : d = .string → i.size = 1)
    {vx : Value} {m : Nat} {news : List Value} (hxs : ((∃ b, vx = .string b) → d = .string) ∧ ((¬ ∃ b, vx = .string b) → ∃ e', d = .slice e')) (hform : SrcForm w vx m news) (hones : Ones news) : AppOps Γ w t u ty e i z vx m news := by
  have srcOf : news.length = m * i.size → Src Γ.P i.size u vx m news w := fun hl => srcForm_src hform hones hl hu hd hd1 hxs.1 hxs.2
  refine ⟨hones, ?_, ?_, ?_⟩
  · intro h0 a n cap hcap
    subst h0
    have hlen : ∀ w' : World, (Builtin.lenOf vx).run Γ.P w' = .ok 0 w' := by
      intro w'
      rcases hform with ⟨b, rfl, _, hb⟩ | ⟨rfl, _, _⟩ | ⟨b, c, rfl, _⟩
      · simp [Builtin.lenOf, ← hb]
      · rfl
      · rfl
    have hfirst : (Builtin.firstCells i.size 0 vx).run Γ.P w = .ok #[] w := by
      rcases hform with ⟨b, rfl, _, hb⟩ | ⟨rfl, _, _⟩ | ⟨b, c, rfl, _⟩
      · simp [Builtin.firstCells]
      · simp [Builtin.firstCells]
      · simp [Builtin.firstCells, loadCells, loadCellsFrom]
    rcases hd with rfl | ⟨e', rfl⟩ <;>
      cases a <;> simp [Builtin.append_, run_underlying ht, run_underlying hu, sizeOf, typeInfo, hi, hlen, hcap, hfirst, storeCells]
  · intro hnl _ a n cap olds hfirst hlt hb hnm
    exact run_append_grow_src (P := Γ.P) w t u ty e i z ht hi hzz a n cap olds hfirst vx m news (srcOf hnl) hlt (by omega) (growslice_fits hlt hb)
  · intro hnl _ k off n cap w' hroom hst
    have hsr := srcOf hnl
    rcases hsr.kind with ⟨e', hk⟩ | hk <;> simp [Builtin.append_, run_underlying ht, run_underlying hk, sizeOf, typeInfo, hi, hsr.len, hroom, hsr.cells, addr_add_lit', hst]

theorem appSrc_of {t u ty e : TypeId} {d : TypeDesc} (ht : Γ.P.underlying t = some (.slice e)) (hu : Γ.P.underlying u = some d) (hd : d = .string ∨ ∃ e', d = .slice e')
    {i : TypeInfo} (hi : Γ.P.info? e = some i) {z : Value} (hzz : i.zero = some z) (hby : 0 < i.bytes) (hd1 : d = .string → i.size = 1)
    {x : AV} {vx : Value} {m : Nat} {new : List PV} {news : List Value} (hxs : ((∃ b, vx = .string b) → d = .string) ∧ ((¬ ∃ b, vx = .string b) → ∃ e', d = .slice e')) (hsrc : SrcRel Γ κ w x vx m new news) : AppSrc Γ κ w t u ty e i z vx m new news :=
  ⟨appOps_of ht hu hd hi hzz hby hd1 hxs hsrc.form hsrc.ones, hsrc.rel⟩

theorem appSrc_zeros {t u ty e : TypeId} {ku : IntKind} (ht : Γ.P.underlying t = some (.slice e)) (hu : Γ.P.underlying u = some (.int ku)) {i : TypeInfo} (hi : Γ.P.info? e = some i) {z : Value} (hzz : i.zero = some z) (hsz : 0 < i.size) (hby : i.bytes ≤ 256)
    {zp : List PV} (hzr : PRels κ.imm zp z.cells.toList) (hz1 : Ones z.cells.toList) {kx : IntKind} {l : Int} (h0 : 0 ≤ l) (h1 : l ≤ 1099511627776) :
    AppSrc Γ κ w t u ty e i z (.int kx l) l.toNat (zerosOf zp l.toNat) (List.replicate l.toNat z.cells.toList).flatten := by
  obtain ⟨m, rfl⟩ : ∃ m : Nat, l = m := ⟨l.toNat, by omega⟩
  rw [Int.toNat_natCast]
  have hw : IntKind.i64.wrap (m : Int) = m := by rw [IntKind.wrap_i64]; omega
  have hneg : ¬ ((m : Int) < 0) := by omega
  have hmb : m * i.bytes ≤ 1099511627776 * 256 := Nat.mul_le_mul (by omega) hby
  have h48i : ¬ (281474976710656 < (m : Int) * (i.bytes : Int)) := by
    rw [← Int.natCast_mul]
    omega
  refine ⟨⟨hz1.flat _, ?_, ?_, ?_⟩, by rw [zerosOf_flat]; exact hzr.flat _⟩
  · intro hm a n cap hcap
    subst hm
    cases a <;> simp [Builtin.append_, run_underlying ht, run_underlying hu, sizeOf, typeInfo, hi, asInt, asIntOf, IntKind.wrap_i64, hcap, storeCells]
  · intro hnl hm a n cap olds hfirst hlt hb hnm
    have hr := Lib.run_append_grow_zeros (P := Γ.P) w t u ty e i z kx ku ht hu hi hzz a n cap olds hfirst m hm hsz hlt (by omega) (by omega) (growslice_fits hlt hb)
    rw [hr]
    congr 3
    apply Array.ext'
    simp [zeroCells_list, List.append_assoc]
  · intro hnl hm k off n cap w' hroom hst
    have hns : ¬ (m * i.size = 0) := Nat.mul_ne_zero (by omega) (by omega)
    have hzc : (Builtin.zeroCells z.cells m).toList = (List.replicate m z.cells.toList).flatten := zeroCells_list z m
    simp [Builtin.append_, run_underlying ht, run_underlying hu, sizeOf, typeInfo, zeroValue, hi, hzz, asInt, asIntOf, hw, hneg, h48i, hroom, hns, hzc, addr_add_lit', hst]

theorem appendTo_rel (hs : SRel Γ base κ H w) {t u ty e : TypeId} {i : TypeInfo} {zp : List PV} (hz : zeroT Γ.P e = some zp) (hi : Γ.P.info? e = some i) (hby : 0 < i.bytes) {mu : Bool}
    {s v : AV} {vs vx : Value} {m : Nat} {new : List PV} {news : List Value} {H' : Heap} (hvs : VRel κ s vs) (hsrc : ∀ z, i.zero = some z → AppSrc Γ κ w t u ty e i z vx m new news)
    (he : appendTo mu i.size i.bytes m new s H (fun v h => some (v, h)) = some (v, H')) : RunOK Γ base κ H w (Builtin.append_ #[t, u] ty #[vs, vx]) v H' := by
  obtain ⟨i', z, hi', hzz, hzr, hz1, hzl⟩ := zeroT_rel (Γ := Γ) (κ := κ) hz
  rw [hi] at hi'; injection hi' with hi'; subst hi'
  have hzs : z.cells.size = i.size := by rw [← Array.length_toList, ← hzr.length]; exact hzl
  have hsrc := hsrc z hzz
  unfold appendTo at he
  -- nothing is appended
  have idle : m = 0 → ∀ (a : Option Addr) (n cap : Nat), vs = .slice a n cap → n ≤ cap → RunOK Γ base κ H w (Builtin.append_ #[t, u] ty #[vs, vx]) s H := by
    intro h0 a n cap hvs' hcap
    exact ⟨vs, κ, w, by rw [hvs']; exact hsrc.idle h0 a n cap hcap, hvs, hs, Grow.refl _ _ _⟩
  have conds : ∀ (n : Nat) (cs : List PV), (Nat.ble ((n + m) * i.bytes) mostBytes && Nat.beq cs.length (mulE n i.size) && Nat.beq new.length (mulE m i.size)) = true →
      (n + m) * i.bytes ≤ 140737488355328 ∧ n + m ≤ 140737488355328 ∧ cs.length = n * i.size ∧ news.length = m * i.size := by
    intro n cs h
    rw [Bool.and_eq_true, Bool.and_eq_true] at h
    obtain ⟨⟨h1, h2⟩, h3⟩ := h
    obtain ⟨a, b⟩ := mostBytes_cap h1 hby
    rw [mulE_eq] at h2 h3
    exact ⟨a, b, Nat.eq_of_beq_eq_true h2, by rw [← hsrc.rel.length]; exact Nat.eq_of_beq_eq_true h3⟩
  -- a row that grows
  have grow : ∀ (a : Option Addr) (n cap : Nat) (olds : List Value), vs = .slice a n cap → olds.length = n * i.size → (Builtin.firstCells i.size n (.slice a n cap)).run Γ.P w.drew = .ok olds.toArray w.drew → cap < n + m → 0 < m →
      (n + m) * i.bytes ≤ 140737488355328 → n + m ≤ 140737488355328 → news.length = m * i.size →
      ∃ cap', n + m ≤ cap' ∧ cap' ≤ maxLen ∧ (Builtin.append_ #[t, u] ty #[vs, vx]).run Γ.P w = .ok (.slice (some ⟨w.heap.size, 0, none⟩) (n + m) cap')
        (w.drew.alloc (.cells ((olds ++ news) ++ (List.replicate (cap' - (n + m)) z.cells.toList).flatten).toArray e)) := by
    intro a n cap olds hvs' hol hfirst hlt hm0 hb hnm hnl
    have hr := hsrc.grow hnl hm0 a n cap olds hfirst hlt hb hnm
    refine ⟨grownCap w (n + m) cap e, grownCap_ge w _ _ _, grownCap_le_maxLen w _ _ _ (by unfold maxLen; omega), ?_⟩
    rw [hvs', hr]
    congr 3
    congr 1
    apply Array.ext'
    simp [zeroCells_list, List.append_assoc]
  split at he
  · rename_i ext n cs
    cases hvs with
    | pv _ _ hps =>
      have idle2 : m = 0 → RunOK Γ base κ H w (Builtin.append_ #[t, u] ty #[vs, vx]) (.pv (.sl ext n cs)) H := by
        intro h0
        cases hps with
        | slNil => exact idle h0 none 0 0 rfl (Nat.le_refl _)
        | sl _ _ _ a cap us h1 h2 h3 h4 h5 h6 => exact idle h0 (some a) n cap rfl h3
      cases hext : ext.noApp with
      | true =>
        rw [hext] at he; simp only [cond_true] at he
        rw [boolK_def] at he
        cases hb : Nat.beq m 0 with
        | false => rw [hb] at he; simp at he
        | true =>
          rw [hb] at he; simp only [cond_true] at he
          injection he with he; injection he with e1 e2; subst e1; subst e2
          exact idle2 (Nat.eq_of_beq_eq_true hb)
      | false =>
        rw [hext] at he; simp only [cond_false] at he
        rw [boolK_def] at he
        cases hb : Nat.beq m 0 with
        | true =>
          rw [hb] at he; simp only [cond_true] at he
          injection he with he; injection he with e1 e2; subst e1; subst e2
          exact idle2 (Nat.eq_of_beq_eq_true hb)
        | false =>
          rw [hb] at he; simp only [cond_false] at he
          obtain ⟨hc, he⟩ := needK_inv he
          rw [eqK_def, eqK_def] at he
          obtain ⟨hb1, hb2, hl1, hl2⟩ := conds n cs hc
          have hm0 : 0 < m := by
            rcases Nat.eq_zero_or_pos m with h | h
            · subst h; simp at hb
            · exact h
          obtain ⟨a, cap, olds, hvs', hol, hrel, hones, hfirst, hlt⟩ : ∃ (a : Option Addr) (cap : Nat) (olds : List Value), vs = .slice a n cap ∧ olds.length = n * i.size ∧ PRels κ.imm cs olds ∧ Ones olds ∧
              (Builtin.firstCells i.size n (.slice a n cap)).run Γ.P w.drew = .ok olds.toArray w.drew ∧ cap < n + m := by
            cases hps with
            | slNil => exact ⟨none, 0, [], rfl, by simp, .nil, .nil, run_firstCells_none w.drew _ _ _ _, by omega⟩
            | sl _ _ _ a cap us h1 h2 h3 h4 h5 h6 =>
              have hcap : cap = n := by
                cases ext with
                | unk => cases hext
                | nn => cases hext
                | exact => exact h2 (.inl rfl)
                | nnx => exact h2 (.inr rfl)
                | nil => exact absurd rfl h1
              have hul : us.length = n * i.size := by rw [← h4.length]; exact hl1
              exact ⟨some a, cap, us, rfl, hul, h4, h6, run_firstCells_some w.drew i.size n a n cap us hul (fun j v hj => by simpa using hs.imm _ _ (h5 j v hj)), by omega⟩
          obtain ⟨cap', g1, g2, hr⟩ := grow a n cap olds hvs' hol hfirst hlt hm0 hb1 hb2 hl2
          have hlen : (olds ++ news).length = (n + m) * i.size := by rw [List.length_append, hol, hl2, Nat.add_mul]
          cases mu with
          | true =>
            simp only [cond_true] at he
            injection he with he; injection he with e1 e2; subst e1; subst e2
            obtain ⟨k1, k2⟩ := (hs.drew).1.newP (cs ++ new) (olds ++ news) ((List.replicate (cap' - (n + m)) z.cells.toList).flatten) e (hrel.append hsrc.rel) (hones.append hsrc.ones)
            exact ⟨_, _, _, hr, .hs _ _ _ _ _ w.heap.size cap' (K.at_same _ _ _) (Nat.le_refl _) g1, k1, (hs.drew).2.trans k2⟩
          | false =>
          simp only [cond_false] at he
          injection he with he; injection he with e1 e2; subst e1; subst e2
          obtain ⟨k1, k2, k3, k4⟩ := SRel.newTok (hs.drew).1 (olds ++ news) ((List.replicate (cap' - (n + m)) z.cells.toList).flatten) e (n + m) i.size cap' hlen (by
            rw [List.length_append, hlen]; simp only [List.length_flatten, List.map_replicate, List.sum_replicate_nat, Array.length_toList, hzs]
            rw [← Nat.add_mul]; congr 1; omega) g2 g1
          refine ⟨_, _, _, hr, ?_, k1, (hs.drew).2.trans k2⟩
          exact .tsl _ _ _ _ _ (olds ++ news) k4 g1 ((hrel.append hsrc.rel).mono k2.le.imm) k3 (hones.append hsrc.ones)
  · rename_i tk n cs
    rw [hgetK_def] at he
    split at he
    · rename_i n' es' hg
      have hq := needK_inv he
      clear he
      obtain ⟨hc0, he⟩ := hq
      rw [Bool.and_eq_true] at hc0
      have hn' : n' = n := Nat.eq_of_beq_eq_true hc0.1
      have hes : es' = i.size := Nat.eq_of_beq_eq_true hc0.2
      subst hn'; subst hes
      obtain ⟨hc, he⟩ := needK_inv he
      rw [eqK_def, eqK_def] at he
      injection he with he; injection he with e1 e2; subst e1; subst e2
      obtain ⟨hb1, hb2, hl1, hl2⟩ := conds n' cs hc
      cases hvs with
      | tsl _ _ _ k cap us h1 h2 h3 h4 h5 =>
        have hul : us.length = n' * i.size := by rw [← h3.length]; exact hl1
        obtain ⟨hbk, hob⟩ := hs.obj tk k (tok_place hg h1)
        rw [hg] at hob
        obtain ⟨cap2, c, e2, q1, q2, q3, q4, q5, q6, q7⟩ := hob
        rw [h1] at q1; injection q1 with q1; injection q1 with _ q1; subst q1
        have hcell : ∀ (j : Nat) (v : Value), us[j]? = some v → w.cell? ((⟨k, 0, none⟩ : Addr).add j) = some v := fun j v hj => by
          rw [addr_add_lit]; exact hs.imm _ _ (h4 j v hj)
        rcases Nat.eq_zero_or_pos m with hm0 | hm0
        · -- nothing comes
          subst hm0
          obtain ⟨v', κ', w', r1, r2, r3, r4⟩ := idle rfl (some ⟨k, 0, none⟩) n' cap rfl h2
          have hnn : new = [] := by
            have := hsrc.rel.length; rw [hl2] at this; simpa using this
          subst hnn
          have hH : hset H tk (.tok (n' + 0) i.size) = H := by
            rw [Nat.add_zero, ← hg]
            exact hset_hget H tk
          rw [hH]
          exact ⟨v', κ', w', r1, by simpa using r2, r3, r4⟩
        · by_cases hroom : n' + m ≤ cap
          · have hmul : (n' + m) * i.size ≤ cap * i.size := Nat.mul_le_mul_right _ hroom
            have hmul2 : (n' + m) * i.size = n' * i.size + m * i.size := Nat.add_mul _ _ _
            obtain ⟨k1, k2, k3, k4⟩ := SRel.roomTok hs hg h1 q2 q3 q4 hroom hl2 hm0 q6 q7
            have hst := run_storeCells_at Γ.P k (n' * i.size) e2 news 0 c.toArray w q2 (by simp; omega) hsrc.ones
            refine ⟨.slice (some ⟨k, 0, none⟩) (n' + m) cap, _, _, ?_, ?_, k1, k2⟩
            · simp only [Nat.add_zero] at hst
              exact hsrc.room hl2 hm0 k 0 n' cap _ hroom (by rw [Nat.zero_add]; exact hst)
            · have hle := k2.le
              refine .tsl _ _ _ _ _ (us ++ news) k4 hroom ((h3.append hsrc.rel).mono hle.imm) (fun j v hj => ?_) (h5.append hsrc.ones)
              rw [List.getElem?_append] at hj
              split at hj
              · exact hle.imm _ _ (h4 j v hj)
              · rename_i hge
                have := k3 (j - us.length) v hj
                rwa [show n' * i.size + (j - us.length) = j from by omega] at this
          · have hfirst := run_firstCells_some (P := Γ.P) w.drew i.size n' ⟨k, 0, none⟩ n' cap us hul (fun j v hj => by simpa using hcell j v hj)
            obtain ⟨cap', g1, g2, hr⟩ := grow (some ⟨k, 0, none⟩) n' cap us rfl hul hfirst (by omega) hm0 hb1 hb2 hl2
            have hlen : (us ++ news).length = (n' + m) * i.size := by rw [List.length_append, hul, hl2, Nat.add_mul]
            obtain ⟨k1, k2, k3, k4⟩ := SRel.moveTok (hs.drew).1 hg h1 q7 (us ++ news) ((List.replicate (cap' - (n' + m)) z.cells.toList).flatten) e (n' + m) cap' (by omega) hlen (by
              rw [List.length_append, hlen]; simp only [List.length_flatten, List.map_replicate, List.sum_replicate_nat, Array.length_toList, hzs]
              rw [← Nat.add_mul]; congr 1; omega) g2 g1
            refine ⟨_, _, _, hr, ?_, k1, (hs.drew).2.trans k2⟩
            exact .tsl _ _ _ _ _ (us ++ news) k4 g1 ((h3.append hsrc.rel).mono k2.le.imm) k3 (h5.append hsrc.ones)
    · cases he
  · rename_i es' id off n cap
    have hq := needK_inv he
    clear he
    obtain ⟨hc0, he⟩ := hq
    rw [Bool.and_eq_true] at hc0
    have hes : es' = i.size := Nat.eq_of_beq_eq_true hc0.1
    have hcap := Nat.le_of_ble_eq_true hc0.2
    subst hes
    rw [hgetK_def] at he
    split at he
    · rename_i cs hg
      have hq := needK_inv he
      clear he
      obtain ⟨hc, he⟩ := hq
      simp only [eqK_def, mulE_eq] at he
      injection he with he; injection he with e1 e2
      subst e1; subst e2
      rw [Bool.and_eq_true] at hc
      have hle := Nat.le_of_ble_eq_true hc.1
      rw [mulE_eq] at hle
      have hnl : news.length = m * i.size := by rw [← hsrc.rel.length, ← mulE_eq]; exact Nat.eq_of_beq_eq_true hc.2
      cases hvs with
      | hs _ _ _ _ _ k cap' hl h2 h3 =>
        obtain ⟨c, rest, e', hw, hr, hones, _⟩ := (ptr_cells hs hl).1 cs hg
        have hmul : (n + m) * i.size = n * i.size + m * i.size := Nat.add_mul _ _ _
        have hcl := hr.length
        have hst := run_storeCells_at Γ.P k (off + n * i.size) e' news 0 (c ++ rest).toArray w hw (by
          simp only [List.size_toArray, List.length_append]; omega) hsrc.ones
        have t1 : (c ++ rest).take (off + n * i.size) = c.take (off + n * i.size) := by rw [List.take_append_of_le_length (by omega)]
        have t2 : (c ++ rest).drop (off + n * i.size + m * i.size) = c.drop (off + n * i.size + m * i.size) ++ rest := by rw [List.drop_append_of_le_length (by omega)]
        simp only [Nat.add_zero, hnl] at hst
        rw [t1, t2, ← List.append_assoc] at hst
        obtain ⟨g1, g2⟩ := hs.write hl (.inr ⟨cs, hg⟩) hw (.inr ⟨_, rfl, hr.splice hsrc.rel (off + n * i.size) (m * i.size)⟩) (hones.splice hsrc.ones (off + n * i.size) (m * i.size))
        rw [show off + (n + m) * i.size = off + n * i.size + m * i.size by omega]
        refine ⟨.slice (some ⟨k, off, none⟩) (n + m) cap', κ, _, ?_, .hs _ _ _ _ _ _ _ hl hcap h3, g1, g2⟩
        rcases Nat.eq_zero_or_pos m with hm0 | hm0
        · subst hm0
          have hnn : news = [] := by simpa using hnl
          subst hnn
          have h0 : (storeCells ⟨k, off + n * i.size, none⟩ ([] : List Value)).run Γ.P w = .ok () w := rfl
          have h4 := h0.symm.trans hst
          injection h4 with _ h4
          rw [← h4]
          exact hsrc.idle rfl (some ⟨k, off, none⟩) n cap' (by omega)
        · exact hsrc.room hnl hm0 k off n cap' _ (by omega) hst
    · cases he
  · cases he
/-- A row that may be written grows. -/
theorem growK_rel (hs : SRel Γ base κ H w) {t u ty e : TypeId} {i : TypeInfo} {zp : List PV} (hz : zeroT Γ.P e = some zp) (hi : Γ.P.info? e = some i) (hby : 0 < i.bytes)
    {s x v : AV} {vs vx : Value} {H' : Heap} (hvs : VRel κ s vs)
    (hA : ∀ (m : Nat) (F : List AV → Option (AV × Heap)) (y : AV × Heap), srcLen x = some m → srcA H x F = some y → ∃ new news, F new = some y ∧ VRels κ new news ∧ ∀ z, i.zero = some z → AppOps Γ w t u ty e i z vx m news)
    (he : growK i.size i.bytes s x H (fun v h => some (v, h)) = some (v, H')) : RunOK Γ base κ H w (Builtin.append_ #[t, u] ty #[vs, vx]) v H' := by
  obtain ⟨i', z, hi', hzz, hzr, hz1, hzl⟩ := zeroT_rel (Γ := Γ) (κ := κ) hz
  rw [hi] at hi'; injection hi' with hi'; subst hi'
  have hzs : z.cells.size = i.size := by rw [← Array.length_toList, ← hzr.length]; exact hzl
  unfold growK at he
  split at he
  · rename_i id n
    cases hm : srcLen x with
    | none => rw [hm] at he; cases he
    | some m =>
      rw [hm] at he; dsimp only at he
      obtain ⟨new, news, he, hrel, O⟩ := hA m _ _ hm he
      have O := O z hzz
      have hones := O.ones
      rw [hgetK_def] at he
      cases hg : hget H id with
      | row n' es cs =>
        rw [hg] at he; dsimp only [rowK] at he
        obtain ⟨hc, he⟩ := needK_inv he
        simp only [eqK_def] at he
        injection he with he; injection he with e1 e2; subst e1; subst e2
        simp only [Bool.and_eq_true] at hc
        obtain ⟨⟨⟨⟨⟨c1, c2⟩, c3⟩, c4⟩, c5⟩, c6⟩ := hc
        have := Nat.eq_of_beq_eq_true c1; subst this
        have := Nat.eq_of_beq_eq_true c2; subst this
        have hm0 : 0 < m := blt_lt c3
        obtain ⟨hb1, hb2⟩ := mostBytes_cap c4 hby
        rw [mulE_eq] at c5 c6
        have hcl := Nat.eq_of_beq_eq_true c5
        have hnl := Nat.eq_of_beq_eq_true c6
        cases hvs with
        | gs _ _ k cap htl hcap =>
          obtain ⟨hp, c, rest, e2, hw, q2, q3, q4, q5, q6, q7, q8, q9⟩ := row_cells hs hg htl
          have hcc : c.length = n' * i.size := by rw [← q6.length]; exact hcl
          have hnn : news.length = m * i.size := by rw [← hrel.length]; exact hnl
          have hmul2 : (n' + m) * i.size = n' * i.size + m * i.size := Nat.add_mul _ _ _
          by_cases hroom : n' + m ≤ cap
          · have hmul : (n' + m) * i.size ≤ cap * i.size := Nat.mul_le_mul_right _ hroom
            rw [List.length_append] at q2
            have hst := run_storeCells_at Γ.P k (n' * i.size) e2 news 0 (c ++ rest).toArray w hw (by simp; omega) hones
            simp only [Nat.add_zero] at hst
            have t1 : (c ++ rest).take (n' * i.size) = c := by rw [← hcc]; simp
            have t2 : (c ++ rest).drop (n' * i.size + news.length) = rest.drop news.length := by rw [← hcc, List.drop_append]; simp
            rw [t1, t2] at hst
            obtain ⟨g1, g2⟩ := hs.growRow (w' := w.setRow k ((c ++ news) ++ rest.drop news.length).toArray) (k1 := k) (cap' := cap) (n' := n' + m) (cs' := cs ++ new) (c' := c ++ news) (rest' := rest.drop news.length) (e := e2) hg htl (by omega) ⟨rfl, rfl, rfl, by show w.heap.size ≤ (w.setRow k ((c ++ news) ++ rest.drop news.length).toArray).heap.size; simp⟩
              (fun j _ hj => setRow_other w k j _ hj) (.inl rfl) (setRow_heap w k _ _ e2 _ hw) (by simp only [List.length_append, List.length_drop]; omega) q3 hroom (by rw [List.length_append]; omega) (q6.append hrel) (q7.append hones)
            exact ⟨_, _, _, O.room hnn hm0 k 0 n' cap _ hroom (by rw [Nat.zero_add]; exact hst), .gs _ _ k cap (K.tok_same _ _ _ _) hroom, g1, g2⟩
          · have hfirst := run_firstCells_some (P := Γ.P) w.drew i.size n' ⟨k, 0, none⟩ n' cap c hcc (fun j v hj => by
              rw [addr_add_lit]
              have hcj : w.cell? ⟨k, j, none⟩ = some v := cell_at hw (app_get hj)
              simpa using hcj)
            have hr := O.grow hnn hm0 (some ⟨k, 0, none⟩) n' cap c hfirst (by omega) hb1 hb2
            have hge := grownCap_ge w (n' + m) cap e
            have hle := grownCap_le_maxLen w (n' + m) cap e (by unfold maxLen; omega)
            generalize grownCap w (n' + m) cap e = cap' at hr hge hle
            have hr2 : (Builtin.append_ #[t, u] ty #[.slice (some ⟨k, 0, none⟩) n' cap, vx]).run Γ.P w = .ok (.slice (some ⟨w.heap.size, 0, none⟩) (n' + m) cap')
                (w.drew.alloc (.cells ((c ++ news) ++ (List.replicate (cap' - (n' + m)) z.cells.toList).flatten).toArray e)) := by
              rw [hr]
              congr 3
              congr 1
              apply Array.ext'
              simp [zeroCells_list, List.append_assoc]
            obtain ⟨g1, g2⟩ := (hs.drew).1.growRow (k1 := w.heap.size) (cap' := cap') (n' := n' + m) (cs' := cs ++ new) (c' := c ++ news) (rest' := (List.replicate (cap' - (n' + m)) z.cells.toList).flatten) (e := e) hg htl (by omega)
              (Same.alloc w.drew _) (fun j hj _ => heap_alloc_old w.drew _ j hj) (.inr (Nat.le_refl _)) (heap_alloc_new w.drew _) (by
                rw [List.length_append, List.length_append, hcc, hnn]; simp only [List.length_flatten, List.map_replicate, List.sum_replicate_nat, Array.length_toList, hzs]
                rw [← Nat.add_mul, ← Nat.add_mul]; congr 1; omega) hle hge (by rw [List.length_append]; omega) (q6.append hrel) (q7.append hones)
            exact ⟨_, _, _, hr2, .gs _ _ w.heap.size cap' (K.tok_same _ _ _ _) hge, g1, (hs.drew).2.trans g2⟩
      | _ => rw [hg] at he; cases he
  · cases he
theorem append_rel (hs : SRel Γ base κ H w) {t u ty e : TypeId} {d : TypeDesc} (ht : Γ.P.underlying t = some (.slice e)) (hu : Γ.P.underlying u = some d) (hd : d = .string ∨ ∃ e', d = .slice e')
    {i : TypeInfo} (hi : Γ.P.info? e = some i) {zp : List PV} (hz : zeroT Γ.P e = some zp) (hby : 0 < i.bytes) {mu : Bool} (hd1 : d = .string → i.size = 1)
    {s x v : AV} {vs vx : Value} {H' : Heap} (hvs : VRel κ s vs) (hvx : VRel κ x vx) (hxs : ((∃ b, vx = .string b) → d = .string) ∧ ((¬ ∃ b, vx = .string b) → ∃ e', d = .slice e'))
    (he : appendK mu i.size i.bytes s x H (fun v h => some (v, h)) = some (v, H')) : RunOK Γ base κ H w (Builtin.append_ #[t, u] ty #[vs, vx]) v H' := by
  unfold appendK at he
  cases hgs : s.isGs with
  | true =>
    rw [hgs] at he; simp only [cond_true] at he
    refine growK_rel hs hz hi hby hvs (fun m F y hm hF => ?_) he
    obtain ⟨new, news, h1, h2, h3, h4, _⟩ := srcA_inv hs hvx hm hF
    exact ⟨new, news, h1, h2, fun z hzz => appOps_of ht hu hd hi hzz hby hd1 hxs h4 h3⟩
  | false =>
  rw [hgs] at he; simp only [cond_false] at he
  cases hm : srcLen x with
  | none => rw [hm] at he; simp at he
  | some m =>
    rw [hm] at he; simp only at he
    obtain ⟨new, news, he, hsrc, hhs⟩ := srcK_inv hs hvx hm he
    exact appendTo_rel hs hz hi hby hvs (fun z hzz => appSrc_of ht hu hd hi hzz hby hd1 hxs hsrc) he
theorem append_zero_rel (hs : SRel Γ base κ H w) {t u ty e : TypeId} {ku : IntKind} (ht : Γ.P.underlying t = some (.slice e)) (hu : Γ.P.underlying u = some (.int ku))
    {i : TypeInfo} (hi : Γ.P.info? e = some i) {zp : List PV} (hz : zeroT Γ.P e = some zp) (hby : 0 < i.bytes) (hsz : 0 < i.size) (hb2 : i.bytes ≤ 256) {mu : Bool}
    {s v : AV} {vs : Value} {kx : IntKind} {l : Int} {H' : Heap} (hvs : VRel κ s vs) (h0 : 0 ≤ l) (h1 : l ≤ 1099511627776)
    (he : appendK mu i.size i.bytes s (.pv (.sl .nnx l.toNat (zerosOf zp l.toNat))) H (fun v h => some (v, h)) = some (v, H')) : RunOK Γ base κ H w (Builtin.append_ #[t, u] ty #[vs, .int kx l]) v H' := by
  obtain ⟨i', z, hi', hzz, hzr, hz1, hzl⟩ := zeroT_rel (Γ := Γ) (κ := κ) hz
  rw [hi] at hi'; injection hi' with hi'; subst hi'
  unfold appendK at he
  cases hgs : s.isGs with
  | true =>
    rw [hgs] at he; simp only [cond_true] at he
    refine growK_rel hs hz hi hby hvs (fun m F y hm hF => ?_) he
    simp [srcLen] at hm; subst hm
    have A := appSrc_zeros (Γ := Γ) (κ := κ) (w := w) (ty := ty) ht hu hi hzz hsz hb2 hzr hz1 (kx := kx) h0 h1
    exact ⟨_, _, hF, VRels.of_pv A.rel, fun z' hz' => by rw [hzz] at hz'; injection hz' with hz'; subst hz'; exact A.toAppOps⟩
  | false =>
  rw [hgs] at he; simp only [cond_false] at he
  refine appendTo_rel (news := (List.replicate l.toNat z.cells.toList).flatten) hs hz hi hby hvs (fun z' hz' => ?_) he
  rw [hzz] at hz'; injection hz' with hz'; subst hz'
  exact appSrc_zeros ht hu hi hzz hsz hb2 hzr hz1 h0 h1
/-- The zeros that are made are not kept: a row with room is what is left. -/
theorem append_room_rel (hs : SRel Γ base κ H w) {t u ty e : TypeId} {ku : IntKind} (ht : Γ.P.underlying t = some (.slice e)) (hu : Γ.P.underlying u = some (.int ku))
    {i : TypeInfo} (hi : Γ.P.info? e = some i) {zp : List PV} (hz : zeroT Γ.P e = some zp) (hby : 0 < i.bytes) (hsz : 0 < i.size) (hb2 : i.bytes ≤ 256)
    {ext : Ext} {vs : Value} {kx : IntKind} {l : Int} (hvs : VRel κ (.pv (.sl ext 0 [])) vs) (h0 : 0 < l) (h1 : l ≤ 1099511627776) (hext : ext.noApp = false) (hb : (0 + l.toNat) * i.bytes ≤ 140737488355328) :
    RunOK Γ base κ H w (Builtin.append_ #[t, u] ty #[vs, .int kx l]) (.zsl H.length l.toNat) (H ++ [.tok 0 i.size]) := by
  obtain ⟨i', z, hi', hzz, hzr, hz1, hzl⟩ := zeroT_rel (Γ := Γ) (κ := κ) hz
  rw [hi] at hi'; injection hi' with hi'; subst hi'
  have hzs : z.cells.size = i.size := by rw [← Array.length_toList, ← hzr.length]; exact hzl
  have hsrc := appSrc_zeros (w := w) (ty := ty) (kx := kx) ht hu hi hzz hsz hb2 hzr hz1 (Int.le_of_lt h0) h1
  have hm0 : 0 < l.toNat := by omega
  have hnl : ((List.replicate l.toNat z.cells.toList).flatten).length = l.toNat * i.size := by
    simp only [List.length_flatten, List.map_replicate, List.sum_replicate_nat, Array.length_toList, hzs]
  obtain ⟨a, cap, hvs', hfirst, hlt⟩ : ∃ (a : Option Addr) (cap : Nat), vs = .slice a 0 cap ∧ (Builtin.firstCells i.size 0 (.slice a 0 cap)).run Γ.P w.drew = .ok ([] : List Value).toArray w.drew ∧ cap < 0 + l.toNat := by
    cases hvs with
    | pv _ _ hps =>
      cases hps with
      | slNil => exact ⟨none, 0, rfl, run_firstCells_none w.drew _ _ _ _, by omega⟩
      | sl _ _ _ a cap us g1 g2 g3 g4 g5 g6 =>
        have hcap : cap = 0 := by
          cases ext with
          | unk => cases hext
          | nn => cases hext
          | exact => exact g2 (.inl rfl)
          | nnx => exact g2 (.inr rfl)
          | nil => exact absurd rfl g1
        exact ⟨some a, cap, rfl, run_firstCells_some w.drew i.size 0 a 0 cap [] (by simp) (fun j v hj => by simp at hj), by omega⟩
  have hr := hsrc.grow hnl hm0 a 0 cap [] hfirst hlt hb (by omega)
  have g1 := grownCap_ge w (0 + l.toNat) cap e
  have g2 := grownCap_le_maxLen w (0 + l.toNat) cap e (by unfold maxLen; omega)
  generalize hcp : grownCap w (0 + l.toNat) cap e = cap' at *
  have hblk : (([] ++ (List.replicate l.toNat z.cells.toList).flatten).toArray ++ Builtin.zeroCells z.cells (cap' - (0 + l.toNat))) = (([] : List Value) ++ ((List.replicate l.toNat z.cells.toList).flatten ++ (List.replicate (cap' - (0 + l.toNat)) z.cells.toList).flatten)).toArray := by
    apply Array.ext'
    simp [zeroCells_list]
  rw [hblk] at hr
  obtain ⟨k1, k2, k3, k4⟩ := SRel.newTok (hs.drew).1 ([] : List Value) ((List.replicate l.toNat z.cells.toList).flatten ++ (List.replicate (cap' - (0 + l.toNat)) z.cells.toList).flatten) e 0 i.size cap' (by simp) (by
    rw [List.nil_append, List.length_append, hnl]
    simp only [List.length_flatten, List.map_replicate, List.sum_replicate_nat, Array.length_toList, hzs]
    rw [← Nat.add_mul]; congr 1; omega) g2 (Nat.zero_le _)
  rw [hvs']
  have e0 : 0 + l.toNat = l.toNat := Nat.zero_add _
  refine ⟨_, _, _, hr, ?_, k1, (hs.drew).2.trans k2⟩
  rw [e0]
  exact .zsl _ _ _ _ k4 (by omega)
end
end Go.VM

namespace Go.VM
open Go

section
variable {Γ : Ctx} {base : Nat} {κ : K} {H : Heap} {w : World}

theorem SRel.newRow' (h : SRel Γ base κ H w) {w' : World} (hsame : Same w w') (hold : ∀ k, k < w.heap.size → w'.heap[k]? = w.heap[k]?) (c : List Value) {e : TypeId} {fr : Nat × Nat} (hnew : w'.heap[w.heap.size]? = some (.cells c.toArray e fr)) :
    SRel Γ base (κ.keep w.heap.size c.length c) H w' ∧ Grow κ H w (κ.keep w.heap.size c.length c) H w' ∧
      ∀ (j : Nat) (v : Value), c[j]? = some v → (κ.keep w.heap.size c.length c).imm ((⟨w.heap.size, 0, none⟩ : Addr).add j) = some v := by
  have hg := h.turnNone (κ' := κ.keep w.heap.size c.length c) hsame (κ.le_keep _ _ _) rfl rfl hold (fun a v hv => by
    rcases K.keep_some hv with h1 | ⟨h1, h2, _, h4⟩
    · exact .inl h1
    · refine .inr ⟨by omega, ?_⟩
      unfold World.cell?
      rw [h1, hnew]
      simp [h2, h4])
  refine ⟨hg.1, hg.2, fun j v hv => ?_⟩
  rw [addr_add_lit]
  exact K.keep_at (h.imm_none _ (by simp)) (List.getElem?_eq_some_iff.1 hv).1 hv

theorem freeze_new (w : World) (c : Array Value) (e : TypeId) : (w.alloc (.cells c e)).freeze ⟨w.heap.size, c.size, none⟩ 1 = w.alloc (.cells c e (c.size, c.size + 1)) := by
  unfold World.freeze World.alloc
  simp only [Nat.one_ne_zero, if_false]
  congr 1
  apply Array.ext
  · simp
  · intro i h1 h2
    simp only [Array.getElem_modify, Array.getElem_push]
    split
    · rename_i hi
      subst hi
      simp
    · rename_i hi
      have : i < w.heap.size := by simp at h2; omega
      simp [this]

theorem run_newRow' (P : Program) (w : World) (e : TypeId) (c : Array Value) : (newRow e c).run P w = .ok ⟨w.heap.size, 0, none⟩ (w.alloc (.cells c e)) := rfl
theorem run_markStringish (P : Program) (w : World) (a : Addr) {t : TypeId} {n : Nat} (h : w.shape? a.block = some (t, n)) : (markStringish a).run P w = .ok () (w.freeze ⟨a.block, n, none⟩ 1) := by
  have e : (markStringish a).run P w = (match w.shape? a.block with | some (_, n) => freeze { block := a.block, off := n } 1 | _ => pure () : Sem Unit).run P w := rfl
  rw [e, h]
  rfl
theorem shape_new (w : World) (c : Array Value) (e : TypeId) (fr : Nat × Nat) : (w.alloc (.cells c e fr)).shape? w.heap.size = some (e, c.size) := by
  unfold World.shape?
  rw [heap_alloc_new]

theorem freeze_at {w : World} {k n : Nat} {c : Array Value} {e : TypeId} (h : w.heap[k]? = some (.cells c e (0, 0))) :
    (w.freeze ⟨k, n, none⟩ 1).heap[k]? = some (.cells c e (n, n + 1)) ∧ (∀ j, j ≠ k → (w.freeze ⟨k, n, none⟩ 1).heap[j]? = w.heap[j]?) ∧ Same w (w.freeze ⟨k, n, none⟩ 1) := by
  unfold World.freeze
  simp only [Nat.one_ne_zero, if_false]
  refine ⟨?_, fun j hj => ?_, rfl, rfl, rfl, by simp⟩
  · simp [Array.getElem?_modify, h]
  · simp [Array.getElem?_modify, Ne.symm hj]

/-- A block that is written no more. -/
theorem SRel.retire (h : SRel Γ base κ H w) {id k : Nat} (hl : κ.loc id = some k) {cs : List PV} (hg : hget H id = .pcells cs) :
    ∃ (c rest : List Value) (e : TypeId), w.heap[k]? = some (.cells (c ++ rest).toArray e (0, 0)) ∧ PRels κ.imm cs c ∧ Ones c ∧
      SRel Γ base (κ.keep k c.length c) (hset H id .dead) (w.freeze ⟨k, (c ++ rest).length, none⟩ 1) ∧ Grow κ H w (κ.keep k c.length c) (hset H id .dead) (w.freeze ⟨k, (c ++ rest).length, none⟩ 1) ∧
      ∀ (j : Nat) (v : Value), c[j]? = some v → (κ.keep k c.length c).imm ⟨k, j, none⟩ = some v := by
  have hp : place κ id (hget H id) = some k := by rw [hg]; exact hl
  obtain ⟨_, ho⟩ := h.obj id k hp
  rw [hg] at ho
  obtain ⟨c, rest, e, hw, hr, himm, hones⟩ := ho
  obtain ⟨f1, f2, f3⟩ := freeze_at (n := (c ++ rest).length) hw
  have hcell : ∀ a : Addr, a.block ≠ k → (w.freeze ⟨k, (c ++ rest).length, none⟩ 1).cell? a = w.cell? a := fun a ha => by
    unfold World.cell?; rw [f2 _ ha]
  obtain ⟨g1, g2⟩ := h.turnOne (κ' := κ.keep k c.length c) id .dead k k f3 (κ.le_keep _ _ _) hp rfl (fun _ _ => rfl) (fun j _ hj => f2 j hj)
    (fun a v hv => by
      rcases K.keep_some hv with h1 | ⟨h1, h2, h3, h4⟩
      · have hne : a.block ≠ k := fun e => by rw [himm a e] at h1; cases h1
        exact ⟨(hcell a hne).trans (h.imm a v h1), .inl h1⟩
      · refine ⟨?_, .inr (.inr h1)⟩
        unfold World.cell?
        rw [h1, f1]
        have h5 : (c ++ rest)[a.off]? = some v := by rw [List.getElem?_append_left h3]; exact h4
        simpa [h2] using h5)
    (fun k' hk' => by cases hk') (.inl rfl) trivial
  exact ⟨c, rest, e, hw, hr, hones, g1, g2, fun j v hv => K.keep_at (himm _ rfl) (List.getElem?_eq_some_iff.1 hv).1 hv⟩

/-- The same, the world as it was. -/
theorem SRel.retire' (h : SRel Γ base κ H w) {id k : Nat} (hl : κ.loc id = some k) {cs : List PV} (hg : hget H id = .pcells cs) :
    ∃ (c rest : List Value) (e : TypeId), w.heap[k]? = some (.cells (c ++ rest).toArray e (0, 0)) ∧ PRels κ.imm cs c ∧ Ones c ∧
      SRel Γ base (κ.keep k c.length c) (hset H id .dead) w ∧ Grow κ H w (κ.keep k c.length c) (hset H id .dead) w ∧
      ∀ (j : Nat) (v : Value), c[j]? = some v → (κ.keep k c.length c).imm ⟨k, j, none⟩ = some v := by
  have hp : place κ id (hget H id) = some k := by rw [hg]; exact hl
  obtain ⟨_, ho⟩ := h.obj id k hp
  rw [hg] at ho
  obtain ⟨c, rest, e, hw, hr, himm, hones⟩ := ho
  obtain ⟨g1, g2⟩ := h.turnOne (κ' := κ.keep k c.length c) id .dead k k (Same.refl w) (κ.le_keep _ _ _) hp rfl (fun _ _ => rfl) (fun _ _ _ => rfl)
    (fun a v hv => by
      rcases K.keep_some hv with h1 | ⟨h1, h2, h3, h4⟩
      · exact ⟨h.imm a v h1, .inl h1⟩
      · refine ⟨?_, .inr (.inr h1)⟩
        unfold World.cell?
        rw [h1, hw]
        have h5 : (c ++ rest)[a.off]? = some v := by rw [List.getElem?_append_left h3]; exact h4
        simpa [h2] using h5)
    (fun k' hk' => by cases hk') (.inl rfl) trivial
  exact ⟨c, rest, e, hw, hr, hones, g1, g2, fun j v hv => K.keep_at (himm _ rfl) (List.getElem?_eq_some_iff.1 hv).1 hv⟩

theorem bytesOf_rel (hs : SRel Γ base κ H w) (e : TypeId) (s : ByteArray) : RunOK Γ base κ H w (Conv.stringToBytes e s) (.pv (.sl .nn s.size (bytesCells s))) H := by
  have hcap := grownCap_ge w s.size 0 e
  obtain ⟨c, hcd⟩ : ∃ c : List Value, c = byteCells s ++ List.replicate (grownCap w s.size 0 e - s.size) (.int .u8 0) := ⟨_, rfl⟩
  have hc : (s.data.map (fun b => Value.int .u8 b.toNat) ++ Array.replicate (grownCap w s.size 0 e - s.size) (Value.int .u8 0)) = c.toArray := by
    apply Array.ext'; simp [hcd, byteCells]
  have hrun : (Conv.stringToBytes e s).run Γ.P w = .ok (.slice (some ⟨w.heap.size, 0, none⟩) s.size (grownCap w s.size 0 e)) (w.drew.alloc (.cells c.toArray e (c.toArray.size, c.toArray.size + 1))) := by
    have h1 : (choose (.appendCap s.size 0 e)).run Γ.P w = .ok (grownCap w s.size 0 e) w.drew := rfl
    have h2 := run_newRow' Γ.P w.drew e c.toArray
    have h3 := run_markStringish Γ.P (w.drew.alloc (.cells c.toArray e)) ⟨w.drew.heap.size, 0, none⟩ (shape_new w.drew c.toArray e _)
    simp only [Conv.stringToBytes, Sem.run_bind, h1, Result.andThen_ok, hc, h2, h3, Sem.run_pure]
    rw [freeze_new w.drew c.toArray e]
    rfl
  obtain ⟨g1, g2, g3⟩ := hs.newRow' (w' := w.drew.alloc (.cells c.toArray e (c.toArray.size, c.toArray.size + 1))) ⟨rfl, rfl, rfl, by simp⟩ (fun k hk => heap_alloc_old w.drew _ k hk) c (heap_alloc_new w.drew _)
  refine ⟨_, _, _, hrun, .pv _ _ (.sl .nn _ _ _ _ (byteCells s) (by simp) (by simp) hcap (bytesCells_rel _ s) (fun j v hj => g3 j v ?_) (byteCells_ones s)), g1, g2⟩
  rw [hcd]
  exact app_get hj

theorem strOfCells_inv {I : Imm} : ∀ (cs : List PV) (vs : List Value) (l : List UInt8), PRels I cs vs → strOfCells cs = some l → ∃ ns : List Int, vs = ns.map (Value.int .u8) ∧ l = ns.map fun n => UInt8.ofNat n.toNat := by
  intro cs
  induction cs with
  | nil => intro vs l h he; cases h; simp [strOfCells] at he; subst he; exact ⟨[], rfl, rfl⟩
  | cons p cs ih =>
    intro vs l h he
    cases h with
    | cons _ v _ vs hp hr =>
      cases p with
      | int k n =>
        cases k <;> simp only [strOfCells] at he <;> try (cases he; done)
        simp only [Option.map_eq_some_iff] at he
        obtain ⟨l', h1, rfl⟩ := he
        obtain ⟨ns, rfl, rfl⟩ := ih vs l' hr h1
        cases hp
        exact ⟨n :: ns, rfl, rfl⟩
      | _ => simp [strOfCells] at he
theorem push_fold (ns : List Int) : ∀ (s : ByteArray), ns.foldl (fun r n => r.push (UInt8.ofNat n.toNat)) s = ⟨s.data ++ (ns.map fun n => UInt8.ofNat n.toNat).toArray⟩ := by
  induction ns with
  | nil => intro s; simp
  | cons n ns ih =>
    intro s
    rw [List.foldl_cons, ih]
    congr 1
    apply Array.ext'
    simp [ByteArray.push]
theorem strOf_rel (hs : SRel Γ base κ H w) {x : AV} {vx : Value} (hx : VRel κ x vx) (hns : ∀ s, x ≠ .pv (.str s)) {n : Nat} (hn : srcLen x = some n) {v : AV}
    (he : srcK H x (fun cs => needK (Nat.beq cs.length n) (bindK (strOfCells cs) fun l => some (AV.pv (.str ⟨l.toArray⟩)))) = some v) :
    ∃ v', (Conv.bytesToString vx).run Γ.P w = .ok v' w ∧ VRel κ v v' := by
  have hq0 := srcK_inv hs hx hn he
  clear he
  obtain ⟨new, news, he, hsrc, _⟩ := hq0
  have hq0 := needK_inv he
  clear he
  obtain ⟨hl, he⟩ := hq0
  rw [bindK_def] at he
  cases hq : strOfCells new with
  | none => rw [hq] at he; simp at he
  | some l =>
    rw [hq] at he; simp only [Option.bind_some] at he
    injection he with he; subst he
    obtain ⟨ns, rfl, rfl⟩ := strOfCells_inv _ _ _ hsrc.rel hq
    have hlen : ns.length = n := by
      have := hsrc.rel.length
      rw [Nat.eq_of_beq_eq_true hl] at this
      simpa using this.symm
    rcases hsrc.form with ⟨s, rfl, _, _⟩ | ⟨rfl, _, h2⟩ | ⟨a, c, rfl, hc⟩
    · exfalso
      cases hx with
      | pv p _ hp => cases hp with | str s => exact hns _ rfl
    · have : ns = [] := by simpa using h2
      subst this
      exact ⟨_, rfl, .pv _ _ (.str _)⟩
    · have hload := run_loadCells_list (P := Γ.P) w a (ns.map (Value.int .u8)) hc
      rw [List.length_map, hlen] at hload
      refine ⟨_, run_bytesToString w a n c ns hload, ?_⟩
      rw [push_fold]
      have e : (⟨ByteArray.empty.data ++ (ns.map fun n => UInt8.ofNat n.toNat).toArray⟩ : ByteArray) = ⟨(ns.map fun n => UInt8.ofNat n.toNat).toArray⟩ := by
        congr 1
        apply Array.ext'
        simp [ByteArray.empty, ByteArray.emptyWithCapacity]
        try rfl
      rw [e]
      exact .pv _ _ (.str _)

theorem minmax_rel (mx : Bool) : ∀ (l : List AV) (vs : List Value) (k : IntKind) (a : Int) (v : AV), VRels κ l vs → minmaxK mx a k l (fun p => some (AV.pv p)) = some v →
    ∃ v', (vs.foldlM (if mx then Builtin.max2 else Builtin.min2) (.int k a)).run Γ.P w = .ok v' w ∧ VRel κ v v' := by
  intro l
  induction l with
  | nil =>
    intro vs k a v h he
    cases h
    simp [minmaxK] at he; subst he
    exact ⟨.int k a, by simp, .pv _ _ (.int _ _)⟩
  | cons x l ih =>
    intro vs k a v h he
    cases h with
    | cons _ u _ us hx hr =>
      cases x with
      | pv p =>
        cases p with
        | int k2 b =>
          have := int_rel hx
          subst this
          simp only [minmaxK, eqK_def] at he
          obtain ⟨v', h1, h2⟩ := ih us k _ v hr he
          refine ⟨v', ?_, h2⟩
          rw [List.foldlM_cons]
          cases mx
          · simp only [Builtin.min2, Sem.run_bind, Sem.run_pure, Result.andThen_ok, Bool.false_eq_true, if_false] at h1 ⊢
            exact h1
          · simp only [Builtin.max2, Sem.run_bind, Sem.run_pure, Result.andThen_ok, if_true] at h1 ⊢
            exact h1
        | _ => simp [minmaxK] at he
      | _ => simp [minmaxK] at he

theorem wrap_small {n : Int} (h0 : 0 ≤ n) (h1 : n ≤ 9223372036854775807) : IntKind.i64.wrap n = n := by
  unfold IntKind.wrap
  simp only [IntKind.bits, IntKind.signed, Bool.true_and, Nat.reduceSub, Int.reducePow]
  have e : n % 18446744073709551616 = n := Int.emod_eq_of_lt h0 (by omega)
  simp only [e]
  split
  · rename_i h; simp at h; omega
  · rfl

theorem mkSlice_rel {t e : TypeId} (ht : Γ.P.underlying t = some (.slice e)) {i : TypeInfo} (hi : Γ.P.info? e = some i) {zp : List PV} (hz : zeroT Γ.P e = some zp) (hby : i.bytes ≤ 256)
    {l c : Int} {k k' : IntKind} (h0 : 0 ≤ l) (hlc : l ≤ c) (hc : c ≤ 1099511627776) :
    ∃ (cs : List Value), PRels κ.imm (zerosOf zp c.toNat) cs ∧ Ones cs ∧ (Instr.makeSlice t (.int k l) (.int k' c)).run Γ.P w = .ok (.slice (some ⟨w.heap.size, 0, none⟩) l.toNat c.toNat) (w.alloc (.cells cs.toArray e)) := by
  obtain ⟨i', z, hi', hzz, hzr, hz1, hzl⟩ := zeroT_rel (Γ := Γ) (κ := κ) hz
  rw [hi] at hi'; injection hi' with hi'; subst hi'
  have hzs : z.cells.size = i.size := by rw [← Array.length_toList, ← hzr.length]; exact hzl
  refine ⟨(List.replicate c.toNat z.cells.toList).flatten, by rw [zerosOf_flat]; exact hzr.flat _, hz1.flat _, ?_⟩
  have w1 := wrap_small h0 (by omega)
  have w2 := wrap_small (n := c) (by omega) (by omega)
  have hbc : (i.bytes : Int) * c ≤ 281474976710656 := by
    have : (i.bytes : Int) * c ≤ 256 * c := Int.mul_le_mul_of_nonneg_right (by omega) (by omega)
    omega
  have t1 : ¬ (c < 0 ∨ (i.bytes : Int) * c > 281474976710656) := by omega
  have hcells : (((Array.range (c.toNat * i.size)).map fun j => (if c.toNat * i.size = 0 then (#[] : Array Value) else z.cells)[j % (if c.toNat * i.size = 0 then (#[] : Array Value) else z.cells).size]!)) = ((List.replicate c.toNat z.cells.toList).flatten).toArray := by
    by_cases hz0 : c.toNat * i.size = 0
    · rw [hz0]
      apply Array.ext'
      have : (List.replicate c.toNat z.cells.toList).flatten = [] := by
        apply List.eq_nil_of_length_eq_zero
        simp [hzs, hz0]
      rw [this]
      simp
    · simp only [hz0, if_false]
      apply Array.ext'
      have := zeros_cells z.cells.toList c.toNat
      simp only [Array.length_toList, hzs, Array.toArray_toList] at this
      rw [hzs, this]
  have hask : ∀ n (w : World), (askRoom n).run Γ.P w = .ok () w := by
    intro n w
    unfold askRoom
    split <;> rfl
  simp only [Instr.makeSlice, Sem.run_bind, run_underlying ht, Result.andThen_ok, asInt, asIntOf, Sem.run_pure, run_typeInfo w hi, w1, w2]
  have c1 : (decide (c < 0) || decide ((i.bytes : Int) * c > 2 ^ 48) || decide (l < 0) || decide (l > c)) = false := by
    simp only [Bool.or_eq_false_iff, decide_eq_false_iff_not]
    omega
  have hsz : sizeT Γ.P e = some i.size := by simp [sizeT, hi]
  have hzv : (zeroValue e).run Γ.P w = .ok z w := run_zeroValue' hi hzz
  simp only [c1, Bool.false_eq_true, if_false, Sem.run_bind, hask, Result.andThen_ok, run_sizeOf' hsz]
  by_cases hz0 : c.toNat * i.size = 0
  · simp only [hz0, if_true] at hcells ⊢
    simp only [Sem.run_bind, Sem.run_pure, Result.andThen_ok, run_newRow', hcells]
  · simp only [hz0, if_false] at hcells ⊢
    simp only [Sem.run_bind, Sem.run_pure, Result.andThen_ok, hzv, run_newRow', hcells]

theorem firstCells_take {size n m : Nat} {x : AV} {vx : Value} {new : List PV} {news : List Value} (h : SrcRel Γ κ w x vx m new news) (hl : news.length = m * size) (hn : n ≤ m) (h1 : (∃ s, vx = .string s) → size = 1) :
    (Builtin.firstCells size n vx).run Γ.P w = .ok (news.take (n * size)).toArray w := by
  rcases h.form with ⟨s, rfl, rfl, rfl⟩ | ⟨rfl, rfl, rfl⟩ | ⟨a, c, rfl, hc⟩
  · have := h1 ⟨s, rfl⟩
    subst this
    simp only [Builtin.firstCells, Sem.run_pure]
    congr 1
    apply Array.ext'
    simp [byteCells, ByteArray.data_extract]
  · have : n = 0 := by omega
    subst this
    simp [Builtin.firstCells]
  · have hle : n * size ≤ m * size := Nat.mul_le_mul_right _ hn
    have := run_loadCells_list (P := Γ.P) w a (news.take (n * size)) (fun j v hj => by
      rw [List.getElem?_take] at hj
      split at hj
      · exact hc j v hj
      · cases hj)
    rw [List.length_take, Nat.min_eq_left (by omega)] at this
    simpa [Builtin.firstCells] using this

theorem copy_rel (hs : SRel Γ base κ H w) {t u ty e : TypeId} {es : Nat} (ht : Γ.P.underlying t = some (.slice e)) (hn : sizeT Γ.P e = some es) {d s v : AV} {vd vs : Value} {H' : Heap} (hd : VRel κ d vd) (hsv : VRel κ s vs)
    (hstr : (∃ b, vs = .string b) → es = 1) (he : copyK es d s H (fun v h => some (v, h)) = some (v, H')) : RunOK Γ base κ H w (Builtin.copy_ #[t, u] ty #[vd, vs]) v H' := by
  unfold copyK at he
  split at he
  · rename_i es' id off n cap
    cases hd with
    | hs _ _ _ _ _ k cap' hl h2 h3 =>
      cases hm : srcLen s with
      | none => rw [hm] at he; simp at he
      | some m =>
        rw [hm] at he; simp only at he
        have hq := srcK_inv hs hsv hm he
        clear he
        obtain ⟨new, news, he, hsrc, _⟩ := hq
        rw [hgetK_def] at he
        split at he
        · rename_i cs hg
          have hq := needK_inv he
          clear he
          obtain ⟨hc, he⟩ := hq
          rw [eqK_def, eqK_def] at he
          simp only [mulE_eq] at he
          injection he with he; injection he with e1 e2
          subst e1; subst e2
          rw [Bool.and_eq_true] at hc
          have hle := Nat.le_of_ble_eq_true hc.1
          have hnl : news.length = m * es := by rw [← hsrc.rel.length, ← mulE_eq]; exact Nat.eq_of_beq_eq_true hc.2
          obtain ⟨c, rest, e', hw, hr, hones, _⟩ := (ptr_cells hs hl).1 cs hg
          have hmul : min m n * es ≤ n * es := Nat.mul_le_mul_right _ (Nat.min_le_right _ _)
          have hmul2 : min m n * es ≤ m * es := Nat.mul_le_mul_right _ (Nat.min_le_left _ _)
          have htl : (news.take (min m n * es)).length = min m n * es := by rw [List.length_take]; omega
          have hf := firstCells_take hsrc hnl (Nat.min_le_left m n) hstr
          have hst := run_storeCells_at Γ.P k off e' (news.take (min m n * es)) 0 (c ++ rest).toArray w hw (by
            have := hr.length
            simp only [List.size_toArray, List.length_append]; omega) (hsrc.ones.take _)
          have hcl := hr.length
          have t1 : (c ++ rest).take off = c.take off := by rw [List.take_append_of_le_length (by omega)]
          have t2 : (c ++ rest).drop (off + min m n * es) = c.drop (off + min m n * es) ++ rest := by rw [List.drop_append_of_le_length (by omega)]
          simp only [Nat.add_zero, htl] at hst
          rw [t1, t2, ← List.append_assoc] at hst
          obtain ⟨g1, g2⟩ := hs.write hl (.inr ⟨cs, hg⟩) hw (.inr ⟨_, rfl, hr.splice (hsrc.rel.take (min m n * es)) off (min m n * es)⟩) (hones.splice (hsrc.ones.take _) off (min m n * es))
          have hlen : (Builtin.lenOf vs).run Γ.P w = .ok m w := by
            rcases hsrc.form with ⟨s, rfl, _, rfl⟩ | ⟨rfl, rfl, _⟩ | ⟨a, c, rfl, _⟩ <;> rfl
          refine ⟨.int .i64 (min m n : Nat), κ, _, ?_, .pv _ _ (.int _ _), g1, g2⟩
          have hmin : Nat.min m n = min m n := rfl
          rw [List.append_assoc, List.append_assoc] at hst
          simp [Builtin.copy_, run_underlying ht, hlen, run_sizeOf' hn, hmin, hf, hst, goInt]
        · cases he
  · rename_i ext n cs
    cases hm : srcLen s with
    | none => rw [hm] at he; simp at he
    | some m =>
      rw [hm] at he; simp only at he
      have hq := srcK_inv hs hsv hm he
      clear he
      obtain ⟨new, news, he, hsrc, _⟩ := hq
      have hq := needK_inv he
      clear he
      obtain ⟨hc, he⟩ := hq
      rw [Bool.and_eq_true] at hc
      have hn0 := Nat.eq_of_beq_eq_true hc.1
      subst hn0
      injection he with he; injection he with e1 e2
      subst e1; subst e2
      have hnl : news.length = m * es := by rw [← hsrc.rel.length, ← mulE_eq]; exact Nat.eq_of_beq_eq_true hc.2
      have hf := firstCells_take hsrc hnl (Nat.zero_le m) hstr
      have hlen : (Builtin.lenOf vs).run Γ.P w = .ok m w := by
        rcases hsrc.form with ⟨s, rfl, _, rfl⟩ | ⟨rfl, rfl, _⟩ | ⟨a, c, rfl, _⟩ <;> rfl
      obtain ⟨a, cap, hvd⟩ : ∃ a cap, vd = .slice a 0 cap := by
        cases hd with
        | pv _ _ hp =>
          cases hp with
          | slNil => exact ⟨_, _, rfl⟩
          | sl => exact ⟨_, _, rfl⟩
      refine ⟨.int .i64 0, κ, w, ?_, .pv _ _ (.int _ _), hs, Grow.refl _ _ _⟩
      rw [hvd]
      simp only [Nat.zero_mul, List.take_zero] at hf
      cases a <;> simp [Builtin.copy_, run_underlying ht, hlen, run_sizeOf' hn, hf, goInt, storeCells]
  · cases he

theorem sliceA_rel {t e : TypeId} {len es : Nat} (ht : Γ.P.underlying t = some (.array len e)) (hn : sizeT Γ.P e = some es) {x : AV} {vx : Value} (hx : VRel κ x vx)
    {lo hi : Option AV} {vlo vhi : Option Value} (hl : ORel κ lo vlo) (hh : ORel κ hi vhi) {v : AV}
    (he : (match x with
      | .ptr id o => boundK hi len len fun hb => boundK lo 0 hb fun l => needK (Nat.blt l len || Nat.beq l 0) (some (AV.hs es id (addO o (mulE l es)) (hb - l) (len - l)))
      | _ => none) = some v) : ∃ v', (Instr.sliceAt t vx vlo vhi none).run Γ.P w = .ok v' w ∧ VRel κ v v' := by
  cases hx with
  | ptr id o k hk =>
    simp only at he
    obtain ⟨h, l, hlh, hhn, _, hF, hr⟩ := run_bounds (Γ := Γ) (w := w) hl hh false (Nat.le_refl len) rfl he
    obtain ⟨hb, hF⟩ := needK_inv hF
    simp only [mulE_eq, addO_eq] at hF
    injection hF with hF; subst hF
    have hor : l < len ∨ l = 0 := by
      rw [Bool.or_eq_true] at hb
      rcases hb with hb | hb
      · exact .inl (blt_lt hb)
      · exact .inr (Nat.eq_of_beq_eq_true hb)
    refine ⟨.slice (some (if len = l then ⟨k, o, none⟩ else (⟨k, o, none⟩ : Addr).add (l * es))) (h - l) (len - l), ?_, ?_⟩
    · simp [Instr.sliceAt, run_underlying ht, Instr.sureAddr, hr, run_sizeOf' hn]
    · by_cases hml : len = l
      · rw [if_pos hml]
        have : l = 0 := by omega
        subst this
        simpa using VRel.hs (κ := κ) es id o (h - 0) (len - 0) k (len - 0) hk (by omega) (Nat.le_refl _)
      · rw [if_neg hml, addr_add_lit']
        exact .hs _ _ _ _ _ k _ hk (by omega) (Nat.le_refl _)
  | _ => simp at he

theorem sliceStr_rel {t : TypeId} (ht : Γ.P.underlying t = some .string) {x : AV} {vx : Value} (hx : VRel κ x vx) {lo hi : Option AV} {vlo vhi : Option Value} (hl : ORel κ lo vlo) (hh : ORel κ hi vhi) {v : AV}
    (he : sliceStrK x lo hi (fun v => some v) = some v) : ∃ v', (Instr.sliceAt t vx vlo vhi none).run Γ.P w = .ok v' w ∧ VRel κ v v' := by
  unfold sliceStrK at he
  split at he
  · rename_i s
    have := str_rel hx
    subst this
    obtain ⟨h, l, hlh, hhn, _, hF, hr⟩ := run_bounds (Γ := Γ) (w := w) hl hh false (Nat.le_refl s.size) rfl he
    rw [eqK_def] at hF
    injection hF with hF; subst hF
    refine ⟨.string (s.extract l h), ?_, .pv _ _ (.str _)⟩
    simp [Instr.sliceAt, run_underlying ht, Instr.slice, hr]
  · cases he

noncomputable def toArrV (n : Nat) (x : AV) : Option AV := match x with
  | .pv (.sl e m cs) => (match e with | .nil => none | _ => needK (Nat.ble n m && Nat.blt 0 n) (some (AV.rptr cs 0)))
  | .tsl _ m cs => needK (Nat.ble n m) (some (AV.rptr cs 0))
  | .hs _ id off m _ => needK (Nat.ble n m) (some (AV.ptr id off))
  | _ => none

theorem toArr_rel {t e : TypeId} {n : Nat} (ht : Γ.P.underlying t = some (.array n e)) {x : AV} {vx : Value} (hx : VRel κ x vx) {v : AV}
    (he : toArrV n x = some v) : ∃ v', (Instr.arrayAt t vx).run Γ.P w = .ok v' w ∧ VRel κ v v' := by
  have go : ∀ (a : Option Addr) (m cap : Nat), vx = .slice a m cap → n ≤ m → (Instr.arrayAt t vx).run Γ.P w = .ok (.pointer a) w := by
    intro a m cap e hle
    subst e
    have : ¬ m < n := by omega
    simp [Instr.arrayAt, run_underlying ht, this]
  unfold toArrV at he
  split at he
  · rename_i e m cs
    cases hx with
    | pv _ _ hx =>
      split at he
      · cases he
      · obtain ⟨hc, he⟩ := needK_inv he
        injection he with he; subst he
        rw [Bool.and_eq_true] at hc
        have h1 := Nat.le_of_ble_eq_true hc.1
        have h2 := blt_lt hc.2
        cases hx with
        | slNil => omega
        | sl _ _ _ a cap vs g1 g2 g3 g4 g5 g6 =>
          refine ⟨_, go _ _ _ rfl h1, ?_⟩
          have := VRel.rptr (κ := κ) cs 0 a vs g4 g5 g6
          simpa [Addr.add] using this
  · rename_i tk m cs
    obtain ⟨hc, he⟩ := needK_inv he
    injection he with he; subst he
    cases hx with
    | tsl _ _ _ k cap vs h1 h2 h3 h4 h5 =>
      refine ⟨_, go _ _ _ rfl (Nat.le_of_ble_eq_true hc), ?_⟩
      have := VRel.rptr (κ := κ) cs 0 ⟨k, 0, none⟩ vs h3 (fun j v hj => by rw [addr_add_lit]; exact h4 j v hj) h5
      simpa [Addr.add] using this
  · rename_i es id off m cap
    obtain ⟨hc, he⟩ := needK_inv he
    injection he with he; subst he
    cases hx with
    | hs _ _ _ _ _ k cap' h1 h2 h3 => exact ⟨_, go _ _ _ rfl (Nat.le_of_ble_eq_true hc), .ptr _ _ _ h1⟩
  · cases he

/-! ### maps -/
theorem keyT_desc {P : Program} {t : TypeId} {kk : SK} (h : keyT P t = some kk) : ∃ d, P.underlying t = some d ∧ ((kk = .i ∧ ∃ k, d = .int k) ∨ (kk = .s ∧ d = .string) ∨ (kk = .b ∧ d = .bool)) := by
  unfold keyT at h
  split at h
  · rename_i k hu; injection h with h; exact ⟨_, hu, .inl ⟨h.symm, k, rfl⟩⟩
  · rename_i hu; injection h with h; exact ⟨_, hu, .inr (.inl ⟨h.symm, rfl⟩)⟩
  · rename_i hu; injection h with h; exact ⟨_, hu, .inr (.inr ⟨h.symm, rfl⟩)⟩
  · cases h
theorem run_checkKeyN {t : TypeId} {kk : SK} (h : keyT Γ.P t = some kk) (b : Bool) (v : Value) (n : Nat) : (Instr.checkKey b (n + 1) t v).run Γ.P w = .ok () w := by
  obtain ⟨d, hu, hd⟩ := keyT_desc h
  rcases hd with ⟨_, k, rfl⟩ | ⟨_, rfl⟩ | ⟨_, rfl⟩ <;> simp [Instr.checkKey, run_underlying hu]
theorem run_checkKey {t : TypeId} {kk : SK} (h : keyT Γ.P t = some kk) (b : Bool) (v : Value) : (Instr.checkKey b 10000 t v).run Γ.P w = .ok () w := run_checkKeyN h b v 9999
theorem obind_inv {α β : Type} {x : Option α} {F : α → Option β} {y : β} (h : x.bind F = some y) : ∃ p, x = some p ∧ F p = some y := by
  cases x with
  | none => cases h
  | some p => exact ⟨p, rfl, h⟩
theorem ba_eq {a b : ByteArray} (h : (a == b) = true) : a = b := by
  have h2 : (a.data == b.data) = true := h
  have h3 := eq_of_beq h2
  cases a; cases b
  simp only at h3
  rw [h3]
theorem ba_self (a : ByteArray) : (a == a) = true := by
  show (a.data == a.data) = true
  exact beq_self_eq_true _
theorem keyEq_now {I : Imm} {kk : SK} {d : TypeDesc} (hd : (kk = .i ∧ ∃ k, d = .int k) ∨ (kk = .s ∧ d = .string) ∨ (kk = .b ∧ d = .bool)) {k q : PV} {kv qv : Value} (h1 : PRel I k kv) (h2 : PRel I q qv) {b : Bool} (h : keyEq kk k q = some b) :
    Instr.sameNow d kv qv = some b ∧ (b = true → ∀ n, Instr.sameBits (n + 1) qv kv = true) := by
  rcases hd with ⟨rfl, ik, rfl⟩ | ⟨rfl, rfl⟩ | ⟨rfl, rfl⟩
  · cases h1 <;> try (cases h; done)
    cases h2 <;> try (cases h; done)
    rename_i k a k' a'
    have hi : (bif kindEq k k' then some (a == a') else none) = some b := h
    cases hk : kindEq k k' with
    | false => rw [hk] at hi; cases hi
    | true =>
      rw [hk] at hi
      have := kindEq_eq hk
      subst this
      have hq : some (a == a') = some b := hi
      have hq := Option.some.inj hq
      refine ⟨by simp only [Instr.sameNow, if_true, hq], fun hb n => ?_⟩
      subst hb
      have e := eq_of_beq hq
      subst e
      simp [Instr.sameBits]
  · cases h1 <;> try (cases h; done)
    cases h2 <;> try (cases h; done)
    have h := Option.some.inj h
    refine ⟨by simp only [Instr.sameNow, h], fun hb n => ?_⟩
    subst hb
    have e := ba_eq h
    subst e
    simp only [Instr.sameBits, ba_self]
  · cases h1 <;> try (cases h; done)
    cases h2 <;> try (cases h; done)
    have h := Option.some.inj h
    refine ⟨by simp only [Instr.sameNow, h], fun hb n => ?_⟩
    subst hb
    have e := eq_of_beq h
    subst e
    simp [Instr.sameBits]
/-- What a key's place is in the model. -/
theorem mapFind_now {I : Imm} {kk : SK} {d : TypeDesc} (hd : (kk = .i ∧ ∃ k, d = .int k) ∨ (kk = .s ∧ d = .string) ∨ (kk = .b ∧ d = .bool)) {k : PV} {kv : Value} (h1 : PRel I k kv) {es : List (PV × PV)} {l : List MapEntry} (hm : MRels I es l) :
    ∀ {i : Nat} {f : Option (Nat × PV)}, mapFind kk k es i = some f → match f with
      | none => Instr.findNow d kv l i = some none
      | some x => ∃ e, i ≤ x.1 ∧ l[x.1 - i]? = some e ∧ PRel I x.2 e.val ∧ Instr.findNow d kv l i = some (some (x.1, e.val)) ∧ ∀ n, Instr.sameBits (n + 1) e.key kv = true := by
  induction hm with
  | nil => intro i f h; simp [mapFind] at h; subst h; rfl
  | cons q v e es l g1 g2 _ ih =>
    intro i f h
    simp only [mapFind] at h
    cases hq : keyEq kk k q with
    | none => rw [hq] at h; cases h
    | some b =>
      obtain ⟨e1, e2⟩ := keyEq_now hd h1 g1 hq
      rw [hq] at h
      cases b with
      | true =>
        injection h with h; subst h
        exact ⟨e, Nat.le_refl _, by simp, g2, by simp [Instr.findNow, e1], e2 rfl⟩
      | false =>
        simp only at h
        have := ih h
        cases f with
        | none => simpa [Instr.findNow, e1] using this
        | some x =>
          obtain ⟨e', a1, a2, a3, a4, a5⟩ := this
          refine ⟨e', by omega, ?_, a3, by simpa [Instr.findNow, e1] using a4, a5⟩
          rw [show x.1 - i = (x.1 - (i + 1)) + 1 by omega, List.getElem?_cons_succ]; exact a2
theorem zeroPV_rel {t : TypeId} {p : PV} (h : zeroPV Γ.P t = some p) : ∃ i z, Γ.P.info? t = some i ∧ i.zero = some z ∧ PRel κ.imm p z := by
  unfold zeroPV at h
  split at h
  · rename_i i hi
    split at h
    · rename_i z hz
      exact ⟨i, z, hi, hz, constPV_rel κ.imm h⟩
    · cases h
  · cases h
theorem lookV_rel {I : Imm} {ok : Bool} {z : PV} {f : Option (Nat × PV)} {zv : Value} (hz : PRel I z zv) {fv : Option Value} (hf : match f with | none => fv = none | some x => ∃ u, fv = some u ∧ PRel I x.2 u) :
    PRel I (lookV ok z f) (if ok then .tuple #[fv.getD zv, .bool fv.isSome] else fv.getD zv) := by
  cases f with
  | none =>
    simp only at hf; subst hf
    cases ok
    · simpa [lookV] using hz
    · exact .tup [z, .bool false] [zv, .bool false] (.cons _ _ _ _ hz (.cons _ _ _ _ (.bool _) .nil))
  | some x =>
    obtain ⟨u, rfl, hu⟩ := hf
    cases ok
    · simpa [lookV] using hu
    · exact .tup [x.2, .bool true] [u, .bool true] (.cons _ _ _ _ hu (.cons _ _ _ _ (.bool _) .nil))
theorem look_rel (hs : SRel Γ base κ H w) {t kt et : TypeId} (ht : Γ.P.underlying t = some (.map kt et)) {kk : SK} (hk : keyT Γ.P kt = some kk) {z : PV} (hz : zeroPV Γ.P et = some z) {ok : Bool}
    {x k : AV} {vx vk : Value} (hx : VRel κ x vx) (hkv : VRel κ k vk) {v : AV} (he : lookK ok kk z x k H (fun p => some (AV.pv p)) = some v) : ∃ v', (Instr.lookup t vx vk ok).run Γ.P w = .ok v' w ∧ VRel κ v v' := by
  obtain ⟨i, zv, hi, hzz, hzr⟩ := zeroPV_rel (Γ := Γ) (κ := κ) hz
  obtain ⟨d, hu, hd⟩ := keyT_desc hk
  have hzv : (zeroValue et).run Γ.P w = .ok zv w := run_zeroValue' hi hzz
  unfold lookK at he
  split at he
  · rename_i id
    split at he
    · rename_i k
      rw [hgetK_def] at he
      split at he
      · rename_i es hg
        rw [bindK_def] at he
        obtain ⟨f, hf, he⟩ := obind_inv he
        injection he with he; subst he
        cases hx with
        | map _ kb hl =>
          obtain ⟨_, hob⟩ := hs.obj id kb (by rw [hg]; exact hl)
          rw [hg] at hob
          obtain ⟨ents, clock, hw, hm⟩ := hob
          cases hkv with
          | pv _ _ hkp =>
            have hfn := mapFind_now hd hkp hm hf
            refine ⟨_, ?_, .pv _ _ (lookV_rel (fv := match f with | none => none | some x => (ents.toList[x.1]?).map (·.val)) hzr ?_)⟩
            · cases f with
              | none =>
                simp only at hfn
                cases ok <;> simp [Instr.lookup, run_underlying ht, MapKept.run_getObj_map hw, run_checkKey hk, Instr.findKey, run_underlying hu, hfn, hzv]
              | some x =>
                obtain ⟨e, a1, a2, a3, a4, a5⟩ := hfn
                rw [Nat.sub_zero] at a2
                cases ok <;> simp [Instr.lookup, run_underlying ht, MapKept.run_getObj_map hw, run_checkKey hk, Instr.findKey, run_underlying hu, a4, a2]
            · cases f with
              | none => rfl
              | some x =>
                obtain ⟨e, a1, a2, a3, a4, a5⟩ := hfn
                rw [Nat.sub_zero] at a2
                exact ⟨e.val, by simp only [a2]; rfl, a3⟩
      · cases he
    · cases he
  · injection he with he; subst he
    cases hx with
    | pv _ _ hp =>
      cases hp
      refine ⟨_, ?_, .pv _ _ (lookV_rel (f := none) (fv := none) hzr rfl)⟩
      cases ok <;> simp [Instr.lookup, run_underlying ht, run_checkKey hk, Instr.findKey, run_underlying hu, Instr.findNow, hzv]
  · cases he

theorem MRels.set {I : Imm} {es : List (PV × PV)} {l : List MapEntry} (hm : MRels I es l) {k v : PV} {e' : MapEntry} (h1 : PRel I k e'.key) (h2 : PRel I v e'.val) : ∀ i : Nat, MRels I (es.set i (k, v)) (l.set i e') := by
  induction hm with
  | nil => intro i; exact .nil
  | cons q u e es l g1 g2 g3 ih =>
    intro i
    cases i with
    | zero => exact .cons _ _ _ _ _ h1 h2 g3
    | succ i => exact .cons _ _ _ _ _ g1 g2 (ih i)
theorem MRels.push {I : Imm} {es : List (PV × PV)} {l : List MapEntry} (hm : MRels I es l) {k v : PV} {e' : MapEntry} (h1 : PRel I k e'.key) (h2 : PRel I v e'.val) : MRels I (es ++ [(k, v)]) (l ++ [e']) := by
  induction hm with
  | nil => exact .cons _ _ _ _ _ h1 h2 .nil
  | cons q u e es l g1 g2 g3 ih => exact .cons _ _ _ _ _ g1 g2 ih
theorem modify_list {es : Array MapEntry} {i : Nat} {e : MapEntry} (h : es.toList[i]? = some e) (f : MapEntry → MapEntry) : (es.modify i f).toList = es.toList.set i (f e) := by
  apply List.ext_getElem?
  intro j
  rw [Array.getElem?_toList, Array.getElem?_modify, List.getElem?_set]
  have hl : i < es.toList.length := (List.getElem?_eq_some_iff.1 h).1
  by_cases hij : i = j
  · subst hij
    rw [Array.getElem?_toList] at h
    simp only [h, if_true, hl, Option.map]
  · simp [hij]
/-- A map turns. -/
theorem SRel.mapTurn (h : SRel Γ base κ H w) {id l : Nat} {es es' : List (PV × PV)} {a a' : Array MapEntry} {c c' : Nat} (hl : κ.loc id = some l) (hg : hget H id = .map es) (hL : w.heap[l]? = some (.map a c)) (ho : MRels κ.imm es' a'.toList) :
    SRel Γ base κ (hset H id (.map es')) (w.putObj l (.map a' c')) ∧ Grow κ H w κ (hset H id (.map es')) (w.putObj l (.map a' c')) := by
  have hlt : l < w.heap.size := (Array.getElem?_eq_some_iff.1 hL).1
  refine h.turnOne id (.map es') l l ⟨rfl, rfl, rfl, by simp⟩ κ.le_refl (by rw [hg]; exact hl) rfl (fun _ _ => rfl) (fun k _ hne => World.putObj_heap_other hne) (fun a v hv => ?_) (fun k hk => ?_) (.inl rfl) ?_
  · have hne : a.block ≠ l := fun e => by
      have hc := h.imm a v hv
      unfold World.cell? at hc
      rw [e, hL] at hc
      simp at hc
    exact ⟨(World.cell?_of_block (World.putObj_heap_other hne)).trans (h.imm a v hv), .inl hv⟩
  · simp only [place] at hk; rw [hl] at hk; exact (Option.some.inj hk).symm
  · exact ⟨a', c', World.putObj_heap_same hlt, ho⟩
theorem upd_rel (hs : SRel Γ base κ H w) {t kt et : TypeId} (ht : Γ.P.underlying t = some (.map kt et)) {kk : SK} (hk : keyT Γ.P kt = some kk)
    {x k u : AV} {vx vk vu : Value} (hx : VRel κ x vx) (hkv : VRel κ k vk) (huv : VRel κ u vu) {H' : Heap} (he : updK kk x k u H some = some H') :
    ∃ w', (Instr.mapUpdate t vx vk vu).run Γ.P w = .ok () w' ∧ SRel Γ base κ H' w' ∧ Grow κ H w κ H' w' := by
  obtain ⟨d, hu, hd⟩ := keyT_desc hk
  unfold updK at he
  split at he
  · rename_i id
    split at he
    · rename_i k
      split at he
      · rename_i u
        rw [hgetK_def] at he
        split at he
        · rename_i es hg
          rw [bindK_def] at he
          obtain ⟨f, hf, he⟩ := obind_inv he
          injection he with he; subst he
          cases hx with
          | map _ kb hl =>
            obtain ⟨_, hob⟩ := hs.obj id kb (by rw [hg]; exact hl)
            rw [hg] at hob
            obtain ⟨ents, clock, hw, hm⟩ := hob
            cases hkv with
            | pv _ _ hkp =>
            cases huv with
            | pv _ _ hup =>
              have hfn := mapFind_now hd hkp hm hf
              cases f with
              | none =>
                simp only at hfn
                obtain ⟨s, g⟩ := hs.mapTurn (a' := ents.push { key := vk, val := vu, born := clock }) (c' := clock + 1) (es' := es ++ [(k, u)]) hl hg hw (by rw [Array.toList_push]; exact hm.push hkp hup)
                refine ⟨_, ?_, s, g⟩
                simp [Instr.mapUpdate, run_underlying ht, MapKept.run_getObj_map hw, run_checkKey hk, Instr.findKey, run_underlying hu, hfn, MapKept.run_setObj_map _ hw, World.putObj]
              | some x =>
                obtain ⟨e, a1, a2, a3, a4, a5⟩ := hfn
                rw [Nat.sub_zero] at a2
                have a2' : ents[x.1]? = some e := by rw [← Array.getElem?_toList]; exact a2
                obtain ⟨s, g⟩ := hs.mapTurn (a' := ents.modify x.1 fun e => { e with key := vk, val := vu }) (c' := clock) (es' := es.set x.1 (k, u)) hl hg hw (by rw [modify_list a2]; exact hm.set hkp hup x.1)
                refine ⟨_, ?_, s, g⟩
                simp [Instr.mapUpdate, run_underlying ht, MapKept.run_getObj_map hw, run_checkKey hk, Instr.findKey, run_underlying hu, a4, a2', Instr.keyThatStays, a5, MapKept.run_setObj_map _ hw, World.putObj]
        · cases he
      · cases he
    · cases he
  · cases he
/-- A new map. -/
theorem SRel.newMap (h : SRel Γ base κ H w) :
    SRel Γ base (κ.at H.length w.heap.size) (H ++ [.map []]) (w.alloc (.map #[] 0)) ∧ Grow κ H w (κ.at H.length w.heap.size) (H ++ [.map []]) (w.alloc (.map #[] 0)) := by
  refine h.turnNew (.map []) w.heap.size (Same.alloc w _) (κ.le_at (h.fresh _ (Nat.le_refl _)).1) (fun i hi => by simp [K.at, hi]) (fun _ _ => rfl)
    (fun k hk => heap_alloc_old w _ k hk) (fun _ _ h => .inl h) (by simp [place, K.at]) (Nat.le_refl _) ⟨#[], 0, heap_alloc_new w _, .nil⟩
end
end Go.VM

namespace Go.VM
open Go

section
variable {R S α : Type}
theorem needK_bind (p : Bool) (x : Option R) (F : R → Option S) : (needK p x).bind F = needK p (x.bind F) := by simp only [needK_def]; cases p <;> rfl
theorem boolK_bind (b : Bool) (G : Bool → Option R) (F : R → Option S) : (boolK b G).bind F = boolK b fun c => (G c).bind F := by simp only [boolK_def]
theorem eqK_bind (x : α) (G : α → Option R) (F : R → Option S) : (eqK x G).bind F = eqK x fun c => (G c).bind F := by simp only [eqK_def]
theorem getK_bind (l : List α) (i : Nat) (G : α → Option R) (F : R → Option S) : (getK l i G).bind F = getK l i fun c => (G c).bind F := by
  simp only [getK_def]; cases l[i]? <;> rfl
theorem secK_bind (l : List α) (i n : Nat) (G : List α → Option R) (F : R → Option S) : (secK l i n G).bind F = secK l i n fun c => (G c).bind F := by
  simp only [secK_def]; cases Nat.ble (i + n) l.length <;> rfl
theorem bindK_bind (x : Option α) (G : α → Option R) (F : R → Option S) : (bindK x G).bind F = bindK x fun c => (G c).bind F := by
  simp only [bindK_def]; cases x <;> rfl
theorem hgetK_bind (h : Heap) (id : Nat) (G : HObj → Option R) (F : R → Option S) : (hgetK h id G).bind F = hgetK h id fun c => (G c).bind F := by simp only [hgetK_def]
theorem cond_bind (b : Bool) (x y : Option R) (F : R → Option S) : (bif b then x else y).bind F = bif b then x.bind F else y.bind F := by cases b <;> rfl
end

section
variable {R S : Type}
theorem intBinK_bind (op : BinOp) (k : IntKind) (a b : Int) (G : PV → Option R) (F : R → Option S) : (intBinK op k a b G).bind F = intBinK op k a b fun p => (G p).bind F := by
  cases op <;> simp only [intBinK, needK_bind, eqK_bind, boolK_bind] <;> rfl
theorem shiftK_bind (op : BinOp) (k : IntKind) (a b : Int) (G : PV → Option R) (F : R → Option S) : (shiftK op k a b G).bind F = shiftK op k a b fun p => (G p).bind F := by
  cases op <;> simp only [shiftK, needK_bind, eqK_bind] <;> rfl
theorem strBinK_bind (op : BinOp) (a b : ByteArray) (G : PV → Option R) (F : R → Option S) : (strBinK op a b G).bind F = strBinK op a b fun p => (G p).bind F := by
  cases op <;> simp only [strBinK, needK_bind, eqK_bind, boolK_bind] <;> rfl
theorem boolBinK_bind (op : BinOp) (a b : Bool) (G : PV → Option R) (F : R → Option S) : (boolBinK op a b G).bind F = boolBinK op a b fun p => (G p).bind F := by
  cases op <;> simp only [boolBinK, boolK_bind] <;> rfl
theorem nilBinK_bind (k : BK) (op : BinOp) (x y : AV) (G : PV → Option R) (F : R → Option S) : (nilBinK k op x y G).bind F = nilBinK k op x y fun p => (G p).bind F := by
  cases op <;> simp only [nilBinK] <;> (try rfl) <;> (cases nilEq k x y <;> rfl)
theorem binK_bind (k : BK) (op : BinOp) (x y : AV) (G : PV → Option R) (F : R → Option S) : (binK k op x y G).bind F = binK k op x y fun p => (G p).bind F := by
  cases k with
  | num =>
    cases x with
    | pv p =>
      cases p with
      | int k a =>
        cases y with
        | pv q => cases q <;> simp only [binK, cond_bind, shiftK_bind, intBinK_bind] <;> rfl
        | _ => rfl
      | str a =>
        cases y with
        | pv q => cases q <;> simp only [binK, strBinK_bind] <;> rfl
        | _ => rfl
      | _ => rfl
    | _ => rfl
  | bool =>
    cases x with
    | pv p =>
      cases p with
      | bool a =>
        cases y with
        | pv q => cases q <;> simp only [binK, boolBinK_bind] <;> rfl
        | _ => rfl
      | _ => rfl
    | _ => rfl
  | agg sh =>
    cases x with
    | pv p =>
      cases p with
      | agg a =>
        cases y with
        | pv q => cases q <;> (try rfl) <;> (cases op <;> simp only [binK, bindK_bind, boolK_bind] <;> rfl)
        | _ => rfl
      | _ => rfl
    | _ => rfl
  | _ => exact nilBinK_bind _ _ _ _ _ _
theorem unK_bind (op : UnOp) (x : AV) (G : PV → Option R) (F : R → Option S) : (unK op x G).bind F = unK op x fun p => (G p).bind F := by
  cases op <;> cases x <;> (try rfl) <;> (rename_i p; cases p <;> simp only [unK, eqK_bind] <;> rfl)
theorem rowK_bind (o : HObj) (G : Nat → Nat → List AV → Option R) (F : R → Option S) : (rowK o G).bind F = rowK o fun n es cs => (G n es cs).bind F := by cases o <;> rfl
theorem load1K_bind (p : AV) (h : Heap) (G : AV → Option R) (F : R → Option S) : (load1K p h G).bind F = load1K p h fun v => (G v).bind F := by
  cases p <;> simp only [load1K, getK_bind, hgetK_bind, rowK_bind, needK_bind] <;> (try rfl)
  congr 1; funext o; cases o <;> simp only [getK_bind] <;> (try rfl)
  cases lget _ _ <;> rfl
theorem loadNK_bind (n : Nat) (p : AV) (h : Heap) (G : AV → Option R) (F : R → Option S) : (loadNK n p h G).bind F = loadNK n p h fun v => (G v).bind F := by
  cases p <;> simp only [loadNK, secK_bind, hgetK_bind, rowK_bind, needK_bind] <;> (try rfl)
  congr 1; funext o; cases o <;> simp only [secK_bind, cond_bind] <;> rfl
theorem store1K_bind (p v : AV) (h : Heap) (G : Heap → Option R) (F : R → Option S) : (store1K p v h G).bind F = store1K p v h fun v => (G v).bind F := by
  cases p <;> simp only [store1K, hgetK_bind, rowK_bind, needK_bind, eqK_bind] <;> (try rfl)
  congr 1; funext o; cases o <;> simp only [cond_bind] <;> (try rfl)
  cases v <;> simp only [cond_bind, needK_bind, eqK_bind] <;> rfl
theorem storeNK_bind (n : Nat) (p v : AV) (h : Heap) (G : Heap → Option R) (F : R → Option S) : (storeNK n p v h G).bind F = storeNK n p v h fun v => (G v).bind F := by
  cases p
  case gptr => simp only [storeNK]; cases v.isAgg <;> simp only [hgetK_bind, rowK_bind, needK_bind, eqK_bind, Option.bind_none]
  all_goals simp only [storeNK, hgetK_bind] <;> (try rfl)
  congr 1; funext o; cases o <;> (try rfl) <;> (cases v <;> simp only [cond_bind] <;> (try rfl) <;> (rename_i q; cases q <;> simp only [cond_bind, needK_bind, eqK_bind] <;> rfl))
theorem idxK_bind (i : AV) (len : Nat) (G : Nat → Option R) (F : R → Option S) : (idxK i len G).bind F = idxK i len fun v => (G v).bind F := by
  cases i <;> (try rfl) <;> (rename_i p; cases p <;> simp only [idxK, needK_bind] <;> rfl)
theorem idxAddrSK_bind (es : Nat) (x i : AV) (G : AV → Option R) (F : R → Option S) : (idxAddrSK es x i G).bind F = idxAddrSK es x i fun v => (G v).bind F := by
  cases x <;> simp only [idxAddrSK, idxK_bind] <;> (try rfl) <;> (rename_i p; cases p <;> simp only [idxK_bind] <;> rfl)
theorem boundK_bind (x : Option AV) (d y : Nat) (G : Nat → Option R) (F : R → Option S) : (boundK x d y G).bind F = boundK x d y fun v => (G v).bind F := by
  cases x with
  | none => rfl
  | some x => cases x <;> (try rfl) <;> (rename_i p; cases p <;> simp only [boundK, needK_bind] <;> rfl)
theorem sliceStrK_bind (x : AV) (lo hi : Option AV) (G : AV → Option R) (F : R → Option S) : (sliceStrK x lo hi G).bind F = sliceStrK x lo hi fun v => (G v).bind F := by
  cases x <;> (try rfl) <;> (rename_i p; cases p <;> simp only [sliceStrK, boundK_bind, eqK_bind] <;> rfl)
theorem sliceSK_bind (es : Nat) (x : AV) (lo hi mx : Option AV) (G : AV → Option R) (F : R → Option S) : (sliceSK es x lo hi mx G).bind F = sliceSK es x lo hi mx fun v => (G v).bind F := by
  unfold sliceSK
  split
  · split
    · simp only [boundK_bind, eqK_bind]
    · split <;> simp only [needK_bind, boundK_bind, eqK_bind, Option.bind_none]
  · split
    · simp only [boundK_bind, eqK_bind]
    · split <;> simp only [needK_bind, boundK_bind, eqK_bind, Option.bind_none]
  · split
    · simp only [needK_bind, boundK_bind]
    · rfl
  · split
    · split
      · simp only [boundK_bind, needK_bind]
      · rfl
    · rfl
  · rfl
theorem srcK_bind (h : Heap) (x : AV) (G : List PV → Option R) (F : R → Option S) : (srcK h x G).bind F = srcK h x fun v => (G v).bind F := by
  unfold srcK
  split <;> (try rfl)
  simp only [hgetK_bind]
  congr 1; funext o; cases o <;> simp only [secK_bind] <;> rfl
theorem appendTo_bind (mu : Bool) (es bytes m : Nat) (new : List PV) (s : AV) (h : Heap) (G : AV → Heap → Option R) (F : R → Option S) : (appendTo mu es bytes m new s h G).bind F = appendTo mu es bytes m new s h fun v h => (G v h).bind F := by
  unfold appendTo
  split
  · simp only [boolK_bind, cond_bind, needK_bind, eqK_bind, Option.bind_none]
  · simp only [hgetK_bind]
    congr 1; funext o; cases o <;> simp only [needK_bind, eqK_bind, Option.bind_none]
  · simp only [needK_bind, hgetK_bind]
    congr 1; congr 1; funext o; cases o <;> simp only [needK_bind, eqK_bind, Option.bind_none]
  · rfl
theorem srcA_bind (h : Heap) (x : AV) (G : List AV → Option R) (F : R → Option S) : (srcA h x G).bind F = srcA h x fun v => (G v).bind F := by
  unfold srcA
  split <;> (try rfl)
  simp only [hgetK_bind]
  congr 1; funext o; cases o <;> simp only [secK_bind] <;> rfl
theorem growK_bind (es bytes : Nat) (s x : AV) (h : Heap) (G : AV → Heap → Option R) (F : R → Option S) : (growK es bytes s x h G).bind F = growK es bytes s x h fun v h => (G v h).bind F := by
  unfold growK
  split
  · split
    · simp only [srcA_bind, hgetK_bind, rowK_bind, needK_bind, eqK_bind]
    · rfl
  · rfl
theorem appendK_bind (mu : Bool) (es bytes : Nat) (s x : AV) (h : Heap) (G : AV → Heap → Option R) (F : R → Option S) : (appendK mu es bytes s x h G).bind F = appendK mu es bytes s x h fun v h => (G v h).bind F := by
  unfold appendK
  cases s.isGs with
  | true => exact growK_bind _ _ _ _ _ _ _
  | false =>
  cases srcLen x with
  | none => rfl
  | some m => simp only [cond_false, srcK_bind, appendTo_bind]
theorem appS_bind (mu : Bool) (es bytes : Nat) (s x : AV) (h : Heap) (G : AV → Heap → Option R) (F : R → Option S) : (appS mu es bytes s x h G).bind F = appS mu es bytes s x h fun v h => (G v h).bind F := by
  rw [appS_def, appS_def]; exact appendK_bind ..
theorem copyK_bind (es : Nat) (d s : AV) (h : Heap) (G : AV → Heap → Option R) (F : R → Option S) : (copyK es d s h G).bind F = copyK es d s h fun v h => (G v h).bind F := by
  unfold copyK
  split
  · cases srcLen s with
    | none => rfl
    | some m =>
      simp only [srcK_bind, hgetK_bind]
      congr 1; funext new; congr 1; funext o; cases o <;> simp only [needK_bind, eqK_bind, Option.bind_none]
  · cases srcLen s with
    | none => rfl
    | some m => simp only [srcK_bind, needK_bind]
  · rfl
theorem lookK_bind (ok : Bool) (kk : SK) (z : PV) (x k : AV) (h : Heap) (G : PV → Option R) (F : R → Option S) : (lookK ok kk z x k h G).bind F = lookK ok kk z x k h fun v => (G v).bind F := by
  unfold lookK
  split
  · split
    · rw [hgetK_bind]
      congr 1; funext o; cases o <;> simp only [bindK_bind, Option.bind_none]
    · rfl
  · rfl
  · rfl
theorem updK_bind (kk : SK) (x k v : AV) (h : Heap) (G : Heap → Option R) (F : R → Option S) : (updK kk x k v h G).bind F = updK kk x k v h fun v => (G v).bind F := by
  unfold updK
  split
  · split
    · split
      · rw [hgetK_bind]
        congr 1; funext o; cases o <;> simp only [bindK_bind, Option.bind_none]
      · rfl
    · rfl
  · rfl
theorem minmaxK_bind (mx : Bool) (l : List AV) : ∀ (a : Int) (k : IntKind) (G : PV → Option R) (F : R → Option S), (minmaxK mx a k l G).bind F = minmaxK mx a k l fun v => (G v).bind F := by
  induction l with
  | nil => intro a k G F; rfl
  | cons x l ih =>
    intro a k G F
    cases x <;> (try rfl) <;> (rename_i p; cases p <;> (try rfl) <;> simp only [minmaxK, eqK_bind, ih])

theorem opK_bind (o : VOp) (r : Regs) (h : Heap) (G : AV → Heap → Option R) (F : R → Option S) : (opK o r h G).bind F = opK o r h fun v h => (G v h).bind F := by
  cases o
  case strOf x =>
    simp only [opK]
    split
    · rfl
    · split
      · simp only [srcK_bind, needK_bind, bindK_bind]
      · rfl
  case strOfP x =>
    simp only [opK]
    split
    · simp only [needK_bind, bindK_bind]
    · simp only [needK_bind, bindK_bind]
    · rfl
  case build => simp only [opK]; split <;> split <;> rfl
  case appendZ mu _ _ _ _ _ =>
    simp only [opK]
    split
    · cases mu
      · simp only [needK_bind, eqK_bind, appS_bind]
      · simp only
        split
        · simp only [needK_bind]
        · rfl
    · rfl
  case capS =>
    simp only [opK]
    split
    · simp only [cond_bind, Option.bind_none]
    · rfl
  case buildSlice mu _ _ _ _ =>
    cases mu
    · simp only [opK]; split <;> (try rfl); split <;> rfl
    · simp only [opK]; split <;> split <;> rfl
  case mkFn => simp only [opK]; split <;> rfl
  case buildG => simp only [opK]; split <;> rfl
  case idxA1 => 
    simp only [opK]
    split
    · simp only [idxK_bind, getK_bind]
    · simp only [idxK_bind]
      congr 1; funext j; split <;> rfl
    · rfl
  case field1 => 
    simp only [opK]
    split
    · simp only [getK_bind]
    · split <;> rfl
    · rfl
  case settle =>
    simp only [opK]
    split
    · rfl
    · rfl
    · rw [hgetK_bind]
      congr 1; funext o; cases o <;> simp only [secK_bind, Option.bind_none]
    · rfl
  case freeze =>
    simp only [opK]
    split
    · rw [hgetK_bind]
      congr 1; funext o; cases o <;> simp only [needK_bind, Option.bind_none]
    · rfl
  case extract =>
    simp only [opK]
    split
    · split <;> rfl
    · split <;> rfl
    · rfl
  case toArr =>
    simp only [opK]
    split
    · split <;> simp only [needK_bind, Option.bind_none]
    · simp only [needK_bind]
    · simp only [needK_bind]
    · rfl
  all_goals
    simp only [opK, load1K_bind, loadNK_bind, store1K_bind, storeNK_bind, binK_bind, unK_bind, idxAddrSK_bind, sliceStrK_bind, sliceSK_bind, appS_bind, copyK_bind, lookK_bind, updK_bind, cond_bind, Option.bind_none]
  all_goals
    try (split <;> simp only [eqK_bind, cond_bind, getK_bind, secK_bind, idxK_bind, boundK_bind, needK_bind, minmaxK_bind, Option.bind_none]; done)
  all_goals rfl
end
end Go.VM
