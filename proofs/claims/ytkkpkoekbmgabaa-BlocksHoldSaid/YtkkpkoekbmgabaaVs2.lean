/-
  A sort by a function that compares, as a function that is known by what it does.
-/
import Derived.Test.YtkkpkoekbmgabaaVs1
set_option linter.all false
set_option linter.unusedVariables false
set_option linter.unusedSimpArgs false
set_option linter.unusedSectionVars false
namespace Go.VM
open Go Go.Shelf Go.RowKit Go.Lib Go.Sort Go.Proofs

theorem flatK_list {n : Nat} [Inhabited (Fin n)] (enc : Fin n → List Value) (k : Nat) (hk : ∀ x, (enc x).length = k) (d : Array (Fin n)) : (flatK enc k d).toList = (d.toList.map enc).flatten := by
  apply List.ext_getElem?
  intro t
  have hlen : (d.toList.map enc).flatten.length = d.size * k := by
    rw [← Array.length_toList]
    generalize d.toList = l
    induction l with
    | nil => simp
    | cons a l ih => rw [List.map_cons, List.flatten_cons, List.length_append, hk, ih, List.length_cons, Nat.add_mul]; omega
  rcases Nat.lt_or_ge t (d.size * k) with h | h
  · have hsz : t < (flatK enc k d).size := by simpa using h
    have k0 : 0 < k := by
      rcases Nat.eq_zero_or_pos k with e | e
      · subst e; simp at h
      · exact e
    have hdiv : t / k < d.size := Nat.div_lt_of_lt_mul (by rw [Nat.mul_comm]; exact h)
    have h1 : (flatK enc k d)[t]! = (enc d[t / k]!)[t % k]! := get_flatK enc k d t h
    rw [Array.getElem?_toList, Array.getElem?_eq_getElem hsz, ← getElem!_pos (flatK enc k d) t hsz, h1]
    have key : ∀ (l : List (Fin n)) (i : Nat) (a : Fin n), l[i]? = some a → ∀ j, j < k → ((l.map enc).flatten)[i * k + j]? = (enc a)[j]? := by
      intro l
      induction l with
      | nil => intro i a hi; simp at hi
      | cons b l ih =>
        intro i a hi j hj
        rw [List.map_cons, List.flatten_cons]
        cases i with
        | zero =>
          simp at hi; subst hi
          rw [Nat.zero_mul, Nat.zero_add, List.getElem?_append_left (by rw [hk]; exact hj)]
        | succ i =>
          simp at hi
          rw [List.getElem?_append_right (by rw [hk, Nat.add_mul]; omega), hk, show (i + 1) * k + j - k = i * k + j by rw [Nat.add_mul]; omega]
          exact ih i a hi j hj
    have := key d.toList (t / k) d[t / k]! (by rw [Array.getElem?_toList, Array.getElem?_eq_getElem hdiv, getElem!_pos d _ hdiv]) (t % k) (Nat.mod_lt _ k0)
    rw [show t / k * k + t % k = t by rw [Nat.mul_comm]; exact Nat.div_add_mod t k] at this
    rw [this]
    have hl : t % k < (enc d[t / k]!).length := by rw [hk]; exact Nat.mod_lt _ k0
    rw [List.getElem?_eq_getElem hl, getElem!_pos (enc d[t / k]!) (t % k) hl]
  · rw [List.getElem?_eq_none (by rw [Array.length_toList]; simpa using h), List.getElem?_eq_none (by rw [hlen]; exact h)]

/-- Places that rise are the places in order. -/
theorem sorted_places {n : Nat} [Inhabited (Fin n)] {d : Array (Fin n)} (hs : d.size = n) (hp : d.toList.Perm (List.finRange n)) (hr : ∀ i j : Nat, i < j → j < n → d[i]! ≤ d[j]!) : d.toList = List.finRange n := by
  refine List.Perm.eq_of_pairwise (le := fun a b : Fin n => a ≤ b) (fun a b _ _ h1 h2 => Fin.le_antisymm h1 h2) ?_ ?_ hp
  · rw [List.pairwise_iff_getElem]
    intro i j hi hj hij
    rw [Array.length_toList] at hi hj
    have := hr i j hij (by omega)
    rw [getElem!_pos d i hi, getElem!_pos d j hj] at this
    simpa using this
  · rw [List.pairwise_iff_getElem]
    intro i j hi hj hij
    simp only [List.getElem_finRange]
    exact Fin.le_def.2 (by simp; omega)
theorem perm_whole {α : Type} [Inhabited α] {d d' : Array α} (h : PermIn 0 d.size d d') : d'.size = d.size ∧ d'.toList.Perm d.toList := by
  obtain ⟨h1, _, h3⟩ := h
  refine ⟨h1, ?_⟩
  have e1 : d'.extract 0 d.size = d' := by rw [← h1]; exact Array.extract_size
  have e2 : d.extract 0 d.size = d := Array.extract_size
  rwa [e1, e2] at h3
section
variable {Γ : Ctx}
theorem modify_cells {w : World} {blk : Nat} {c rest : List Value} {e : TypeId} (hw : w.heap[blk]? = some (.cells (c ++ rest).toArray e (0, 0))) {F : Array Value} (hF : F.size = c.length) (m : Nat) (os : Array Obj) :
    (grow (putRow id (Sort.ahead w m) blk 0 F) os).heap[blk]? = some (.cells (F.toList ++ rest).toArray e (0, 0)) ∧ ∀ k, k < w.heap.size → k ≠ blk → (grow (putRow id (Sort.ahead w m) blk 0 F) os).heap[k]? = w.heap[k]? := by
  have hlt : blk < w.heap.size := (Array.getElem?_eq_some_iff.1 hw).1
  have hsz : (putRow id (Sort.ahead w m) blk 0 F).heap.size = w.heap.size := by simp [putRow, mapBlock, Sort.ahead]
  constructor
  · rw [heap_grow_old _ _ (by rw [hsz]; exact hlt)]
    simp only [putRow, mapBlock, Sort.ahead, Array.getElem?_modify, if_true, hw, Option.map_some, onCells]
    congr 2
    apply Array.ext_getElem?
    intro j
    simp only [putCells, Array.getElem?_mapIdx, Nat.zero_le, true_and, Nat.zero_add, Nat.sub_zero, id]
    rw [List.getElem?_toArray, List.getElem?_toArray]
    by_cases h : j < F.size
    · rw [List.getElem?_append_left (by rw [← hF]; exact h), List.getElem?_append_left (by rw [Array.length_toList]; exact h)]
      rw [List.getElem?_eq_getElem (by rw [← hF]; exact h), Array.getElem?_toList, Array.getElem?_eq_getElem h]
      simp [h]
    · rw [List.getElem?_append_right (by omega), List.getElem?_append_right (by rw [Array.length_toList]; omega), Array.length_toList, hF]
      have hn : ¬ j < c.length := by omega
      have hfl : F.toList.length = c.length := by rw [Array.length_toList, hF]
      rw [hfl]
      cases rest[j - c.length]? with
      | none => rfl
      | some v => simp only [Option.map_some, hn, if_false]
  · intro k hk hne
    rw [heap_grow_old _ _ (by rw [hsz]; exact hk)]
    simp only [putRow, mapBlock, Sort.ahead, Array.getElem?_modify, Ne.symm hne, if_false]
theorem finRange_map {α : Type} (l : List α) : l = (List.finRange l.length).map fun i => l[i] := by
  apply List.ext_getElem
  · simp
  · intro i h1 h2; simp
/-- The library's sort. -/
theorem sort_prim {f : FuncId} {es : Nat} (hf : FnOK Γ.P f) (hS : SortSpec Γ.P f es) : PrimOK Γ f (.sort es) := by
  refine ⟨hf, fun E hE args H v H' he base κ w vs hs ha => ?_⟩
  obtain ⟨S0, S1⟩ := hS
  simp only [primK] at he
  split at he
  · rename_i s g
    obtain ⟨v0, v1, rfl, hv0, hv1⟩ := vlist2 ha
    split at he
    · injection he with he; injection he with e1 e2; subst e1; subst e2
      obtain ⟨p, cap, rfl⟩ : ∃ p cap, v0 = .slice p 0 cap := by
        cases hv0 with
        | pv _ _ hp => cases hp with
          | slNil => exact ⟨_, _, rfl⟩
          | sl _ _ _ a cap us h1 h2 h3 h4 h5 h6 => exact ⟨_, _, rfl⟩
      refine (callsIn_wide.2 (S0 p cap v1 w)).mono ?_
      rintro e w' ⟨rfl, rfl⟩
      exact ⟨κ, .pv _ _ (.tup [] [] .nil), hs, Grow.refl _ _ _⟩
    · rename_i id n
      split at he
      · rename_i es' l hg
        rw [Bool.cond_eq_ite] at he
        split at he
        · rename_i hc
          simp only [Bool.and_eq_true] at hc
          obtain ⟨⟨⟨c1, c2⟩, c3⟩, c4⟩ := hc
          have hn62 := Nat.le_of_ble_eq_true c4
          have := Nat.eq_of_beq_eq_true c1; subst this
          have hln := Nat.eq_of_beq_eq_true c2
          simp only [Option.map_eq_some_iff] at he
          obtain ⟨l', hso, he⟩ := he
          injection he with e1 e2; subst e1; subst e2
          obtain ⟨hperm, hord⟩ := sortedK_some hso
          obtain ⟨blk, cap, rfl, htl, hcap⟩ : ∃ blk cap, v0 = .slice (some ⟨blk, 0, none⟩) n cap ∧ κ.tl id n = some (blk, cap) ∧ n ≤ cap := by
            cases hv0 with | gs _ _ k cap h1 h2 => exact ⟨k, cap, rfl, h1, h2⟩
          have hv1' : v1 = .func (.func g) #[] #[] := by
            cases hv1 with | pv _ _ hp => cases hp with | fn _ _ _ va vb h1 h2 => cases h1; cases h2; rfl
          subst hv1'
          have hpl : place κ id (hget H id) = some blk := by rw [hg]; simp [place, hln, htl]
          obtain ⟨hbase, ho⟩ := hs.obj id blk hpl
          rw [hg] at ho
          obtain ⟨lw, hpw, hlen, cap', c, rest, e, q1, q2, q3, q4, q5, q6, q7, q8, q9, q10⟩ := ho
          rw [hln] at q1 q5 q6 q10
          have hcap' : cap' = cap := by rw [htl] at q1; injection q1 with q1; injection q1 with _ q1; exact q1.symm
          subst hcap'
          have hblk : blk < w.heap.size := (Array.getElem?_eq_some_iff.1 q2).1
          have flat : ∀ x ∈ l, x.all PV.flat = true := List.all_eq_true.1 c3
          have hll : l'.length = n := by rw [hperm.length_eq, hln]
          -- what comes of it
          have fin : ∀ (w' : World) (c' : List Value), w'.os = w.os → w'.tape = w.tape → w'.output = w.output → w.drawn ≤ w'.drawn → w.heap.size ≤ w'.heap.size → w'.heap[blk]? = some (.cells (c' ++ rest).toArray e (0, 0)) →
              (∀ k, k < w.heap.size → k ≠ blk → w'.heap[k]? = w.heap[k]?) → c' = (l'.flatten).map flatV → Out Γ base κ H w undefV (hset H id (.row n es' (l'.flatten.map .pv))) (.returned (.tuple #[])) w' := by
            intro w' c' h1 h2 h3 h4 h5 h6 h7 h8
            have hall : l'.flatten.all PV.flat = true := List.all_eq_true.2 fun p hp => by
              obtain ⟨x, hx, hpx⟩ := List.mem_flatten.1 hp
              exact List.all_eq_true.1 (flat x (hperm.mem_iff.1 hx)) p hpx
            have hfl : l'.flatten.length = n * es' := by
              have : ∀ (m : List (List PV)), (∀ x ∈ m, x.length = es') → m.flatten.length = m.length * es' := by
                intro m
                induction m with
                | nil => intro _; simp
                | cons a m ih => intro hm; rw [List.flatten_cons, List.length_append, hm a (by simp), ih fun x hx => hm x (by simp [hx]), List.length_cons, Nat.add_mul]; omega
              rw [this l' fun x hx => hlen x (hperm.mem_iff.1 hx), hll]
            have hcl : c.length = n * es' := by rw [← q7.length]; exact q6
            have hcl' : c'.length = n * es' := by rw [h8, List.length_map, hfl]
            obtain ⟨s1, g1⟩ := hs.turnOne (κ' := κ) (w' := w') id (.row n es' (l'.flatten.map .pv)) blk blk ⟨h1, h2, h3, h4, h5⟩ κ.le_refl hpl rfl (fun _ _ => rfl) (fun k hk hne => h7 k hk hne) (fun a v hv => by
                have hc0 := hs.imm a v hv
                have hne : a.block ≠ blk := fun e => by rw [q9 a e] at hv; cases hv
                exact ⟨(World.cell?_of_block (h7 _ (block_lt hc0) hne)).trans hc0, .inl hv⟩) (fun k hk => by simp [place, htl] at hk; exact hk.symm) (.inl rfl)
              ⟨cap', c', rest, e, htl, h6, by rw [List.length_append] at q3 ⊢; omega, q4, hcap, by rw [List.length_map, hfl], by rw [h8]; exact VRels.of_pv (flatVs_rel hall), by
                rw [h8]; intro v hv; obtain ⟨p, hp, rfl⟩ := List.mem_map.1 hv; exact flatV_one (List.all_eq_true.1 hall p hp), q9, q10⟩
            exact ⟨κ, .pv _ _ (.tup [] [] .nil), s1, g1⟩
          have hcw : c = lw.flatten.map flatV := flatVs_eq (List.all_eq_true.2 fun p hp => by
              obtain ⟨x, hx, hpx⟩ := List.mem_flatten.1 hp
              exact List.all_eq_true.1 (flat x (hpw.mem_iff.1 hx)) p hpx) (VRels.to_pv q7)
          rcases Nat.eq_zero_or_pos n with h0 | hpos
          · subst h0
            refine (callsIn_wide.2 (S0 _ _ _ w)).mono ?_
            rintro e' w' ⟨rfl, rfl⟩
            have hl0 : l' = [] := List.eq_nil_of_length_eq_zero hll
            have hlw0 : lw = [] := List.eq_nil_of_length_eq_zero (by rw [hpw.length_eq, hln])
            exact fin w' c rfl rfl rfl (Nat.le_refl _) (Nat.le_refl _) q2 (fun _ _ _ => rfl) (by rw [hcw, hl0, hlw0])
          · -- elements by their places in the order
            haveI : Inhabited (Fin l'.length) := ⟨⟨0, by omega⟩⟩
            have hfm := finRange_map l'
            obtain ⟨is, hip, hlw⟩ := perm_map_inv (hpw.trans hperm.symm) _ hfm
            have hisl : is.length = n := by rw [hip.length_eq, List.length_finRange, hll]
            have hmemL : ∀ i : Fin l'.length, l'[i] ∈ l := fun i => hperm.mem_iff.1 (List.getElem_mem _)
            have hencl : ∀ i : Fin l'.length, (l'[i].map flatV).length = es' := fun i => by rw [List.length_map]; exact hlen _ (hmemL i)
            have hone : ∀ i : Fin l'.length, ∀ v ∈ l'[i].map flatV, v.oneCell' = true := fun i v hv => by
              obtain ⟨p, hp, rfl⟩ := List.mem_map.1 hv
              exact flatV_one (List.all_eq_true.1 (flat _ (hmemL i)) p hp)
            have hcmp : ∀ i j : Fin l'.length, ∃ c : Int, EP E g [.agg l'[i], .agg l'[j]] = some (.int .i64 c) ∧ (c < 0 ↔ i.val < j.val) := fun i j => hord i.val j.val _ _ (List.getElem?_eq_getElem i.isLt) (List.getElem?_eq_getElem j.isLt)
            let cf : Fin l'.length → Fin l'.length → Int := fun i j => (hcmp i j).choose
            have hcf : ∀ i j, EP E g [.agg l'[i], .agg l'[j]] = some (.int .i64 (cf i j)) ∧ (cf i j < 0 ↔ i.val < j.val) := fun i j => (hcmp i j).choose_spec
            have hlt : ∀ i j, ltOf cf i j = decide (i.val < j.val) := fun i j => by
              unfold ltOf
              rw [decide_eq_decide]
              exact (hcf i j).2
            have hSWO : SWO (ltOf cf) := by
              refine ⟨fun x => ?_, fun x y z h1 h2 => ?_, fun x y z h1 h2 => ?_⟩
              · rw [hlt]; simp
              · rw [hlt] at h1 h2 ⊢; simp at h1 h2 ⊢; omega
              · rw [hlt] at h1 h2 ⊢; simp at h1 h2 ⊢; omega
            have hdsz : is.toArray.size = n := by rw [List.size_toArray, hisl]
            have hflat : (flatK (fun i : Fin l'.length => l'[i].map flatV) es' is.toArray).toList = c := by
              rw [flatK_list _ _ hencl, hcw, hlw]
              simp only [List.toList_toArray, List.map_flatten, List.map_map]
              rfl
            have hHolds : HoldsK (fun i : Fin l'.length => l'[i].map flatV) es' w blk 0 is.toArray := by
              intro j hj
              have hcj : c[j]? = some (flatK (fun i : Fin l'.length => l'[i].map flatV) es' is.toArray)[j]! := by
                rw [← hflat, Array.getElem?_toList, Array.getElem?_eq_getElem hj, getElem!_pos _ j hj]
              have hjc : j < c.length := (List.getElem?_eq_some_iff.1 hcj).1
              constructor
              · unfold World.cell?
                rw [q2]
                simp only [Option.isSome_none, Bool.false_eq_true, if_false, Nat.zero_add, List.getElem?_toArray]
                rw [List.getElem?_append_left hjc]; exact hcj
              · unfold World.frozen?
                rw [q2]
                simp
            have hFn : FnOK Γ.P g := by
              have h1 := (hcf ⟨0, by omega⟩ ⟨0, by omega⟩).1
              unfold EP at h1
              obtain ⟨⟨v0, h0⟩, h2, _⟩ := some_bind h1
              exact hE.ok _ _ _ _ _ h2
            have hsize : ∀ (d : Array (Fin l'.length)) (m : Nat) (os : Array Obj), d.size = n → (flatK (fun i : Fin l'.length => l'[i].map flatV) es' d).size = c.length := fun d m os hd => by
              rw [size_flatK, hd, ← hflat, Array.length_toList, size_flatK, hdsz]
            have hCmp : CmpLays Γ.P g #[] (fun i : Fin l'.length => l'[i].map flatV) es' cf blk 0 is.toArray.size w := by
              intro m os dk hdk x y
              obtain ⟨w1, w2⟩ := modify_cells q2 (hsize dk m os (hdk.trans hdsz)) m os
              have hsW : SRel Γ (sortWorldK (fun i : Fin l'.length => l'[i].map flatV) es' w blk 0 m dk os).heap.size κ.alone [] (sortWorldK (fun i : Fin l'.length => l'[i].map flatV) es' w blk 0 m dk os) := by
                have hp : ∀ id, place κ.alone id (hget [] id) = none := fun id => by rw [hget_ge (by simp)]; rfl
                have hWsz : w.heap.size ≤ (sortWorldK (fun i : Fin l'.length => l'[i].map flatV) es' w blk 0 m dk os).heap.size := by
                  simp [sortWorldK, putRowK, putRow, mapBlock, Sort.ahead]
                have hold : ∀ a : Addr, a.block < w.heap.size → a.block ≠ blk → (sortWorldK (fun i : Fin l'.length => l'[i].map flatV) es' w blk 0 m dk os).cell? a = w.cell? a := fun a h1 h2 => World.cell?_of_block (w2 _ h1 h2)
                refine ⟨fun a v hv => ?_, fun id k hk => (by rw [hp] at hk; cases hk), fun id _ k hk => (by rw [hp] at hk; cases hk), fun _ _ => ⟨rfl, fun _ => rfl⟩, Nat.le_refl _, hs.gv, fun a ha => ?_⟩
                · have hc0 := hs.imm a v hv
                  have hne : a.block ≠ blk := fun e => by rw [show κ.alone.imm = κ.imm from rfl, q9 a e] at hv; cases hv
                  exact (hold a (block_lt hc0) hne).trans hc0
                · obtain ⟨h1, h2⟩ := hs.gn a ha
                  exact ⟨by omega, (hold a (by omega) (by omega)).trans h2⟩
              exact flat_call hE hsW (flat _ (hmemL x)) (flat _ (hmemL y)) (hcf x y).1
            have hcall := S1 (Fin l'.length) (fun i => l'[i].map flatV) hencl hone cf hSWO g #[] blk 0 cap' is.toArray w (fun args w => run_callFunc hFn args w) hCmp hHolds hblk (by rw [hdsz]; omega)
            rw [hdsz] at hcall
            refine (callsIn_wide.2 hcall).mono ?_
            rintro e' w' ⟨rfl, d', m, os, hp, hsd, rfl⟩
            rw [← hdsz] at hp
            obtain ⟨p1, p2⟩ := perm_whole hp
            rw [hdsz] at p1
            have hd' : d'.toList = List.finRange l'.length := by
              refine sorted_places (by rw [p1, hll]) (p2.trans (by simpa using hip)) fun i j hij hj => ?_
              have := hsd i j (Nat.zero_le _) hij (by omega)
              rw [hlt] at this
              simp at this
              exact Fin.le_def.2 this
            obtain ⟨w1, w2⟩ := modify_cells q2 (hsize d' m os p1) m os
            refine fin _ _ rfl rfl rfl (by show w.drawn ≤ w.drawn + m; omega) (by simp [sortWorldK, putRowK, putRow, mapBlock, Sort.ahead]) w1 w2 ?_
            rw [flatK_list _ _ hencl, hd']
            conv => rhs; rw [hfm]
            simp only [List.map_flatten, List.map_map]
            rfl
        · cases he
      · cases he
    · cases he
  · cases he
end
end Go.VM
