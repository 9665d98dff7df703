/-
  From apt groups to apt ones: each step may be written, and they are apt behind it.
-/
import Derived.Test.YtaiomdfajdeacaaPlP
set_option linter.all false
set_option linter.unusedVariables false
set_option linter.unusedSimpArgs false
set_option linter.unusedSectionVars false
namespace Go.Proofs.Ytaiomdfajdeacaa
open Go Go.VM

def root : Kn := ⟨4611686018427387904, 100, 4611686018427387904, 4611686018427387904, 4611686018427387904⟩
theorem cont_ok {p k k2 : Kn} {f : Int} (hr2 : right k2) (hf : file f) (hk : fitK p k) (hle : f ≠ 1 → at_ k2 f ≤ at_ p f) (h2 : f = 2 → k2.mn ≤ k.mx) (h3 : f = 3 → k.mn ≤ k2.mx) :
    wr p k [] 0 f (at_ k2 f) = 0 ∧ fitK p (with_ k f (at_ k2 f)) := by
  have hb : ∀ n, n ≤ at_ p f → between p [] f n := fun n h => ⟨h, fun ⟨k, hk, _⟩ => by cases hk⟩
  obtain ⟨pc, pw, pmn, pmx, phg⟩ := p
  obtain ⟨c, w, mn, mx, hg⟩ := k
  obtain ⟨c2, w2, mn2, mx2, hg2⟩ := k2
  unfold right sumP at hr2
  unfold fitK right sumP at hk
  simp only at hr2 hk h2 h3
  obtain ⟨r1, r2, r3, r4, r5, r6⟩ := hr2
  obtain ⟨⟨k1, k2, k3, k4, k5, k6⟩, k7, k8, k9, k10⟩ := hk
  rcases hf with rfl | rfl | rfl | rfl | rfl
  · have hle := hle (by decide)
    have hle' : c2 ≤ pc := hle
    refine ⟨?_, ?_⟩
    · unfold wr
      rw [if_neg (fun h => h (by show num 0 c2; unfold num; omega)), if_neg (fun h => h.2 (hb _ hle)), if_neg (by omega), if_neg (by omega)]
    · show fitK _ ⟨c2, w, mn, mx, hg⟩
      unfold fitK right sumP
      exact ⟨⟨r1, k2, k3, k4, k5, k6⟩, hle', k8, k9, k10⟩
  · refine ⟨?_, ?_⟩
    · unfold wr
      rw [if_neg (fun h => h (by show num 1 w2; unfold num; omega)), if_neg (fun h => by have := h.1; unfold bound at this; omega), if_neg (by omega), if_neg (by omega)]
    · show fitK _ ⟨c, w2, mn, mx, hg⟩
      unfold fitK right sumP
      exact ⟨⟨k1, k2, r3, k4, k5, k6⟩, k7, k8, k9, k10⟩
  · have hle := hle (by decide)
    have hle' : mn2 ≤ pmn := hle
    have h2 := h2 rfl
    refine ⟨?_, ?_⟩
    · unfold wr
      rw [if_neg (fun h => h (by show num 2 mn2; unfold num; omega)), if_neg (fun h => h.2 (hb _ hle)), if_neg (by show ¬ ((2 : Int) = 2 ∧ mn2 > mx ∨ (2 : Int) = 3 ∧ mn2 < mn); omega), if_neg (by omega)]
    · show fitK _ ⟨c, w, mn2, mx, hg⟩
      unfold fitK right sumP
      exact ⟨⟨k1, k2, k3, r4, k5, h2⟩, k7, hle', k9, k10⟩
  · have hle := hle (by decide)
    have hle' : mx2 ≤ pmx := hle
    have h3 := h3 rfl
    refine ⟨?_, ?_⟩
    · unfold wr
      rw [if_neg (fun h => h (by show num 3 mx2; unfold num; omega)), if_neg (fun h => h.2 (hb _ hle)), if_neg (by show ¬ ((3 : Int) = 2 ∧ mx2 > mx ∨ (3 : Int) = 3 ∧ mx2 < mn); omega), if_neg (by show ¬ ((3 : Int) = 3 ∧ mx2 < 0); omega)]
    · show fitK _ ⟨c, w, mn, mx2, hg⟩
      unfold fitK right sumP
      exact ⟨⟨k1, r2, k3, k4, k5, h3⟩, k7, k8, hle', k10⟩
  · have hle := hle (by decide)
    have hle' : hg2 ≤ phg := hle
    refine ⟨?_, ?_⟩
    · unfold wr
      rw [if_neg (fun h => h (by show num 4 hg2; unfold num; omega)), if_neg (fun h => h.2 (hb _ hle)), if_neg (by omega), if_neg (by omega)]
    · show fitK _ ⟨c, w, mn, mx, hg2⟩
      unfold fitK right sumP
      exact ⟨⟨k1, k2, k3, k4, r5, k6⟩, k7, k8, k9, hle'⟩
theorem pod_ok {p k2 : Kn} {l : List Kn} {f : Int} (hr : right p) (hr2 : right k2) (hf : file f) (hle : f ≠ 1 → ∀ k ∈ l, at_ k f ≤ at_ k2 f) (h2 : f = 2 → k2.mn ≤ p.mx) (h3 : f = 3 → p.mn ≤ k2.mx) :
    wr root p l 0 f (at_ k2 f) = 0 ∧ right (with_ p f (at_ k2 f)) := by
  have hb : ∀ n, f ≠ 1 → n = at_ k2 f → n ≤ at_ root f → between root l f n := fun n hn e h => ⟨h, fun ⟨k, hk, hh⟩ => by have := hle hn k hk; omega⟩
  clear hle
  obtain ⟨c, w, mn, mx, hg⟩ := p
  obtain ⟨c2, w2, mn2, mx2, hg2⟩ := k2
  unfold right sumP at hr hr2
  simp only at hr hr2 h2 h3
  obtain ⟨r1, r2, r3, r4, r5, r6⟩ := hr2
  obtain ⟨k1, k2, k3, k4, k5, k6⟩ := hr
  rcases hf with rfl | rfl | rfl | rfl | rfl
  · refine ⟨?_, ?_⟩
    · unfold wr
      rw [if_neg (fun h => h (by show num 0 c2; unfold num; omega)), if_neg (fun h => h.2 (hb _ (by decide) rfl (by show c2 ≤ 4611686018427387904; omega))), if_neg (by omega), if_neg (by omega)]
    · show right ⟨c2, w, mn, mx, hg⟩
      unfold right sumP
      exact ⟨r1, k2, k3, k4, k5, k6⟩
  · refine ⟨?_, ?_⟩
    · unfold wr
      rw [if_neg (fun h => h (by show num 1 w2; unfold num; omega)), if_neg (fun h => by have := h.1; unfold bound at this; omega), if_neg (by omega), if_neg (by omega)]
    · show right ⟨c, w2, mn, mx, hg⟩
      unfold right sumP
      exact ⟨k1, k2, r3, k4, k5, k6⟩
  · have h2 := h2 rfl
    refine ⟨?_, ?_⟩
    · unfold wr
      rw [if_neg (fun h => h (by show num 2 mn2; unfold num; omega)), if_neg (fun h => h.2 (hb _ (by decide) rfl (by show mn2 ≤ 4611686018427387904; omega))), if_neg (by show ¬ ((2 : Int) = 2 ∧ mn2 > mx ∨ (2 : Int) = 3 ∧ mn2 < mn); omega), if_neg (by omega)]
    · show right ⟨c, w, mn2, mx, hg⟩
      unfold right sumP
      exact ⟨k1, k2, k3, r4, k5, h2⟩
  · have h3 := h3 rfl
    refine ⟨?_, ?_⟩
    · unfold wr
      rw [if_neg (fun h => h (by show num 3 mx2; unfold num; omega)), if_neg (fun h => h.2 (hb _ (by decide) rfl (by show mx2 ≤ 4611686018427387904; omega))), if_neg (by show ¬ ((3 : Int) = 2 ∧ mx2 > mx ∨ (3 : Int) = 3 ∧ mx2 < mn); omega), if_neg (by show ¬ ((3 : Int) = 3 ∧ mx2 < 0); omega)]
    · show right ⟨c, w, mn, mx2, hg⟩
      unfold right sumP
      exact ⟨k1, r2, k3, k4, k5, h3⟩
  · refine ⟨?_, ?_⟩
    · unfold wr
      rw [if_neg (fun h => h (by show num 4 hg2; unfold num; omega)), if_neg (fun h => h.2 (hb _ (by decide) rfl (by show hg2 ≤ 4611686018427387904; omega))), if_neg (by omega), if_neg (by omega)]
    · show right ⟨c, w, mn, mx, hg2⟩
      unfold right sumP
      exact ⟨k1, k2, k3, k4, r5, k6⟩

theorem at_file {a b : Kn} {f : Int} (h : f = 0 ∨ f = 2 ∨ f = 3 ∨ f = 4) (hc : a.c ≤ b.c) (hmn : a.mn ≤ b.mn) (hmx : a.mx ≤ b.mx) (hhg : a.hg ≤ b.hg) : at_ a f ≤ at_ b f := by
  rcases h with rfl | rfl | rfl | rfl
  · exact hc
  · exact hmn
  · exact hmx
  · exact hhg
theorem fit_at {p k : Kn} (h : fitK p k) {f : Int} (hf : file f) (h1 : f ≠ 1) : at_ k f ≤ at_ p f :=
  at_file (by unfold file at hf; omega) h.2.1 h.2.2.1 h.2.2.2.1 h.2.2.2.2
theorem dn_three {who : Int} {a b : Kn} {s : Stp} (h : fst who a b dn 0 = some s) (hs : s.f = 3) : a.mn ≤ b.mn := by
  unfold fst dn at h
  rw [List.findSome?_cons] at h
  by_cases hg : goes 0 (at_ a 2) (at_ b 2)
  · rw [if_pos hg] at h
    injection h with h; subst h
    simp at hs
  · have : ¬ a.mn > b.mn := fun hh => hg (.inl ⟨rfl, hh⟩)
    omega
theorem up_two {who : Int} {a b : Kn} {s : Stp} (h : fst who a b upw 1 = some s) (hs : s.f = 2) : b.mx ≤ a.mx := by
  unfold fst upw at h
  rw [List.findSome?_cons] at h
  by_cases hg : goes 1 (at_ a 3) (at_ b 3)
  · rw [if_pos hg] at h
    injection h with h; subst h
    simp at hs
  · have : ¬ a.mx < b.mx := fun hh => hg (.inr ⟨rfl, hh⟩)
    omega
theorem sumC_set {l : List Kn} {i : Nat} {k k' : Kn} (h : l[i]? = some k) : sumC (l.set i k') + k.c = sumC l + k'.c := by
  induction l generalizing i with
  | nil => simp at h
  | cons a l ih =>
    cases i with
    | zero => simp at h; subst h; rw [List.set_cons_zero, sumC_cons, sumC_cons]; omega
    | succ i =>
      have := ih (by simpa using h)
      rw [List.set_cons_succ, sumC_cons, sumC_cons]; omega
theorem sumC_mono : ∀ {l m : List Kn}, l.length = m.length → (∀ (i : Nat) (a b : Kn), l[i]? = some a → m[i]? = some b → a.c ≤ b.c) → sumC l ≤ sumC m := by
  intro l
  induction l with
  | nil => intro m h _; rw [List.eq_nil_of_length_eq_zero (l := m) (by simpa using h.symm)]; exact Int.le_refl _
  | cons a l ih =>
    intro m h hc
    cases m with
    | nil => simp at h
    | cons b m =>
      have h1 := hc 0 a b rfl rfl
      have h2 := ih (m := m) (by simpa using h) fun i x y hx hy => hc (i + 1) x y hx hy
      rw [sumC_cons, sumC_cons]; omega
theorem with_c {k : Kn} {f n : Int} (h : f ≠ 0) : (with_ k f n).c = k.c := by
  unfold with_; rw [if_neg h]; split; rfl; split; rfl; split; rfl; split <;> rfl
theorem with_c0 {k : Kn} {n : Int} : (with_ k 0 n).c = n := rfl

/-- What the law asks of a step. -/
def stepE (p : Kn) (l : List Kn) (s : Stp) : Int := if s.who = -1 then wr root p l 0 s.f s.n else if 0 ≤ s.who ∧ s.who < l.length then wr p (gt l s.who.toNat) [] 0 s.f s.n else 99
theorem step_cont {p : Kn} {l : List Kn} {i : Nat} {k k2 : Kn} {s : Stp} (ha : aptL p l) (hi : l[i]? = some k) (hw : s.who = ((i : Nat) : Int)) (hn : s.n = at_ k2 s.f) (hr2 : right k2) (hf : file s.f)
    (hle : s.f ≠ 1 → at_ k2 s.f ≤ at_ p s.f) (h2 : s.f = 2 → k2.mn ≤ k.mx) (h3 : s.f = 3 → k.mn ≤ k2.mx) (hsum : p.c ≠ 4611686018427387904 → sumC (l.set i (with_ k s.f (at_ k2 s.f))) ≤ p.c) :
    stepE p l s = 0 ∧ aptL (ap p l s).1 (ap p l s).2 := by
  have hlt : i < l.length := (List.getElem?_eq_some_iff.1 hi).1
  obtain ⟨g1, g2⟩ := cont_ok hr2 hf (ha.2.1 k (List.mem_of_getElem? hi)) hle h2 h3
  have e : ap p l s = (p, l.set i (with_ k s.f (at_ k2 s.f))) := by
    unfold ap; rw [if_neg (by omega), if_pos (by omega), show s.who.toNat = i by omega, gt_eq hi, hn]
  refine ⟨?_, ?_⟩
  · unfold stepE
    rw [if_neg (by omega), if_pos (by omega), show s.who.toNat = i by omega, gt_eq hi, hn]
    exact g1
  · rw [e]
    refine ⟨ha.1, fun k' hk' => ?_, ?_⟩
    · rcases List.mem_or_eq_of_mem_set hk' with h | rfl
      · exact ha.2.1 k' h
      · exact g2
    · by_cases hc : p.c = 4611686018427387904
      · exact .inl hc
      · exact .inr (hsum hc)
theorem step_pod {p k2 : Kn} {l : List Kn} {s : Stp} (ha : aptL p l) (hw : s.who = -1) (hn : s.n = at_ k2 s.f) (hr2 : right k2) (hf : file s.f)
    (hle : s.f ≠ 1 → ∀ k ∈ l, at_ k s.f ≤ at_ k2 s.f) (h2 : s.f = 2 → k2.mn ≤ p.mx) (h3 : s.f = 3 → p.mn ≤ k2.mx) (hsum : s.f = 0 → k2.c = 4611686018427387904 ∨ sumC l ≤ k2.c) :
    stepE p l s = 0 ∧ aptL (ap p l s).1 (ap p l s).2 := by
  obtain ⟨g1, g2⟩ := pod_ok ha.1 hr2 hf hle h2 h3
  have e : ap p l s = (with_ p s.f (at_ k2 s.f), l) := by unfold ap; rw [if_pos hw, hn]
  refine ⟨?_, ?_⟩
  · unfold stepE
    rw [if_pos hw, hn]; exact g1
  · rw [e]
    refine ⟨g2, fun k hk => ?_, ?_⟩
    · have hk' := ha.2.1 k hk
      have key : ∀ f, f = 0 ∨ f = 2 ∨ f = 3 ∨ f = 4 → at_ k f ≤ at_ (with_ p s.f (at_ k2 s.f)) f := fun f h => by
        by_cases e : s.f = f
        · rw [← e, at_with_same hf]; exact hle (by omega) k hk
        · rw [at_with_ne e]; exact fit_at hk' (by unfold file; omega) (by omega)
      exact ⟨hk'.1, key 0 (by omega), key 2 (by omega), key 3 (by omega), key 4 (by omega)⟩
    · show (with_ p s.f (at_ k2 s.f)).c = _ ∨ sumC l ≤ (with_ p s.f (at_ k2 s.f)).c
      by_cases h0 : s.f = 0
      · rw [h0]
        show at_ k2 0 = _ ∨ sumC l ≤ at_ k2 0
        exact hsum h0
      · rw [with_c h0]; exact ha.2.2
theorem step_ok {p podTo : Kn} {l to : List Kn} {s : Stp} (hlen : l.length = to.length) (ha : aptL p l) (hb : aptL podTo to) (h : Ph p podTo l to s) : stepE p l s = 0 ∧ aptL (ap p l s).1 (ap p l s).2 := by
  have same : ∀ {k : Kn} {i : Nat} {n f : Int}, l[i]? = some k → (f = 0 → n ≤ k.c) → p.c ≠ 4611686018427387904 → sumC (l.set i (with_ k f n)) ≤ p.c := fun {k i n f} hi hn hc => by
    have h1 := sumC_set (k' := with_ k f n) hi
    have h2 := ha.2.2.resolve_left hc
    by_cases hf : f = 0
    · subst hf; rw [with_c0] at h1; have := hn rfl; omega
    · rw [with_c hf] at h1; omega
  cases h with
  | p1 h =>
    obtain ⟨i, k, k2, hw, hi, hi2, hf, hne, hn, hin, hg, hfst⟩ := smf_is hlen dn_file h
    have hr2 := hb.2.1 k2 (List.mem_of_getElem? hi2)
    have hk := ha.2.1 k (List.mem_of_getElem? hi)
    have hgt : at_ k s.f > at_ k2 s.f := by unfold goes at hg; omega
    have h1 : s.f ≠ 1 := by unfold dn at hin; simp at hin; omega
    have hr2' := hr2.1
    have hk1 := hk.1
    unfold right at hr2' hk1
    refine step_cont ha hi hw hn hr2.1 hf (fun _ => by have := fit_at hk hf h1; omega) (fun e => ?_) (fun e => ?_) (same hi (fun e => ?_))
    · rw [e] at hgt
      have hgt' : k.mn > k2.mn := hgt
      omega
    · have := dn_three hfst e
      omega
    · rw [e] at hgt
      have hgt' : k.c > k2.c := hgt
      rw [e]
      show k2.c ≤ k.c
      omega
  | p2 _ h =>
    obtain ⟨i, k, k2, hw, hi, hi2, hf, hne, hn⟩ := wgc_is hlen h
    have hr2 := hb.2.1 k2 (List.mem_of_getElem? hi2)
    refine step_cont ha hi hw (by rw [hf]; exact hn) hr2.1 (by rw [hf]; exact .inr (.inl rfl)) (fun e => absurd hf e) (fun e => by omega) (fun e => by omega) (same hi (fun e => by omega))
  | p2p _ _ h e =>
    subst e
    exact step_pod (k2 := podTo) ha rfl rfl hb.1 (.inr (.inl rfl)) (fun e => absurd rfl e) (fun e => by simp at e) (fun e => by simp at e) (fun e => by simp at e)
  | p3 _ _ _ h =>
    obtain ⟨hw, hf, hne, hn, hin, hg⟩ := fst_is up_file h
    have hlt : at_ p s.f < at_ podTo s.f := by unfold goes at hg; omega
    have h1 : s.f ≠ 1 := by unfold upw at hin; simp at hin; omega
    have hr := ha.1
    have hr2 := hb.1
    unfold right at hr hr2
    refine step_pod ha hw hn hb.1 hf (fun _ k hk => by have := fit_at (ha.2.1 k hk) hf h1; omega) (fun e => ?_) (fun e => ?_) (fun e => ?_)
    · have := up_two h e
      omega
    · rw [e] at hlt
      have hlt' : p.mx < podTo.mx := hlt
      omega
    · rw [e] at hlt
      have hlt' : p.c < podTo.c := hlt
      have h2 := right_c hb.1
      have h3 := ha.2.2.resolve_left (by omega)
      right; omega
  | p4 hd _ _ hu h =>
    obtain ⟨i, k, k2, hw, hi, hi2, hf, hne, hn, hin, hg, hfst⟩ := smf_is hlen up_file h
    have hr2 := hb.2.1 k2 (List.mem_of_getElem? hi2)
    have hk := ha.2.1 k (List.mem_of_getElem? hi)
    have hlt : at_ k s.f < at_ k2 s.f := by unfold goes at hg; omega
    have h1 : s.f ≠ 1 := by unfold upw at hin; simp at hin; omega
    have hpod : ∀ f ∈ upw, at_ podTo f ≤ at_ p f := fun f hf' => by
      have := fst_no hu f hf'
      unfold goes at this; omega
    have hr2' := hr2.1
    have hk1 := hk.1
    unfold right at hr2' hk1
    refine step_cont ha hi hw hn hr2.1 hf (fun _ => by have := fit_at hr2 hf h1; have := hpod s.f hin; omega) (fun e => ?_) (fun e => ?_) (fun hc => ?_)
    · have := up_two hfst e
      omega
    · rw [e] at hlt
      have hlt' : k.mx < k2.mx := hlt
      omega
    · have hpc : podTo.c ≤ p.c := hpod 0 (by unfold upw; simp)
      have hpr := right_c ha.1
      have hto := hb.2.2.resolve_left (by omega)
      have : sumC (l.set i (with_ k s.f (at_ k2 s.f))) ≤ sumC to := by
        refine sumC_mono (by rw [List.length_set]; exact hlen) fun j a b hja hjb => ?_
        have hno := fun {a b : Kn} (h1 : l[j]? = some a) (h2 : to[j]? = some b) => smf_no hd h1 h2 0 (by unfold dn; simp)
        by_cases e : j = i
        · subst e
          rw [List.getElem?_set_self (List.getElem?_eq_some_iff.1 hi).1] at hja
          injection hja with hja; subst hja
          rw [hi2] at hjb; injection hjb with hjb; subst hjb
          by_cases e0 : s.f = 0
          · rw [e0]; exact Int.le_refl _
          · rw [with_c e0]
            have := hno hi hi2
            have h' : ¬ k.c > k2.c := fun hh => this (.inl ⟨rfl, hh⟩)
            omega
        · rw [List.getElem?_set_ne (fun h => e h.symm)] at hja
          have := hno hja hjb
          have h' : ¬ a.c > b.c := fun hh => this (.inl ⟨rfl, hh⟩)
          omega
      omega
  | p5 hd hw0 hpw hu hup h =>
    obtain ⟨hw, hf, hne, hn, hin, hg⟩ := fst_is dn_file h
    have hgt : at_ p s.f > at_ podTo s.f := by unfold goes at hg; omega
    have h1 : s.f ≠ 1 := by unfold dn at hin; simp at hin; omega
    have hr := ha.1
    have hr2 := hb.1
    unfold right at hr hr2
    have heq : ∀ (i : Nat) (a b : Kn), l[i]? = some a → to[i]? = some b → ∀ f, f = 0 ∨ f = 2 ∨ f = 3 ∨ f = 4 → at_ a f = at_ b f := fun i a b h1 h2 f hf' => by
      have g1 := smf_no hd h1 h2 f (by unfold dn; simp; omega)
      have g2 := smf_no hup h1 h2 f (by unfold upw; simp; omega)
      unfold goes at g1 g2; omega
    have hin' : ∀ k ∈ l, at_ k s.f ≤ at_ podTo s.f := fun k hk => by
      obtain ⟨i, hi⟩ := List.mem_iff_getElem?.1 hk
      have hlt : i < l.length := (List.getElem?_eq_some_iff.1 hi).1
      have hi2 : to[i]? = some (to[i]'(by omega)) := List.getElem?_eq_getElem (by omega)
      rw [heq i k _ hi hi2 s.f (by unfold file at hf; omega)]
      exact fit_at (hb.2.1 _ (List.mem_of_getElem? hi2)) hf h1
    refine step_pod ha hw hn hb.1 hf (fun _ => hin') (fun e => ?_) (fun e => ?_) (fun e => ?_)
    · rw [e] at hgt
      have hgt' : p.mn > podTo.mn := hgt
      omega
    · have := dn_three h e
      omega
    · refine hb.2.2.imp id fun h => ?_
      refine Int.le_trans (sumC_mono hlen fun i a b h1 h2 => ?_) h
      exact Int.le_of_eq (heq i a b h1 h2 0 (by omega))
theorem apt_at {pod podTo : Kn} {now to : List Kn} (hlen : now.length = to.length) (ha : aptL pod now) (hb : aptL podTo to) : ∀ i, i ≤ (allS pod podTo now to).length →
    aptL (walk pod now ((allS pod podTo now to).take i)).1 (walk pod now ((allS pod podTo now to).take i)).2 := by
  intro i
  induction i with
  | zero => intro _; exact ha
  | succ i ih =>
    intro hi
    obtain ⟨s, hs⟩ : ∃ s, (allS pod podTo now to)[i]? = some s := ⟨_, List.getElem?_eq_getElem hi⟩
    rw [walk_take hs]
    have := nxt_ph (allS_at i pod now s hs)
    exact (step_ok this.1 (ih (by omega)) hb this.2).2
theorem e_at {pod podTo : Kn} {now to : List Kn} (hlen : now.length = to.length) (ha : aptL pod now) (hb : aptL podTo to) {i : Nat} {s : Stp} (hs : (allS pod podTo now to)[i]? = some s) :
    stepE (walk pod now ((allS pod podTo now to).take i)).1 (walk pod now ((allS pod podTo now to).take i)).2 s = 0 := by
  have := nxt_ph (allS_at i pod now s hs)
  have hi := (List.getElem?_eq_some_iff.1 hs).1
  exact (step_ok this.1 (apt_at hlen ha hb i (by omega)) hb this.2).1
end Go.Proofs.Ytaiomdfajdeacaa
