/-
  Part 1 of the functions and the law.
  The library's contracts of strings.Join and strconv.Itoa at this program. Written by the kit's tools (lay-shelf, lay-plain), of which two contracts were kept.
  r06: what is known of strconv.Itoa and strings.Join (the library's contracts), as functions known without their code; the one variable that they read.
-/
import Derived.Shelf.Strings.OnBuilder
import Derived.Shelf.LaysM
import Derived.Shelf.Strconv.Itoa3
import Derived.Test.YtmickbidffdklaaDoorProg
import Derived.Test.YtmickbidffdklaaDoorV9
import Derived.Test.YtmickbidffdklaaDoorChecked
import Derived.Lib.AppendIntMem
set_option linter.all false
set_option linter.unusedVariables false
set_option linter.unusedSimpArgs false
set_option linter.unusedSectionVars false
namespace Go.Proofs
open Go.Shelf
def Tryd.lays156_ren : Go.Shelf.Ren := ⟨fun | 156 => 37 | 165 => 49 | 166 => 50 | 169 => 51 | 240 => 63 | 241 => 64 | 276 => 71 | 277 => 72 | n => n, fun | 31 => 58 | 9 => 9 | 3 => 3 | 4 => 4 | 0 => 0 | 20 => 20 | 72 => 73 | 76 => 77 | 70 => 70 | 37 => 71 | 75 => 76 | 127 => 95 | 164 => 103 | 5 => 5 | 80 => 79 | n => n, fun | n => n⟩
theorem Tryd.lays156 : Go.Proofs.Lays.n156 Tryd.prog Tryd.lays156_ren := {
  mixed := by kernel_rfl
  f156 := Tryd.func37.trans (congrArg some (by kernel_rfl))
  f165 := Tryd.func49.trans (congrArg some (by kernel_rfl))
  f166 := Tryd.func50.trans (congrArg some (by kernel_rfl))
  f169 := Tryd.func51.trans (congrArg some (by kernel_rfl))
  f240 := Tryd.func63.trans (congrArg some (by kernel_rfl))
  f241 := Tryd.func64.trans (congrArg some (by kernel_rfl))
  f276 := Tryd.func71.trans (congrArg some (by kernel_rfl))
  f277 := Tryd.func72.trans (congrArg some (by kernel_rfl))
  t0 := Tryd.underlying0
  a0 := Tryd.isAgg0
  z0 := Tryd.sizeOf0
  v0 := Tryd.zeroValue0
  t3 := Tryd.underlying3
  a3 := Tryd.isAgg3
  z3 := Tryd.sizeOf3
  v3 := Tryd.zeroValue3
  t4 := Tryd.underlying4
  a4 := Tryd.isAgg4
  z4 := Tryd.sizeOf4
  v4 := Tryd.zeroValue4
  t9 := Tryd.underlying9
  a9 := Tryd.isAgg9
  z9 := Tryd.sizeOf9
  v9 := Tryd.zeroValue9
  t20 := Tryd.underlying20
  a20 := Tryd.isAgg20
  z20 := Tryd.sizeOf20
  v20 := Tryd.zeroValue20
  t31 := Tryd.underlying58
  a31 := Tryd.isAgg58
  z31 := Tryd.sizeOf58
  v31 := Tryd.zeroValue58
  t37 := Tryd.underlying71
  a37 := Tryd.isAgg71
  z37 := Tryd.sizeOf71
  v37 := Tryd.zeroValue71
  t70 := Tryd.underlying70
  a70 := Tryd.isAgg70
  z70 := Tryd.sizeOf70
  v70 := Tryd.zeroValue70
  t72 := Tryd.underlying73
  a72 := Tryd.isAgg73
  z72 := Tryd.sizeOf73
  v72 := Tryd.zeroValue73
  t75 := Tryd.underlying76
  a75 := Tryd.isAgg76
  z75 := Tryd.sizeOf76
  v75 := Tryd.zeroValue76
  t76 := Tryd.underlying77
  a76 := Tryd.isAgg77
  z76 := Tryd.sizeOf77
  v76 := Tryd.zeroValue77
  t127 := Tryd.underlying95
  a127 := Tryd.isAgg95
  z127 := Tryd.sizeOf95
  v127 := Tryd.zeroValue95
  t164 := Tryd.underlying103
  a164 := Tryd.isAgg103
  z164 := Tryd.sizeOf103
  v164 := Tryd.zeroValue103 }
theorem Tryd.Builder_Extra_156 : Builder.Extra Tryd.prog Tryd.lays156_ren := {
  sizeBuilder := by kernel_rfl
  liesBuilder := by kernel_rfl
  t5 := Tryd.underlying5
  a5 := Tryd.isAgg5
  z5 := Tryd.sizeOf5
  v5 := Tryd.zeroValue5
  infoByte := by kernel_rfl
  cellsByte := by kernel_rfl
  sizeByte := by kernel_rfl
  neB5 := by decide }
open Go.RowKit in
/-- No element: the empty string; the world is as it was. (Whatever the slice's address and capacity: a nil slice too.) (LAID: no walk: one application.) -/
theorem Tryd.strings_Join_none (a : Option Addr) (c : Nat) (sep : ByteArray) (w : World) :
    Calls Tryd.prog 37 #[.slice a 0 c, .string sep] w fun e w' => e = .returned (.string ⟨#[]⟩) ∧ w' = w := Any.strings_Join_none Tryd.lays156 Tryd.Builder_Extra_156 a c sep w
open Go.RowKit in
/-- strings.Join: "Join concatenates the elements of its first argument to create a single string. The separator string sep is placed between elements in the resulting string.": HOWEVER MANY ELEMENTS. Below the heap's end the world is as it was. (LAID: no walk: one application.) -/
theorem Tryd.strings_Join (bk o c : Nat) (xs : List ByteArray) (sep : ByteArray) (w : World) (hcells : ∀ (j : Nat) x, xs[j]? = some x → w.cell? ⟨bk, o + j, none⟩ = some (.string x)) (hbk : bk < w.heap.size) (hN : xs.length ≤ 140737488355328) (hcap : xs.length ≤ c) (hlen : (Lib.join (xs.map (·.data.toList)) sep.data.toList).length ≤ 140737488355328) :
    Calls Tryd.prog 37 #[.slice (some ⟨bk, o, none⟩) xs.length c, .string sep] w fun e w' => e = .returned (.string ⟨(Lib.join (xs.map (·.data.toList)) sep.data.toList).toArray⟩) ∧ Below w.heap.size w w' := Any.strings_Join Tryd.lays156 Tryd.Builder_Extra_156 bk o c xs sep w hcells hbk hN hcap hlen
def Tryd.laysM171_ren : Go.Shelf.Ren := ⟨fun | 171 => 36 | 243 => 48 | 246 => 62 | 283 => 67 | 284 => 68 | 285 => 69 | 286 => 70 | 129 => 75 | 317 => 74 | 318 => 76 | 319 => 77 | 320 => 78 | 337 => 79 | 338 => 80 | n => n, fun | 3 => 3 | 9 => 9 | 2 => 2 | 4 => 4 | 171 => 98 | 0 => 0 | 53 => 80 | 37 => 71 | 5 => 5 | 173 => 101 | 212 => 84 | 51 => 108 | 20 => 20 | 213 => 109 | 46 => 110 | 232 => 113 | 233 => 114 | n => n, fun | 17 => 0 | 18 => 2 | 19 => 3 | n => n⟩
theorem Tryd.laysM171 : Go.Proofs.LaysM.n171 Tryd.prog Tryd.laysM171_ren := {
  mixed := by kernel_rfl
  f129 := Tryd.func75.trans (congrArg some (by kernel_rfl))
  f171 := Tryd.func36.trans (congrArg some (by kernel_rfl))
  f243 := Tryd.func48.trans (congrArg some (by kernel_rfl))
  f246 := Tryd.func62.trans (congrArg some (by kernel_rfl))
  f283 := Tryd.func67.trans (congrArg some (by kernel_rfl))
  f284 := Tryd.func68.trans (congrArg some (by kernel_rfl))
  f285 := Tryd.func69.trans (congrArg some (by kernel_rfl))
  f286 := Tryd.func70.trans (congrArg some (by kernel_rfl))
  f317 := Tryd.func74.trans (congrArg some (by kernel_rfl))
  f318 := Tryd.func76.trans (congrArg some (by kernel_rfl))
  f319 := Tryd.func77.trans (congrArg some (by kernel_rfl))
  f320 := Tryd.func78.trans (congrArg some (by kernel_rfl))
  f337 := Tryd.func79.trans (congrArg some (by kernel_rfl))
  f338 := Tryd.func80.trans (congrArg some (by kernel_rfl))
  t0 := Tryd.underlying0
  a0 := Tryd.isAgg0
  z0 := Tryd.sizeOf0
  v0 := Tryd.zeroValue0
  t2 := Tryd.underlying2
  a2 := Tryd.isAgg2
  z2 := Tryd.sizeOf2
  v2 := Tryd.zeroValue2
  t3 := Tryd.underlying3
  a3 := Tryd.isAgg3
  z3 := Tryd.sizeOf3
  v3 := Tryd.zeroValue3
  t4 := Tryd.underlying4
  a4 := Tryd.isAgg4
  z4 := Tryd.sizeOf4
  v4 := Tryd.zeroValue4
  t5 := Tryd.underlying5
  a5 := Tryd.isAgg5
  z5 := Tryd.sizeOf5
  v5 := Tryd.zeroValue5
  t9 := Tryd.underlying9
  a9 := Tryd.isAgg9
  z9 := Tryd.sizeOf9
  v9 := Tryd.zeroValue9
  t20 := Tryd.underlying20
  a20 := Tryd.isAgg20
  z20 := Tryd.sizeOf20
  v20 := Tryd.zeroValue20
  t37 := Tryd.underlying71
  a37 := Tryd.isAgg71
  z37 := Tryd.sizeOf71
  v37 := Tryd.zeroValue71
  t46 := Tryd.underlying110
  a46 := Tryd.isAgg110
  z46 := Tryd.sizeOf110
  v46 := Tryd.zeroValue110
  t51 := Tryd.underlying108
  a51 := Tryd.isAgg108
  z51 := Tryd.sizeOf108
  v51 := Tryd.zeroValue108
  t53 := Tryd.underlying80
  a53 := Tryd.isAgg80
  z53 := Tryd.sizeOf80
  v53 := Tryd.zeroValue80
  t171 := Tryd.underlying98
  a171 := Tryd.isAgg98
  z171 := Tryd.sizeOf98
  v171 := Tryd.zeroValue98
  t173 := Tryd.underlying101
  a173 := Tryd.isAgg101
  z173 := Tryd.sizeOf101
  v173 := Tryd.zeroValue101
  t212 := Tryd.underlying84
  a212 := Tryd.isAgg84
  z212 := Tryd.sizeOf84
  v212 := Tryd.zeroValue84
  t213 := Tryd.underlying109
  a213 := Tryd.isAgg109
  z213 := Tryd.sizeOf109
  t232 := Tryd.underlying113
  a232 := Tryd.isAgg113
  z232 := Tryd.sizeOf113
  v232 := Tryd.zeroValue113
  t233 := Tryd.underlying114
  a233 := Tryd.isAgg114
  z233 := Tryd.sizeOf114
  v233 := Tryd.zeroValue114
  g17 := by kernel_rfl
  g18 := by kernel_rfl
  g19 := by kernel_rfl
  i0 := by kernel_rfl
  i2 := by kernel_rfl
  i3 := by kernel_rfl
  i4 := by kernel_rfl
  i5 := by kernel_rfl
  i9 := by kernel_rfl
  i20 := by kernel_rfl
  i37 := by kernel_rfl
  i46 := by kernel_rfl
  i51 := by kernel_rfl
  i53 := by kernel_rfl
  i171 := by kernel_rfl
  i173 := by kernel_rfl
  i212 := by kernel_rfl
  i232 := by kernel_rfl
  i233 := by kernel_rfl
  m17 := by kernel_rfl
  m18 := by kernel_rfl
  m19 := by kernel_rfl }
open Go.RowKit Go.Sort Go.Lib in
/-- strconv.Itoa: "Itoa is equivalent to FormatInt(int64(i), 10).": i's DECIMAL NUMERAL ('Lib.itoa': a '-' where i is negative, then the digits), FOR EVERY int. The world behind the call: the world before it, new blocks behind the heap (the library's 'var a [24]byte'), draws. (LAID: no walk: one application.) -/
theorem Tryd.strconv_Itoa (n : Int) (h0 : -9223372036854775808 ≤ n) (h1 : n ≤ 9223372036854775807) (w : World) (htab : Lib.TabIs Tryd.prog w "internal/strconv.uint64pow10" .u64 Lib.pow10Tab) :
    Calls Tryd.prog 36 #[.int .i64 n] w fun e w' => e = .returned (.string ⟨(Lib.itoa n).toArray⟩) ∧ ∃ k os, w' = grow (w.drewN k) os := Any.strconv_Itoa Tryd.laysM171 n h0 h1 w htab
end Go.Proofs

namespace Go.VM
open Go Go.RowKit Go.Proofs

def tab10 : List Value := Lib.pow10Tab.map fun z => Value.int .u64 z
def gi : Imm := fun a => bif a.block == 0 && a.spot.isNone then tab10[a.off]? else none
def gn : Addr → Bool := fun a => a.block == 0 && a.spot.isNone && decide (20 ≤ a.off)
def strsP : List PV → Option (List ByteArray)
  | [] => some []
  | .str s :: l => (strsP l).map (s :: ·)
  | _ => none
def joinB (xs : List ByteArray) (sep : ByteArray) : List UInt8 := Lib.join (xs.map (·.data.toList)) sep.data.toList
def joinP : List PV → Option PV
  | [.sl _ n cs, .str sep] => match strsP cs with
    | some xs => bif n == xs.length && decide (xs.length ≤ 140737488355328) && decide ((joinB xs sep).length ≤ 140737488355328) then some (.str ⟨(joinB xs sep).toArray⟩) else none
    | none => none
  | _ => none
def itoaP : List PV → Option PV
  | [.int .i64 n] => bif decide (-9223372036854775808 ≤ n) && decide (n ≤ 9223372036854775807) then some (.str ⟨(Lib.itoa n).toArray⟩) else none
  | _ => none
def pr : FuncId → Option (List PV → Option PV) := fun f => bif f == 36 then some itoaP else bif f == 37 then some joinP else none

theorem tab_is {md : FuncId → Mode} {base : Nat} {κ : K} {H : Heap} {w : World} (h : SRel ⟨Tryd.prog, md, gi, gn⟩ base κ H w) : Lib.TabIs Tryd.prog w "internal/strconv.uint64pow10" .u64 Lib.pow10Tab := by
  have hg : Tryd.prog.globalNamed "internal/strconv.uint64pow10" = some 0 := by kernel_rfl
  have hl : tab10.length = 20 := by simp [tab10, Lib.pow10Tab_length]
  have hc : ∀ i v, tab10[i]? = some v → w.cell? ⟨0, i, none⟩ = some v := fun i v hv => h.imm _ _ (h.gv _ _ (by simpa [gi] using hv))
  have he : w.cell? ⟨0, 20, none⟩ = none := (h.gn ⟨0, 20, none⟩ (by simp [gn])).2
  have h0 := hc 0 _ (List.getElem?_eq_getElem (by omega))
  unfold Lib.TabIs World.var?
  rw [hg, Option.bind_some]
  unfold World.cell? at h0 he hc
  dsimp only at h0 he hc
  split at h0 <;> simp_all
  rename_i cs _ _ _
  show cs = tab10.toArray
  have hs : cs.size ≤ 20 := he
  apply Array.ext'
  refine List.ext_getElem? fun i => ?_
  by_cases hi : i < 20
  · have := hc i _ (List.getElem?_eq_getElem (by omega))
    rw [Array.getElem?_toList, List.toList_toArray, List.getElem?_eq_getElem (by omega)]
    exact this
  · rw [List.getElem?_eq_none (by simp; omega), List.getElem?_eq_none (by simp; omega)]

theorem strsP_rel {I : Imm} : ∀ {cs : List PV} {vs : List Value} {xs : List ByteArray}, PRels I cs vs → strsP cs = some xs → vs = xs.map .string
  | [], _, _, .nil, h => by cases h; rfl
  | _ :: _, _, _, .cons p v ps us h1 h2, h => by
    cases p <;> simp only [strsP, reduceCtorEq, Option.map_eq_some_iff] at h
    obtain ⟨ys, hy, rfl⟩ := h
    cases h1
    rw [strsP_rel h2 hy]; rfl

theorem out_str {Γ : Ctx} {base : Nat} {κ : K} {H : Heap} {w w' : World} (h : SRel Γ base κ H w) (s : ByteArray) (hb : Below w.heap.size w w') : Out Γ base κ H w (.pv (.str s)) H (.returned (.string s)) w' := by
  obtain ⟨h1, h2⟩ := h.turnNone (κ' := κ) ⟨hb.os, hb.tape, hb.output, hb.size⟩ κ.le_refl rfl rfl (fun k hk => hb.block k hk) (fun a v hv => .inl hv)
  exact ⟨κ, .pv _ _ (.str s), h1, h2⟩

theorem prOK (md : FuncId → Mode) : ∀ f g, pr f = some g → FnOK Tryd.prog f ∧ ∀ ps p, g ps = some p → ∀ base κ H w vs, SRel ⟨Tryd.prog, md, gi, gn⟩ base κ H w → PRels κ.imm ps vs →
    CallsIn Fence.wide 0 Tryd.prog f vs.toArray w (Out ⟨Tryd.prog, md, gi, gn⟩ base κ H w (.pv p) H) := by
  intro f g hg
  unfold pr at hg
  cases hf : f == 36 with
  | true =>
    obtain rfl := eq_of_beq hf
    obtain rfl := Option.some.inj hg
    refine ⟨⟨_, Tryd.func36, by kernel_rfl, by kernel_rfl⟩, fun ps p hp base κ H w vs hS hr => ?_⟩
    unfold itoaP at hp
    split at hp
    next n =>
      cases hd : decide (-9223372036854775808 ≤ n) && decide (n ≤ 9223372036854775807) with
      | false => rw [hd] at hp; cases hp
      | true =>
        rw [hd] at hp
        obtain rfl := Option.some.inj hp
        simp only [Bool.and_eq_true, decide_eq_true_eq] at hd
        cases hr with | cons _ _ _ _ h1 h2 =>
        cases h1; cases h2
        refine callsIn_wide.2 ((Go.Proofs.Tryd.strconv_Itoa n hd.1 hd.2 w (tab_is hS)).mono fun e w' ⟨h1, k, os, h2⟩ => ?_)
        subst h1 h2
        exact out_str hS _ (Lib.below_grow _ _ (Nat.le_refl _) _ _)
    next => cases hp
  | false =>
    rw [hf] at hg
    cases hf2 : f == 37 with
    | false => rw [hf2] at hg; cases hg
    | true =>
      rw [hf2] at hg
      obtain rfl := eq_of_beq hf2
      obtain rfl := Option.some.inj hg
      refine ⟨⟨_, Tryd.func37, by kernel_rfl, by kernel_rfl⟩, fun ps p hp base κ H w vs hS hr => ?_⟩
      unfold joinP at hp
      split at hp
      next x n cs sep =>
        cases hx : strsP cs with
        | none => rw [hx] at hp; cases hp
        | some xs =>
          rw [hx] at hp
          dsimp only at hp
          cases hd : n == xs.length && decide (xs.length ≤ 140737488355328) && decide ((joinB xs sep).length ≤ 140737488355328) with
          | false => rw [hd] at hp; cases hp
          | true =>
            rw [hd] at hp
            obtain rfl := Option.some.inj hp
            simp only [Bool.and_eq_true, decide_eq_true_eq, beq_iff_eq] at hd
            obtain ⟨⟨rfl, hN⟩, hL⟩ := hd
            have hnone : ∀ a c, xs = [] → CallsIn Fence.wide 0 Tryd.prog 37 #[.slice a 0 c, .string sep] w (Out ⟨Tryd.prog, md, gi, gn⟩ base κ H w (.pv (.str ⟨(joinB xs sep).toArray⟩)) H) := by
              intro a c he
              subst he
              refine callsIn_wide.2 ((Go.Proofs.Tryd.strings_Join_none a c sep w).mono fun e w' ⟨h1, h2⟩ => ?_)
              subst h1 h2
              exact out_str hS _ (Below.refl _ _)
            cases hr with | cons _ v0 _ _ h1 h2 => cases h2 with | cons _ v1 _ _ h3 h4 =>
            cases h3; cases h4
            cases hxs : xs with
            | nil =>
              subst hxs
              cases h1 with
              | slNil => exact hnone _ _ rfl
              | sl => exact hnone _ _ rfl
            | cons x0 xr =>
              have hne : 0 < xs.length := by rw [hxs]; simp
              rw [← hxs]
              generalize hm : xs.length = m at h1 hN hne
              cases h1 with
              | slNil => omega
              | sl _ _ _ a cap us hx0 hx1 hx2 hx3 hx4 hx5 =>
                subst hm
                have hus := strsP_rel hx3 hx
                have hcell : ∀ (j : Nat) (y : ByteArray), xs[j]? = some y → w.cell? (a.add j) = some (.string y) := fun j y hy => hS.imm _ _ (hx4 j _ (by rw [hus, List.getElem?_map, hy]; rfl))
                obtain ⟨bk, o, sp⟩ := a
                have hc0 := hcell 0 _ (List.getElem?_eq_getElem hne)
                have hsp : sp = none := by
                  cases sp with
                  | none => rfl
                  | some s => unfold World.cell? Addr.add at hc0; simp at hc0; split at hc0 <;> simp_all
                subst hsp
                refine callsIn_wide.2 ((Go.Proofs.Tryd.strings_Join bk o cap xs sep w (fun j y hy => by have := hcell j y hy; unfold Addr.add at this; split at this <;> simp_all) (block_lt hc0) (by omega) (by omega) hL).mono fun e w' ⟨h1, h2⟩ => ?_)
                subst h1
                exact out_str hS _ h2
      next => cases hp
end Go.VM
