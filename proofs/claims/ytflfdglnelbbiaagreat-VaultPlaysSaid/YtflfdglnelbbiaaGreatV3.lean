/-
  Part 3 of an abstract machine that answers as the model does.
  Building, cutting, appending, copying.
  Cutting, appending, copying, making.
  Appending, copying, making, bytes and strings.
  Appending, copying, making, bytes and strings: what the model does.
-/
import Derived.Test.YtflfdglnelbbiaaGreatV2
import Derived.Laws.Slices
import Derived.Laws.BytesString
import Derived.Lib.AppendZerosOnto
set_option linter.all false
set_option linter.unusedVariables false
set_option linter.unusedSimpArgs false
set_option linter.unusedSectionVars false
namespace Go.VM
open Go
section
variable {Γ:Ctx} {base:Nat} {κ:K} {H:Heap} {w:World}
theorem foldl_set (vs:List Value):∀ (i off:Nat) (cells:Array Value),off+i+vs.length≤cells.size →
 ((vs.toArray.zipIdx i).foldl (fun cs (p:Value × Nat)=>cs.setIfInBounds (off+p.2) p.1) cells).toList=cells.toList.take (off+i)++vs++cells.toList.drop (off+i+vs.length):=by
 induction vs with
 | nil=>
   intro i off cells _
   have e:(([]:List Value).toArray.zipIdx i) = #[]:=by apply Array.ext'; simp
   rw [e]; simp
 | cons v vs ih=>
   intro i off cells h
   simp only [List.length_cons] at h
   have e:(v::vs).toArray.zipIdx i = #[(v,i)]++vs.toArray.zipIdx (i+1):=by
    apply Array.ext'
    simp
   rw [e,Array.foldl_append]
   simp only [List.foldl_toArray',List.foldl_cons,List.foldl_nil]
   have:=ih (i+1) off (cells.setIfInBounds (off+i) v) (by simp; omega)
   simp only [List.length_cons] at this ⊢
   rw [this]
   have:=list_seg_step cells.toList (off+i) v vs (by simp; omega)
   simpa [Array.toList_setIfInBounds,Nat.add_assoc,Nat.add_comm,Nat.add_left_comm] using this
theorem fill_one {place:Nat→Option (Nat × Nat)} {cells:List Value} {i off n:Nat} {v:Value} {rest:List (Nat × Value)} (hp:place i=some (off,n)) (hv:v.cells.size=n) (hl:off+n≤cells.length) :
 Instr.fill place cells.toArray ((i,v)::rest)=Instr.fill place (cells.take off++v.cells.toList++cells.drop (off+n)).toArray rest:=by
 have h:=foldl_set v.cells.toList 0 off cells.toArray (by simp [hv]; omega)
 simp only [Array.toArray_toList,Nat.add_zero,Array.length_toList,hv] at h
 have h':v.cells.zipIdx.foldl (fun cs (p:Value × Nat)=>cs.setIfInBounds (off+p.2) p.1) cells.toArray=(cells.take off++v.cells.toList++cells.drop (off+n)).toArray:=by
  apply Array.ext'
  simpa using h
 simp only [Instr.fill,hp]
 have hc:¬ (v.cells.size≠n∨off+v.cells.size>cells.toArray.size):=by simp [hv]; omega
 rw [show (if v.cells.size≠n||off+v.cells.size>cells.toArray.size then (none:Option (Array Value)) else Instr.fill place (v.cells.zipIdx.foldl (fun cs (c,j)=>cs.setIfInBounds (off+j) c) cells.toArray) rest)=Instr.fill place (v.cells.zipIdx.foldl (fun cs (c,j)=>cs.setIfInBounds (off+j) c) cells.toArray) rest from if_neg (by simpa using hc)]
 exact congrArg (fun x=>Instr.fill place x rest) h'
inductive PartsRel (κ:K) (place:Nat→Option (Nat × Nat)):List (Nat × Nat × AV)→List (Nat × Value)→Prop
 | nil:PartsRel κ place [] []
 | cons (i off n x v l m):place i=some (off,n)→VRel κ x v→PartsRel κ place l m→PartsRel κ place ((off,n,x)::l) ((i,v)::m)
theorem compParts_rel {r:Regs} {a:Act} (hr:RRel κ r a) {place:Nat→Option (Nat × Nat)} {most:Nat} {parts:List (Nat × Operand)} {ps:List (Nat × Nat × Opd)} (h:compParts place most parts=some ps) :
 PartsRel κ place (ps.map fun (o,n,x)=>(o,n,x.ev r)) (parts.map fun (i,x)=>(i,a.eval x)) ∧ ∀ p∈ps,p.1+p.2.1≤most:=by
 induction parts generalizing ps with
 | nil=>simp [compParts] at h; subst h; exact ⟨.nil,fun _ h=>by cases h⟩
 | cons p parts ih=>
   obtain ⟨i,x⟩:=p
   simp only [compParts] at h
   split at h
   ·rename_i off n y q h1 h2 h3
    cases hb:Nat.ble (off+n) most with
    | false=>rw [hb] at h; simp at h
    | true=>
      rw [hb] at h; simp only [cond_true] at h
      injection h with h; subst h
      obtain ⟨g1,g2⟩:=ih h3
      refine ⟨.cons _ _ _ _ _ _ _ h1 (aJ hr h2) g1,fun p hp=>?_⟩
      rcases List.mem_cons.1 hp with e | e
      ·subst e; exact Nat.le_of_ble_eq_true hb
      ·exact g2 p e
   ·cases h
theorem cells_of_agg (vs:List Value):(Value.agg vs.toArray).cells.toList=vs:=by simp [Value.cells]
theorem cells_of_one {v:Value} (h:v.oneCell'=true):v.cells = #[v]:=by cases v<;>first | rfl | simp [Value.oneCell'] at h
theorem fill_rel:∀ (l:List (Nat × Nat × PV)) (m:List (Nat × Value)) (place:Nat→Option (Nat × Nat)) (z out:List PV) (cells:List Value),
 PartsRel κ place (l.map fun (o,n,p)=>(o,n,AV.pv p)) m→(∀ p∈l,p.1+p.2.1≤z.length)→PRels κ.imm z cells→Ones cells→fill z l=some out →
 ∃ c,Instr.fill place cells.toArray m=some c.toArray∧PRels κ.imm out c∧Ones c∧out.length=z.length:=by
 intro l
 induction l with
 | nil=>
   intro m place z out cells hp _ hz h1 he
   cases hp
   simp [fill] at he; subst he
   exact ⟨cells,by simp [Instr.fill],hz,h1,rfl⟩
 | cons q l ih=>
   intro m place z out cells hp hb hz h1 he
   obtain ⟨off,n,p⟩:=q
   simp only [List.map_cons] at hp
   cases hp with
   | cons i _ _ _ v _ m hpl hv hrest=>
     cases hv with
     | pv _ _ hv=>
       have hle:off+n≤z.length:=hb (off,n,p) (by simp)
       have hlc:off+n≤cells.length:=by rw [←hz.length]; exact hle
       have hlen:∀ (qs:List PV),qs.length=n→(z.take off++qs++z.drop (off+n)).length=z.length:=by
        intro qs hq
        simp only [List.length_append,List.length_take,List.length_drop,hq]
        omega
       have step:∀ (qs:List PV) (us:List Value),PRels κ.imm qs us→Ones us→qs.length=n→v.cells.toList=us→fill (z.take off++qs++z.drop (off+n)) l=some out →
        ∃ c,Instr.fill place cells.toArray ((i,v)::m)=some c.toArray∧PRels κ.imm out c∧Ones c∧out.length=z.length:=by
        intro qs us hqs hu1 hqn hcu hf
        have hvn:v.cells.size=n:=by rw [←Array.length_toList,hcu,←hqs.length]; exact hqn
        rw [fill_one hpl hvn hlc,hcu]
        obtain ⟨c,g1,g2,g3,g4⟩:=ih m place _ out _ hrest (fun p hp=>by rw [hlen qs hqn]; exact hb p (by simp [hp])) (hz.splice hqs off n) (h1.splice hu1 off n) hf
        exact ⟨c,g1,g2,g3,by rw [g4,hlen qs hqn]⟩
       have stepOne:PV.one p=true→(bif Nat.beq n 1 then fill (z.set off p) l else none)=some out →
        ∃ c,Instr.fill place cells.toArray ((i,v)::m)=some c.toArray∧PRels κ.imm out c∧Ones c∧out.length=z.length:=by
        intro hone hf
        cases hn:Nat.beq n 1 with
        | false=>rw [hn] at hf; simp at hf
        | true=>
          rw [hn] at hf; simp only [cond_true] at hf
          have hn1:n=1:=Nat.eq_of_beq_eq_true hn
          subst hn1
          have h2:=PRel.one hv hone
          refine step [p] [v] (.cons _ _ _ _ hv .nil) (.cons h2 .nil) rfl (by rw [cells_of_one h2]) ?_
          rw [←hf]
          congr 1
          rw [List.set_eq_take_append_cons_drop,if_pos (by omega)]; simp
       cases hv with
       | agg qs us hqs hu1=>
         simp only [fill] at he
         cases hb2:Nat.beq qs.length n with
         | false=>rw [hb2] at he; simp at he
         | true=>
           rw [hb2] at he; simp only [cond_true] at he
           exact step qs us hqs hu1 (Nat.eq_of_beq_eq_true hb2) (cells_of_agg us) he
       | tup=>simp [fill] at he
       | _=>exact stepOne rfl (by simpa [fill] using he)
theorem partsPV_eq {l:List (Nat × Nat × AV)} {ps:List (Nat × Nat × PV)} (h:partsPV l=some ps):l=ps.map fun (o,n,p)=>(o,n,AV.pv p):=by
 induction l generalizing ps with
 | nil=>simp [partsPV] at h; subst h; rfl
 | cons q l ih=>
   obtain ⟨o,n,x⟩:=q
   cases x with
   | pv p=>
     simp only [partsPV,Option.map_eq_some_iff] at h
     obtain ⟨qs,h1,rfl⟩:=h
     simp [ih h1]
   | _=>simp [partsPV] at h
theorem cellsOf_rel {x:AV} {v:Value} (h:VRel κ x v) (hn:x.isTup=false):VRels κ x.cellsOf v.cells.toList∧Ones v.cells.toList:=by
 have one:x.cellsOf=[x]→v.oneCell'=true→VRels κ x.cellsOf v.cells.toList∧Ones v.cells.toList:=fun e h1=>by
  rw [e,cells_of_one h1]
  exact ⟨.cons _ _ _ _ h .nil,.cons h1 .nil⟩
 cases x with
 | pv p=>
   cases p with
   | agg ps=>cases h with
     | pv _ _ h=>cases h with
       | agg _ us h1 h2=>simp only [AV.cellsOf,Value.cells]; exact ⟨VRels.of_pv h1,h2⟩
   | tup=>simp [AV.isTup] at hn
   | _=>exact one rfl (h.one rfl)
 | agg cs=>cases h with
   | agg _ us h1 h2=>simp only [AV.cellsOf,Value.cells]; exact ⟨h1,h2⟩
 | tup=>simp [AV.isTup] at hn
 | _=>exact one rfl (h.one rfl)
theorem fillA_rel:∀ (l:List (Nat × Nat × AV)) (m:List (Nat × Value)) (place:Nat→Option (Nat × Nat)) (z out:List AV) (cells:List Value),
 PartsRel κ place l m→(∀ p∈l,p.1+p.2.1≤z.length)→VRels κ z cells→Ones cells→fillA z l=some out →
 ∃ c,Instr.fill place cells.toArray m=some c.toArray∧VRels κ out c∧Ones c∧out.length=z.length:=by
 intro l
 induction l with
 | nil=>
   intro m place z out cells hp _ hz h1 he
   cases hp
   simp [fillA] at he; subst he
   exact ⟨cells,by simp [Instr.fill],hz,h1,rfl⟩
 | cons q l ih=>
   intro m place z out cells hp hb hz h1 he
   cases hp with
   | cons i off n x v _ m hpl hv hrest=>
     have hle:off+n≤z.length:=hb (off,n,x) (by simp)
     have hlc:off+n≤cells.length:=by rw [←hz.length]; exact hle
     simp only [fillA] at he
     cases hc:(!x.isTup&&Nat.beq x.cellsOf.length n) with
     | false=>rw [hc] at he; simp at he
     | true=>
       rw [hc] at he; simp only [cond_true] at he
       simp only [Bool.and_eq_true,Bool.not_eq_true'] at hc
       obtain ⟨g1,g2⟩:=cellsOf_rel hv hc.1
       have hqn:x.cellsOf.length=n:=Nat.eq_of_beq_eq_true hc.2
       have hvn:v.cells.size=n:=by rw [←Array.length_toList,←g1.length]; exact hqn
       have hlen:(z.take off++x.cellsOf++z.drop (off+n)).length=z.length:=by
        simp only [List.length_append,List.length_take,List.length_drop,hqn]
        omega
       rw [fill_one hpl hvn hlc]
       obtain ⟨c,k1,k2,k3,k4⟩:=ih m place _ out _ hrest (fun p hp=>by rw [hlen]; exact hb p (by simp [hp])) (hz.splice g1 off n) (h1.splice g2 off n) he
       exact ⟨c,k1,k2,k3,by rw [k4,hlen]⟩
theorem zeroT_rel {t:TypeId} {ps:List PV} (h:zeroT Γ.P t=some ps):∃ i z,Γ.P.info? t=some i∧i.zero=some z∧PRels κ.imm ps z.cells.toList∧Ones z.cells.toList∧ps.length=i.size:=by
 unfold zeroT at h
 split at h
 ·rename_i i hi
  split at h
  ·rename_i z hz
   split at h
   ·rename_i qs hq
    cases hb:Nat.beq qs.length i.size with
    | false=>rw [hb] at h; simp at h
    | true=>
      rw [hb] at h; simp only [cond_true] at h
      injection h with h; subst h
      obtain ⟨a,b⟩:=scalarsPV_rel κ.imm hq
      exact ⟨i,z,hi,hz,a,b,Nat.eq_of_beq_eq_true hb⟩
   ·cases h
  ·cases h
 ·cases h
theorem run_zeroValue' {t:TypeId} {i:TypeInfo} {z:Value} (hi:Γ.P.info? t=some i) (hz:i.zero=some z):(zeroValue t).run Γ.P w = .ok z w:=by
 simp [zeroValue,typeInfo,hi,hz]
theorem zeros_cells (z:List Value) (n:Nat):((Array.range (n*z.length)).map fun i=>z.toArray[i % z.toArray.size]!).toList=(List.replicate n z).flatten:=by
 apply List.ext_getElem?
 intro j
 simp only [Array.toList_map,Array.toList_range,List.getElem?_map]
 by_cases hj:j<n*z.length
 ·have hz:0<z.length:=by
   rcases Nat.eq_zero_or_pos z.length with h | h
   ·rw [h] at hj; simp at hj
   ·exact h
  have hm:j % z.length<z.length:=Nat.mod_lt _ hz
  rw [List.getElem?_range hj]
  simp only [Option.map_some]
  have e:(List.replicate n z).flatten[j]? = z[j % z.length]? := by
   induction n generalizing j with
   | zero=>simp at hj
   | succ n ih=>
     rw [List.replicate_succ,List.flatten_cons,List.getElem?_append]
     split
     ·rename_i hlt; rw [Nat.mod_eq_of_lt hlt]
     ·rename_i hge
      have hge:z.length≤j:=by omega
      rw [ih (j-z.length) (by rw [Nat.add_mul] at hj; omega) (Nat.mod_lt _ hz)]
      rw [Nat.mod_eq_sub_mod hge]
  rw [e]
  simp [hm]
 ·rw [List.getElem?_eq_none (by simp; omega),List.getElem?_eq_none (by simp; omega)]
  rfl
theorem zerosOf_flat (z:List PV) (n:Nat):zerosOf z n=(List.replicate n z).flatten:=by
 induction n with
 | zero=>rfl
 | succ n ih=>rw [zerosOf,ih,List.replicate_succ,List.flatten_cons]
theorem PRels.flat {I:Imm} {ps:List PV} {vs:List Value} (h:PRels I ps vs) (n:Nat):PRels I (List.replicate n ps).flatten (List.replicate n vs).flatten:=by
 induction n with
 | zero=>exact .nil
 | succ n ih=>rw [List.replicate_succ,List.flatten_cons,List.replicate_succ,List.flatten_cons]; exact h.append ih
theorem Ones.flat {vs:List Value} (h:Ones vs) (n:Nat):Ones (List.replicate n vs).flatten:=by
 induction n with
 | zero=>exact .nil
 | succ n ih=>rw [List.replicate_succ,List.flatten_cons]; exact h.append ih
end
end Go.VM
namespace Go.VM
open Go
theorem aG (i es:Nat):mulE i es=i*es:=by
 unfold mulE
 cases h:Nat.beq es 1 with
 | true=>have:=Nat.eq_of_beq_eq_true h; subst this; simp
 | false=>rfl
theorem addO_eq (a b:Nat):addO a b=a+b:=by
 unfold addO
 cases h:Nat.beq a 0 with
 | true=>have:=Nat.eq_of_beq_eq_true h; subst this; simp
 | false=>
   cases h2:Nat.beq b 0 with
   | true=>have:=Nat.eq_of_beq_eq_true h2; subst this; simp
   | false=>rfl
section inv
variable {R:Type}
theorem idxK_inv {i:AV} {len:Nat} {F:Nat→Option R} {y:R} (h:idxK i len F=some y):∃ k j,i = .pv (.int k j)∧0≤j∧j<(len:Int)∧F j.toNat=some y:=by
 unfold idxK at h
 split at h
 ·rename_i k j
  rw [needK_def] at h
  cases hb:(decide (0≤j)&&decide (j<(len:Int))) with
  | false=>rw [hb] at h; simp at h
  | true=>
    rw [hb] at h
    simp only [Bool.and_eq_true,decide_eq_true_eq] at hb
    exact ⟨k,j,rfl,hb.1,hb.2,h⟩
 ·cases h
theorem boundK_inv {x:Option AV} {d y:Nat} {F:Nat→Option R} {z:R} (h:boundK x d y F=some z) :
 (x=none∧F d=some z) ∨ ∃ k i,x=some (.pv (.int k i))∧0≤i∧i≤(y:Int)∧F i.toNat=some z:=by
 unfold boundK at h
 split at h
 ·exact .inl ⟨rfl,h⟩
 ·rename_i k i
  rw [needK_def] at h
  cases hb:(decide (0≤i)&&decide (i≤(y:Int))) with
  | false=>rw [hb] at h; simp at h
  | true=>
    rw [hb] at h
    simp only [Bool.and_eq_true,decide_eq_true_eq] at hb
    exact .inr ⟨k,i,rfl,hb.1,hb.2,h⟩
 ·cases h
theorem aZ {p:Bool} {x:Option R} {y:R} (h:needK p x=some y):p=true∧x=some y:=by
 rw [needK_def] at h
 cases p with
 | false=>simp at h
 | true=>exact ⟨rfl,h⟩
end inv
section
variable {Γ:Ctx} {base:Nat} {κ:K} {H:Heap} {w:World}
def ORel (κ:K):Option AV→Option Value→Prop
 | none,none=>True
 | some a,some v=>VRel κ a v
 | _,_=>False
theorem run_bounds {lo hi:Option AV} {vlo vhi:Option Value} (hl:ORel κ lo vlo) (hh:ORel κ hi vhi) (isS:Bool) {len cap n:Nat} (hn:n≤cap) (hlen:len=n) {R:Type} {F:Nat→Nat→Option R} {y:R}
 (he:(boundK hi n n fun h=>boundK lo 0 h fun l=>F h l)=some y) :
 ∃ h l,l≤h∧h≤n∧(hi=none→h=n)∧F h l=some y∧(Instr.sliceBounds isS len cap vlo vhi none).run Γ.P w = .ok (l,h,cap) w:=by
 subst hlen
 have low:∀ h,h≤len→(boundK lo 0 h fun l=>F h l)=some y→∃ l,l≤h∧F h l=some y∧(match vlo with | some v=>Instr.sliceBound v h (if false then .slice3C else .sliceB) | none=>pure 0:Sem Nat).run Γ.P w = .ok l w:=by
  intro h _ hb
  rcases boundK_inv hb with ⟨e,hF⟩ | ⟨k,i,e,h0,h1,hF⟩
  ·subst e
   cases vlo with
   | none=>exact ⟨0,Nat.zero_le _,hF,rfl⟩
   | some _=>exact hl.elim
  ·subst e
   cases vlo with
   | none=>exact hl.elim
   | some v=>
     have:=bm (κ:=κ) hl
     subst this
     refine ⟨i.toNat,by omega,hF,?_⟩
     simp [run_sliceBound w k i h _ h0 h1]
 rcases boundK_inv he with ⟨e,hF⟩ | ⟨k,i,e,h0,h1,hF⟩
 ·subst e
  cases vhi with
  | some _=>exact hh.elim
  | none=>
    obtain ⟨l,hle,hF2,hr⟩:=low len (Nat.le_refl _) hF
    refine ⟨len,l,hle,Nat.le_refl _,fun _=>rfl,hF2,?_⟩
    cases vlo with
    | none=>simp [Instr.sliceBounds] at hr ⊢; exact hr
    | some v=>simp [Instr.sliceBounds] at hr ⊢; simp [hr]
 ·subst e
  cases vhi with
  | none=>exact hh.elim
  | some v=>
    have:=bm (κ:=κ) hh
    subst this
    obtain ⟨l,hle,hF2,hr⟩:=low i.toNat (by omega) hF
    refine ⟨i.toNat,l,hle,by omega,(nomatch ·),hF2,?_⟩
    have hb:∀ c,(Instr.sliceBound (.int k i) cap c).run Γ.P w = .ok i.toNat w:=fun c=>run_sliceBound w k i cap c h0 (by omega)
    cases vlo with
    | none=>simp [Instr.sliceBounds,hb] at hr ⊢; exact hr
    | some v=>simp [Instr.sliceBounds,hb] at hr ⊢; simp [hr]
theorem part_rel {I:Imm} {e e':Ext} {n:Nat} {cs:List PV} {v:Value} (hv:PRel I (.sl e n cs) v) {es l h m:Nat} (hlh:l≤h) (hhn:h≤n)
 (hm:∀ a cap,v = .slice (some a) n cap→h≤m∧(e' = .exact∨e' = .nnx→m=h)) (he:e' ≠ .nil) (hnn:e' = .nn∨e' = .nnx→e = .nn∨e = .nnx) :
 (v = .slice none 0 0∧l=0∧h=0∧PRel I (.sl e' (h-l) ((cs.drop (l*es)).take ((h-l)*es))) (.slice none 0 0)) ∨
 (∃ a cap,v = .slice (some a) n cap∧n≤cap∧(e = .exact∨e = .nnx→cap=n)∧PRel I (.sl e' (h-l) ((cs.drop (l*es)).take ((h-l)*es))) (.slice (if m=l then some a else some (a.add (l*es))) (h-l) (m-l))):=by
 cases hv with
 | slNil _ k1 k2=>
   have hl:l=0:=by omega
   have hh:h=0:=by omega
   subst hl; subst hh
   exact .inl ⟨rfl,rfl,rfl,by simpa using PRel.slNil (I:=I) e' (fun h=>(hnn (.inl h)).elim k1 k2) (fun h=>(hnn (.inr h)).elim k1 k2)⟩
 | sl _ _ _ a cap vs h1 h2 h3 h4 h5 h6=>
   obtain ⟨hm1,hm2⟩:=hm a cap rfl
   refine .inr ⟨a,cap,rfl,h3,h2,?_⟩
   have hrel:=(h4.drop (l*es)).take ((h-l)*es)
   by_cases hml:m=l
   ·rw [if_pos hml]
    have hhl:h-l=0:=by omega
    rw [hhl] at hrel ⊢
    simp only [Nat.zero_mul,List.take_zero]
    exact .sl e' 0 [] a (m-l) [] he (fun _=>by omega) (Nat.zero_le _) .nil (fun j v hj=>by simp at hj) .nil
   ·rw [if_neg hml]
    refine .sl e' _ _ (a.add (l*es)) (m-l) _ he (fun hx=>by have:=hm2 hx; omega) (by omega) hrel (fun j v hj=>?_) ((h6.drop _).take _)
    rw [addr_add_add]
    refine h5 _ _ ?_
    rw [List.getElem?_take] at hj
    split at hj
    ·rwa [List.getElem?_drop] at hj
    ·cases hj
theorem run_sliceAt_sl {t e:TypeId} {es:Nat} (ht:Γ.P.underlying t=some (.slice e)) (hn:sizeT Γ.P e=some es) {a:Option Addr} {len cap l h m:Nat} {lo hi mx:Option Value}
 (hb:(Instr.sliceBounds true len cap lo hi mx).run Γ.P w = .ok (l,h,m) w) :
 (Instr.sliceAt t (.slice a len cap) lo hi mx).run Γ.P w = .ok (.slice (if m=l then a else a.map (·.add (l*es))) (h-l) (m-l)) w:=by
 simp [Instr.sliceAt,Instr.slice,run_underlying ht,hb,bd hn]
theorem PRel.tsl_unk {I:Imm} {n k cap:Nat} {cs:List PV} {vs:List Value} (h2:n≤cap) (h3:PRels I cs vs) (h4:∀ (j:Nat) (v:Value),vs[j]? = some v→I ⟨k,j,none⟩=some v) (h5:Ones vs) :
 PRel I (.sl .nn n cs) (.slice (some ⟨k,0,none⟩) n cap):=
 .sl .nn n cs _ cap vs (by simp) (by simp) h2 h3 (fun j v hj=>by rw [addr_add_lit]; exact h4 j v hj) h5
theorem tsl_plain {t n:Nat} {cs:List PV} {v:Value} (h:VRel κ (.tsl t n cs) v):PRel κ.imm (.sl .nn n cs) v:=by
 cases h with
 | tsl _ _ _ k cap vs h1 h2 h3 h4 h5=>exact PRel.tsl_unk h2 h3 h4 h5
theorem part_ne (e:Ext) (f c:Bool):e.part f c ≠ .nil:=by cases e<;>cases f<;>cases c<;>simp [Ext.part]
theorem slice_value {t e:TypeId} {es:Nat} (ht:Γ.P.underlying t=some (.slice e)) (hn:sizeT Γ.P e=some es) {x:Ext} {n:Nat} {cs:List PV} {vx:Value} (hx:PRel κ.imm (.sl x n cs) vx)
 {lo hi:Option AV} {vlo vhi vmx:Option Value} (hl:ORel κ lo vlo) (hh:ORel κ hi vhi) (hm:ORel κ none vmx) {v:AV} (x1:Ext) (hx1:x1 ≠ .nil) (hx2:x1 = .exact∨x1 = .nnx→(hi=none∧x ≠ .unk∧x ≠ .nn)∨x = .nil) (hx3:x1 = .nn∨x1 = .nnx→x = .nn∨x = .nnx)
 (he:(boundK hi n n fun h=>boundK lo 0 h fun l=>eqK ((cs.drop (mulE l es)).take (mulE (h-l) es)) fun cs'=>some (AV.pv (.sl x1 (h-l) cs')))=some v) :
 ∃ v',(Instr.sliceAt t vx vlo vhi vmx).run Γ.P w = .ok v' w∧VRel κ v v':=by
 cases vmx with
 | some _=>exact hm.elim
 | none=>
   have key:∀ (a:Option Addr) (cap:Nat),vx = .slice a n cap→n≤cap→(x = .exact∨x = .nnx→cap=n)→(x = .nil→cap=n)→∃ v',(Instr.sliceAt t vx vlo vhi none).run Γ.P w = .ok v' w∧VRel κ v v':=by
    intro a cap hva hcap hex hnil
    obtain ⟨h,l,hlh,hhn,hnone,hF,hr⟩:=run_bounds (Γ:=Γ) (w:=w) hl hh true hcap rfl he
    rw [bh] at hF
    simp only [aG] at hF
    injection hF with hF; subst hF
    have hm':x1 = .exact∨x1 = .nnx→cap=h:=fun e1=>by
     rcases hx2 e1 with ⟨e2,e3⟩ | e2
     rotate_left
     ·subst e2
      have h0:n=0:=by
       cases hx with
       | slNil=>rfl
       | sl _ _ _ a cap us h1=>exact absurd rfl h1
      have:=hnil rfl
      omega
     rw [hnone e2]
     cases x with
     | unk=>exact absurd rfl e3.1
     | nn=>exact absurd rfl e3.2
     | exact=>exact hex (.inl rfl)
     | nnx=>exact hex (.inr rfl)
     | nil=>exact hnil rfl
    rcases part_rel (m:=cap) (es:=es) (l:=l) (h:=h) (e':=x1) hx hlh hhn (fun a' cap' e=>⟨by omega,hm'⟩) hx1 hx3 with ⟨e,e1,e2,hrel⟩ | ⟨a',cap',e,_,_,hrel⟩
    ·rw [hva] at e; injection e with e3 e4 e5
     subst e3; subst e4; subst e5; subst e1; subst e2
     refine ⟨_,by rw [hva]; exact run_sliceAt_sl ht hn hr,.pv _ _ ?_⟩
     simpa using hrel
    ·rw [hva] at e; injection e with e3 e4 e5
     subst e3; subst e5
     refine ⟨_,by rw [hva]; exact run_sliceAt_sl ht hn hr,.pv _ _ ?_⟩
     simpa using hrel
   cases hx with
   | slNil=>exact key none 0 rfl (Nat.le_refl _) (fun _=>rfl) (fun _=>rfl)
   | sl _ _ _ a cap vs h1 h2 h3 h4 h5 h6=>exact key (some a) cap rfl h3 h2 (fun e=>absurd e h1)
theorem slice_value3 {t e:TypeId} {es:Nat} (ht:Γ.P.underlying t=some (.slice e)) (hn:sizeT Γ.P e=some es) {x:Ext} {n:Nat} {cs:List PV} {vx:Value} (hx:PRel κ.imm (.sl x n cs) vx)
 {lo:Option AV} {vlo vhi vmx:Option Value} {k k':IntKind} {m m':Int} (hl:ORel κ lo vlo) (hh:ORel κ (some (.pv (.int k' m'))) vhi) (hm:ORel κ (some (.pv (.int k m))) vmx) {v:AV}
 (he:needK (decide (m=m')) (boundK (some (.pv (.int k' m'))) n n fun h=>boundK lo 0 h fun l=>eqK ((cs.drop (mulE l es)).take (mulE (h-l) es)) fun cs'=>some (AV.pv (.sl .exact (h-l) cs')))=some v) :
 ∃ v',(Instr.sliceAt t vx vlo vhi vmx).run Γ.P w = .ok v' w∧VRel κ v v':=by
 cases vmx with
 | none=>exact hm.elim
 | some vm=>
   cases vhi with
   | none=>exact hh.elim
   | some vh=>
     obtain ⟨hb,he⟩:=aZ he
     have hmh:m=m':=by simpa using hb
     subst hmh
     have hvm:=bm (κ:=κ) hm
     have hvh:=bm (κ:=κ) hh
     subst hvm; subst hvh
     have key:∀ (a:Option Addr) (cap:Nat),vx = .slice a n cap→n≤cap→∃ v',(Instr.sliceAt t vx vlo (some (.int k' m)) (some (.int k m))).run Γ.P w = .ok v' w∧VRel κ v v':=by
      intro a cap hva hcap
      rcases boundK_inv he with ⟨e,_⟩ | ⟨k2,i,e,h0,h1,hF⟩
      ·cases e
      ·injection e with e; injection e with e; injection e with e1 e2
       subst e2
       have low:∃ l,l≤m.toNat∧eqK ((cs.drop (mulE l es)).take (mulE (m.toNat-l) es)) (fun cs'=>some (AV.pv (.sl .exact (m.toNat-l) cs')))=some v ∧
        (Instr.sliceBounds true n cap vlo (some (.int k' m)) (some (.int k m))).run Γ.P w = .ok (l,m.toNat,m.toNat) w:=by
        have hb1:∀ k c,(Instr.sliceBound (.int k m) cap c).run Γ.P w = .ok m.toNat w:=fun k c=>run_sliceBound w k m cap c h0 (by omega)
        have hb2:∀ k c,(Instr.sliceBound (.int k m) m.toNat c).run Γ.P w = .ok m.toNat w:=fun k c=>run_sliceBound w k m _ c h0 (by omega)
        rcases boundK_inv hF with ⟨e,hF2⟩ | ⟨k3,i3,e,g0,g1,hF2⟩
        ·subst e
         cases vlo with
         | some _=>exact hl.elim
         | none=>exact ⟨0,Nat.zero_le _,hF2,by simp [Instr.sliceBounds,hb1,hb2]⟩
        ·subst e
         cases vlo with
         | none=>exact hl.elim
         | some vl=>
           have hvl:=bm (κ:=κ) hl
           subst hvl
           exact ⟨i3.toNat,by omega,hF2,by simp [Instr.sliceBounds,hb1,hb2,run_sliceBound w k3 i3 m.toNat _ g0 g1]⟩
       obtain ⟨l,hle,hF2,hr⟩:=low
       rw [bh] at hF2
       simp only [aG] at hF2
       injection hF2 with hF2; subst hF2
       rcases part_rel (m:=m.toNat) (es:=es) (l:=l) (h:=m.toNat) (e':=.exact) hx hle (by omega) (fun a' cap' _=>⟨Nat.le_refl _,fun _=>rfl⟩) (by simp) (by simp) with ⟨e,e1,e2,hrel⟩ | ⟨a',cap',e,_,_,hrel⟩
       ·rw [hva] at e; injection e with e3 e4 e5
        subst e3; subst e4; subst e5; subst e1
        refine ⟨_,by rw [hva]; exact run_sliceAt_sl ht hn hr,.pv _ _ ?_⟩
        rw [e2] at hrel ⊢
        simpa using hrel
       ·rw [hva] at e; injection e with e3 e4 e5
        subst e3; subst e5
        refine ⟨_,by rw [hva]; exact run_sliceAt_sl ht hn hr,.pv _ _ ?_⟩
        simpa using hrel
     cases hx with
     | slNil=>exact key none 0 rfl (Nat.le_refl _)
     | sl _ _ _ a cap vs h1 h2 h3 h4 h5 h6=>exact key (some a) cap rfl h3
theorem sliceS_rel {t e:TypeId} {es:Nat} (ht:Γ.P.underlying t=some (.slice e)) (hn:sizeT Γ.P e=some es) {x:AV} {vx:Value} (hx:VRel κ x vx)
 {lo hi mx:Option AV} {vlo vhi vmx:Option Value} (hl:ORel κ lo vlo) (hh:ORel κ hi vhi) (hm:ORel κ mx vmx) {v:AV}
 (he:sliceSK es x lo hi mx (fun v=>some v)=some v):∃ v',(Instr.sliceAt t vx vlo vhi vmx).run Γ.P w = .ok v' w∧VRel κ v v':=by
 unfold sliceSK at he
 split at he
 ·rename_i x n cs
  cases hx with
  | pv _ _ hx=>
    split at he
    ·refine slice_value ht hn hx hl hh hm (x.part hi.isNone false) (part_ne _ _ _) (fun e=>?_) (fun e=>?_) he
     ·cases x<;>cases hi<;>simp_all [Ext.part]
     ·cases x<;>cases hi<;>simp_all [Ext.part]
    ·split at he
     ·exact slice_value3 ht hn hx hl hh hm he
     ·cases he
 ·rename_i tk n cs
  split at he
  ·exact slice_value ht hn (tsl_plain hx) hl hh hm .nn (by simp) (by simp) (by simp) he
  ·split at he
   ·exact slice_value3 ht hn (tsl_plain hx) hl hh hm he
   ·cases he
 ·rename_i es' id off n cap
  cases hx with
  | hs _ _ _ _ _ k cap' h1 h2 h3=>
    cases mx with
    | some _=>simp at he
    | none=>
      cases vmx with
      | some _=>exact hm.elim
      | none=>
        simp only at he
        obtain ⟨h,l,hlh,hhn,hnone,hF,hr⟩:=run_bounds (Γ:=Γ) (w:=w) (cap:=cap') hl hh true (by omega) rfl he
        obtain ⟨hb,hF⟩:=aZ hF
        simp only [aG,addO_eq] at hF
        injection hF with hF; subst hF
        refine ⟨_,run_sliceAt_sl ht hn hr,?_⟩
        have hor:l<cap∨l=0:=by
         rw [Bool.or_eq_true] at hb
         rcases hb with hb | hb
         ·exact .inl (blt_lt hb)
         ·exact .inr (Nat.eq_of_beq_eq_true hb)
        by_cases hml:cap'=l
        ·rw [if_pos hml]
         have hl0:l=0:=by omega
         subst hl0
         simpa using VRel.hs (κ:=κ) _ _ _ (h-0) (cap-0) k (cap'-0) h1 (by omega) (by omega)
        ·rw [if_neg hml]
         simp only [Option.map_some,bb]
         exact .hs _ _ _ _ _ k _ h1 (by omega) (by omega)
 ·rename_i tk m
  cases hx with
  | zsl _ _ k cap h1 h2=>
    cases mx with
    | some _=>simp at he
    | none=>
      cases vmx with
      | some _=>exact hm.elim
      | none=>
        cases lo with
        | some _=>simp at he
        | none=>
          cases vlo with
          | some _=>exact hl.elim
          | none=>
            simp only at he
            have he':(boundK hi m m fun h=>boundK (none:Option AV) 0 h fun _=>needK (Nat.beq h 0) (some (AV.tsl tk 0 [])))=some v:=he
            obtain ⟨h,l,hlh,hhn,hnone,hF,hr⟩:=run_bounds (Γ:=Γ) (w:=w) (cap:=cap) (vlo:=none) (lo:=none) trivial hh true h2 rfl he'
            have hq:=aZ hF
            clear hF
            obtain ⟨hb,hF⟩:=hq
            have h0:=Nat.eq_of_beq_eq_true hb
            subst h0
            have hl0:l=0:=by omega
            subst hl0
            have hF:=Option.some.inj hF
            subst hF
            refine ⟨_,run_sliceAt_sl ht hn hr,?_⟩
            by_cases hml:cap=0
            ·rw [if_pos hml]
             simpa using VRel.tsl (κ:=κ) tk 0 [] k cap [] h1 (Nat.zero_le _) .nil (fun j v hj=>by simp at hj) .nil
            ·rw [if_neg hml]
             simp only [Option.map_some,bb]
             simpa using VRel.tsl (κ:=κ) tk 0 [] k cap [] h1 (Nat.zero_le _) .nil (fun j v hj=>by simp at hj) .nil
 ·cases he
end
end Go.VM
namespace Go.VM
open Go
section
variable {Γ:Ctx} {base:Nat} {κ:K} {H:Heap} {w:World}
structure SrcRel (Γ:Ctx) (κ:K) (w:World) (x:AV) (vx:Value) (m:Nat) (new:List PV) (news:List Value):Prop where
 rel:PRels κ.imm new news
 ones:Ones news
 form:(∃ s,vx = .string s∧news=byteCells s∧m=s.size)∨(vx = .slice none 0 0∧m=0∧news=[])∨(∃ a c,vx = .slice (some a) m c ∧ ∀ (j:Nat) (v:Value),news[j]? = some v→w.cell? (a.add j)=some v)
theorem bytesCells_rel (I:Imm) (s:ByteArray):PRels I (bytesCells s) (byteCells s):=by
 unfold bytesCells byteCells
 induction s.data.toList with
 | nil=>exact .nil
 | cons b l ih=>exact .cons _ _ _ _ (.int _ _) ih
theorem byteCells_ones (s:ByteArray):Ones (byteCells s):=fun v hv=>by
 unfold byteCells at hv
 obtain ⟨b,_,rfl⟩:=List.mem_map.1 hv
 rfl
theorem srcK_inv {R:Type} (hs:SRel Γ base κ H w) {x:AV} {vx:Value} (hx:VRel κ x vx) {m:Nat} (hm:srcLen x=some m) {F:List PV→Option R} {y:R} (h:srcK H x F=some y) :
 ∃ new news,F new=some y∧SrcRel Γ κ w x vx m new news∧(∀ es id off n cap,x = .hs es id off n cap→new.length=n*es):=by
 unfold srcK at h
 split at h
 ·rename_i e n cs
  simp [srcLen] at hm; subst hm
  cases hx with
  | pv _ _ hx=>cases hx with
    | slNil=>exact ⟨[],[],h,⟨.nil,.nil,.inr (.inl ⟨rfl,rfl,rfl⟩)⟩,fun _ _ _ _ _ e=>by cases e⟩
    | sl _ _ _ a cap vs h1 h2 h3 h4 h5 h6=>exact ⟨cs,vs,h,⟨h4,h6,.inr (.inr ⟨a,cap,rfl,fun j v hj=>hs.imm _ _ (h5 j v hj)⟩)⟩,fun _ _ _ _ _ e=>by cases e⟩
 ·rename_i t n cs
  simp [srcLen] at hm; subst hm
  cases hx with
  | tsl _ _ _ k cap vs h1 h2 h3 h4 h5=>exact ⟨cs,vs,h,⟨h3,h5,.inr (.inr ⟨_,cap,rfl,fun j v hj=>by rw [addr_add_lit]; exact hs.imm _ _ (h4 j v hj)⟩)⟩,fun _ _ _ _ _ e=>by cases e⟩
 ·rename_i es id off n cap
  simp [srcLen] at hm; subst hm
  rw [bf] at h
  split at h
  ·rename_i cs hg
   rw [secK_def] at h
   cases hb:Nat.ble (off+n*es) cs.length with
   | false=>rw [hb] at h; simp at h
   | true=>
     rw [hb] at h; simp only [cond_true] at h
     have hle:=Nat.le_of_ble_eq_true hb
     cases hx with
     | hs _ _ _ _ _ k cap' h1 h2 h3=>
       obtain ⟨c,rest,e,hw,hr,hones,_⟩:=(ptr_cells hs h1).1 cs hg
       refine ⟨_,(c.drop off).take (n*es),h,⟨(hr.drop off).take _,(hones.drop off).take _,.inr (.inr ⟨_,cap',rfl,fun j v hj=>?_⟩)⟩,fun _ _ _ _ _ e=>?_⟩
       ·rw [bb]
        rw [List.getElem?_take] at hj
        split at hj
        ·rw [List.getElem?_drop] at hj
         exact cell_at hw (app_get hj)
        ·cases hj
       ·injection e with e1 e2 e3 e4 e5
        subst e1; subst e4
        simp; omega
  ·cases h
 ·rename_i s
  simp [srcLen] at hm; subst hm
  have:=str_rel hx
  subst this
  exact ⟨_,_,h,⟨bytesCells_rel _ s,byteCells_ones s,.inl ⟨s,rfl,rfl,rfl⟩⟩,fun _ _ _ _ _ e=>by cases e⟩
 ·cases h
theorem SrcRel.src {x:AV} {vx:Value} {m es:Nat} {new:List PV} {news:List Value} (h:SrcRel Γ κ w x vx m new news) {tx:TypeId} (hl:news.length=m*es) {d:TypeDesc} (ht:Γ.P.underlying tx=some d)
 (hd:d = .string ∨ ∃ e,d = .slice e) (hstr:d = .string→es=1) (hstr2:(∃ s,vx = .string s)→d = .string) (hsl:(¬ ∃ s,vx = .string s)→∃ e,d = .slice e):Src Γ.P es tx vx m news w:=by
 rcases h.form with ⟨s,rfl,rfl,rfl⟩ | ⟨rfl,rfl,rfl⟩ | ⟨a,c,rfl,hc⟩
 ·have hd':=hstr2 ⟨s,rfl⟩
  subst hd'
  have:=hstr rfl
  subst this
  exact Src.ofString w ht s
 ·obtain ⟨e,rfl⟩:=hsl (by rintro ⟨s,e⟩; cases e)
  exact Src.ofNil w ht 0
 ·obtain ⟨e,rfl⟩:=hsl (by rintro ⟨s,e⟩; cases e)
  exact Src.ofSlice w ht a m c news hl hc h.ones
def K.tok (κ:K) (t n:Nat) (p:Nat × Nat):K:={ κ with tl:=fun i j=>if i=t∧j=n then some p else κ.tl i j }
theorem K.le_tok (κ:K) {t n:Nat} {p:Nat × Nat} (h:κ.tl t n=none):κ.le (κ.tok t n p):=
 ⟨fun _ _ h=>h,fun _ _ h=>h,fun i j q hq=>by
   show (if i=t∧j=n then some p else κ.tl i j)=some q
   split
   ·rename_i e; rw [e.1,e.2,h] at hq; cases hq
   ·exact hq⟩
theorem K.tok_same (κ:K) (t n:Nat) (p:Nat × Nat):(κ.tok t n p).tl t n=some p:=by simp [K.tok]
theorem SRel.newTok (hs:SRel Γ base κ H w) (c rest:List Value) (e:TypeId) (n es cap:Nat) (hc:c.length=n*es) (hl:(c++rest).length=cap*es) (hcap:cap≤maxLen) (hn:n≤cap) :
 let w':=w.alloc (.cells (c++rest).toArray e)
 let κ':=(κ.keep w.heap.size c.length c).tok H.length n (w.heap.size,cap)
 SRel Γ base κ' (H++[.tok n es]) w'∧Grow κ H w κ' (H++[.tok n es]) w'∧(∀ (j:Nat) (v:Value),c[j]? = some v→κ'.imm ⟨w.heap.size,j,none⟩=some v)∧κ'.tl H.length n=some (w.heap.size,cap):=by
 have htn:κ.tl H.length n=none:=(hs.fresh _ (Nat.le_refl _)).2 n
 have hle:κ.le ((κ.keep w.heap.size c.length c).tok H.length n (w.heap.size,cap)):=
  K.le_trans (κ.le_keep _ _ _) (K.le_tok _ htn)
 have hnew:(w.alloc (.cells (c++rest).toArray e)).heap[w.heap.size]? = some (.cells (c++rest).toArray e):=heap_alloc_new w _
 have hg:=hs.turnNew (κ':=(κ.keep w.heap.size c.length c).tok H.length n (w.heap.size,cap)) (w':=w.alloc (.cells (c++rest).toArray e)) (.tok n es) w.heap.size (Same.alloc w _) hle (fun _ _=>rfl)
  (fun i hi=>by funext j; simp [K.tok,K.keep,hi]) (fun k hk=>heap_alloc_old w _ k hk)
  (fun a v hv=>by
    rcases K.keep_some (κ:=κ) (k:=w.heap.size) (n:=c.length) (c:=c) hv with h1 | ⟨h1,h2,h3,h4⟩
    ·exact .inl h1
    ·refine .inr ⟨by omega,?_⟩
     unfold World.cell?
     rw [h1,hnew]
     simp only [h2,Option.isSome_none,Bool.false_eq_true,if_false]
     simpa using app_get h4)
  (by simp [place,K.tok]) (Nat.le_refl _)
  ⟨cap,c++rest,e,K.tok_same _ _ _ _,hnew,hl,hcap,hn,fun a ha hne=>by
    cases hv:((κ.keep w.heap.size c.length c).tok H.length n (w.heap.size,cap)).imm a with
    | none=>exact absurd hv hne
    | some v=>
      rcases K.keep_some (κ:=κ) (k:=w.heap.size) (n:=c.length) (c:=c) hv with h1 | ⟨h1,h2,h3,h4⟩
      ·rw [hs.imm_none a (by omega)] at h1; cases h1
      ·omega,
    fun m hm=>by
     show (if H.length=H.length∧m=n then some (w.heap.size,cap) else κ.tl H.length m)=none
     rw [if_neg (by omega)]
     exact (hs.fresh _ (Nat.le_refl _)).2 m⟩
 refine ⟨hg.1,hg.2,fun j v hv=>?_,K.tok_same _ _ _ _⟩
 exact K.keep_at (hs.imm_none _ (by simp)) (List.getElem?_eq_some_iff.1 hv).1 hv
theorem tok_place {t n es:Nat} {k cap:Nat} (hg:hget H t = .tok n es) (h:κ.tl t n=some (k,cap)):place κ t (hget H t)=some k:=by rw [hg]; simp [place,h]
theorem SRel.roomTok (hs:SRel Γ base κ H w) {t n es k cap:Nat} {c:List Value} {e:TypeId} {news:List Value} {m:Nat} (hg:hget H t = .tok n es) (htl:κ.tl t n=some (k,cap))
 (hw:w.heap[k]? = some (.cells c.toArray e (0,0))) (hl:c.length=cap*es) (hcap:cap≤maxLen) (hroom:n+m≤cap) (hnews:news.length=m*es) (hm:0<m)
 (hbound:∀ a:Addr,a.block=k→κ.imm a≠none→a.off<n*es) (htn:∀ m,n<m→κ.tl t m=none) :
 let c':=c.take (n*es)++news++c.drop (n*es+news.length)
 let w':=w.setRow k c'.toArray
 let κ':=(κ.keep k ((n+m)*es) c').tok t (n+m) (k,cap)
 SRel Γ base κ' (hset H t (.tok (n+m) es)) w'∧Grow κ H w κ' (hset H t (.tok (n+m) es)) w'∧(∀ (j:Nat) (v:Value),news[j]? = some v→κ'.imm ⟨k,n*es+j,none⟩=some v)∧κ'.tl t (n+m)=some (k,cap):=by
 intro c' w' κ'
 have hp:=tok_place hg htl
 have hmul:(n+m)*es=n*es+m*es:=Nat.add_mul _ _ _
 have hmul2:(n+m)*es≤cap*es:=Nat.mul_le_mul_right _ hroom
 have hlen:c'.length=cap*es:=by
  show (c.take (n*es)++news++c.drop (n*es+news.length)).length=cap*es
  simp only [List.length_append,List.length_take,List.length_drop]
  omega
 have hle:κ.le κ':=K.le_trans (κ.le_keep _ _ _) (K.le_tok _ (htn (n+m) (by omega)))
 have hnew:w'.heap[k]? = some (.cells c'.toArray e (0,0)):=setRow_heap w k _ _ e _ hw
 have old:∀ j v,κ.imm ⟨k,j,none⟩=some v→c'[j]? = some v:=by
  intro j v hv
  have hj:j<n*es:=hbound ⟨k,j,none⟩ rfl (by rw [hv]; simp)
  have:=hs.imm _ _ hv
  simp [World.cell?,hw] at this
  show (c.take (n*es)++news++c.drop (n*es+news.length))[j]? = some v
  rw [List.append_assoc,List.getElem?_append_left (by simp; omega),List.getElem?_take,if_pos hj]
  exact this
 have hg2:=hs.turnOne (κ':=κ') (w':=w') t (.tok (n+m) es) k k ⟨rfl,rfl,rfl,by show w.heap.size≤(w.setRow k c'.toArray).heap.size; simp⟩ hle hp rfl (fun i hi=>by funext j; simp [κ',K.tok,K.keep,hi])
  (fun j _ hj=>setRow_other w k j _ hj)
  (fun a v hv=>by
    rcases K.keep_some (κ:=κ) (k:=k) (n:=(n+m)*es) (c:=c') hv with h1 | ⟨h1,h2,h3,h4⟩
    ·by_cases hb:a.block=k
     ·have hcell:=hs.imm _ _ h1
      have hsp:a.spot=none:=by
       cases hsp:a.spot with
       | none=>rfl
       | some s=>simp [World.cell?,hb,hw,hsp] at hcell
      have ea:a=⟨k,a.off,none⟩:=by cases a; simp_all
      refine ⟨?_,.inl h1⟩
      rw [ea] at h1 ⊢
      have:=old _ _ h1
      simp [World.cell?,hnew,this]
     ·exact ⟨by rw [cell_setRow_other w k _ a hb]; exact hs.imm _ _ h1,.inl h1⟩
    ·have ea:a=⟨k,a.off,none⟩:=by cases a; simp_all
     refine ⟨?_,.inr (.inr h1)⟩
     rw [ea]
     simp [World.cell?,hnew,h4])
  (fun j hj=>by
    simp only [place] at hj
    rw [show κ'.tl t (n+m)=some (k,cap) from K.tok_same _ _ _ _] at hj
    simpa using hj.symm)
  (.inl rfl)
  ⟨cap,c',e,K.tok_same _ _ _ _,hnew,hlen,hcap,hroom,fun a ha hne=>by
    cases hv:κ'.imm a with
    | none=>exact absurd hv hne
    | some v=>
      rcases K.keep_some (κ:=κ) (k:=k) (n:=(n+m)*es) (c:=c') hv with h1 | ⟨h1,h2,h3,h4⟩
      ·have:=hbound a ha (by rw [h1]; simp); omega
      ·exact h3,
    fun j hj=>by
     show (if t=t∧j=n+m then some (k,cap) else κ.tl t j)=none
     rw [if_neg (by omega)]
     exact htn j (by omega)⟩
 refine ⟨hg2.1,hg2.2,fun j v hv=>?_,K.tok_same _ _ _ _⟩
 have hj:j<news.length:=(List.getElem?_eq_some_iff.1 hv).1
 refine K.keep_at ?_ (by omega) ?_
 ·cases h0:κ.imm ⟨k,n*es+j,none⟩ with
  | none=>rfl
  | some u=>have:=hbound ⟨k,n*es+j,none⟩ rfl (by rw [h0]; simp); simp only at this; omega
 ·show (c.take (n*es)++news++c.drop (n*es+news.length))[n*es+j]? = some v
  have:(c.take (n*es)).length=n*es:=by simp; omega
  rw [List.append_assoc,List.getElem?_append_right (by omega),this,Nat.add_sub_cancel_left,List.getElem?_append_left hj]
  exact hv
theorem SRel.moveTok (hs:SRel Γ base κ H w) {t n es k cap:Nat} (hg:hget H t = .tok n es) (htl:κ.tl t n=some (k,cap)) (htn:∀ m,n<m→κ.tl t m=none)
 (c rest:List Value) (e:TypeId) (n' cap':Nat) (hn':n<n') (hc:c.length=n'*es) (hl:(c++rest).length=cap'*es) (hcap:cap'≤maxLen) (hn:n'≤cap') :
 let w':=w.alloc (.cells (c++rest).toArray e)
 let κ':=(κ.keep w.heap.size c.length c).tok t n' (w.heap.size,cap')
 SRel Γ base κ' (hset H t (.tok n' es)) w'∧Grow κ H w κ' (hset H t (.tok n' es)) w'∧(∀ (j:Nat) (v:Value),c[j]? = some v→κ'.imm ⟨w.heap.size,j,none⟩=some v)∧κ'.tl t n'=some (w.heap.size,cap'):=by
 intro w' κ'
 have hp:=tok_place hg htl
 have hle:κ.le κ':=K.le_trans (κ.le_keep _ _ _) (K.le_tok _ (htn n' hn'))
 have hnew:w'.heap[w.heap.size]? = some (.cells (c++rest).toArray e):=heap_alloc_new w _
 have hg2:=hs.turnOne (κ':=κ') (w':=w') t (.tok n' es) k w.heap.size (Same.alloc w _) hle hp rfl (fun i hi=>by funext j; simp [κ',K.tok,K.keep,hi])
  (fun j hj _=>heap_alloc_old w _ j hj)
  (fun a v hv=>by
    rcases K.keep_some (κ:=κ) (k:=w.heap.size) (n:=c.length) (c:=c) hv with h1 | ⟨h1,h2,h3,h4⟩
    ·exact ⟨(World.cell?_of_block (heap_alloc_old w _ _ (block_lt (hs.imm _ _ h1)))).trans (hs.imm _ _ h1),.inl h1⟩
    ·refine ⟨?_,.inr (.inl (by omega))⟩
     unfold World.cell?
     rw [h1,hnew]
     simp only [h2,Option.isSome_none,Bool.false_eq_true,if_false]
     simpa using app_get h4)
  (fun j hj=>by
    simp only [place] at hj
    rw [show κ'.tl t n'=some (w.heap.size,cap') from K.tok_same _ _ _ _] at hj
    simpa using hj.symm)
  (.inr (Nat.le_refl _))
  ⟨cap',c++rest,e,K.tok_same _ _ _ _,hnew,hl,hcap,hn,fun a ha hne=>by
    cases hv:κ'.imm a with
    | none=>exact absurd hv hne
    | some v=>
      rcases K.keep_some (κ:=κ) (k:=w.heap.size) (n:=c.length) (c:=c) hv with h1 | ⟨h1,h2,h3,h4⟩
      ·rw [hs.imm_none a (by omega)] at h1; cases h1
      ·omega,
    fun j hj=>by
     show (if t=t∧j=n' then some (w.heap.size,cap') else κ.tl t j)=none
     rw [if_neg (by omega)]
     exact htn j (by omega)⟩
 refine ⟨hg2.1,hg2.2,fun j v hv=>?_,K.tok_same _ _ _ _⟩
 exact K.keep_at (hs.imm_none _ (by simp)) (List.getElem?_eq_some_iff.1 hv).1 hv
end
end Go.VM
namespace Go.VM
open Go
section
variable {Γ:Ctx} {base:Nat} {κ:K} {H:Heap} {w:World}
def RunOK (Γ:Ctx) (base:Nat) (κ:K) (H:Heap) (w:World) (s:Sem Value) (v:AV) (H':Heap):Prop:=
 ∃ v' κ' w',s.run Γ.P w = .ok v' w'∧VRel κ' v v'∧SRel Γ base κ' H' w'∧Grow κ H w κ' H' w'
theorem RunOK.same {s:Sem Value} {v:AV} (hs:SRel Γ base κ H w) (h:∃ v',s.run Γ.P w = .ok v' w∧VRel κ v v'):RunOK Γ base κ H w s v H:=by
 obtain ⟨v',h1,h2⟩:=h
 exact ⟨v',κ,w,h1,h2,hs,Grow.refl _ _ _⟩
theorem mostBytes_cap {n bytes:Nat} (h:Nat.ble (n*bytes) mostBytes=true) (hb:0<bytes):n*bytes≤140737488355328∧n≤140737488355328:=by
 have h1:n*bytes≤mostBytes:=Nat.le_of_ble_eq_true h
 have h2:n*1≤n*bytes:=Nat.mul_le_mul_left n hb
 unfold mostBytes at h1
 omega
theorem zeroCells_list (z:Value) (n:Nat):(Builtin.zeroCells z.cells n).toList=(List.replicate n z.cells.toList).flatten:=by
 have:=zeros_cells z.cells.toList n
 simpa [Builtin.zeroCells] using this
theorem hset_hget (H:Heap) (t:Nat):hset H t (hget H t)=H:=by
 induction H generalizing t with
 | nil=>rfl
 | cons o H ih=>cases t with
   | zero=>rfl
   | succ t=>simp [hset,hget,ih]
structure AppSrc (Γ:Ctx) (κ:K) (w:World) (t u ty e:TypeId) (i:TypeInfo) (z:Value) (vx:Value) (m:Nat) (new:List PV) (news:List Value):Prop where
 rel:PRels κ.imm new news
 ones:Ones news
 idle:m=0→∀ (a:Option Addr) (n cap:Nat),n≤cap→(Builtin.append_ #[t,u] ty #[.slice a n cap,vx]).run Γ.P w = .ok (.slice a n cap) w
 grow:news.length=m*i.size→0<m→∀ (a:Option Addr) (n cap:Nat) (olds:List Value),(Builtin.firstCells i.size n (.slice a n cap)).run Γ.P w.drew = .ok olds.toArray w.drew→cap<n+m →
  (n+m)*i.bytes≤140737488355328→n+m≤140737488355328→(Builtin.append_ #[t,u] ty #[.slice a n cap,vx]).run Γ.P w = .ok (.slice (some ⟨w.heap.size,0,none⟩) (n+m) (grownCap w (n+m) cap e))
     (w.drew.alloc (.cells ((olds++news).toArray++Builtin.zeroCells z.cells (grownCap w (n+m) cap e-(n+m))) e))
 room:news.length=m*i.size→0<m→∀ (k off n cap:Nat) (w':World),n+m≤cap→(storeCells ⟨k,off+n*i.size,none⟩ news).run Γ.P w = .ok () w' →
  (Builtin.append_ #[t,u] ty #[.slice (some ⟨k,off,none⟩) n cap,vx]).run Γ.P w = .ok (.slice (some ⟨k,off,none⟩) (n+m) cap) w'
theorem appSrc_of {t u ty e:TypeId} {d:TypeDesc} (ht:Γ.P.underlying t=some (.slice e)) (hu:Γ.P.underlying u=some d) (hd:d = .string ∨ ∃ e',d = .slice e')
 {i:TypeInfo} (hi:Γ.P.info? e=some i) {z:Value} (hzz:i.zero=some z) (hby:0<i.bytes) (hd1:d = .string→i.size=1)
 {x:AV} {vx:Value} {m:Nat} {new:List PV} {news:List Value} (hxs:((∃ b,vx = .string b)→d = .string)∧((¬ ∃ b,vx = .string b)→∃ e',d = .slice e')) (hsrc:SrcRel Γ κ w x vx m new news):AppSrc Γ κ w t u ty e i z vx m new news:=by
 have srcOf:news.length=m*i.size→Src Γ.P i.size u vx m news w:=fun hl=>hsrc.src hl hu hd hd1 hxs.1 hxs.2
 refine ⟨hsrc.rel,hsrc.ones,?_,?_,?_⟩
 ·intro h0 a n cap hcap
  subst h0
  have hlen:∀ w':World,(Builtin.lenOf vx).run Γ.P w' = .ok 0 w':=by
   intro w'
   rcases hsrc.form with ⟨b,rfl,_,hb⟩ | ⟨rfl,_,_⟩ | ⟨b,c,rfl,_⟩
   ·simp [Builtin.lenOf,←hb]
   ·rfl
   ·rfl
  have hfirst:(Builtin.firstCells i.size 0 vx).run Γ.P w = .ok #[] w:=by
   rcases hsrc.form with ⟨b,rfl,_,hb⟩ | ⟨rfl,_,_⟩ | ⟨b,c,rfl,_⟩
   ·simp [Builtin.firstCells]
   ·simp [Builtin.firstCells]
   ·simp [Builtin.firstCells,loadCells,loadCellsFrom]
  rcases hd with rfl | ⟨e',rfl⟩ <;>
   cases a<;>simp [Builtin.append_,run_underlying ht,run_underlying hu,sizeOf,typeInfo,hi,hlen,hcap,hfirst,storeCells]
 ·intro hnl _ a n cap olds hfirst hlt hb hnm
  exact run_append_grow_src (P:=Γ.P) w t u ty e i z ht hi hzz a n cap olds hfirst vx m news (srcOf hnl) hlt (by omega) (growslice_fits hlt hb)
 ·intro hnl _ k off n cap w' hroom hst
  have hsr:=srcOf hnl
  rcases hsr.kind with ⟨e',hk⟩ | hk<;>simp [Builtin.append_,run_underlying ht,run_underlying hk,sizeOf,typeInfo,hi,hsr.len,hroom,hsr.cells,bb,hst]
theorem appSrc_zeros {t u ty e:TypeId} {ku:IntKind} (ht:Γ.P.underlying t=some (.slice e)) (hu:Γ.P.underlying u=some (.int ku)) {i:TypeInfo} (hi:Γ.P.info? e=some i) {z:Value} (hzz:i.zero=some z) (hsz:0<i.size) (hby:i.bytes≤256)
 {zp:List PV} (hzr:PRels κ.imm zp z.cells.toList) (hz1:Ones z.cells.toList) {kx:IntKind} {l:Int} (h0:0≤l) (h1:l≤1099511627776) :
 AppSrc Γ κ w t u ty e i z (.int kx l) l.toNat (zerosOf zp l.toNat) (List.replicate l.toNat z.cells.toList).flatten:=by
 obtain ⟨m,rfl⟩:∃ m:Nat,l=m:=⟨l.toNat,by omega⟩
 rw [Int.toNat_natCast]
 have hw:IntKind.i64.wrap (m:Int)=m:=by rw [IntKind.wrap_i64]; omega
 have hneg:¬ ((m:Int)<0):=by omega
 have hmb:m*i.bytes≤1099511627776*256:=Nat.mul_le_mul (by omega) hby
 have h48i:¬ (281474976710656<(m:Int)*(i.bytes:Int)):=by
  rw [←Int.natCast_mul]
  omega
 refine ⟨by rw [zerosOf_flat]; exact hzr.flat _,hz1.flat _,?_,?_,?_⟩
 ·intro hm a n cap hcap
  subst hm
  cases a<;>simp [Builtin.append_,run_underlying ht,run_underlying hu,sizeOf,typeInfo,hi,asInt,asIntOf,IntKind.wrap_i64,hcap,storeCells]
 ·intro hnl hm a n cap olds hfirst hlt hb hnm
  have hr:=Lib.run_append_grow_zeros (P:=Γ.P) w t u ty e i z kx ku ht hu hi hzz a n cap olds hfirst m hm hsz hlt (by omega) (by omega) (growslice_fits hlt hb)
  rw [hr]
  congr 3
  apply Array.ext'
  simp [zeroCells_list,List.append_assoc]
 ·intro hnl hm k off n cap w' hroom hst
  have hns:¬ (m*i.size=0):=Nat.mul_ne_zero (by omega) (by omega)
  have hzc:(Builtin.zeroCells z.cells m).toList=(List.replicate m z.cells.toList).flatten:=zeroCells_list z m
  simp [Builtin.append_,run_underlying ht,run_underlying hu,sizeOf,typeInfo,zeroValue,hi,hzz,asInt,asIntOf,hw,hneg,h48i,hroom,hns,hzc,bb,hst]
theorem appendTo_rel (hs:SRel Γ base κ H w) {t u ty e:TypeId} {i:TypeInfo} {zp:List PV} (hz:zeroT Γ.P e=some zp) (hi:Γ.P.info? e=some i) (hby:0<i.bytes) {mu:Bool}
 {s v:AV} {vs vx:Value} {m:Nat} {new:List PV} {news:List Value} {H':Heap} (hvs:VRel κ s vs) (hsrc:∀ z,i.zero=some z→AppSrc Γ κ w t u ty e i z vx m new news)
 (he:appendTo mu i.size i.bytes m new s H (fun v h=>some (v,h))=some (v,H')):RunOK Γ base κ H w (Builtin.append_ #[t,u] ty #[vs,vx]) v H':=by
 obtain ⟨i',z,hi',hzz,hzr,hz1,hzl⟩:=zeroT_rel (Γ:=Γ) (κ:=κ) hz
 rw [hi] at hi'; injection hi' with hi'; subst hi'
 have hzs:z.cells.size=i.size:=by rw [←Array.length_toList,←hzr.length]; exact hzl
 have hsrc:=hsrc z hzz
 unfold appendTo at he
 have idle:m=0→∀ (a:Option Addr) (n cap:Nat),vs = .slice a n cap→n≤cap→RunOK Γ base κ H w (Builtin.append_ #[t,u] ty #[vs,vx]) s H:=by
  intro h0 a n cap hvs' hcap
  exact ⟨vs,κ,w,by rw [hvs']; exact hsrc.idle h0 a n cap hcap,hvs,hs,Grow.refl _ _ _⟩
 have conds:∀ (n:Nat) (cs:List PV),(Nat.ble ((n+m)*i.bytes) mostBytes&&Nat.beq cs.length (mulE n i.size)&&Nat.beq new.length (mulE m i.size))=true →
  (n+m)*i.bytes≤140737488355328∧n+m≤140737488355328∧cs.length=n*i.size∧news.length=m*i.size:=by
  intro n cs h
  rw [Bool.and_eq_true,Bool.and_eq_true] at h
  obtain ⟨⟨h1,h2⟩,h3⟩:=h
  obtain ⟨a,b⟩:=mostBytes_cap h1 hby
  rw [aG] at h2 h3
  exact ⟨a,b,Nat.eq_of_beq_eq_true h2,by rw [←hsrc.rel.length]; exact Nat.eq_of_beq_eq_true h3⟩
 have grow:∀ (a:Option Addr) (n cap:Nat) (olds:List Value),vs = .slice a n cap→olds.length=n*i.size→(Builtin.firstCells i.size n (.slice a n cap)).run Γ.P w.drew = .ok olds.toArray w.drew→cap<n+m→0<m →
  (n+m)*i.bytes≤140737488355328→n+m≤140737488355328→news.length=m*i.size →
  ∃ cap',n+m≤cap'∧cap'≤maxLen∧(Builtin.append_ #[t,u] ty #[vs,vx]).run Γ.P w = .ok (.slice (some ⟨w.heap.size,0,none⟩) (n+m) cap')
    (w.drew.alloc (.cells ((olds++news)++(List.replicate (cap'-(n+m)) z.cells.toList).flatten).toArray e)):=by
  intro a n cap olds hvs' hol hfirst hlt hm0 hb hnm hnl
  have hr:=hsrc.grow hnl hm0 a n cap olds hfirst hlt hb hnm
  refine ⟨grownCap w (n+m) cap e,grownCap_ge w _ _ _,grownCap_le_maxLen w _ _ _ (by unfold maxLen; omega),?_⟩
  rw [hvs',hr]
  congr 3
  congr 1
  apply Array.ext'
  simp [zeroCells_list,List.append_assoc]
 split at he
 ·rename_i ext n cs
  cases hvs with
  | pv _ _ hps=>
    have idle2:m=0→RunOK Γ base κ H w (Builtin.append_ #[t,u] ty #[vs,vx]) (.pv (.sl ext n cs)) H:=by
     intro h0
     cases hps with
     | slNil=>exact idle h0 none 0 0 rfl (Nat.le_refl _)
     | sl _ _ _ a cap us h1 h2 h3 h4 h5 h6=>exact idle h0 (some a) n cap rfl h3
    cases hext:ext.noApp with
    | true=>
      rw [hext] at he; simp only [cond_true] at he
      rw [boolK_def] at he
      cases hb:Nat.beq m 0 with
      | false=>rw [hb] at he; simp at he
      | true=>
        rw [hb] at he; simp only [cond_true] at he
        injection he with he; injection he with e1 e2; subst e1; subst e2
        exact idle2 (Nat.eq_of_beq_eq_true hb)
    | false=>
      rw [hext] at he; simp only [cond_false] at he
      rw [boolK_def] at he
      cases hb:Nat.beq m 0 with
      | true=>
        rw [hb] at he; simp only [cond_true] at he
        injection he with he; injection he with e1 e2; subst e1; subst e2
        exact idle2 (Nat.eq_of_beq_eq_true hb)
      | false=>
        rw [hb] at he; simp only [cond_false] at he
        obtain ⟨hc,he⟩:=aZ he
        rw [bh,bh] at he
        obtain ⟨hb1,hb2,hl1,hl2⟩:=conds n cs hc
        have hm0:0<m:=by
         rcases Nat.eq_zero_or_pos m with h | h
         ·subst h; simp at hb
         ·exact h
        obtain ⟨a,cap,olds,hvs',hol,hrel,hones,hfirst,hlt⟩:∃ (a:Option Addr) (cap:Nat) (olds:List Value),vs = .slice a n cap∧olds.length=n*i.size∧PRels κ.imm cs olds∧Ones olds ∧
         (Builtin.firstCells i.size n (.slice a n cap)).run Γ.P w.drew = .ok olds.toArray w.drew∧cap<n+m:=by
         cases hps with
         | slNil=>exact ⟨none,0,[],rfl,by simp,.nil,.nil,run_firstCells_none w.drew _ _ _ _,by omega⟩
         | sl _ _ _ a cap us h1 h2 h3 h4 h5 h6=>
           have hcap:cap=n:=by
            cases ext with
            | unk=>cases hext
            | nn=>cases hext
            | exact=>exact h2 (.inl rfl)
            | nnx=>exact h2 (.inr rfl)
            | nil=>exact absurd rfl h1
           have hul:us.length=n*i.size:=by rw [←h4.length]; exact hl1
           exact ⟨some a,cap,us,rfl,hul,h4,h6,run_firstCells_some w.drew i.size n a n cap us hul (fun j v hj=>by simpa using hs.imm _ _ (h5 j v hj)),by omega⟩
        obtain ⟨cap',g1,g2,hr⟩:=grow a n cap olds hvs' hol hfirst hlt hm0 hb1 hb2 hl2
        have hlen:(olds++news).length=(n+m)*i.size:=by rw [List.length_append,hol,hl2,Nat.add_mul]
        cases mu with
        | true=>
          simp only [cond_true] at he
          injection he with he; injection he with e1 e2; subst e1; subst e2
          obtain ⟨k1,k2⟩:=(hs.drew).1.newP (cs++new) (olds++news) ((List.replicate (cap'-(n+m)) z.cells.toList).flatten) e (hrel.append hsrc.rel) (hones.append hsrc.ones)
          exact ⟨_,_,_,hr,.hs _ _ _ _ _ w.heap.size cap' (K.at_same _ _ _) (Nat.le_refl _) g1,k1,(hs.drew).2.trans k2⟩
        | false=>
        simp only [cond_false] at he
        injection he with he; injection he with e1 e2; subst e1; subst e2
        obtain ⟨k1,k2,k3,k4⟩:=SRel.newTok (hs.drew).1 (olds++news) ((List.replicate (cap'-(n+m)) z.cells.toList).flatten) e (n+m) i.size cap' hlen (by
         rw [List.length_append,hlen]; simp only [List.length_flatten,List.map_replicate,List.sum_replicate_nat,Array.length_toList,hzs]
         rw [←Nat.add_mul]; congr 1; omega) g2 g1
        refine ⟨_,_,_,hr,?_,k1,(hs.drew).2.trans k2⟩
        exact .tsl _ _ _ _ _ (olds++news) k4 g1 ((hrel.append hsrc.rel).mono k2.le.imm) k3 (hones.append hsrc.ones)
 ·rename_i tk n cs
  rw [bf] at he
  split at he
  ·rename_i n' es' hg
   have hq:=aZ he
   clear he
   obtain ⟨hc0,he⟩:=hq
   rw [Bool.and_eq_true] at hc0
   have hn':n'=n:=Nat.eq_of_beq_eq_true hc0.1
   have hes:es'=i.size:=Nat.eq_of_beq_eq_true hc0.2
   subst hn'; subst hes
   obtain ⟨hc,he⟩:=aZ he
   rw [bh,bh] at he
   injection he with he; injection he with e1 e2; subst e1; subst e2
   obtain ⟨hb1,hb2,hl1,hl2⟩:=conds n' cs hc
   cases hvs with
   | tsl _ _ _ k cap us h1 h2 h3 h4 h5=>
     have hul:us.length=n'*i.size:=by rw [←h3.length]; exact hl1
     obtain ⟨hbk,hob⟩:=hs.obj tk k (tok_place hg h1)
     rw [hg] at hob
     obtain ⟨cap2,c,e2,q1,q2,q3,q4,q5,q6,q7⟩:=hob
     rw [h1] at q1; injection q1 with q1; injection q1 with _ q1; subst q1
     have hcell:∀ (j:Nat) (v:Value),us[j]? = some v→w.cell? ((⟨k,0,none⟩:Addr).add j)=some v:=fun j v hj=>by
      rw [addr_add_lit]; exact hs.imm _ _ (h4 j v hj)
     rcases Nat.eq_zero_or_pos m with hm0 | hm0
     ·
      subst hm0
      obtain ⟨v',κ',w',r1,r2,r3,r4⟩:=idle rfl (some ⟨k,0,none⟩) n' cap rfl h2
      have hnn:new=[]:=by
       have:=hsrc.rel.length; rw [hl2] at this; simpa using this
      subst hnn
      have hH:hset H tk (.tok (n'+0) i.size)=H:=by
       rw [Nat.add_zero,←hg]
       exact hset_hget H tk
      rw [hH]
      exact ⟨v',κ',w',r1,by simpa using r2,r3,r4⟩
     ·by_cases hroom:n'+m≤cap
      ·have hmul:(n'+m)*i.size≤cap*i.size:=Nat.mul_le_mul_right _ hroom
       have hmul2:(n'+m)*i.size=n'*i.size+m*i.size:=Nat.add_mul _ _ _
       obtain ⟨k1,k2,k3,k4⟩:=SRel.roomTok hs hg h1 q2 q3 q4 hroom hl2 hm0 q6 q7
       have hst:=run_storeCells_at Γ.P k (n'*i.size) e2 news 0 c.toArray w q2 (by simp; omega) hsrc.ones
       refine ⟨.slice (some ⟨k,0,none⟩) (n'+m) cap,_,_,?_,?_,k1,k2⟩
       ·simp only [Nat.add_zero] at hst
        exact hsrc.room hl2 hm0 k 0 n' cap _ hroom (by rw [Nat.zero_add]; exact hst)
       ·have hle:=k2.le
        refine .tsl _ _ _ _ _ (us++news) k4 hroom ((h3.append hsrc.rel).mono hle.imm) (fun j v hj=>?_) (h5.append hsrc.ones)
        rw [List.getElem?_append] at hj
        split at hj
        ·exact hle.imm _ _ (h4 j v hj)
        ·rename_i hge
         have:=k3 (j-us.length) v hj
         rwa [show n'*i.size+(j-us.length)=j from by omega] at this
      ·have hfirst:=run_firstCells_some (P:=Γ.P) w.drew i.size n' ⟨k,0,none⟩ n' cap us hul (fun j v hj=>by simpa using hcell j v hj)
       obtain ⟨cap',g1,g2,hr⟩:=grow (some ⟨k,0,none⟩) n' cap us rfl hul hfirst (by omega) hm0 hb1 hb2 hl2
       have hlen:(us++news).length=(n'+m)*i.size:=by rw [List.length_append,hul,hl2,Nat.add_mul]
       obtain ⟨k1,k2,k3,k4⟩:=SRel.moveTok (hs.drew).1 hg h1 q7 (us++news) ((List.replicate (cap'-(n'+m)) z.cells.toList).flatten) e (n'+m) cap' (by omega) hlen (by
        rw [List.length_append,hlen]; simp only [List.length_flatten,List.map_replicate,List.sum_replicate_nat,Array.length_toList,hzs]
        rw [←Nat.add_mul]; congr 1; omega) g2 g1
       refine ⟨_,_,_,hr,?_,k1,(hs.drew).2.trans k2⟩
       exact .tsl _ _ _ _ _ (us++news) k4 g1 ((h3.append hsrc.rel).mono k2.le.imm) k3 (h5.append hsrc.ones)
  ·cases he
 ·rename_i es' id off n cap
  have hq:=aZ he
  clear he
  obtain ⟨hc0,he⟩:=hq
  rw [Bool.and_eq_true] at hc0
  have hes:es'=i.size:=Nat.eq_of_beq_eq_true hc0.1
  have hcap:=Nat.le_of_ble_eq_true hc0.2
  subst hes
  rw [bf] at he
  split at he
  ·rename_i cs hg
   have hq:=aZ he
   clear he
   obtain ⟨hc,he⟩:=hq
   simp only [bh,aG] at he
   injection he with he; injection he with e1 e2
   subst e1; subst e2
   rw [Bool.and_eq_true] at hc
   have hle:=Nat.le_of_ble_eq_true hc.1
   rw [aG] at hle
   have hnl:news.length=m*i.size:=by rw [←hsrc.rel.length,←aG]; exact Nat.eq_of_beq_eq_true hc.2
   cases hvs with
   | hs _ _ _ _ _ k cap' hl h2 h3=>
     obtain ⟨c,rest,e',hw,hr,hones,_⟩:=(ptr_cells hs hl).1 cs hg
     have hmul:(n+m)*i.size=n*i.size+m*i.size:=Nat.add_mul _ _ _
     have hcl:=hr.length
     have hst:=run_storeCells_at Γ.P k (off+n*i.size) e' news 0 (c++rest).toArray w hw (by
      simp only [List.size_toArray,List.length_append]; omega) hsrc.ones
     have t1:(c++rest).take (off+n*i.size)=c.take (off+n*i.size):=by rw [List.take_append_of_le_length (by omega)]
     have t2:(c++rest).drop (off+n*i.size+m*i.size)=c.drop (off+n*i.size+m*i.size)++rest:=by rw [List.drop_append_of_le_length (by omega)]
     simp only [Nat.add_zero,hnl] at hst
     rw [t1,t2,←List.append_assoc] at hst
     obtain ⟨g1,g2⟩:=hs.write hl (.inr ⟨cs,hg⟩) hw (.inr ⟨_,rfl,hr.splice hsrc.rel (off+n*i.size) (m*i.size)⟩) (hones.splice hsrc.ones (off+n*i.size) (m*i.size))
     rw [show off+(n+m)*i.size=off+n*i.size+m*i.size by omega]
     refine ⟨.slice (some ⟨k,off,none⟩) (n+m) cap',κ,_,?_,.hs _ _ _ _ _ _ _ hl hcap h3,g1,g2⟩
     rcases Nat.eq_zero_or_pos m with hm0 | hm0
     ·subst hm0
      have hnn:news=[]:=by simpa using hnl
      subst hnn
      have h0:(storeCells ⟨k,off+n*i.size,none⟩ ([]:List Value)).run Γ.P w = .ok () w:=rfl
      have h4:=h0.symm.trans hst
      injection h4 with _ h4
      rw [←h4]
      exact hsrc.idle rfl (some ⟨k,off,none⟩) n cap' (by omega)
     ·exact hsrc.room hnl hm0 k off n cap' _ (by omega) hst
  ·cases he
 ·cases he
theorem append_rel (hs:SRel Γ base κ H w) {t u ty e:TypeId} {d:TypeDesc} (ht:Γ.P.underlying t=some (.slice e)) (hu:Γ.P.underlying u=some d) (hd:d = .string ∨ ∃ e',d = .slice e')
 {i:TypeInfo} (hi:Γ.P.info? e=some i) {zp:List PV} (hz:zeroT Γ.P e=some zp) (hby:0<i.bytes) {mu:Bool} (hd1:d = .string→i.size=1)
 {s x v:AV} {vs vx:Value} {H':Heap} (hvs:VRel κ s vs) (hvx:VRel κ x vx) (hxs:((∃ b,vx = .string b)→d = .string)∧((¬ ∃ b,vx = .string b)→∃ e',d = .slice e'))
 (he:appendK mu i.size i.bytes s x H (fun v h=>some (v,h))=some (v,H')):RunOK Γ base κ H w (Builtin.append_ #[t,u] ty #[vs,vx]) v H':=by
 unfold appendK at he
 cases hm:srcLen x with
 | none=>rw [hm] at he; simp at he
 | some m=>
   rw [hm] at he; simp only at he
   obtain ⟨new,news,he,hsrc,hhs⟩:=srcK_inv hs hvx hm he
   exact appendTo_rel hs hz hi hby hvs (fun z hzz=>appSrc_of ht hu hd hi hzz hby hd1 hxs hsrc) he
theorem append_zero_rel (hs:SRel Γ base κ H w) {t u ty e:TypeId} {ku:IntKind} (ht:Γ.P.underlying t=some (.slice e)) (hu:Γ.P.underlying u=some (.int ku))
 {i:TypeInfo} (hi:Γ.P.info? e=some i) {zp:List PV} (hz:zeroT Γ.P e=some zp) (hby:0<i.bytes) (hsz:0<i.size) (hb2:i.bytes≤256) {mu:Bool}
 {s v:AV} {vs:Value} {kx:IntKind} {l:Int} {H':Heap} (hvs:VRel κ s vs) (h0:0≤l) (h1:l≤1099511627776)
 (he:appendK mu i.size i.bytes s (.pv (.sl .nnx l.toNat (zerosOf zp l.toNat))) H (fun v h=>some (v,h))=some (v,H')):RunOK Γ base κ H w (Builtin.append_ #[t,u] ty #[vs,.int kx l]) v H':=by
 obtain ⟨i',z,hi',hzz,hzr,hz1,hzl⟩:=zeroT_rel (Γ:=Γ) (κ:=κ) hz
 rw [hi] at hi'; injection hi' with hi'; subst hi'
 refine appendTo_rel (news:=(List.replicate l.toNat z.cells.toList).flatten) hs hz hi hby hvs (fun z' hz'=>?_) he
 rw [hzz] at hz'; injection hz' with hz'; subst hz'
 exact appSrc_zeros ht hu hi hzz hsz hb2 hzr hz1 h0 h1
theorem append_room_rel (hs:SRel Γ base κ H w) {t u ty e:TypeId} {ku:IntKind} (ht:Γ.P.underlying t=some (.slice e)) (hu:Γ.P.underlying u=some (.int ku))
 {i:TypeInfo} (hi:Γ.P.info? e=some i) {zp:List PV} (hz:zeroT Γ.P e=some zp) (hby:0<i.bytes) (hsz:0<i.size) (hb2:i.bytes≤256)
 {ext:Ext} {vs:Value} {kx:IntKind} {l:Int} (hvs:VRel κ (.pv (.sl ext 0 [])) vs) (h0:0<l) (h1:l≤1099511627776) (hext:ext.noApp=false) (hb:(0+l.toNat)*i.bytes≤140737488355328) :
 RunOK Γ base κ H w (Builtin.append_ #[t,u] ty #[vs,.int kx l]) (.zsl H.length l.toNat) (H++[.tok 0 i.size]):=by
 obtain ⟨i',z,hi',hzz,hzr,hz1,hzl⟩:=zeroT_rel (Γ:=Γ) (κ:=κ) hz
 rw [hi] at hi'; injection hi' with hi'; subst hi'
 have hzs:z.cells.size=i.size:=by rw [←Array.length_toList,←hzr.length]; exact hzl
 have hsrc:=appSrc_zeros (w:=w) (ty:=ty) (kx:=kx) ht hu hi hzz hsz hb2 hzr hz1 (Int.le_of_lt h0) h1
 have hm0:0<l.toNat:=by omega
 have hnl:((List.replicate l.toNat z.cells.toList).flatten).length=l.toNat*i.size:=by
  simp only [List.length_flatten,List.map_replicate,List.sum_replicate_nat,Array.length_toList,hzs]
 obtain ⟨a,cap,hvs',hfirst,hlt⟩:∃ (a:Option Addr) (cap:Nat),vs = .slice a 0 cap∧(Builtin.firstCells i.size 0 (.slice a 0 cap)).run Γ.P w.drew = .ok ([]:List Value).toArray w.drew∧cap<0+l.toNat:=by
  cases hvs with
  | pv _ _ hps=>
    cases hps with
    | slNil=>exact ⟨none,0,rfl,run_firstCells_none w.drew _ _ _ _,by omega⟩
    | sl _ _ _ a cap us g1 g2 g3 g4 g5 g6=>
      have hcap:cap=0:=by
       cases ext with
       | unk=>cases hext
       | nn=>cases hext
       | exact=>exact g2 (.inl rfl)
       | nnx=>exact g2 (.inr rfl)
       | nil=>exact absurd rfl g1
      exact ⟨some a,cap,rfl,run_firstCells_some w.drew i.size 0 a 0 cap [] (by simp) (fun j v hj=>by simp at hj),by omega⟩
 have hr:=hsrc.grow hnl hm0 a 0 cap [] hfirst hlt hb (by omega)
 have g1:=grownCap_ge w (0+l.toNat) cap e
 have g2:=grownCap_le_maxLen w (0+l.toNat) cap e (by unfold maxLen; omega)
 generalize hcp:grownCap w (0+l.toNat) cap e=cap' at *
 have hblk:(([]++(List.replicate l.toNat z.cells.toList).flatten).toArray++Builtin.zeroCells z.cells (cap'-(0+l.toNat)))=(([]:List Value)++((List.replicate l.toNat z.cells.toList).flatten++(List.replicate (cap'-(0+l.toNat)) z.cells.toList).flatten)).toArray:=by
  apply Array.ext'
  simp [zeroCells_list]
 rw [hblk] at hr
 obtain ⟨k1,k2,k3,k4⟩:=SRel.newTok (hs.drew).1 ([]:List Value) ((List.replicate l.toNat z.cells.toList).flatten++(List.replicate (cap'-(0+l.toNat)) z.cells.toList).flatten) e 0 i.size cap' (by simp) (by
  rw [List.nil_append,List.length_append,hnl]
  simp only [List.length_flatten,List.map_replicate,List.sum_replicate_nat,Array.length_toList,hzs]
  rw [←Nat.add_mul]; congr 1; omega) g2 (Nat.zero_le _)
 rw [hvs']
 have e0:0+l.toNat=l.toNat:=Nat.zero_add _
 refine ⟨_,_,_,hr,?_,k1,(hs.drew).2.trans k2⟩
 rw [e0]
 exact .zsl _ _ _ _ k4 (by omega)
end
end Go.VM
