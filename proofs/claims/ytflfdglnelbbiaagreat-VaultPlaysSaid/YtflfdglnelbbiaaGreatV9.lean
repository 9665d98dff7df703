/-
  Part 9 of an abstract machine that answers as the model does.
  Arguments of plain data, as the abstract machine's values.
  From the abstract machine's answer to a law's statement.
  A law's statement, from the abstract machine's answer.
  Stepping through the abstract machine's evaluation: an answer that has a property.
  Bytes and whole numbers of some bits; arguments that are bytes.
  Whole numbers of 64 bits, as numbers and as bits.
  Tables of cells.
  Stepping by cases: what a test tells, as a proposition.
  Texts as lists of bytes.
  Short hands for stepping; parts of tables.
  Code, and what comes behind it: a join of several ways.
  Slices that grow: what is known of one, and how it grows.
  Loops beside which the heap grows; parts of code; texts of numbers.
-/
import Derived.Test.YtflfdglnelbbiaaGreatV8
import Derived.ProofKit
import Derived.Laws.Strings
set_option linter.all false
set_option linter.unusedVariables false
set_option linter.unusedSimpArgs false
set_option linter.unusedSectionVars false
namespace Go.VM
open Go
inductive Ty where
 | bool
 | int (k:IntKind)
 | str
 | sl (es:Nat) (e:Ty)
 | st (fs:List (Nat × Ty))
 | arr (n es:Nat) (e:Ty)
def Els (p:List PV→Prop) (es:Nat):Nat→List PV→Prop
 | 0,cs=>cs=[]
 | n+1,cs=>∃ a b,cs=a++b∧a.length=es∧p a∧Els p es n b
mutual
def HasTy:Ty→List PV→Prop
 | .bool,cs=>∃ b,cs=[.bool b]
 | .int k,cs=>∃ n,cs=[.int k n]∧(Lit.int k n).wf=true
 | .str,cs=>∃ s:ByteArray,cs=[.str s]∧s.size≤maxLen
 | .sl es e,cs=>∃ x len cells,cs=[.sl x len cells]∧((x = .nil∧len=0∧cells=[])∨x = .nn)∧len≤maxLen∧Els (HasTy e) es len cells
 | .st fs,cs=>HasFs fs cs
 | .arr n es e,cs=>Els (HasTy e) es n cs
def HasFs:List (Nat × Ty)→List PV→Prop
 | [],cs=>cs=[]
 | (n,t)::fs,cs=>∃ a b,cs=a++b∧a.length=n∧HasTy t a∧HasFs fs b
end
section
variable (P:Program)
def tyFs (g:TypeId→Option Ty):List Field→Nat→Nat→Option (List (Nat × Ty))
 | [],off,all=>bif Nat.beq off all then some [] else none
 | f::fs,off,all=>match g f.type,tyFs g fs (off+P.cellsOf f.type) all with
   | some t,some r=>bif Nat.beq f.offset off then some ((P.cellsOf f.type,t)::r) else none
   | _,_=>none
def tyOf:Nat→TypeId→Option Ty
 | 0,_=>none
 | d+1,t=>match P.underlying t with
   | some .bool=>some .bool
   | some (.int k)=>some (.int k)
   | some .string=>some .str
   | some (.slice e)=>(tyOf d e).map (.sl (P.cellsOf e))
   | some (.struct fs)=>(tyFs P (tyOf d) fs.toList 0 (P.cellsOf t)).map .st
   | some (.array n e)=>match tyOf d e with
     | some T=>bif Nat.beq (P.cellsOf t) (n*P.cellsOf e) then some (.arr n (P.cellsOf e) T) else none
     | none=>none
   | _=>none
def tysOf (d:Nat):List TypeId→Option (List Ty)
 | []=>some []
 | t::ts=>match tyOf P d t,tysOf d ts with | some T,some r=>some (T::r) | _,_=>none
end
theorem mapM_opt {α β:Type} {f:α→Option β}:∀ {l:List α} {r:List β},l.mapM f=some r→∀ x∈l,∃ y,f x=some y:=by
 intro l
 induction l with
 | nil=>intro r _ x hx; cases hx
 | cons a l ih=>
   intro r h x hx
   rw [List.mapM_cons] at h
   obtain ⟨y,h1,h2⟩:=some_bind h
   obtain ⟨ys,h3,h4⟩:=some_bind h2
   rcases List.mem_cons.1 hx with e | e
   ·subst e; exact ⟨y,h1⟩
   ·exact ih h3 x e
theorem mapM_get {β:Type} {f:Nat→Option β}:∀ {l:List Nat} {r:List β},l.mapM f=some r→r.length=l.length ∧ ∀ (j:Nat) (x:Nat),l[j]? = some x→f x=r[j]? := by
 intro l
 induction l with
 | nil=>intro r h; simp at h; subst h; exact ⟨rfl,fun j x hx=>by simp at hx⟩
 | cons a l ih=>
   intro r h
   rw [List.mapM_cons] at h
   obtain ⟨y,h1,h2⟩:=some_bind h
   obtain ⟨ys,h3,h4⟩:=some_bind h2
   injection h4 with h4; subst h4
   obtain ⟨g1,g2⟩:=ih h3
   refine ⟨by simp [g1],fun j x hx=>?_⟩
   cases j with
   | zero=>simp at hx; subst hx; simpa using h1
   | succ j=>simp at hx; simpa using g2 j x hx
theorem cells?_get {w:World} {base:Nat} {a:Addr} {n:Nat} {cs:List Value} (h:w.cells? base a n=some cs):cs.length=n ∧ ∀ (j:Nat) (v:Value),cs[j]? = some v→w.cell? (a.add j)=some v:=by
 unfold World.cells? at h
 split at h
 ·obtain ⟨h1,h2⟩:=mapM_get h
  simp only [List.length_range] at h1
  refine ⟨h1,fun j v hj=>?_⟩
  have hlt:j<n:=by rw [←h1]; exact (List.getElem?_eq_some_iff.1 hj).1
  rw [h2 j j (by simp [hlt])]
  exact hj
 ·cases h
section
variable {H:Type} {enc:TypeId × Value→H} {P:Program} {w:World} {sp:Nat→Bool} {hd:Bool}
def Imm.of (w:World):Imm:=fun a=>w.cell? a
theorem els_read {fuel:Nat} {e:TypeId} {T:Ty} {a:Addr} {es:Nat} (ih:∀ (cs:List Value) (x:DataW H × List MemPlace),DataW.trod enc P w 0 sp hd fuel e cs=some x→∃ ps,PRels (Imm.of w) ps cs∧Ones cs∧HasTy T ps) :
 ∀ (n i:Nat),(∀ j,i≤j→j<i+n→∃ x,((w.cells? 0 (a.add (j*es)) es).bind (DataW.trod enc P w 0 sp hd fuel e))=some x) →
 ∃ ps vs,PRels (Imm.of w) ps vs∧Ones vs∧Els (HasTy T) es n ps ∧ ∀ (j:Nat) (v:Value),vs[j]? = some v→w.cell? (a.add (i*es+j))=some v:=by
 intro n
 induction n with
 | zero=>intro i _; exact ⟨[],[],.nil,.nil,rfl,fun j v h=>by simp at h⟩
 | succ n ihn=>
   intro i h
   obtain ⟨x,hx⟩:=h i (Nat.le_refl _) (by omega)
   obtain ⟨c,h1,h2⟩:=some_bind hx
   obtain ⟨ps,g1,g2,g3⟩:=ih c x h2
   obtain ⟨c1,c2⟩:=cells?_get h1
   obtain ⟨qs,vs,k1,k2,k3,k4⟩:=ihn (i+1) fun j hj hlt=>h j (by omega) (by omega)
   refine ⟨ps++qs,c++vs,g1.append k1,g2.append k2,⟨ps,qs,rfl,by rw [g1.length,c1],g3,k3⟩,fun j v hj=>?_⟩
   by_cases hlt:j<c.length
   ·rw [List.getElem?_append_left hlt] at hj
    rw [←addr_add_add]
    exact c2 j v hj
   ·rw [List.getElem?_append_right (by omega)] at hj
    have:=k4 _ v hj
    rw [c1] at this hlt
    rw [show i*es+j=(i+1)*es+(j-es) by rw [Nat.add_mul]; omega]
    exact this
theorem segs_read {fuel:Nat} {e:TypeId} {T:Ty} {es:Nat} (ih:∀ (cs:List Value) (x:DataW H × List MemPlace),DataW.trod enc P w 0 sp hd fuel e cs=some x→∃ ps,PRels (Imm.of w) ps cs∧Ones cs∧HasTy T ps) (cs:List Value) :
 ∀ (n i:Nat),cs.length=(i+n)*es→(∀ j,i≤j→j<i+n→∃ x,DataW.trod enc P w 0 sp hd fuel e ((cs.drop (j*es)).take es)=some x) →
 ∃ ps,PRels (Imm.of w) ps (cs.drop (i*es))∧Ones (cs.drop (i*es))∧Els (HasTy T) es n ps:=by
 intro n
 induction n with
 | zero=>intro i hl _; rw [Nat.add_zero] at hl; exact ⟨[],by rw [List.drop_of_length_le (by omega)]; exact .nil,by rw [List.drop_of_length_le (by omega)]; exact .nil,rfl⟩
 | succ n ihn=>
   intro i hl h
   obtain ⟨x,hx⟩:=h i (Nat.le_refl _) (by omega)
   obtain ⟨ps,g1,g2,g3⟩:=ih _ x hx
   obtain ⟨qs,k1,k2,k3⟩:=ihn (i+1) (by rw [hl]; congr 1; omega) fun j hj hlt=>h j (by omega) (by omega)
   have e1:cs.drop (i*es)=(cs.drop (i*es)).take es++cs.drop ((i+1)*es):=by
    conv=>lhs; rw [←List.take_append_drop es (cs.drop (i*es))]
    rw [List.drop_drop,Nat.add_mul,Nat.one_mul]
   have hle:(i+1)*es≤cs.length:=by rw [hl]; exact Nat.mul_le_mul_right _ (by omega)
   have hlen:((cs.drop (i*es)).take es).length=es:=by
    rw [List.length_take,List.length_drop]
    rw [Nat.add_mul] at hle
    omega
   rw [e1]
   exact ⟨ps++qs,g1.append k1,g2.append k2,ps,qs,rfl,by rw [g1.length,hlen],g3,k3⟩
theorem fs_read {fuel:Nat} {g:TypeId→Option Ty} (ih:∀ (t:TypeId) (T:Ty) (cs:List Value) (x:DataW H × List MemPlace),g t=some T→DataW.trod enc P w 0 sp hd fuel t cs=some x→∃ ps,PRels (Imm.of w) ps cs∧Ones cs∧HasTy T ps) (cs:List Value) :
 ∀ (fs:List Field) (off:Nat) (L:List (Nat × Ty)),tyFs P g fs off cs.length=some L→off≤cs.length→(∀ f∈fs,∃ x,DataW.trod enc P w 0 sp hd fuel f.type ((cs.drop f.offset).take (P.cellsOf f.type))=some x) →
 ∃ ps,PRels (Imm.of w) ps (cs.drop off)∧Ones (cs.drop off)∧HasFs L ps:=by
 intro fs
 induction fs with
 | nil=>
   intro off L h hle _
   simp only [tyFs] at h
   cases hb:Nat.beq off cs.length with
   | false=>rw [hb] at h; cases h
   | true=>
     rw [hb] at h; injection h with h; subst h
     have:=Nat.eq_of_beq_eq_true hb
     rw [List.drop_of_length_le (by omega)]
     exact ⟨[],.nil,.nil,by simp [HasFs]⟩
 | cons f fs ihf=>
   intro off L h hle hx
   simp only [tyFs] at h
   split at h
   ·rename_i t r h1 h2
    cases hb:Nat.beq f.offset off with
    | false=>rw [hb] at h; cases h
    | true=>
      rw [hb] at h; injection h with h; subst h
      have ho:=Nat.eq_of_beq_eq_true hb
      obtain ⟨x,hx1⟩:=hx f (by simp)
      rw [ho] at hx1
      obtain ⟨ps,g1,g2,g3⟩:=ih _ t _ x h1 hx1
      have hle2:off+P.cellsOf f.type≤cs.length:=by
       have:∀ (fs:List Field) (o:Nat) (L:List (Nat × Ty)),tyFs P g fs o cs.length=some L→o≤cs.length:=by
        intro fs
        induction fs with
        | nil=>
          intro o L h
          simp only [tyFs] at h
          cases hb:Nat.beq o cs.length with
          | false=>rw [hb] at h; cases h
          | true=>exact Nat.le_of_eq (Nat.eq_of_beq_eq_true hb)
        | cons f fs ih2=>
          intro o L h
          simp only [tyFs] at h
          split at h
          ·rename_i t' r' _ h3
           have:=ih2 _ _ h3
           omega
          ·cases h
       exact this fs _ _ h2
      obtain ⟨qs,k1,k2,k3⟩:=ihf _ r h2 hle2 fun f' hf'=>hx f' (by simp [hf'])
      have e1:cs.drop off=(cs.drop off).take (P.cellsOf f.type)++cs.drop (off+P.cellsOf f.type):=by
       conv=>lhs; rw [←List.take_append_drop (P.cellsOf f.type) (cs.drop off)]
       rw [List.drop_drop]
      have hlen:((cs.drop off).take (P.cellsOf f.type)).length=P.cellsOf f.type:=by
       rw [List.length_take,List.length_drop]; omega
      rw [e1]
      refine ⟨ps++qs,g1.append k1,g2.append k2,?_⟩
      simp only [HasFs]
      exact ⟨ps,qs,rfl,by rw [g1.length,hlen],g3,k3⟩
   ·cases h
theorem read:∀ (fuel d:Nat) (t:TypeId) (T:Ty) (cs:List Value) (x:DataW H × List MemPlace),tyOf P d t=some T→DataW.trod enc P w 0 sp hd fuel t cs=some x→∃ ps,PRels (Imm.of w) ps cs∧Ones cs∧HasTy T ps:=by
 intro fuel
 induction fuel with
 | zero=>intro d t T cs x _ h; simp [DataW.trod] at h
 | succ fuel ih=>
   intro d t T cs x hT hx
   cases d with
   | zero=>cases hT
   | succ d=>
     simp only [tyOf] at hT
     have ihc:∀ (t:TypeId) (T:Ty) (cs:List Value) (x:DataW H × List MemPlace),tyOf P d t=some T→DataW.trod enc P w 0 sp hd fuel t cs=some x→∃ ps,PRels (Imm.of w) ps cs∧Ones cs∧HasTy T ps:=fun t T cs x h1 h2=>ih d t T cs x h1 h2
     simp only [DataW.trod] at hx
     split at hx
     case h_1 hu=>
      rw [hu] at hT; injection hT with hT; subst hT
      exact ⟨[.bool _],.cons _ _ _ _ (.bool _) .nil,.cons rfl .nil,by simp [HasTy]⟩
     case h_2 k k' m hu=>
      rw [hu] at hT; injection hT with hT; subst hT
      split at hx
      ·rename_i hc
       obtain ⟨rfl,hw⟩:=hc
       exact ⟨[.int _ _],.cons _ _ _ _ (.int _ _) .nil,.cons rfl .nil,by simp [HasTy,hw]⟩
      ·cases hx
     case h_4 s hu=>
      rw [hu] at hT; injection hT with hT; subst hT
      split at hx
      ·rename_i hc
       exact ⟨[.str _],.cons _ _ _ _ (.str _) .nil,.cons rfl .nil,by simp [HasTy,hc]⟩
      ·cases hx
     case h_7 e hu=>
      rw [hu] at hT
      obtain ⟨E,_,rfl⟩:=map_some hT
      refine ⟨[.sl .nil 0 []],.cons _ _ _ _ (.slNil _ (by simp) (by simp)) .nil,.cons rfl .nil,?_⟩
      simp only [HasTy]
      exact ⟨.nil,0,[],rfl,.inl ⟨rfl,rfl,rfl⟩,Nat.zero_le _,rfl⟩
     case h_8 e a len cap hu=>
      rw [hu] at hT
      obtain ⟨E,hE,rfl⟩:=map_some hT
      split at hx
      ·rename_i hc
       obtain ⟨elems,h1,_⟩:=some_bind hx
       have hall:=mapM_opt h1
       obtain ⟨ps,vs,g1,g2,g3,g4⟩:=els_read (a:=a) (es:=P.cellsOf e) (fun cs x h=>ihc e E cs x hE h) len 0 fun j _ hj=>by
        obtain ⟨y,hy⟩:=hall j (by simp; omega)
        exact ⟨y,hy⟩
       refine ⟨[.sl .nn len ps],.cons _ _ _ _ (.sl .nn len ps a cap vs (by simp) (by simp) hc.2.1 g1 (fun j v hj=>by simpa [Imm.of] using g4 j v hj) g2) .nil,.cons rfl .nil,?_⟩
       simp only [HasTy]
       exact ⟨.nn,len,ps,rfl,.inr rfl,Nat.le_trans hc.2.1 hc.2.2,g3⟩
      ·cases hx
     case h_9 cs _ _ fs hu=>
      rw [hu] at hT
      obtain ⟨L,hL,rfl⟩:=map_some hT
      split at hx
      ·rename_i hc
       obtain ⟨xs,h1,_⟩:=map_some hx
       rw [←hc] at hL
       obtain ⟨ps,g1,g2,g3⟩:=fs_read (g:=tyOf P d) (fun t T cs x h1 h2=>ihc t T cs x h1 h2) cs fs.toList 0 L hL (Nat.zero_le _) fun f hf=>mapM_opt h1 f hf
       refine ⟨ps,by simpa using g1,by simpa using g2,?_⟩
       simp only [HasTy]
       exact g3
      ·cases hx
     case h_10 cs _ _ n e hu=>
      rw [hu] at hT
      simp only at hT
      split at hT
      ·rename_i E hE
       cases hb:Nat.beq (P.cellsOf t) (n*P.cellsOf e) with
       | false=>rw [hb] at hT; cases hT
       | true=>
         rw [hb] at hT; injection hT with hT; subst hT
         split at hx
         ·rename_i hc
          obtain ⟨xs,h1,_⟩:=map_some hx
          have hl:cs.length=(0+n)*P.cellsOf e:=by rw [hc,Nat.eq_of_beq_eq_true hb,Nat.zero_add]
          obtain ⟨ps,g1,g2,g3⟩:=segs_read (es:=P.cellsOf e) (fun cs x h=>ihc e E cs x hE h) cs n 0 hl fun j _ hj=>mapM_opt h1 j (by simp; omega)
          refine ⟨ps,by simpa using g1,by simpa using g2,?_⟩
          simp only [HasTy]
          exact g3
         ·cases hx
      ·cases hT
     all_goals first
      | (rename_i hu; rw [hu] at hT; cases hT; done)
      | (cases hx; done)
      | skip
end
end Go.VM
namespace Go.VM
open Go Go.RowKit
def HasArg (T:Ty) (p:PV):Prop:=match T with
 | .st fs=>∃ ps,p = .agg ps∧HasFs fs ps
 | .arr n es e=>∃ ps,p = .agg ps∧Els (HasTy e) es n ps
 | T=>HasTy T [p]
def HasArgs:List Ty→List PV→Prop
 | [],ps=>ps=[]
 | T::Ts,ps=>∃ p qs,ps=p::qs∧HasArg T p∧HasArgs Ts qs
section
variable {H:Type} {enc:TypeId × Value→H} {P:Program} {W:World}
theorem tyOf_agg {d:Nat} {t:TypeId} {T:Ty} (h:tyOf P d t=some T):(∃ fs,P.underlying t=some (.struct fs) ∧ ∃ L,T = .st L)∨(∃ n e,P.underlying t=some (.array n e) ∧ ∃ a b c,T = .arr a b c) ∨
 ((∀ fs,P.underlying t≠some (.struct fs))∧(∀ n e,P.underlying t≠some (.array n e))∧(∀ L,T ≠ .st L)∧(∀ a b c,T ≠ .arr a b c)):=by
 cases d with
 | zero=>cases h
 | succ d=>
   simp only [tyOf] at h
   split at h
   ·rename_i hu; injection h with h; subst h; exact .inr (.inr ⟨by simp [hu],by simp [hu],by simp,by simp⟩)
   ·rename_i hu; injection h with h; subst h; exact .inr (.inr ⟨by simp [hu],by simp [hu],by simp,by simp⟩)
   ·rename_i hu; injection h with h; subst h; exact .inr (.inr ⟨by simp [hu],by simp [hu],by simp,by simp⟩)
   ·rename_i hu; obtain ⟨_,_,rfl⟩:=map_some h; exact .inr (.inr ⟨by simp [hu],by simp [hu],by simp,by simp⟩)
   ·rename_i fs hu; obtain ⟨L,_,rfl⟩:=map_some h; exact .inl ⟨fs,hu,L,rfl⟩
   ·rename_i n e hu
    split at h
    ·rw [Bool.cond_eq_ite] at h
     split at h
     ·injection h with h; subst h; exact .inr (.inl ⟨n,e,hu,_,_,_,rfl⟩)
     ·cases h
    ·cases h
   ·cases h
theorem okWide_plain {base:Nat} {t:TypeId} {v:Value} (h:Value.okWide P W .any base t v) (h1:∀ fs,P.underlying t≠some (.struct fs)) (h2:∀ n e,P.underlying t≠some (.array n e)):∀ cs,v ≠ .agg cs:=by
 intro cs e
 subst e
 unfold Value.okWide at h
 split at h
 ·rename_i hu; exact h1 _ hu
 ·rename_i hu; exact h2 _ _ hu
 ·unfold Cell.okWide at h
  split at h
  all_goals first
   | (rename_i hv; cases hv; done)
   | (rename_i _ hv; cases hv; done)
   | (rename_i _ _ hv; cases hv; done)
   | skip
  unfold Cell.ok at h
  split at h
  all_goals first
   | (rename_i hv; cases hv; done)
   | (rename_i _ hv; cases hv; done)
   | (rename_i _ _ hv; cases hv; done)
   | exact h
theorem read_arg {d:Nat} {t:TypeId} {T:Ty} {base:Nat} {v:Value} {dd:DataW H} {pl:List MemPlace} {sp:Nat→Bool} {hd:Bool} (hT:tyOf P d t=some T) (hok:Value.okWide P W .any base t v) (h:DataW.Trod enc P W 0 sp hd t v dd pl) :
 ∃ p,PRel (Imm.of W) p v∧HasArg T p:=by
 obtain ⟨fuel,h⟩:=h
 obtain ⟨ps,h1,h2,h3⟩:=read fuel d t T _ _ hT h
 have single:∀ (q:PV),ps=[q]→(∀ cs,v ≠ .agg cs)→PRel (Imm.of W) q v:=by
  intro q hq hv
  subst hq
  have hc:v.cells = #[v]:=by cases v<;>first | rfl | exact absurd rfl (hv _)
  rw [hc] at h1
  cases h1 with | cons _ _ _ _ g1 _=>exact g1
 rcases tyOf_agg hT with ⟨fs,hu,L,rfl⟩ | ⟨n,e,hu,a,b,c,rfl⟩ | ⟨k1,k2,k3,k4⟩
 ·unfold Value.okWide at hok
  rw [hu] at hok
  obtain ⟨cs,rfl,_⟩:=hok
  simp only [HasTy] at h3
  refine ⟨.agg ps,?_,ps,rfl,h3⟩
  have:=PRel.agg ps cs.toList (by simpa [Value.cells] using h1) (by simpa [Value.cells] using h2)
  simpa using this
 ·unfold Value.okWide at hok
  rw [hu] at hok
  obtain ⟨cs,rfl,_⟩:=hok
  simp only [HasTy] at h3
  refine ⟨.agg ps,?_,ps,rfl,h3⟩
  have:=PRel.agg ps cs.toList (by simpa [Value.cells] using h1) (by simpa [Value.cells] using h2)
  simpa using this
 ·have hv:=okWide_plain hok k1 k2
  cases T with
  | st L=>exact absurd rfl (k3 L)
  | arr a b c=>exact absurd rfl (k4 a b c)
  | bool=>
    have h3':=h3
    simp only [HasTy] at h3
    obtain ⟨b,rfl⟩:=h3
    exact ⟨_,single _ rfl hv,h3'⟩
  | int k=>
    have h3':=h3
    simp only [HasTy] at h3
    obtain ⟨b,rfl,_⟩:=h3
    exact ⟨_,single _ rfl hv,h3'⟩
  | str=>
    have h3':=h3
    simp only [HasTy] at h3
    obtain ⟨b,rfl,_⟩:=h3
    exact ⟨_,single _ rfl hv,h3'⟩
  | sl es e=>
    have h3':=h3
    simp only [HasTy] at h3
    obtain ⟨x,len,cells,rfl,_⟩:=h3
    exact ⟨_,single _ rfl hv,h3'⟩
theorem read_args {d:Nat} {base:Nat} {sp:Nat→Bool} {hd:Bool}:∀ {ts:List TypeId} {Ts:List Ty} {vs:List Value} {ds:List (DataW H)} {pl:List MemPlace},tysOf P d ts=some Ts→(∀ (j:Nat) (t:TypeId) (v:Value),ts[j]? = some t→vs[j]? = some v→Value.okWide P W .any base t v)→DataW.TrodAll enc P W 0 sp hd ts vs ds pl →
 ∃ ps,PRels (Imm.of W) ps vs∧HasArgs Ts ps:=by
 intro ts
 induction ts with
 | nil=>
   intro Ts vs ds pl hT hok h
   simp [tysOf] at hT; subst hT
   cases vs with
   | nil=>exact ⟨[],.nil,rfl⟩
   | cons _ _=>cases ds<;>exact h.elim
 | cons t ts ih=>
   intro Ts vs ds pl hT hok h
   simp only [tysOf] at hT
   split at hT
   ·rename_i T r h1 h2
    injection hT with hT; subst hT
    cases vs with
    | nil=>cases ds<;>exact h.elim
    | cons v vs=>
      cases ds with
      | nil=>exact h.elim
      | cons dd ds=>
        obtain ⟨p,q,g1,g2,_⟩:=h
        obtain ⟨x,k1,k2⟩:=read_arg h1 (hok 0 t v rfl rfl) g1
        obtain ⟨xs,k3,k4⟩:=ih h2 (fun j t' v' hj hv=>hok (j+1) t' v' (by simpa using hj) (by simpa using hv)) g2
        exact ⟨x::xs,.cons _ _ _ _ k1 k3,x,xs,rfl,k2,k4⟩
   ·cases hT
end
theorem SRel.world (Γ:Ctx) (W:World) (hG:Γ.gi.le (Imm.of W)) (hN:∀ a,Γ.gn a=true→a.block<W.heap.size∧W.cell? a=none):SRel Γ W.heap.size { loc:=fun _=>none,imm:=Imm.of W,tl:=fun _ _=>none } [] W:=by
 have hp:∀ id,place { loc:=fun _=>none,imm:=Imm.of W,tl:=fun _ _=>none } id (hget [] id)=none:=fun id=>by rw [hget_ge (by simp)]; rfl
 exact ⟨fun _ _ h=>h,fun id k hk=>(by rw [hp] at hk; cases hk),fun id _ k hk=>(by rw [hp] at hk; cases hk),fun _ _=>⟨rfl,fun _=>rfl⟩,Nat.le_refl _,hG,hN⟩
theorem calls_of_EE {Γ:Ctx} {env:Env} (hV:EnvOK Γ env) {f:FuncId} {ps:List PV} {p:PV} {H':Heap} (h:EE env (.fn f) (ps.map .pv) []=some (.pv p,H')) {W:World} (hG:Γ.gi.le (Imm.of W)) (hN:∀ a,Γ.gn a=true→a.block<W.heap.size∧W.cell? a=none) {args:Array Value} (ha:PRels (Imm.of W) ps args.toList) :
 Calls Γ.P f args W fun e W'=>∃ v,e = .returned v∧(∃ I,PRel I p v)∧Below W.heap.size W W':=by
 have:=(EE_ok hV).fn _ _ _ _ _ h W.heap.size _ W args.toList (SRel.world Γ W hG hN) (VRels.of_pv ha)
 rw [Array.toArray_toList] at this
 refine (callsIn_wide.1 this).mono fun e W' ho=>?_
 cases e with
 | returned v=>
   obtain ⟨κ',h1,h2,h3⟩:=ho
   refine ⟨v,rfl,?_,h3.os,h3.tape,h3.output,h3.size,fun k hk=>h3.frame k hk fun id hp=>?_⟩
   ·cases h1 with | pv _ _ h1=>exact ⟨_,h1⟩
   ·rw [hget_ge (by simp)] at hp; cases hp
 | panicked _=>exact ho.elim
 | outgrown=>exact ho.elim
end Go.VM
namespace Go.VM
open Go Go.RowKit Go.ChangeShapes Go.WideShapes
section
variable {H:Type} {enc:TypeId × Value→H} {P:Program}
theorem TrodAll_stays (hl:laidOutB P=true) {W W':World} {sp':Nat→Bool}:∀ {ts:List TypeId} {vs:List Value} {ds:List (DataW H)} {ps:List MemPlace},(∀ t∈ts,P.readableRec t=true∧t<P.types.size) →
 DataW.TrodAll enc P W 0 (fun _=>true) true ts vs ds ps→(∀ p∈ps,W.sameAt W' p)→(∀ p∈ps,sp' p.block=true)→DataW.TrodAll enc P W' 0 sp' true ts vs ds ps:=by
 intro ts
 induction ts with
 | nil=>
   intro vs ds ps _ h _ _
   cases vs<;>cases ds<;>first | exact h | exact h.elim
 | cons t ts ih=>
   intro vs ds ps hr h hs hp
   cases vs with
   | nil=>cases ds<;>exact h.elim
   | cons v vs=>
     cases ds with
     | nil=>exact h.elim
     | cons d ds=>
       obtain ⟨p,q,g1,g2,rfl⟩:=h
       have ht:=hr t (by simp)
       exact ⟨p,q,WideElems.Trod_stays hl ht.1 ht.2 g1 (fun x hx=>hs x (by simp [hx])) (fun x hx=>hp x (by simp [hx])),
        ih (fun t' h'=>hr t' (by simp [h'])) g2 (fun x hx=>hs x (by simp [hx])) (fun x hx=>hp x (by simp [hx])),rfl⟩
theorem law_post {fn:Func} {s:ChangeSpec} {apart fresh handsOn:Bool} {W W':World} {args:Array Value} {ds gs:List (DataW H)} {before:List MemPlace} {tb:TypeId}
 (hl:laidOutB P=true) (hr:fn.params.toList.all (fun t=>P.readableRec t&&decide (t<P.types.size))=true) (hvars:s.vars=[]) (hrt:fn.resultTypes = #[tb]) (htb:P.underlying tb=some .bool)
 (hfn:∀ ds:List (DataW H),ds.length=fn.params.size→s.fn H ds={ results:=[.lit (.bool true)],args:=ds })
 (hlen:ds.length=fn.params.size) (hW:DataW.Whole enc P fn.params.toList s.vars apart W args.toList ds gs before) (hb:Below W.heap.size W W'):s.post enc P fn apart fresh handsOn false W args (.bool true) W':=by
 have hW':=hW
 obtain ⟨p,q,h1,h2,rfl,_,_⟩:=hW
 rw [hvars] at h2
 obtain ⟨rfl,rfl⟩:=trodVars_none h2
 have hlt:=hW'.lt
 have hr':∀ t∈fn.params.toList,P.readableRec t=true∧t<P.types.size:=fun t ht=>by
  have:=List.all_eq_true.1 hr t ht
  rw [Bool.and_eq_true,decide_eq_true_eq] at this
  exact this
 have hf:=hfn ds hlen
 have hb':=hb.frame (fun x=>x∈p++[]∧(x∈([]:List MemPlace)∨x∈p∨x∈([]:List MemPlace)))
 refine ⟨ds,[],p++[],[],p,[],hW',?_,?_,?_,hb',fun h=>by cases h⟩
 ·rw [List.append_nil,hf,hrt]
  exact trodAll_mk1 ⟨1,by simp [DataW.trod,Value.cells,htb]⟩
 ·rw [List.append_nil,hf]
  exact TrodAll_stays hl hr' h1 (fun x hx=>hb.same (hlt x (by simp [hx]))) (fun x hx=>by simpa using hlt x (by simp [hx]))
 ·rw [List.append_nil,hf,hvars]
  rfl
theorem trodAll_length {w:World} {base:Nat} {sp:Nat→Bool} {hd:Bool}:∀ {ts:List TypeId} {vs:List Value} {ds:List (DataW H)} {ps:List MemPlace},DataW.TrodAll enc P w base sp hd ts vs ds ps→ds.length=ts.length:=by
 intro ts
 induction ts with
 | nil=>intro vs ds ps h; cases vs<;>cases ds<;>first | rfl | exact h.elim
 | cons t ts ih=>
   intro vs ds ps h
   cases vs with
   | nil=>cases ds<;>exact h.elim
   | cons v vs=>cases ds with
     | nil=>exact h.elim
     | cons d ds=>obtain ⟨p,q,_,g2,_⟩:=h; simp [ih g2]
end
theorem law_lifted {C:Checked} {md:FuncId→Mode} {env:Env} (hV:EnvOK ⟨C.prog,md,fun _=>none,fun _=>false⟩ env) {f:FuncId} {fn:Func} {s:ChangeSpec} {conds:List PathCond} {apart fresh handsOn:Bool} {tb:TypeId} {Ts:List Ty}
 (own:ownKnob C.prog.godebug=none) {os:Os} (started:os.Started) (noInit:C.prog.inits.idxOf? f=none) (hf:C.prog.funcs[f]? = some fn) {H:Type} {enc:TypeId × Value→H}
 (witness:∃ (w:World) (tape:Tape) (i:Input),w.os=os∧(w.forCall tape i).Shaped C.prog∧i.vars=[]∧Input.okWide C.prog (w.forCall tape i) .any w.heap.size f i ∧
   s.pre6 enc C.prog fn conds apart (w.forCall tape i).memory i.args∧({}:Assume).holds C.prog (lone (Frame.enter C.prog f i.args .normal) [] (w.forCall tape i)))
 (hl:laidOutB C.prog=true) (hr:fn.params.toList.all (fun t=>C.prog.readableRec t&&decide (t<C.prog.types.size))=true) (hvars:s.vars=[]) (hrt:fn.resultTypes = #[tb]) (htb:C.prog.underlying tb=some .bool)
 (hfn:∀ ds:List (DataW H),ds.length=fn.params.size→s.fn H ds={ results:=[.lit (.bool true)],args:=ds })
 (hT:tysOf C.prog 40 fn.params.toList=some Ts) (law:∀ ps,HasArgs Ts ps→∃ H',EE env (.fn f) (ps.map .pv) []=some (.pv (.bool true),H')) :
 ReturnsInHanded {} C os f .any (s.pre6 enc C.prog fn conds apart) (s.post enc C.prog fn apart fresh handsOn false):=by
 refine returnsInHanded_of_change own started noInit hf witness ?_
 intro W base args ds gs before hval hW _ _
 have hW0:=hW
 obtain ⟨p,q,h1,_⟩:=hW
 obtain ⟨ps,g1,g2⟩:=read_args hT (fun j t v ht hv=>hval j t v (by rw [←Array.getElem?_toList]; exact ht) (by rw [←Array.getElem?_toList]; exact hv)) h1
 obtain ⟨H',hE⟩:=law ps g2
 refine (calls_of_EE hV hE (fun a v hv=>by cases hv) (fun a ha=>by cases ha) g1).mono fun e W' ⟨v,he,⟨I,hv⟩,hb⟩=>⟨v,he,?_⟩
 cases hv
 exact law_post hl hr hvars hrt htb hfn (by rw [trodAll_length h1]; simp) hW0 hb
end Go.VM
namespace Go.VM
open Go
def Has {α:Type} (o:Option α) (Q:α→Prop):Prop:=∃ x,o=some x∧Q x
section
variable {R α:Type} {Q:R→Prop}
theorem Has.intro {x:R} (h:Q x):Has (some x) Q:=⟨x,rfl,h⟩
theorem Has.mono {o:Option R} {Q':R→Prop} (h:Has o Q) (hq:∀ x,Q x→Q' x):Has o Q':=by
 obtain ⟨x,h1,h2⟩:=h; exact ⟨x,h1,hq x h2⟩
theorem Has.eq {o:Option R} {x:R} (h:Has o (fun y=>y=x)):o=some x:=by obtain ⟨y,h1,h2⟩:=h; rw [h1,h2]
theorem Has.of_eq {o:Option R} {x:R} (h:o=some x) (hq:Q x):Has o Q:=⟨x,h,hq⟩
theorem aa {p:Bool} {x:Option R} (h:p=true) (hx:Has x Q):Has (needK p x) Q:=by rw [needK_def,h]; exact hx
theorem boolK_has {b:Bool} {F:Bool→Option R} (ht:b=true→Has (F true) Q) (hf:b=false→Has (F false) Q):Has (boolK b F) Q:=by
 rw [boolK_def]; cases b; exact hf rfl; exact ht rfl
theorem aU {b:Bool} {F:Bool→Option R} (h:b=true) (ht:Has (F true) Q):Has (boolK b F) Q:=by rw [boolK_def,h]; exact ht
theorem aQ {b:Bool} {F:Bool→Option R} (h:b=false) (ht:Has (F false) Q):Has (boolK b F) Q:=by rw [boolK_def,h]; exact ht
theorem boolK_has_keep {b:Bool} {F:Bool→Option R} (ht:Has (F b) Q):Has (boolK b F) Q:=by rw [boolK_def]; exact ht
theorem aD {b c:Bool} {F:Bool→Option R} (e:b=c) (ht:Has (F c) Q):Has (boolK b F) Q:=by rw [boolK_def,e]; exact ht
theorem ao {x:α} {F:α→Option R} (h:Has (F x) Q):Has (eqK x F) Q:=by rw [bh]; exact h
theorem a9 {x:α} {F:α→Option R} (x':α) (e:x=x') (h:Has (F x') Q):Has (eqK x F) Q:=by rw [bh,e]; exact h
theorem eqK_has_name {x:α} {F:α→Option R} (h:∀ x',x'=x→Has (F x') Q):Has (eqK x F) Q:=by rw [bh]; exact h _ rfl
theorem ab {l:List α} {i:Nat} {F:α→Option R} {v:α} (e:l[i]? = some v) (h:Has (F v) Q):Has (getK l i F) Q:=by rw [getK_def,e]; exact h
theorem ae {l:List α} {i n:Nat} {F:List α→Option R} {v:List α} (e:(l.drop i).take n=v) (hn:i+n≤l.length) (h:Has (F v) Q):Has (secK l i n F) Q:=by
 rw [secK_def,e,show Nat.ble (i+n) l.length=true from Nat.ble_eq_true_of_le hn]; exact h
theorem bj {x:Option α} {F:α→Option R} {v:α} (e:x=some v) (h:Has (F v) Q):Has (bindK x F) Q:=by rw [bindK_def,e]; exact h
theorem a8 {H:Heap} {id:Nat} {F:HObj→Option R} (o:HObj) (e:hget H id=o) (h:Has (F o) Q):Has (hgetK H id F) Q:=by rw [bf,e]; exact h
theorem aj {E:Orc} {f:FuncId} {ps:List PV} {F:PV→Option R} {p:PV} (e:EP E f ps=some p) (h:Has (F p) Q):Has (callPK E f ps F) Q:=by rw [callPK_def,e]; exact h
theorem au {E:Orc} {t:Tgt} {args:List AV} {h:Heap} {F:AV→Heap→Option R} {v:AV} {h':Heap} (e:E t args h=some (v,h')) (hy:Has (F v h') Q):Has (callSK E t args h F) Q:=by
 rw [callSK_def,e]; exact hy
theorem am {E:Orc} {t:Tgt} {args:List AV} {h:Heap} {F:AV→Heap→Option R} (e:Has (E t args h) fun p=>Has (F p.1 p.2) Q):Has (callSK E t args h F) Q:=by
 rw [callSK_def]; obtain ⟨p,h1,h2⟩:=e; rw [h1]; exact h2
theorem bq {a b:Option AV} {x:Option R} (h:a=b) (hs:a.isSome=true) (hx:Has x Q):Has (sameK a b x) Q:=by rw [sameK_def,if_pos ⟨h,hs⟩]; exact hx
theorem aw {b:Regs→Heap→Option Res} {r:Regs} {h:Heap} {F:Ex→Regs→Heap→Option R} (e:Has (iterE b r h) fun x=>Has (F x.1 x.2.1 x.2.2) Q):Has (loopK b r h F) Q:=by
 rw [loopK_def]; obtain ⟨p,h1,h2⟩:=e; rw [h1]; exact h2
theorem aK {env:Env} {t:Tgt} {args:List AV} {h:Heap} {Q:AV × Heap→Prop} (hx:Has (evTgtK env (EE env) t args h (fun v h=>some (v,h))) Q):Has (EE env t args h) Q:=by
 obtain ⟨x,h1,h2⟩:=hx; exact ⟨x,EE_intro h1,h2⟩
theorem aE {env:Env} {f:FuncId} {ps:List PV} {Q:PV→Prop} (hx:Has (evTgtK env (EE env) (.fn f) (ps.map .pv) [] (fun v h=>some (v,h))) fun x=>Has (out x.2 x.1) Q):Has (EP (EE env) f ps) Q:=by
 obtain ⟨x,h1,p,h2,h3⟩:=hx
 refine ⟨p,?_,h3⟩
 rw [EP,EE_intro h1]; exact h2
end
def Agr (r:Regs):List (Nat × AV)→Prop
 | []=>True
 | (t,v)::l=>r t=v∧Agr r l
def setL (r:Regs):List (Nat × AV)→Regs
 | []=>r
 | (t,v)::l=>upd (setL r l) t v
theorem Agr.eq {r:Regs} {l:List (Nat × AV)} (h:Agr r l):setL r l=r:=by
 induction l with
 | nil=>rfl
 | cons x l ih=>
   obtain ⟨t,v⟩:=x
   obtain ⟨h1,h2⟩:=h
   show upd (setL r l) t v=r
   rw [ih h2]
   funext i
   unfold upd
   cases hb:Nat.beq i t with
   | false=>rfl
   | true=>rw [Nat.eq_of_beq_eq_true hb,h1]; rfl
theorem iterE_step {b:Regs→Heap→Option Res} {r:Regs} {h:Heap} {Q:Res→Prop} (hx:Has (b r h) fun x=>match x.1 with | .normal=>Has (iterE b x.2.1 x.2.2) Q | _=>Q x):Has (iterE b r h) Q:=by
 obtain ⟨⟨e,r',h'⟩,h1,h2⟩:=hx
 cases e with
 | normal=>
   obtain ⟨y,h3,h4⟩:=h2
   obtain ⟨n,hn⟩:=lim_some h3
   refine ⟨y,iterE_intro (n:=n+1) ?_,h4⟩
   simp only [iterN,h1,Option.bind_some]
   exact hn
 | exit id=>exact ⟨_,iterE_intro (n:=1) (by simp only [iterN,h1,Option.bind_some]),h2⟩
 | ret=>exact ⟨_,iterE_intro (n:=1) (by simp only [iterN,h1,Option.bind_some]),h2⟩
theorem aC {σ:Type} {b:Regs→Heap→Option Res} {Q:Res→Prop} (m:σ→Nat) (L:σ→List (Nat × AV)) (Hp:σ→Heap) (Ok:σ→Prop)
 (step:∀ s,Ok s→∀ r,Has (b (setL r (L s)) (Hp s)) fun x=>match x.1 with | .normal=>∃ s',Ok s'∧m s'<m s∧Agr x.2.1 (L s')∧x.2.2=Hp s' | _=>Q x)
 (s:σ) (hs:Ok s) {r:Regs} {h:Heap} (ha:Agr r (L s)) (hh:h=Hp s):Has (iterE b r h) Q:=by
 have key:∀ (n:Nat) (s:σ),m s<n→Ok s→∀ r,Agr r (L s)→Has (iterE b r (Hp s)) Q:=by
  intro n
  induction n with
  | zero=>intro s h; omega
  | succ n ih=>
    intro s hm ho r ha
    have h1:=step s ho r
    rw [ha.eq] at h1
    refine iterE_step (h1.mono fun x hx=>?_)
    obtain ⟨e,r',h'⟩:=x
    cases e with
    | normal=>
      obtain ⟨s',g1,g2,g3,g4⟩:=hx
      dsimp only at g3 g4 ⊢
      rw [g4]
      exact ih s' (by omega) g1 r' g3
    | exit id=>exact hx
    | ret=>exact hx
 subst hh
 exact key (m s+1) s (Nat.lt_succ_self _) hs r ha
theorem bD {b:Regs→Heap→Option Res} {Q:Res→Prop} (n:Nat) (L:Nat→List (Nat × AV)) (Hp:Nat→Heap)
 (step:∀ i,i<n→∀ r,Has (b (setL r (L i)) (Hp i)) fun x=>match x.1 with | .normal=>Agr x.2.1 (L (i+1))∧x.2.2=Hp (i+1) | _=>Q x)
 (last:∀ r,Has (b (setL r (L n)) (Hp n)) fun x=>match x.1 with | .normal=>False | _=>Q x)
 {r:Regs} {h:Heap} (ha:Agr r (L 0)) (hh:h=Hp 0):Has (iterE b r h) Q:=by
 refine aC (fun i=>n-i) L Hp (fun i=>i≤n) (fun i hi r=>?_) 0 (Nat.zero_le _) ha hh
 rcases Nat.lt_or_ge i n with h1 | h1
 ·refine (step i h1 r).mono fun x hx=>?_
  obtain ⟨e,r',h'⟩:=x
  cases e with
  | normal=>exact ⟨i+1,h1,by omega,hx.1,hx.2⟩
  | exit id=>exact hx
  | ret=>exact hx
 ·have:i=n:=by omega
  subst this
  refine (last r).mono fun x hx=>?_
  obtain ⟨e,r',h'⟩:=x
  cases e with
  | normal=>exact hx.elim
  | exit id=>exact hx
  | ret=>exact hx
theorem ar {f g:FuncId} {vf vg:VFunc} {rest:Option VFunc} (h:(bif Nat.beq f g then some vg else rest)=some vf):(f=g∧vf=vg)∨rest=some vf:=by
 cases hb:Nat.beq f g with
 | true=>rw [hb] at h; injection h with h; exact .inl ⟨Nat.eq_of_beq_eq_true hb,h.symm⟩
 | false=>rw [hb] at h; exact .inr h
end Go.VM
namespace Go.VM
open Go
theorem hset_self {H:Heap} {id:Nat} {o:HObj} (h:hget H id=o):hset H id o=H:=by
 induction H generalizing id with
 | nil=>rfl
 | cons a H ih=>cases id with
   | zero=>show o::H=a::H; rw [←h]; rfl
   | succ id=>show a::hset H id o=a::H; rw [ih h]
theorem hset_hset (H:Heap) (id:Nat) (o o':HObj):hset (hset H id o) id o'=hset H id o':=by
 induction H generalizing id with
 | nil=>rfl
 | cons a H ih=>cases id with
   | zero=>rfl
   | succ id=>show a::_=a::_; rw [ih]
theorem hgetK_hset {R:Type} {Q:R→Prop} {H:Heap} {id:Nat} {o:HObj} {F:HObj→Option R} (hid:id<H.length) (h:Has (F o) Q):Has (hgetK (hset H id o) id F) Q:=a8 o (ai o hid) h
def bc (bs:List UInt8):List PV:=bs.map fun b=>.int .u8 b.toNat
theorem bc_get {bs:List UInt8} {i:Nat} {b:UInt8} (h:bs[i]? = some b):(bc bs)[i]? = some (.int .u8 b.toNat):=by simp [bc,h]
theorem be (bs:List UInt8):(bc bs).length=bs.length:=by simp [bc]
theorem wrap_u32 {n:Nat} (h:n<4294967296):IntKind.u32.wrap (n:Int)=n:=by
 unfold IntKind.wrap; simp only [IntKind.bits,IntKind.signed,Bool.false_and]
 have:(n:Int) % 4294967296=n:=Int.emod_eq_of_lt (by omega) (by omega)
 simpa using this
theorem wrap_u8 (b:UInt8):IntKind.u32.wrap (b.toNat:Int)=((BitVec.ofNat 32 b.toNat).toNat:Int):=by
 have:=b.toNat_lt
 rw [wrap_u32 (by omega),BitVec.toNat_ofNat,Nat.mod_eq_of_lt (by omega)]
theorem ofInt_toNat {w:Nat} (a:BitVec w):BitVec.ofInt w (a.toNat:Int)=a:=by simp
theorem u32_xor (a b:BitVec 32):IntKind.u32.wrap ((BitVec.ofInt IntKind.u32.bits (a.toNat:Int) ^^^ BitVec.ofInt IntKind.u32.bits (b.toNat:Int)).toNat:Int)=((a ^^^ b).toNat:Int):=by
 show IntKind.u32.wrap ((BitVec.ofInt 32 (a.toNat:Int) ^^^ BitVec.ofInt 32 (b.toNat:Int)).toNat:Int)=_
 rw [ofInt_toNat,ofInt_toNat,wrap_u32 (a ^^^ b).isLt]
theorem u32_and (a b:BitVec 32):IntKind.u32.wrap ((BitVec.ofInt IntKind.u32.bits (a.toNat:Int) &&& BitVec.ofInt IntKind.u32.bits (b.toNat:Int)).toNat:Int)=((a &&& b).toNat:Int):=by
 show IntKind.u32.wrap ((BitVec.ofInt 32 (a.toNat:Int) &&& BitVec.ofInt 32 (b.toNat:Int)).toNat:Int)=_
 rw [ofInt_toNat,ofInt_toNat,wrap_u32 (a &&& b).isLt]
theorem u32_shr1 (a:BitVec 32):(a.toNat:Int).fdiv (2 ^ (min (1:Int).toNat IntKind.u32.bits))=((a >>> 1).toNat:Int):=by
 rw [BitVec.toNat_ushiftRight,Nat.shiftRight_eq_div_pow]
 rw [Int.fdiv_eq_ediv_of_nonneg _ (by decide)]
 rfl
theorem u32_neg (a:BitVec 32):IntKind.u32.wrap (0-(a.toNat:Int))=((-a).toNat:Int):=by
 rw [BitVec.toNat_neg]
 unfold IntKind.wrap; simp only [IntKind.bits,IntKind.signed,Bool.false_and]
 have:=a.isLt
 simp
 omega
theorem wrap_i64 {n:Int} (h0 : -9223372036854775808≤n) (h1:n≤9223372036854775807):IntKind.i64.wrap n=n:=by
 unfold IntKind.wrap
 simp only [IntKind.bits,IntKind.signed,Bool.true_and,Nat.reduceSub,Int.reducePow]
 by_cases h:0≤n
 ·have e:n % 18446744073709551616=n:=Int.emod_eq_of_lt h (by omega)
  simp only [e]
  split
  ·rename_i h; simp at h; omega
  ·rfl
 ·have e:n % 18446744073709551616=n+18446744073709551616:=by omega
  simp only [e]
  split
  ·omega
  ·rename_i h; simp at h; omega
theorem aq {i:Nat} (h:i<9223372036854775807):IntKind.i64.wrap ((i:Int)+1)=((i+1:Nat):Int):=by
 rw [wrap_i64 (by omega) (by omega)]; rfl
theorem take_foldl {α β:Type} {f:β→α→β} {r:β} {l:List α} {i:Nat} {a:α} (h:l[i]? = some a):(l.take (i+1)).foldl f r=f ((l.take i).foldl f r) a:=by
 rw [List.take_add_one,h]; simp
theorem bc_set (bs:List UInt8) (i:Nat) (b:UInt8):(bc bs).set i (.int .u8 b.toNat)=bc (bs.set i b):=by simp [bc,List.map_set]
theorem bc_take (bs:List UInt8) (n:Nat):(bc bs).take n=bc (bs.take n):=by simp [bc,List.map_take]
theorem bc_drop (bs:List UInt8) (n:Nat):(bc bs).drop n=bc (bs.drop n):=by simp [bc,List.map_drop]
theorem bc_append (a b:List UInt8):bc a++bc b=bc (a++b):=by simp [bc]
theorem bc_zeros (n:Nat):zerosOf [.int .u8 0] n=bc (List.replicate n 0):=by
 induction n with
 | zero=>rfl
 | succ n ih=>show .int .u8 0::zerosOf _ n=_; rw [ih]; rfl
theorem u8_mod (n:Int) (h0:0≤n) (h1:n<256):∃ b:UInt8,n=(b.toNat:Int):=by
 refine ⟨UInt8.ofNat n.toNat,?_⟩
 rw [UInt8.toNat_ofNat']
 omega
theorem els_u8:∀ (n:Nat) (cs:List PV),Els (HasTy (.int .u8)) 1 n cs→∃ bs:List UInt8,bs.length=n∧cs=bc bs:=by
 intro n
 induction n with
 | zero=>intro cs h; exact ⟨[],rfl,h⟩
 | succ n ih=>
   intro cs ⟨a,b,h1,h2,⟨m,h3,h4⟩,h5⟩
   obtain ⟨bs,h6,h7⟩:=ih b h5
   have hm:0≤m∧m<256:=by
    simp only [Lit.wf,IntKind.min,IntKind.max,IntKind.bits,IntKind.signed,Bool.and_eq_true,decide_eq_true_eq] at h4
    simp at h4
    omega
   obtain ⟨x,hx⟩:=u8_mod m hm.1 hm.2
   refine ⟨x::bs,by simp [h6],?_⟩
   rw [h1,h3,h7,hx]; rfl
theorem aS:maxLen=9223372036854775807:=rfl
end Go.VM
namespace Go.VM
open Go
def i64 (x:BitVec 64):PV:=.int .i64 x.toInt
def u64 (x:BitVec 64):PV:=.int .u64 (x.toNat:Int)
theorem wrap_i64_bmod (n:Int):IntKind.i64.wrap n=n.bmod (2 ^ 64):=by
 unfold IntKind.wrap
 simp only [IntKind.bits,IntKind.signed,Bool.true_and,Nat.reduceSub,Int.reducePow]
 have e:((2 ^ 64:Nat):Int)=18446744073709551616:=rfl
 rw [Int.bmod_def,e]
 by_cases h:n % 18446744073709551616<9223372036854775808
 ·rw [if_neg (by simp; omega),if_pos (by omega)]
 ·rw [if_pos (by simp; omega),if_neg (by omega)]
theorem aL (n:Int):IntKind.u64.wrap n=n % 18446744073709551616:=by
 unfold IntKind.wrap
 simp only [IntKind.bits,IntKind.signed,Bool.false_and]
 simp
theorem i64_of_toNat (x:BitVec 64):IntKind.i64.wrap (x.toNat:Int)=x.toInt:=by
 rw [wrap_i64_bmod,BitVec.toInt_eq_toNat_bmod]
theorem u64_of_toInt (x:BitVec 64):IntKind.u64.wrap x.toInt=(x.toNat:Int):=by
 rw [aL,BitVec.toInt_eq_toNat_cond]
 have:=x.isLt
 split<;>omega
theorem ofInt_toInt64 (x:BitVec 64):BitVec.ofInt 64 x.toInt=x:=BitVec.ofInt_toInt
theorem u64_self (x:BitVec 64):IntKind.u64.wrap (x.toNat:Int)=(x.toNat:Int):=by
 rw [aL]
 have:=x.isLt
 omega
theorem i64_xor (x y:BitVec 64):IntKind.i64.wrap ((BitVec.ofInt IntKind.i64.bits x.toInt ^^^ BitVec.ofInt IntKind.i64.bits y.toInt).toNat:Int)=(x ^^^ y).toInt:=by
 show IntKind.i64.wrap ((BitVec.ofInt 64 x.toInt ^^^ BitVec.ofInt 64 y.toInt).toNat:Int)=_
 rw [ofInt_toInt64,ofInt_toInt64,i64_of_toNat]
theorem i64_and (x y:BitVec 64):IntKind.i64.wrap ((BitVec.ofInt IntKind.i64.bits x.toInt &&& BitVec.ofInt IntKind.i64.bits y.toInt).toNat:Int)=(x &&& y).toInt:=by
 show IntKind.i64.wrap ((BitVec.ofInt 64 x.toInt &&& BitVec.ofInt 64 y.toInt).toNat:Int)=_
 rw [ofInt_toInt64,ofInt_toInt64,i64_of_toNat]
theorem ofInt_toNat64 (x:BitVec 64):BitVec.ofInt 64 (x.toNat:Int)=x:=by simp
theorem u64_and (x y:BitVec 64):IntKind.u64.wrap ((BitVec.ofInt IntKind.u64.bits (x.toNat:Int) &&& BitVec.ofInt IntKind.u64.bits (y.toNat:Int)).toNat:Int)=((x &&& y).toNat:Int):=by
 show IntKind.u64.wrap ((BitVec.ofInt 64 (x.toNat:Int) &&& BitVec.ofInt 64 (y.toNat:Int)).toNat:Int)=_
 rw [ofInt_toNat64,ofInt_toNat64,u64_self]
theorem u64_add (x y:BitVec 64):IntKind.u64.wrap ((x.toNat:Int)+(y.toNat:Int))=((x+y).toNat:Int):=by
 rw [aL,BitVec.toNat_add]; omega
theorem u64_shl (x:BitVec 64) (n:Nat) (h:n≤64):IntKind.u64.wrap ((x.toNat:Int)*2 ^ (min ((n:Int)).toNat IntKind.u64.bits))=((x <<< n).toNat:Int):=by
 have e:min ((n:Int)).toNat IntKind.u64.bits=n:=by simp [IntKind.bits]; omega
 rw [e,aL,BitVec.toNat_shiftLeft,Nat.shiftLeft_eq]
 have:(x.toNat:Int)*2 ^ n=((x.toNat*2 ^ n:Nat):Int):=by simp
 rw [this]; omega
theorem u64_shr (x:BitVec 64) (n:Nat) (h:n≤64):(x.toNat:Int).fdiv (2 ^ (min ((n:Int)).toNat IntKind.u64.bits))=((x >>> n).toNat:Int):=by
 have e:min ((n:Int)).toNat IntKind.u64.bits=n:=by simp [IntKind.bits]; omega
 rw [e,BitVec.toNat_ushiftRight,Nat.shiftRight_eq_div_pow,Int.fdiv_eq_ediv_of_nonneg _ (Int.le_of_lt (Int.pow_pos (by decide)))]
 simp
theorem i64_bits {n:Int} (h : -9223372036854775808≤n) (h':n≤9223372036854775807):∃ x:BitVec 64,n=x.toInt:=by
 refine ⟨BitVec.ofInt 64 n,?_⟩
 rw [BitVec.toInt_ofInt,←wrap_i64_bmod,wrap_i64 h h']
theorem u64_bits {n:Int} (h:0≤n) (h':n≤18446744073709551615):∃ x:BitVec 64,n=(x.toNat:Int):=by
 refine ⟨BitVec.ofNat 64 n.toNat,?_⟩
 rw [BitVec.toNat_ofNat]; omega
theorem toInt_range (x:BitVec 64) : -9223372036854775808≤x.toInt∧x.toInt≤9223372036854775807:=by
 have h1:=BitVec.le_toInt x
 have h2:=BitVec.toInt_lt (x:=x)
 simp at h1 h2
 omega
end Go.VM
namespace Go.VM
open Go
def sh (a i:Nat):Nat:=a / 65536 ^ i
end Go.VM
namespace Go.VM
open Go
section
variable {R:Type} {Q:R→Prop}
theorem ah {p:Prop} [Decidable p] {F:Bool→Option R} (ht:p→Has (F true) Q) (hf:¬ p→Has (F false) Q):Has (boolK (decide p) F) Q:=
 boolK_has (fun h=>ht (of_decide_eq_true h)) (fun h=>hf (of_decide_eq_false h))
theorem aY {p:Prop} [Decidable p] {F:Bool→Option R} (h:p) (ht:Has (F true) Q):Has (boolK (decide p) F) Q:=aU (decide_eq_true h) ht
theorem aF {p:Prop} [Decidable p] {F:Bool→Option R} (h:¬ p) (hf:Has (F false) Q):Has (boolK (decide p) F) Q:=aQ (decide_eq_false h) hf
theorem aP {a b:Int} {F:Bool→Option R} (ht:a=b→Has (F true) Q) (hf:a≠b→Has (F false) Q):Has (boolK (a==b) F) Q:=
 boolK_has (fun h=>ht (by simpa using h)) (fun h=>hf (by simpa using h))
theorem aT {a b:Int} {F:Bool→Option R} (h:a=b) (ht:Has (F true) Q):Has (boolK (a==b) F) Q:=aU (by simpa using h) ht
theorem boolK_beq_f {a b:Int} {F:Bool→Option R} (h:a≠b) (hf:Has (F false) Q):Has (boolK (a==b) F) Q:=aQ (by simpa using h) hf
theorem aO {a b:Int} {F:Bool→Option R} (ht:a≠b→Has (F true) Q) (hf:a=b→Has (F false) Q):Has (boolK (a != b) F) Q:=
 boolK_has (fun h=>ht (by simpa using h)) (fun h=>hf (by simpa using h))
theorem boolK_bne_t {a b:Int} {F:Bool→Option R} (h:a≠b) (ht:Has (F true) Q):Has (boolK (a != b) F) Q:=aU (by simpa using h) ht
theorem bg {a b:Int} {F:Bool→Option R} (h:a=b) (hf:Has (F false) Q):Has (boolK (a != b) F) Q:=aQ (by simpa using h) hf
theorem aI {E:Orc} {f:FuncId} {ps:List PV} {F:PV→Option R} {p:Prop} [Decidable p] (e:EP E f ps=some (.bool (decide p))) (ht:p→Has (F (.bool true)) Q) (hf:¬ p→Has (F (.bool false)) Q):Has (callPK E f ps F) Q:=by
 by_cases h:p
 ·exact aj (e.trans (by rw [decide_eq_true h])) (ht h)
 ·exact aj (e.trans (by rw [decide_eq_false h])) (hf h)
theorem callPK_dec_t {E:Orc} {f:FuncId} {ps:List PV} {F:PV→Option R} {p:Prop} [Decidable p] (e:EP E f ps=some (.bool (decide p))) (h:p) (ht:Has (F (.bool true)) Q):Has (callPK E f ps F) Q:=
 aj (e.trans (by rw [decide_eq_true h])) ht
theorem callPK_dec_f {E:Orc} {f:FuncId} {ps:List PV} {F:PV→Option R} {p:Prop} [Decidable p] (e:EP E f ps=some (.bool (decide p))) (h:¬ p) (hf:Has (F (.bool false)) Q):Has (callPK E f ps F) Q:=
 aj (e.trans (by rw [decide_eq_false h])) hf
theorem yes {p:Prop} [Decidable p] (h:p):PV.bool true=PV.bool (decide p):=by rw [decide_eq_true h]
theorem no {p:Prop} [Decidable p] (h:¬ p):PV.bool false=PV.bool (decide p):=by rw [decide_eq_false h]
theorem law_end {env:Env} {f:FuncId} {ps:List PV} (h:Has (EE env (.fn f) (ps.map .pv) []) (fun x=>x.1 = .pv (.bool true))):∃ H',EE env (.fn f) (ps.map .pv) []=some (.pv (.bool true),H'):=by
 obtain ⟨⟨v,H'⟩,g1,g2⟩:=h
 exact ⟨H',by rw [g1]; simp only at g2; rw [g2]⟩
end
end Go.VM
namespace Go.VM
open Go
def sv (l:List UInt8):PV:=.str ⟨l.toArray⟩
theorem ay (l:List UInt8):(⟨l.toArray⟩:ByteArray).size=l.length:=by simp [ByteArray.size]
theorem sv_app (a b:List UInt8):(⟨a.toArray⟩:ByteArray)++⟨b.toArray⟩=⟨(a++b).toArray⟩:=by
 apply ByteArray.ext
 simp [ByteArray.data_append]
theorem sv_list (l:List UInt8):(⟨l.toArray⟩:ByteArray).toList=l:=by rw [ByteArray.toList_eq]
theorem sv_extract (l:List UInt8) (i j:Nat):(⟨l.toArray⟩:ByteArray).extract i j=⟨((l.take j).drop i).toArray⟩:=by
 apply ByteArray.ext
 rw [ByteArray.data_extract]
 apply Array.ext'
 simp [List.drop_take]
section
variable {R:Type} {Q:R→Prop}
theorem boolK_sne {a b:List UInt8} {F:Bool→Option R} (ht:a≠b→Has (F true) Q) (hf:a=b→Has (F false) Q):Has (boolK (!((⟨a.toArray⟩:ByteArray).toList==(⟨b.toArray⟩:ByteArray).toList)) F) Q:=by
 rw [sv_list,sv_list]
 exact boolK_has (fun h=>ht (by simpa using h)) (fun h=>hf (by simpa using h))
end
theorem bc_str (l:List UInt8):strOfCells (bc l)=some l:=by
 induction l with
 | nil=>rfl
 | cons b bs ih=>
   show (strOfCells (bc bs)).map _=_
   rw [ih]
   simp
end Go.VM
namespace Go.VM
open Go
end Go.VM
namespace Go.VM
open Go
section
variable {R S:Type}
theorem forceK_bind (v:AV) (G:AV→Option R) (F:R→Option S):(forceK v G).bind F=forceK v fun v=>(G v).bind F:=by rw [forceK_def,forceK_def]
theorem putK_bind (r:Regs) (d:Option Nat) (v:AV) (G:Regs→Option R) (F:R→Option S):(putK r d v G).bind F=putK r d v fun v=>(G v).bind F:=by rw [putK_def,putK_def]
theorem evOps_bind (env:Env) (E:Orc) (F:R→Option S) (l:List VOper):∀ (r:Regs) (h:Heap) (k:Regs→Heap→Option R),(evOps env E l r h k).bind F=evOps env E l r h fun r h=>(k r h).bind F:=by
 induction l with
 | nil=>intro r h k; rfl
 | cons o l ih=>
   intro r h k
   rw [evOps_cons,evOps_cons,bw,operK_bind]
   simp only [forceK_bind,putK_bind,ih]
theorem evDraw_bind (env:Env) (E:Orc) (pairs:List (Nat × Nat)) (F:R→Option S) (l:List VOper):∀ (i:Nat) (r:Regs) (h:Heap) (ls:List (Nat × AV × Option Nat)) (es:List (Nat × Heap × Heap))
 (k:Regs→Heap→List (Nat × AV × Option Nat)→List (Nat × Heap × Heap)→Option R),(evDraw env E pairs l i r h ls es k).bind F=evDraw env E pairs l i r h ls es fun r h ls es=>(k r h ls es).bind F:=by
 induction l with
 | nil=>intro i r h ls es k; rfl
 | cons o l ih=>
   intro i r h ls es k
   rw [evDraw_cons,evDraw_cons,bw,operK_bind]
   simp only [forceK_bind,putK_bind,ih]
theorem conts_bind (env:Env) (E:Orc) (F:R→Option S) (al:List (Nat × AlS)):∀ (r:Regs) (h:Heap) (k:List (Nat × HSh × List PV)→List (Nat × PV)→Option R),(conts env E al r h k).bind F=conts env E al r h fun a zs=>(k a zs).bind F:=by
 induction al with
 | nil=>intro r h k; rfl
 | cons x al ih=>
   intro r h k
   obtain ⟨t,s⟩:=x
   cases s with
   | z z=>simp only [conts]; rw [ih]
   | m i pre es z v=>
     simp only [conts]
     rw [evOps_bind]
     congr 1
     funext r' h'
     split
     ·rename_i kd n _
      simp only [needK_def,bh]
      cases (decide (0≤n)&&decide (n≤1099511627776))
      ·rfl
      ·simp only [cond_true]; rw [ih]
     ·rfl
   | x i pre v=>
     simp only [conts]
     rw [evOps_bind]
     congr 1
     funext r' h'
     split
     ·split
      ·rw [ih]
      ·rfl
     ·rfl
theorem hoist_bind (F:R→Option S) (al:List (Nat × HSh × List PV)):∀ (r:Regs) (h:Heap) (k:Regs→Heap→Option R),(hoist al r h k).bind F=hoist al r h fun r h=>(k r h).bind F:=by
 induction al with
 | nil=>intro r h k; rfl
 | cons a al ih=>intro r h k; exact ih _ _ _
theorem sameK_bind (a b:Option AV) (x:Option R) (F:R→Option S):(sameK a b x).bind F=sameK a b (x.bind F):=by
 simp only [sameK_def]; split<;>rfl
theorem checkBox_bind (ls:List (Nat × AV × Option Nat)) (F:R→Option S) (l:List (Nat × PV)):∀ (x:Option R),(checkBox ls l x).bind F=checkBox ls l (x.bind F):=by
 induction l with
 | nil=>intro x; rfl
 | cons a l ih=>
   intro x
   obtain ⟨i,p⟩:=a
   simp only [checkBox]
   split
   ·rw [sameK_bind,ih]
   ·rfl
theorem checkPairs_bind (ls:List (Nat × AV × Option Nat)) (es:List (Nat × Heap × Heap)) (F:R→Option S) (pairs:List (Nat × Nat)):∀ (x:Option R),(checkPairs ls es pairs x).bind F=checkPairs ls es pairs (x.bind F):=by
 induction pairs with
 | nil=>intro x; rfl
 | cons p pairs ih=>
   intro x
   obtain ⟨i,j⟩:=p
   unfold checkPairs
   split
   ·split
    ·rw [sameK_bind,ih]
    ·exact ih x
    ·rfl
   ·exact ih x
theorem loopK_bind (b:Regs→Heap→Option Res) (r:Regs) (h:Heap) (G:Ex→Regs→Heap→Option R) (F:R→Option S):(loopK b r h G).bind F=loopK b r h fun e r h=>(G e r h).bind F:=by
 rw [loopK_def,loopK_def,Option.bind_assoc]
theorem callSK_bind' (E:Orc) (t:Tgt) (args:List AV) (h:Heap) (G:AV→Heap→Option R) (F:R→Option S):(callSK E t args h G).bind F=callSK E t args h fun v h=>(G v h).bind F:=by
 rw [callSK_def,callSK_def,Option.bind_assoc]
theorem rangeK_bind (E:Orc) (f:AV) (ps:List Nat) (asg bo:VCode) (r:Regs) (h:Heap) (k:Ex→Regs→Heap→Option R) (F:R→Option S):(rangeK E f ps asg bo r h k).bind F=rangeK E f ps asg bo r h fun e r h=>(k e r h).bind F:=by
 unfold rangeK
 simp only
 split
 ·rw [callSK_bind']
  congr 1; funext v h2
  rw [bt]
  congr 1; funext o
  split
  ·split<;>rfl
  ·rfl
 ·rw [callSK_bind']
  congr 1; funext v h2
  rw [bt]
  congr 1; funext o
  split
  ·split<;>rfl
  ·rfl
 ·rfl
theorem evK_bind (env:Env) (E:Orc) (c:VCode):∀ {R S:Type} (F:R→Option S) (r:Regs) (h:Heap) (k:Ex→Regs→Heap→Option R),(evK env E c R r h k).bind F=evK env E c S r h fun e r h=>(k e r h).bind F:=by
 induction c with
 | skip=>intro R S F r h k; rfl
 | ops l=>intro R S F r h k; exact evOps_bind env E F l r h _
 | draw al l pairs=>
   intro R S F r h k
   rw [bB,bB,conts_bind]
   simp only [hoist_bind,evDraw_bind,checkPairs_bind,checkBox_bind]
 | seq a b ia ib=>
   intro R S F r h k
   rw [evK_seq,evK_seq,ia]
   congr 1; funext e r h
   cases e with
   | normal=>exact ib F r h k
   | exit id=>rfl
   | ret=>rfl
 | cond c a b ia ib=>
   intro R S F r h k
   rw [bA,bA]
   split
   ·rw [bw,ia,ib]
   ·rfl
 | block id c ia=>
   intro R S F r h k
   rw [bn,bn,ia]
   congr 1; funext e r h
   cases e with
   | normal=>rfl
   | exit id'=>exact bw _ _ _ _
   | ret=>rfl
 | loop c ia=>intro R S F r h k; rw [bC,bC]; exact loopK_bind _ _ _ _ _
 | rangeFunc f ps asg bo i1 i2=>intro R S F r h k; exact rangeK_bind _ _ _ _ _ _ _ _ _
 | exit id=>intro R S F r h k; rfl
 | ret=>intro R S F r h k; rfl
end
section
variable {R:Type} {Q:R→Prop} {env:Env} {E:Orc}
theorem evK_split {c:VCode} {r:Regs} {h:Heap} {k:Ex→Regs→Heap→Option R} (hx:Has (evK env E c Res r h doneK) fun x=>Has (k x.1 x.2.1 x.2.2) Q):Has (evK env E c R r h k) Q:=by
 obtain ⟨x,h1,y,h2,h3⟩:=hx
 refine ⟨y,?_,h3⟩
 have:=evK_bind env E c (fun x:Res=>k x.1 x.2.1 x.2.2) r h doneK
 rw [h1] at this
 exact this.symm.trans h2
theorem seq_join {a b:VCode} {r:Regs} {h:Heap} {k:Ex→Regs→Heap→Option R} (J:Ex→Regs→Heap→Prop)
 (ha:Has (evK env E a Res r h doneK) fun x=>J x.1 x.2.1 x.2.2) (hb:∀ e r h,J e r h→Has (seqK (evK env E b R) k e r h) Q):Has (evK env E (.seq a b) R r h k) Q:=
 evK_split (c:=a) (k:=seqK (evK env E b R) k) (ha.mono fun x hx=>hb _ _ _ hx)
theorem aM {a b:VCode} {r:Regs} {h:Heap} {k:Ex→Regs→Heap→Option R} (L:List (Nat × AV)) (H:Heap)
 (ha:Has (evK env E a Res r h doneK) fun x=>x.1 = .normal∧Agr x.2.1 L∧x.2.2=H) (hb:∀ r,Has (evK env E b R (setL r L) H k) Q):Has (evK env E (.seq a b) R r h k) Q:=by
 refine seq_join (fun e r h=>e = .normal∧Agr r L∧h=H) ha fun e r h hj=>?_
 obtain ⟨rfl,h2,rfl⟩:=hj
 have:=hb r
 rw [h2.eq] at this
 exact this
theorem aV {σ:Type} {a b:VCode} {r:Regs} {h:Heap} {k:Ex→Regs→Heap→Option R} (L:σ→List (Nat × AV)) (Hp:σ→Heap) (Ok:σ→Prop)
 (ha:Has (evK env E a Res r h doneK) fun x=>x.1 = .normal ∧ ∃ s,Ok s∧Agr x.2.1 (L s)∧x.2.2=Hp s) (hb:∀ s,Ok s→∀ r,Has (evK env E b R (setL r (L s)) (Hp s) k) Q):Has (evK env E (.seq a b) R r h k) Q:=by
 refine seq_join (fun e r h=>e = .normal ∧ ∃ s,Ok s∧Agr r (L s)∧h=Hp s) ha fun e r h hj=>?_
 obtain ⟨rfl,s,ho,h2,rfl⟩:=hj
 have:=hb s ho r
 rw [h2.eq] at this
 exact this
end
noncomputable def endK {R:Type} (res:List VResult) (F:AV→Heap→Option R) (e:Ex) (r:Regs) (h:Heap):Option R:=
 match e with
 | .exit _=>none
 | _=>finishK res r h [] fun v=>F v h
theorem fn_has {R:Type} {Q:R→Prop} {env:Env} {E:Orc} {f:FuncId} {vf:VFunc} {args:List AV} {h:Heap} {F:AV→Heap→Option R} (hf:env.ft f=some vf)
 (hx:Has (evK env E vf.code R (initRegs args) h (endK vf.results F)) Q):Has (evTgtK env E (.fn f) args h F) Q:=by
 simp only [evTgtK,hf]
 exact hx
end Go.VM
namespace Go.VM
open Go
def AppV (H:Heap) (v:AV) (e:Ext) (es n:Nat) (cs:List PV):Prop:=
 (n=0∧cs=[]∧v = .pv (.sl e 0 [])∧e.noApp=false)∨(n≠0∧cs.length=n*es ∧ ∃ t,v = .tsl t n cs∧hget H t = .tok n es)
def psl (e:Ext) (n:Nat) (cs:List PV):PV:=.sl (match n with | 0=>e | _=>.nn) n cs
def tokOf:AV→Option Nat
 | .tsl t _ _=>some t
 | _=>none
def Fr (v:AV) (H H':Heap):Prop:=H.length≤H'.length ∧ ∀ i,i<H.length→tokOf v≠some i→hget H' i=hget H i
theorem ap {H:Heap} {i:Nat} {o:HObj} (h:hget H i=o) (ho:o ≠ .dead):i<H.length:=by
 induction H generalizing i with
 | nil=>cases h; exact absurd rfl ho
 | cons a H ih=>cases i with
   | zero=>exact Nat.succ_pos _
   | succ i=>exact Nat.succ_lt_succ (ih h)
theorem AppV.len {H:Heap} {v:AV} {e:Ext} {es n:Nat} {cs:List PV} (h:AppV H v e es n cs):cs.length=n*es:=by
 rcases h with ⟨rfl,rfl,_⟩ | ⟨_,h,_⟩
 ·simp
 ·exact h
theorem AppV.new {H:Heap} {e:Ext} {es:Nat} (he:e.noApp=false):AppV H (.pv (.sl e 0 [])) e es 0 []:=.inl ⟨rfl,rfl,rfl,he⟩
theorem AppV.out {H:Heap} {v:AV} {e:Ext} {es n:Nat} {cs:List PV} (h:AppV H v e es n cs):out1 H v=some (psl e n cs):=by
 rcases h with ⟨rfl,rfl,rfl,_⟩ | ⟨hn,_,t,rfl,_⟩
 ·rfl
 ·cases n with
  | zero=>exact absurd rfl hn
  | succ n=>rfl
theorem AppV.keep {H H':Heap} {v v2:AV} {e:Ext} {es n:Nat} {cs:List PV} (h:AppV H v2 e es n cs) (hf:Fr v H H') (hne:tokOf v2=none∨tokOf v2≠tokOf v):AppV H' v2 e es n cs:=by
 rcases h with h | ⟨hn,hl,t,rfl,ht⟩
 ·exact .inl h
 ·refine .inr ⟨hn,hl,t,rfl,?_⟩
  rw [hf.2 t (ap ht (by intro h; cases h)) (fun hh=>by
   rcases hne with h | h
   ·cases h
   ·exact h hh.symm)]
  exact ht
theorem Fr.obj {H H':Heap} {v:AV} {e:Ext} {es n:Nat} {cs:List PV} (hv:AppV H v e es n cs) (hf:Fr v H H') {i:Nat} {o:HObj} (h:hget H i=o) (h1:o ≠ .dead) (h2:∀ n es,o ≠ .tok n es):hget H' i=o:=by
 rw [hf.2 i (ap h h1) (fun hh=>?_),h]
 rcases hv with ⟨_,_,rfl,_⟩ | ⟨_,_,t,rfl,ht⟩
 ·cases hh
 ·injection hh with hh
  subst hh
  rw [h] at ht
  exact h2 _ _ ht
theorem aA {H:Heap} {i:Nat} (L:Heap) (h:i<H.length):hget (H++L) i=hget H i:=by
 induction H generalizing i with
 | nil=>cases h
 | cons a H ih=>cases i with
   | zero=>rfl
   | succ i=>exact ih (Nat.lt_of_succ_lt_succ h)
theorem an (H:Heap) {i j:Nat} (o:HObj) (h:j≠i):hget (hset H i o) j=hget H j:=by
 induction H generalizing i j with
 | nil=>rfl
 | cons a H ih=>cases i with
   | zero=>cases j with
     | zero=>exact absurd rfl h
     | succ j=>rfl
   | succ i=>cases j with
     | zero=>rfl
     | succ j=>exact ih (fun e=>h (by rw [e]))
theorem br (H:Heap) (i:Nat) (o:HObj):(hset H i o).length=H.length:=by
 induction H generalizing i with
 | nil=>rfl
 | cons a H ih=>cases i with
   | zero=>rfl
   | succ i=>show (hset H i o).length+1=_; rw [ih]; rfl
section
variable {R:Type} {Q:R→Prop} {F:AV→Heap→Option R}
theorem beq_ne {a b:Nat} (h:a≠b):Nat.beq a b=false:=by
 cases hb:Nat.beq a b with
 | false=>rfl
 | true=>exact absurd (Nat.eq_of_beq_eq_true hb) h
theorem app_cells {H:Heap} {s x:AV} {e:Ext} {es bytes n m:Nat} {cs new:List PV} (hs:AppV H s e es n cs) (hx:srcLen x=some m) (hsrc:∀ G:List PV→Option R,srcK H x G=G new) (hl:new.length=m*es)
 (hb:(n+m)*bytes≤mostBytes) (k:∀ v' H',AppV H' v' e es (n+m) (cs++new)→Fr s H H'→(tokOf v'=tokOf s∨tokOf v'=some H.length)→Has (F v' H') Q) :
 Has (appS false es bytes s x H F) Q:=by
 rw [appS_def]
 unfold appendK
 simp only [hx,hsrc]
 rcases hs with ⟨rfl,rfl,rfl,he⟩ | ⟨hn,hcl,t,rfl,ht⟩
 ·have main:Has (boolK (Nat.beq m 0) fun z=>bif z then F (.pv (.sl e 0 [])) H else
   needK (Nat.ble ((0+m)*bytes) mostBytes&&Nat.beq ([]:List PV).length (mulE 0 es)&&Nat.beq new.length (mulE m es)) (eqK ([]++new) fun cs=>eqK (0+m) fun k=>bif false then F (.hs es H.length 0 k k) (H++[.pcells cs]) else F (.tsl H.length k cs) (H++[.tok k es]))) Q:=by
   by_cases hm:m=0
   ·subst hm
    have:new=[]:=List.eq_nil_of_length_eq_zero (by omega)
    subst this
    refine aU rfl ?_
    exact k _ _ (.inl ⟨rfl,rfl,rfl,he⟩) ⟨Nat.le_refl _,fun _ _ _=>rfl⟩ (.inl rfl)
   ·refine aQ (beq_ne hm) ?_
    refine aa ?_ ?_
    ·simp only [Bool.and_eq_true]
     refine ⟨⟨Nat.ble_eq_true_of_le hb,?_⟩,?_⟩
     ·rw [aG]; simp
     ·rw [aG,hl]; exact Nat.beq_refl _
    ·refine ao ?_
     refine ao ?_
     refine k _ _ (.inr ⟨by omega,by rw [List.nil_append,hl,Nat.zero_add],_,rfl,ak _ _⟩) ⟨by simp,fun i hi _=>aA _ hi⟩ (.inr rfl)
  show Has (bif e.noApp then _ else _) Q
  rw [he]
  exact main
 ·refine a8 _ ht ?_
  dsimp only
  refine aa (by rw [Nat.beq_refl,Nat.beq_refl]; rfl) ?_
  refine aa ?_ ?_
  ·simp only [Bool.and_eq_true]
   refine ⟨⟨Nat.ble_eq_true_of_le hb,?_⟩,?_⟩
   ·rw [aG,hcl]; exact Nat.beq_refl _
   ·rw [aG,hl]; exact Nat.beq_refl _
  ·refine ao ?_
   refine ao ?_
   have htl:=ap ht (by intro h; cases h)
   refine k _ _ (.inr ⟨by omega,by rw [List.length_append,hcl,hl,Nat.add_mul],_,rfl,ai _ htl⟩) ⟨by rw [br]; exact Nat.le_refl _,fun i _ hne=>?_⟩ (.inl rfl)
   exact an _ _ (fun e=>hne (by rw [e]; rfl))
theorem app_has {H:Heap} {s:AV} {e e':Ext} {es bytes n m:Nat} {cs new:List PV} (hs:AppV H s e es n cs) (hl:new.length=m*es)
 (hb:(n+m)*bytes≤mostBytes) (k:∀ v' H',AppV H' v' e es (n+m) (cs++new)→Fr s H H'→(tokOf v'=tokOf s∨tokOf v'=some H.length)→Has (F v' H') Q) :
 Has (appS false es bytes s (.pv (.sl e' m new)) H F) Q:=app_cells hs rfl (fun _=>rfl) hl hb k
theorem app_plain {H:Heap} {e e':Ext} {mu:Bool} {es bytes n m:Nat} {cs new:List PV} (he:e.noApp=false) (hc:cs.length=n*es) (hl:new.length=m*es) (hm:m≠0)
 (hb:(n+m)*bytes≤mostBytes) (k:Has (bif mu then F (.hs es H.length 0 (n+m) (n+m)) (H++[.pcells (cs++new)]) else F (.tsl H.length (n+m) (cs++new)) (H++[.tok (n+m) es])) Q) :
 Has (appS mu es bytes (.pv (.sl e n cs)) (.pv (.sl e' m new)) H F) Q:=by
 rw [appS_def]
 have main:Has (boolK (Nat.beq m 0) fun z=>bif z then F (.pv (.sl e n cs)) H else
       needK (Nat.ble ((n+m)*bytes) mostBytes&&Nat.beq cs.length (mulE n es)&&Nat.beq new.length (mulE m es)) (eqK (cs++new) fun cs=>eqK (n+m) fun k=>bif mu then F (.hs es H.length 0 k k) (H++[.pcells cs]) else F (.tsl H.length k cs) (H++[.tok k es]))) Q:=by
  refine aQ (beq_ne hm) ?_
  refine aa ?_ ?_
  ·simp only [Bool.and_eq_true]
   refine ⟨⟨Nat.ble_eq_true_of_le hb,?_⟩,?_⟩
   ·rw [aG,hc]; exact Nat.beq_refl _
   ·rw [aG,hl]; exact Nat.beq_refl _
  ·refine ao ?_
   refine ao ?_
   exact k
 show Has (bif e.noApp then _ else _) Q
 rw [he]
 exact main
theorem app_none {H:Heap} {e e':Ext} {mu:Bool} {es bytes n:Nat} {cs:List PV} (k:Has (F (.pv (.sl e n cs)) H) Q):Has (appS mu es bytes (.pv (.sl e n cs)) (.pv (.sl e' 0 [])) H F) Q:=by
 rw [appS_def]
 show Has (bif e.noApp then _ else _) Q
 cases e.noApp
 all_goals exact aU rfl k
end
end Go.VM
namespace Go.VM
open Go
section
variable {R:Type} {Q:R→Prop}
theorem af {L:Heap} {o:HObj} {F:HObj→Option R} (h:Has (F o) Q):Has (hgetK (L++[o]) L.length F) Q:=a8 _ (ak L o) h
theorem aH (L:Heap) (o o':HObj):hset (L++[o]) L.length o'=L++[o']:=by
 induction L with
 | nil=>rfl
 | cons a L ih=>show a::hset (L++[o]) L.length o'=_; rw [ih]; rfl
theorem aB {L:Heap} {o o':HObj} {F:HObj→Option R} (h:Has (F o') Q):Has (hgetK (hset (L++[o]) L.length o') L.length F) Q:=by
 rw [aH]; exact af h
end
theorem aW {σ:Type} {b:Regs→Heap→Option Res} {Q:Res→Prop} (m:σ→Nat) (L:σ→List (Nat × AV)) (Hp:σ→Heap) (Ok:σ→Prop)
 (step:∀ s,Ok s→∀ r J,Has (b (setL r (L s)) (Hp s++J)) fun x=>match x.1 with | .normal=>∃ s',Ok s'∧m s'<m s∧Agr x.2.1 (L s') ∧ ∃ J',x.2.2=Hp s'++J' | _=>Q x)
 (s:σ) (hs:Ok s) {r:Regs} {h:Heap} (J:Heap) (ha:Agr r (L s)) (hh:h=Hp s++J):Has (iterE b r h) Q:=by
 refine aC (σ:=σ × Heap) (fun s=>m s.1) (fun s=>L s.1) (fun s=>Hp s.1++s.2) (fun s=>Ok s.1) (fun ⟨s,J⟩ ho r=>?_) (s,J) hs ha hh
 dsimp only at ho ⊢
 refine (step s ho r J).mono fun x hx=>?_
 obtain ⟨e,r',h'⟩:=x
 cases e with
 | normal=>obtain ⟨s',h1,h2,h3,J',h4⟩:=hx; exact ⟨(s',J'),h1,h2,h3,h4⟩
 | exit id=>exact hx
 | ret=>exact hx
def VCode.kid (c:VCode) (i:Nat):VCode:=
 match c with
 | .seq a b=>bif Nat.beq i 0 then a else b
 | .cond _ a b=>bif Nat.beq i 0 then a else b
 | .block _ c=>c
 | .loop c=>c
 | .rangeFunc _ _ a b=>bif Nat.beq i 0 then a else b
 | c=>c
def VCode.at (c:VCode) (l:List Nat):VCode:=l.foldl VCode.kid c
def ints (l:List Int):List PV:=l.map fun n=>.int .i64 n
theorem ints_get {l:List Int} {i:Nat} {n:Int} (h:l[i]? = some n):(ints l)[i]? = some (.int .i64 n):=by simp [ints,h]
def flat {α:Type} (f:α→List PV) (l:List α):List PV:=(l.map f).flatten
theorem flat_len {α:Type} {f:α→List PV} {es:Nat} (hf:∀ a,(f a).length=es) (l:List α):(flat f l).length=l.length*es:=by
 induction l with
 | nil=>simp [flat]
 | cons a l ih=>show (f a++flat f l).length=_; rw [List.length_append,ih,hf,List.length_cons,Nat.add_mul]; omega
theorem aR {α:Type} {f:α→List PV} {es:Nat} (hf:∀ a,(f a).length=es) {l:List α} {i:Nat} {a:α} (h:l[i]? = some a):((flat f l).drop (i*es)).take es=f a∧i*es+es≤(flat f l).length:=by
 induction l generalizing i with
 | nil=>simp at h
 | cons b l ih=>
   cases i with
   | zero=>
     simp at h; subst h
     refine ⟨?_,?_⟩
     ·show ((f b++flat f l).drop (0*es)).take es=f b
      rw [Nat.zero_mul,List.drop_zero,List.take_append_of_le_length (by rw [hf]; exact Nat.le_refl _),List.take_of_length_le (by rw [hf]; exact Nat.le_refl _)]
     ·rw [flat_len hf,List.length_cons,Nat.add_mul]; omega
   | succ i=>
     simp at h
     obtain ⟨h1,h2⟩:=ih h
     refine ⟨?_,by rw [flat_len hf] at h2 ⊢; rw [List.length_cons,Nat.add_mul,Nat.add_mul]; omega⟩
     show ((f b++flat f l).drop ((i+1)*es)).take es=f a
     have e:(i+1)*es=(f b).length+i*es:=by rw [hf,Nat.add_mul]; omega
     rw [e,List.drop_append,List.drop_of_length_le (by omega),List.nil_append,Nat.add_sub_cancel_left]
     exact h1
theorem flat_cell {α:Type} {f:α→List PV} {es:Nat} (hf:∀ a,(f a).length=es) {l:List α} {i j:Nat} {a:α} (h:l[i]? = some a) (hj:j<es):(flat f l)[i*es+j]? = (f a)[j]? := by
 obtain ⟨h1,_⟩:=aR hf h
 rw [←h1,List.getElem?_take,if_pos hj,List.getElem?_drop]
theorem flat_app {α:Type} (f:α→List PV) (l m:List α):flat f l++flat f m=flat f (l++m):=by simp [flat]
theorem flat_one {α:Type} (f:α→List PV) (a:α):flat f [a]=f a:=by simp [flat]
theorem flat_snoc {α:Type} (f:α→List PV) (l:List α) (a:α):flat f l++f a=flat f (l++[a]):=by rw [←flat_app,flat_one]
end Go.VM
