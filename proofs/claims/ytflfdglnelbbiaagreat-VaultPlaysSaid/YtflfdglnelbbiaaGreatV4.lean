/-
  Part 4 of an abstract machine that answers as the model does.
  Copying, making, bytes and strings, arrays' parts, the least and the most.
  A continuation may be carried out later.
  Every operation that calls nothing.
-/
import Derived.Test.YtflfdglnelbbiaaGreatV3
import Derived.MapKept
import Derived.RangeFuncRecord
set_option linter.all false
set_option linter.unusedVariables false
set_option linter.unusedSimpArgs false
set_option linter.unusedSectionVars false
namespace Go.VM
open Go
section
variable {Γ:Ctx} {base:Nat} {κ:K} {H:Heap} {w:World}
theorem SRel.newRow' (h:SRel Γ base κ H w) {w':World} (hsame:Same w w') (hold:∀ k,k<w.heap.size→w'.heap[k]? = w.heap[k]?) (c:List Value) {e:TypeId} {fr:Nat × Nat} (hnew:w'.heap[w.heap.size]? = some (.cells c.toArray e fr)) :
 SRel Γ base (κ.keep w.heap.size c.length c) H w'∧Grow κ H w (κ.keep w.heap.size c.length c) H w' ∧
  ∀ (j:Nat) (v:Value),c[j]? = some v→(κ.keep w.heap.size c.length c).imm ((⟨w.heap.size,0,none⟩:Addr).add j)=some v:=by
 have hg:=h.turnNone (κ':=κ.keep w.heap.size c.length c) hsame (κ.le_keep _ _ _) rfl rfl hold (fun a v hv=>by
  rcases K.keep_some hv with h1 | ⟨h1,h2,_,h4⟩
  ·exact .inl h1
  ·refine .inr ⟨by omega,?_⟩
   unfold World.cell?
   rw [h1,hnew]
   simp [h2,h4])
 refine ⟨hg.1,hg.2,fun j v hv=>?_⟩
 rw [addr_add_lit]
 exact K.keep_at (h.imm_none _ (by simp)) (List.getElem?_eq_some_iff.1 hv).1 hv
theorem freeze_new (w:World) (c:Array Value) (e:TypeId):(w.alloc (.cells c e)).freeze ⟨w.heap.size,c.size,none⟩ 1=w.alloc (.cells c e (c.size,c.size+1)):=by
 unfold World.freeze World.alloc
 simp only [Nat.one_ne_zero,if_false]
 congr 1
 apply Array.ext
 ·simp
 ·intro i h1 h2
  simp only [Array.getElem_modify,Array.getElem_push]
  split
  ·rename_i hi
   subst hi
   simp
  ·rename_i hi
   have:i<w.heap.size:=by simp at h2; omega
   simp [this]
theorem run_newRow' (P:Program) (w:World) (e:TypeId) (c:Array Value):(newRow e c).run P w = .ok ⟨w.heap.size,0,none⟩ (w.alloc (.cells c e)):=rfl
theorem run_markStringish (P:Program) (w:World) (a:Addr) {t:TypeId} {n:Nat} (h:w.shape? a.block=some (t,n)):(markStringish a).run P w = .ok () (w.freeze ⟨a.block,n,none⟩ 1):=by
 have e:(markStringish a).run P w=(match w.shape? a.block with | some (_,n)=>freeze { block:=a.block,off:=n } 1 | _=>pure ():Sem Unit).run P w:=rfl
 rw [e,h]
 rfl
theorem shape_new (w:World) (c:Array Value) (e:TypeId) (fr:Nat × Nat):(w.alloc (.cells c e fr)).shape? w.heap.size=some (e,c.size):=by
 unfold World.shape?
 rw [heap_alloc_new]
theorem freeze_at {w:World} {k n:Nat} {c:Array Value} {e:TypeId} (h:w.heap[k]? = some (.cells c e (0,0))) :
 (w.freeze ⟨k,n,none⟩ 1).heap[k]? = some (.cells c e (n,n+1))∧(∀ j,j≠k→(w.freeze ⟨k,n,none⟩ 1).heap[j]? = w.heap[j]?)∧Same w (w.freeze ⟨k,n,none⟩ 1):=by
 unfold World.freeze
 simp only [Nat.one_ne_zero,if_false]
 refine ⟨?_,fun j hj=>?_,rfl,rfl,rfl,by simp⟩
 ·simp [Array.getElem?_modify,h]
 ·simp [Array.getElem?_modify,Ne.symm hj]
theorem SRel.retire (h:SRel Γ base κ H w) {id k:Nat} (hl:κ.loc id=some k) {cs:List PV} (hg:hget H id = .pcells cs) :
 ∃ (c rest:List Value) (e:TypeId),w.heap[k]? = some (.cells (c++rest).toArray e (0,0))∧PRels κ.imm cs c∧Ones c ∧
   SRel Γ base (κ.keep k c.length c) (hset H id .dead) (w.freeze ⟨k,(c++rest).length,none⟩ 1)∧Grow κ H w (κ.keep k c.length c) (hset H id .dead) (w.freeze ⟨k,(c++rest).length,none⟩ 1) ∧
   ∀ (j:Nat) (v:Value),c[j]? = some v→(κ.keep k c.length c).imm ⟨k,j,none⟩=some v:=by
 have hp:place κ id (hget H id)=some k:=by rw [hg]; exact hl
 obtain ⟨_,ho⟩:=h.obj id k hp
 rw [hg] at ho
 obtain ⟨c,rest,e,hw,hr,himm,hones⟩:=ho
 obtain ⟨f1,f2,f3⟩:=freeze_at (n:=(c++rest).length) hw
 have hcell:∀ a:Addr,a.block≠k→(w.freeze ⟨k,(c++rest).length,none⟩ 1).cell? a=w.cell? a:=fun a ha=>by
  unfold World.cell?; rw [f2 _ ha]
 obtain ⟨g1,g2⟩:=h.turnOne (κ':=κ.keep k c.length c) id .dead k k f3 (κ.le_keep _ _ _) hp rfl (fun _ _=>rfl) (fun j _ hj=>f2 j hj)
  (fun a v hv=>by
    rcases K.keep_some hv with h1 | ⟨h1,h2,h3,h4⟩
    ·have hne:a.block≠k:=fun e=>by rw [himm a e] at h1; cases h1
     exact ⟨(hcell a hne).trans (h.imm a v h1),.inl h1⟩
    ·refine ⟨?_,.inr (.inr h1)⟩
     unfold World.cell?
     rw [h1,f1]
     have h5:(c++rest)[a.off]? = some v:=by rw [List.getElem?_append_left h3]; exact h4
     simpa [h2] using h5)
  (fun k' hk'=>by cases hk') (.inl rfl) trivial
 exact ⟨c,rest,e,hw,hr,hones,g1,g2,fun j v hv=>K.keep_at (himm _ rfl) (List.getElem?_eq_some_iff.1 hv).1 hv⟩
theorem SRel.retire' (h:SRel Γ base κ H w) {id k:Nat} (hl:κ.loc id=some k) {cs:List PV} (hg:hget H id = .pcells cs) :
 ∃ (c rest:List Value) (e:TypeId),w.heap[k]? = some (.cells (c++rest).toArray e (0,0))∧PRels κ.imm cs c∧Ones c ∧
   SRel Γ base (κ.keep k c.length c) (hset H id .dead) w∧Grow κ H w (κ.keep k c.length c) (hset H id .dead) w ∧
   ∀ (j:Nat) (v:Value),c[j]? = some v→(κ.keep k c.length c).imm ⟨k,j,none⟩=some v:=by
 have hp:place κ id (hget H id)=some k:=by rw [hg]; exact hl
 obtain ⟨_,ho⟩:=h.obj id k hp
 rw [hg] at ho
 obtain ⟨c,rest,e,hw,hr,himm,hones⟩:=ho
 obtain ⟨g1,g2⟩:=h.turnOne (κ':=κ.keep k c.length c) id .dead k k (Same.refl w) (κ.le_keep _ _ _) hp rfl (fun _ _=>rfl) (fun _ _ _=>rfl)
  (fun a v hv=>by
    rcases K.keep_some hv with h1 | ⟨h1,h2,h3,h4⟩
    ·exact ⟨h.imm a v h1,.inl h1⟩
    ·refine ⟨?_,.inr (.inr h1)⟩
     unfold World.cell?
     rw [h1,hw]
     have h5:(c++rest)[a.off]? = some v:=by rw [List.getElem?_append_left h3]; exact h4
     simpa [h2] using h5)
  (fun k' hk'=>by cases hk') (.inl rfl) trivial
 exact ⟨c,rest,e,hw,hr,hones,g1,g2,fun j v hv=>K.keep_at (himm _ rfl) (List.getElem?_eq_some_iff.1 hv).1 hv⟩
theorem bytesOf_rel (hs:SRel Γ base κ H w) (e:TypeId) (s:ByteArray):RunOK Γ base κ H w (Conv.stringToBytes e s) (.pv (.sl .nn s.size (bytesCells s))) H:=by
 have hcap:=grownCap_ge w s.size 0 e
 obtain ⟨c,hcd⟩:∃ c:List Value,c=byteCells s++List.replicate (grownCap w s.size 0 e-s.size) (.int .u8 0):=⟨_,rfl⟩
 have hc:(s.data.map (fun b=>Value.int .u8 b.toNat)++Array.replicate (grownCap w s.size 0 e-s.size) (Value.int .u8 0))=c.toArray:=by
  apply Array.ext'; simp [hcd,byteCells]
 have hrun:(Conv.stringToBytes e s).run Γ.P w = .ok (.slice (some ⟨w.heap.size,0,none⟩) s.size (grownCap w s.size 0 e)) (w.drew.alloc (.cells c.toArray e (c.toArray.size,c.toArray.size+1))):=by
  have h1:(choose (.appendCap s.size 0 e)).run Γ.P w = .ok (grownCap w s.size 0 e) w.drew:=rfl
  have h2:=run_newRow' Γ.P w.drew e c.toArray
  have h3:=run_markStringish Γ.P (w.drew.alloc (.cells c.toArray e)) ⟨w.drew.heap.size,0,none⟩ (shape_new w.drew c.toArray e _)
  simp only [Conv.stringToBytes,Sem.run_bind,h1,Result.andThen_ok,hc,h2,h3,Sem.run_pure]
  rw [freeze_new w.drew c.toArray e]
  rfl
 obtain ⟨g1,g2,g3⟩:=hs.newRow' (w':=w.drew.alloc (.cells c.toArray e (c.toArray.size,c.toArray.size+1))) ⟨rfl,rfl,rfl,by simp⟩ (fun k hk=>heap_alloc_old w.drew _ k hk) c (heap_alloc_new w.drew _)
 refine ⟨_,_,_,hrun,.pv _ _ (.sl .nn _ _ _ _ (byteCells s) (by simp) (by simp) hcap (bytesCells_rel _ s) (fun j v hj=>g3 j v ?_) (byteCells_ones s)),g1,g2⟩
 rw [hcd]
 exact app_get hj
theorem strOfCells_inv {I:Imm}:∀ (cs:List PV) (vs:List Value) (l:List UInt8),PRels I cs vs→strOfCells cs=some l→∃ ns:List Int,vs=ns.map (Value.int .u8)∧l=ns.map fun n=>UInt8.ofNat n.toNat:=by
 intro cs
 induction cs with
 | nil=>intro vs l h he; cases h; simp [strOfCells] at he; subst he; exact ⟨[],rfl,rfl⟩
 | cons p cs ih=>
   intro vs l h he
   cases h with
   | cons _ v _ vs hp hr=>
     cases p with
     | int k n=>
       cases k<;>simp only [strOfCells] at he<;>try (cases he; done)
       simp only [Option.map_eq_some_iff] at he
       obtain ⟨l',h1,rfl⟩:=he
       obtain ⟨ns,rfl,rfl⟩:=ih vs l' hr h1
       cases hp
       exact ⟨n::ns,rfl,rfl⟩
     | _=>simp [strOfCells] at he
theorem push_fold (ns:List Int):∀ (s:ByteArray),ns.foldl (fun r n=>r.push (UInt8.ofNat n.toNat)) s=⟨s.data++(ns.map fun n=>UInt8.ofNat n.toNat).toArray⟩:=by
 induction ns with
 | nil=>intro s; simp
 | cons n ns ih=>
   intro s
   rw [List.foldl_cons,ih]
   congr 1
   apply Array.ext'
   simp [ByteArray.push]
theorem strOf_rel (hs:SRel Γ base κ H w) {x:AV} {vx:Value} (hx:VRel κ x vx) (hns:∀ s,x ≠ .pv (.str s)) {n:Nat} (hn:srcLen x=some n) {v:AV}
 (he:srcK H x (fun cs=>needK (Nat.beq cs.length n) (bindK (strOfCells cs) fun l=>some (AV.pv (.str ⟨l.toArray⟩))))=some v) :
 ∃ v',(Conv.bytesToString vx).run Γ.P w = .ok v' w∧VRel κ v v':=by
 have hq0:=srcK_inv hs hx hn he
 clear he
 obtain ⟨new,news,he,hsrc,_⟩:=hq0
 have hq0:=aZ he
 clear he
 obtain ⟨hl,he⟩:=hq0
 rw [bindK_def] at he
 cases hq:strOfCells new with
 | none=>rw [hq] at he; simp at he
 | some l=>
   rw [hq] at he; simp only [Option.bind_some] at he
   injection he with he; subst he
   obtain ⟨ns,rfl,rfl⟩:=strOfCells_inv _ _ _ hsrc.rel hq
   have hlen:ns.length=n:=by
    have:=hsrc.rel.length
    rw [Nat.eq_of_beq_eq_true hl] at this
    simpa using this.symm
   rcases hsrc.form with ⟨s,rfl,_,_⟩ | ⟨rfl,_,h2⟩ | ⟨a,c,rfl,hc⟩
   ·exfalso
    cases hx with
    | pv p _ hp=>cases hp with | str s=>exact hns _ rfl
   ·have:ns=[]:=by simpa using h2
    subst this
    exact ⟨_,rfl,.pv _ _ (.str _)⟩
   ·have hload:=run_loadCells_list (P:=Γ.P) w a (ns.map (Value.int .u8)) hc
    rw [List.length_map,hlen] at hload
    refine ⟨_,run_bytesToString w a n c ns hload,?_⟩
    rw [push_fold]
    have e:(⟨ByteArray.empty.data++(ns.map fun n=>UInt8.ofNat n.toNat).toArray⟩:ByteArray)=⟨(ns.map fun n=>UInt8.ofNat n.toNat).toArray⟩:=by
     congr 1
     apply Array.ext'
     simp [ByteArray.empty,ByteArray.emptyWithCapacity]
     try rfl
    rw [e]
    exact .pv _ _ (.str _)
theorem minmax_rel (mx:Bool):∀ (l:List AV) (vs:List Value) (k:IntKind) (a:Int) (v:AV),VRels κ l vs→minmaxK mx a k l (fun p=>some (AV.pv p))=some v →
 ∃ v',(vs.foldlM (if mx then Builtin.max2 else Builtin.min2) (.int k a)).run Γ.P w = .ok v' w∧VRel κ v v':=by
 intro l
 induction l with
 | nil=>
   intro vs k a v h he
   cases h
   simp [minmaxK] at he; subst he
   exact ⟨.int k a,by simp,.pv _ _ (.int _ _)⟩
 | cons x l ih=>
   intro vs k a v h he
   cases h with
   | cons _ u _ us hx hr=>
     cases x with
     | pv p=>
       cases p with
       | int k2 b=>
         have:=bm hx
         subst this
         simp only [minmaxK,bh] at he
         obtain ⟨v',h1,h2⟩:=ih us k _ v hr he
         refine ⟨v',?_,h2⟩
         rw [List.foldlM_cons]
         cases mx
         ·simp only [Builtin.min2,Sem.run_bind,Sem.run_pure,Result.andThen_ok,Bool.false_eq_true,if_false] at h1 ⊢
          exact h1
         ·simp only [Builtin.max2,Sem.run_bind,Sem.run_pure,Result.andThen_ok,if_true] at h1 ⊢
          exact h1
       | _=>simp [minmaxK] at he
     | _=>simp [minmaxK] at he
theorem wrap_small {n:Int} (h0:0≤n) (h1:n≤9223372036854775807):IntKind.i64.wrap n=n:=by
 unfold IntKind.wrap
 simp only [IntKind.bits,IntKind.signed,Bool.true_and,Nat.reduceSub,Int.reducePow]
 have e:n % 18446744073709551616=n:=Int.emod_eq_of_lt h0 (by omega)
 simp only [e]
 split
 ·rename_i h; simp at h; omega
 ·rfl
theorem mkSlice_rel {t e:TypeId} (ht:Γ.P.underlying t=some (.slice e)) {i:TypeInfo} (hi:Γ.P.info? e=some i) {zp:List PV} (hz:zeroT Γ.P e=some zp) (hby:i.bytes≤256)
 {l c:Int} {k k':IntKind} (h0:0≤l) (hlc:l≤c) (hc:c≤1099511627776) :
 ∃ (cs:List Value),PRels κ.imm (zerosOf zp c.toNat) cs∧Ones cs∧(Instr.makeSlice t (.int k l) (.int k' c)).run Γ.P w = .ok (.slice (some ⟨w.heap.size,0,none⟩) l.toNat c.toNat) (w.alloc (.cells cs.toArray e)):=by
 obtain ⟨i',z,hi',hzz,hzr,hz1,hzl⟩:=zeroT_rel (Γ:=Γ) (κ:=κ) hz
 rw [hi] at hi'; injection hi' with hi'; subst hi'
 have hzs:z.cells.size=i.size:=by rw [←Array.length_toList,←hzr.length]; exact hzl
 refine ⟨(List.replicate c.toNat z.cells.toList).flatten,by rw [zerosOf_flat]; exact hzr.flat _,hz1.flat _,?_⟩
 have w1:=wrap_small h0 (by omega)
 have w2:=wrap_small (n:=c) (by omega) (by omega)
 have hbc:(i.bytes:Int)*c≤281474976710656:=by
  have:(i.bytes:Int)*c≤256*c:=Int.mul_le_mul_of_nonneg_right (by omega) (by omega)
  omega
 have t1:¬ (c<0∨(i.bytes:Int)*c>281474976710656):=by omega
 have hcells:(((Array.range (c.toNat*i.size)).map fun j=>(if c.toNat*i.size=0 then (#[]:Array Value) else z.cells)[j % (if c.toNat*i.size=0 then (#[]:Array Value) else z.cells).size]!))=((List.replicate c.toNat z.cells.toList).flatten).toArray:=by
  by_cases hz0:c.toNat*i.size=0
  ·rw [hz0]
   apply Array.ext'
   have:(List.replicate c.toNat z.cells.toList).flatten=[]:=by
    apply List.eq_nil_of_length_eq_zero
    simp [hzs,hz0]
   rw [this]
   simp
  ·simp only [hz0,if_false]
   apply Array.ext'
   have:=zeros_cells z.cells.toList c.toNat
   simp only [Array.length_toList,hzs,Array.toArray_toList] at this
   rw [hzs,this]
 have hask:∀ n (w:World),(askRoom n).run Γ.P w = .ok () w:=by
  intro n w
  unfold askRoom
  split<;>rfl
 simp only [Instr.makeSlice,Sem.run_bind,run_underlying ht,Result.andThen_ok,asInt,asIntOf,Sem.run_pure,run_typeInfo w hi,w1,w2]
 have c1:(decide (c<0)||decide ((i.bytes:Int)*c>2 ^ 48)||decide (l<0)||decide (l>c))=false:=by
  simp only [Bool.or_eq_false_iff,decide_eq_false_iff_not]
  omega
 have hsz:sizeT Γ.P e=some i.size:=by simp [sizeT,hi]
 have hzv:(zeroValue e).run Γ.P w = .ok z w:=run_zeroValue' hi hzz
 simp only [c1,Bool.false_eq_true,if_false,Sem.run_bind,hask,Result.andThen_ok,bd hsz]
 by_cases hz0:c.toNat*i.size=0
 ·simp only [hz0,if_true] at hcells ⊢
  simp only [Sem.run_bind,Sem.run_pure,Result.andThen_ok,run_newRow',hcells]
 ·simp only [hz0,if_false] at hcells ⊢
  simp only [Sem.run_bind,Sem.run_pure,Result.andThen_ok,hzv,run_newRow',hcells]
theorem firstCells_take {size n m:Nat} {x:AV} {vx:Value} {new:List PV} {news:List Value} (h:SrcRel Γ κ w x vx m new news) (hl:news.length=m*size) (hn:n≤m) (h1:(∃ s,vx = .string s)→size=1) :
 (Builtin.firstCells size n vx).run Γ.P w = .ok (news.take (n*size)).toArray w:=by
 rcases h.form with ⟨s,rfl,rfl,rfl⟩ | ⟨rfl,rfl,rfl⟩ | ⟨a,c,rfl,hc⟩
 ·have:=h1 ⟨s,rfl⟩
  subst this
  simp only [Builtin.firstCells,Sem.run_pure]
  congr 1
  apply Array.ext'
  simp [byteCells,ByteArray.data_extract]
 ·have:n=0:=by omega
  subst this
  simp [Builtin.firstCells]
 ·have hle:n*size≤m*size:=Nat.mul_le_mul_right _ hn
  have:=run_loadCells_list (P:=Γ.P) w a (news.take (n*size)) (fun j v hj=>by
   rw [List.getElem?_take] at hj
   split at hj
   ·exact hc j v hj
   ·cases hj)
  rw [List.length_take,Nat.min_eq_left (by omega)] at this
  simpa [Builtin.firstCells] using this
theorem copy_rel (hs:SRel Γ base κ H w) {t u ty e:TypeId} {es:Nat} (ht:Γ.P.underlying t=some (.slice e)) (hn:sizeT Γ.P e=some es) {d s v:AV} {vd vs:Value} {H':Heap} (hd:VRel κ d vd) (hsv:VRel κ s vs)
 (hstr:(∃ b,vs = .string b)→es=1) (he:copyK es d s H (fun v h=>some (v,h))=some (v,H')):RunOK Γ base κ H w (Builtin.copy_ #[t,u] ty #[vd,vs]) v H':=by
 unfold copyK at he
 split at he
 ·rename_i es' id off n cap
  cases hd with
  | hs _ _ _ _ _ k cap' hl h2 h3=>
    cases hm:srcLen s with
    | none=>rw [hm] at he; simp at he
    | some m=>
      rw [hm] at he; simp only at he
      have hq:=srcK_inv hs hsv hm he
      clear he
      obtain ⟨new,news,he,hsrc,_⟩:=hq
      rw [bf] at he
      split at he
      ·rename_i cs hg
       have hq:=aZ he
       clear he
       obtain ⟨hc,he⟩:=hq
       rw [bh,bh] at he
       simp only [aG] at he
       injection he with he; injection he with e1 e2
       subst e1; subst e2
       rw [Bool.and_eq_true] at hc
       have hle:=Nat.le_of_ble_eq_true hc.1
       have hnl:news.length=m*es:=by rw [←hsrc.rel.length,←aG]; exact Nat.eq_of_beq_eq_true hc.2
       obtain ⟨c,rest,e',hw,hr,hones,_⟩:=(ptr_cells hs hl).1 cs hg
       have hmul:min m n*es≤n*es:=Nat.mul_le_mul_right _ (Nat.min_le_right _ _)
       have hmul2:min m n*es≤m*es:=Nat.mul_le_mul_right _ (Nat.min_le_left _ _)
       have htl:(news.take (min m n*es)).length=min m n*es:=by rw [List.length_take]; omega
       have hf:=firstCells_take hsrc hnl (Nat.min_le_left m n) hstr
       have hst:=run_storeCells_at Γ.P k off e' (news.take (min m n*es)) 0 (c++rest).toArray w hw (by
        have:=hr.length
        simp only [List.size_toArray,List.length_append]; omega) (hsrc.ones.take _)
       have hcl:=hr.length
       have t1:(c++rest).take off=c.take off:=by rw [List.take_append_of_le_length (by omega)]
       have t2:(c++rest).drop (off+min m n*es)=c.drop (off+min m n*es)++rest:=by rw [List.drop_append_of_le_length (by omega)]
       simp only [Nat.add_zero,htl] at hst
       rw [t1,t2,←List.append_assoc] at hst
       obtain ⟨g1,g2⟩:=hs.write hl (.inr ⟨cs,hg⟩) hw (.inr ⟨_,rfl,hr.splice (hsrc.rel.take (min m n*es)) off (min m n*es)⟩) (hones.splice (hsrc.ones.take _) off (min m n*es))
       have hlen:(Builtin.lenOf vs).run Γ.P w = .ok m w:=by
        rcases hsrc.form with ⟨s,rfl,_,rfl⟩ | ⟨rfl,rfl,_⟩ | ⟨a,c,rfl,_⟩<;>rfl
       refine ⟨.int .i64 (min m n:Nat),κ,_,?_,.pv _ _ (.int _ _),g1,g2⟩
       have hmin:Nat.min m n=min m n:=rfl
       rw [List.append_assoc,List.append_assoc] at hst
       simp [Builtin.copy_,run_underlying ht,hlen,bd hn,hmin,hf,hst,goInt]
      ·cases he
 ·rename_i ext n cs
  cases hm:srcLen s with
  | none=>rw [hm] at he; simp at he
  | some m=>
    rw [hm] at he; simp only at he
    have hq:=srcK_inv hs hsv hm he
    clear he
    obtain ⟨new,news,he,hsrc,_⟩:=hq
    have hq:=aZ he
    clear he
    obtain ⟨hc,he⟩:=hq
    rw [Bool.and_eq_true] at hc
    have hn0:=Nat.eq_of_beq_eq_true hc.1
    subst hn0
    injection he with he; injection he with e1 e2
    subst e1; subst e2
    have hnl:news.length=m*es:=by rw [←hsrc.rel.length,←aG]; exact Nat.eq_of_beq_eq_true hc.2
    have hf:=firstCells_take hsrc hnl (Nat.zero_le m) hstr
    have hlen:(Builtin.lenOf vs).run Γ.P w = .ok m w:=by
     rcases hsrc.form with ⟨s,rfl,_,rfl⟩ | ⟨rfl,rfl,_⟩ | ⟨a,c,rfl,_⟩<;>rfl
    obtain ⟨a,cap,hvd⟩:∃ a cap,vd = .slice a 0 cap:=by
     cases hd with
     | pv _ _ hp=>
       cases hp with
       | slNil=>exact ⟨_,_,rfl⟩
       | sl=>exact ⟨_,_,rfl⟩
    refine ⟨.int .i64 0,κ,w,?_,.pv _ _ (.int _ _),hs,Grow.refl _ _ _⟩
    rw [hvd]
    simp only [Nat.zero_mul,List.take_zero] at hf
    cases a<;>simp [Builtin.copy_,run_underlying ht,hlen,bd hn,hf,goInt,storeCells]
 ·cases he
theorem sliceA_rel {t e:TypeId} {len es:Nat} (ht:Γ.P.underlying t=some (.array len e)) (hn:sizeT Γ.P e=some es) {x:AV} {vx:Value} (hx:VRel κ x vx)
 {lo hi:Option AV} {vlo vhi:Option Value} (hl:ORel κ lo vlo) (hh:ORel κ hi vhi) {v:AV}
 (he:(match x with
   | .ptr id o=>boundK hi len len fun hb=>boundK lo 0 hb fun l=>needK (Nat.blt l len||Nat.beq l 0) (some (AV.hs es id (addO o (mulE l es)) (hb-l) (len-l)))
   | _=>none)=some v):∃ v',(Instr.sliceAt t vx vlo vhi none).run Γ.P w = .ok v' w∧VRel κ v v':=by
 cases hx with
 | ptr id o k hk=>
   simp only at he
   obtain ⟨h,l,hlh,hhn,_,hF,hr⟩:=run_bounds (Γ:=Γ) (w:=w) hl hh false (Nat.le_refl len) rfl he
   obtain ⟨hb,hF⟩:=aZ hF
   simp only [aG,addO_eq] at hF
   injection hF with hF; subst hF
   have hor:l<len∨l=0:=by
    rw [Bool.or_eq_true] at hb
    rcases hb with hb | hb
    ·exact .inl (blt_lt hb)
    ·exact .inr (Nat.eq_of_beq_eq_true hb)
   refine ⟨.slice (some (if len=l then ⟨k,o,none⟩ else (⟨k,o,none⟩:Addr).add (l*es))) (h-l) (len-l),?_,?_⟩
   ·simp [Instr.sliceAt,run_underlying ht,Instr.sureAddr,hr,bd hn]
   ·by_cases hml:len=l
    ·rw [if_pos hml]
     have:l=0:=by omega
     subst this
     simpa using VRel.hs (κ:=κ) es id o (h-0) (len-0) k (len-0) hk (by omega) (Nat.le_refl _)
    ·rw [if_neg hml,bb]
     exact .hs _ _ _ _ _ k _ hk (by omega) (Nat.le_refl _)
 | _=>simp at he
theorem sliceStr_rel {t:TypeId} (ht:Γ.P.underlying t=some .string) {x:AV} {vx:Value} (hx:VRel κ x vx) {lo hi:Option AV} {vlo vhi:Option Value} (hl:ORel κ lo vlo) (hh:ORel κ hi vhi) {v:AV}
 (he:sliceStrK x lo hi (fun v=>some v)=some v):∃ v',(Instr.sliceAt t vx vlo vhi none).run Γ.P w = .ok v' w∧VRel κ v v':=by
 unfold sliceStrK at he
 split at he
 ·rename_i s
  have:=str_rel hx
  subst this
  obtain ⟨h,l,hlh,hhn,_,hF,hr⟩:=run_bounds (Γ:=Γ) (w:=w) hl hh false (Nat.le_refl s.size) rfl he
  rw [bh] at hF
  injection hF with hF; subst hF
  refine ⟨.string (s.extract l h),?_,.pv _ _ (.str _)⟩
  simp [Instr.sliceAt,run_underlying ht,Instr.slice,hr]
 ·cases he
noncomputable def toArrV (n:Nat) (x:AV):Option AV:=match x with
 | .pv (.sl e m cs)=>(match e with | .nil=>none | _=>needK (Nat.ble n m&&Nat.blt 0 n) (some (AV.rptr cs 0)))
 | .tsl _ m cs=>needK (Nat.ble n m) (some (AV.rptr cs 0))
 | .hs _ id off m _=>needK (Nat.ble n m) (some (AV.ptr id off))
 | _=>none
theorem toArr_rel {t e:TypeId} {n:Nat} (ht:Γ.P.underlying t=some (.array n e)) {x:AV} {vx:Value} (hx:VRel κ x vx) {v:AV}
 (he:toArrV n x=some v):∃ v',(Instr.arrayAt t vx).run Γ.P w = .ok v' w∧VRel κ v v':=by
 have go:∀ (a:Option Addr) (m cap:Nat),vx = .slice a m cap→n≤m→(Instr.arrayAt t vx).run Γ.P w = .ok (.pointer a) w:=by
  intro a m cap e hle
  subst e
  have:¬ m<n:=by omega
  simp [Instr.arrayAt,run_underlying ht,this]
 unfold toArrV at he
 split at he
 ·rename_i e m cs
  cases hx with
  | pv _ _ hx=>
    split at he
    ·cases he
    ·obtain ⟨hc,he⟩:=aZ he
     injection he with he; subst he
     rw [Bool.and_eq_true] at hc
     have h1:=Nat.le_of_ble_eq_true hc.1
     have h2:=blt_lt hc.2
     cases hx with
     | slNil=>omega
     | sl _ _ _ a cap vs g1 g2 g3 g4 g5 g6=>
       refine ⟨_,go _ _ _ rfl h1,?_⟩
       have:=VRel.rptr (κ:=κ) cs 0 a vs g4 g5 g6
       simpa [Addr.add] using this
 ·rename_i tk m cs
  obtain ⟨hc,he⟩:=aZ he
  injection he with he; subst he
  cases hx with
  | tsl _ _ _ k cap vs h1 h2 h3 h4 h5=>
    refine ⟨_,go _ _ _ rfl (Nat.le_of_ble_eq_true hc),?_⟩
    have:=VRel.rptr (κ:=κ) cs 0 ⟨k,0,none⟩ vs h3 (fun j v hj=>by rw [addr_add_lit]; exact h4 j v hj) h5
    simpa [Addr.add] using this
 ·rename_i es id off m cap
  obtain ⟨hc,he⟩:=aZ he
  injection he with he; subst he
  cases hx with
  | hs _ _ _ _ _ k cap' h1 h2 h3=>exact ⟨_,go _ _ _ rfl (Nat.le_of_ble_eq_true hc),.ptr _ _ _ h1⟩
 ·cases he
theorem keyT_desc {P:Program} {t:TypeId} {kk:SK} (h:keyT P t=some kk):∃ d,P.underlying t=some d∧((kk = .i ∧ ∃ k,d = .int k)∨(kk = .s∧d = .string)∨(kk = .b∧d = .bool)):=by
 unfold keyT at h
 split at h
 ·rename_i k hu; injection h with h; exact ⟨_,hu,.inl ⟨h.symm,k,rfl⟩⟩
 ·rename_i hu; injection h with h; exact ⟨_,hu,.inr (.inl ⟨h.symm,rfl⟩)⟩
 ·rename_i hu; injection h with h; exact ⟨_,hu,.inr (.inr ⟨h.symm,rfl⟩)⟩
 ·cases h
theorem run_checkKeyN {t:TypeId} {kk:SK} (h:keyT Γ.P t=some kk) (b:Bool) (v:Value) (n:Nat):(Instr.checkKey b (n+1) t v).run Γ.P w = .ok () w:=by
 obtain ⟨d,hu,hd⟩:=keyT_desc h
 rcases hd with ⟨_,k,rfl⟩ | ⟨_,rfl⟩ | ⟨_,rfl⟩<;>simp [Instr.checkKey,run_underlying hu]
theorem run_checkKey {t:TypeId} {kk:SK} (h:keyT Γ.P t=some kk) (b:Bool) (v:Value):(Instr.checkKey b 10000 t v).run Γ.P w = .ok () w:=run_checkKeyN h b v 9999
theorem obind_inv {α β:Type} {x:Option α} {F:α→Option β} {y:β} (h:x.bind F=some y):∃ p,x=some p∧F p=some y:=by
 cases x with
 | none=>cases h
 | some p=>exact ⟨p,rfl,h⟩
theorem ba_eq {a b:ByteArray} (h:(a==b)=true):a=b:=by
 have h2:(a.data==b.data)=true:=h
 have h3:=eq_of_beq h2
 cases a; cases b
 simp only at h3
 rw [h3]
theorem ba_self (a:ByteArray):(a==a)=true:=by
 show (a.data==a.data)=true
 exact beq_self_eq_true _
theorem keyEq_now {I:Imm} {kk:SK} {d:TypeDesc} (hd:(kk = .i ∧ ∃ k,d = .int k)∨(kk = .s∧d = .string)∨(kk = .b∧d = .bool)) {k q:PV} {kv qv:Value} (h1:PRel I k kv) (h2:PRel I q qv) {b:Bool} (h:keyEq kk k q=some b) :
 Instr.sameNow d kv qv=some b∧(b=true→∀ n,Instr.sameBits (n+1) qv kv=true):=by
 rcases hd with ⟨rfl,ik,rfl⟩ | ⟨rfl,rfl⟩ | ⟨rfl,rfl⟩
 ·cases h1<;>try (cases h; done)
  cases h2<;>try (cases h; done)
  rename_i k a k' a'
  have hi:(bif kindEq k k' then some (a==a') else none)=some b:=h
  cases hk:kindEq k k' with
  | false=>rw [hk] at hi; cases hi
  | true=>
    rw [hk] at hi
    have:=kindEq_eq hk
    subst this
    have hq:some (a==a')=some b:=hi
    have hq:=Option.some.inj hq
    refine ⟨by simp only [Instr.sameNow,if_true,hq],fun hb n=>?_⟩
    subst hb
    have e:=eq_of_beq hq
    subst e
    simp [Instr.sameBits]
 ·cases h1<;>try (cases h; done)
  cases h2<;>try (cases h; done)
  have h:=Option.some.inj h
  refine ⟨by simp only [Instr.sameNow,h],fun hb n=>?_⟩
  subst hb
  have e:=ba_eq h
  subst e
  simp only [Instr.sameBits,ba_self]
 ·cases h1<;>try (cases h; done)
  cases h2<;>try (cases h; done)
  have h:=Option.some.inj h
  refine ⟨by simp only [Instr.sameNow,h],fun hb n=>?_⟩
  subst hb
  have e:=eq_of_beq h
  subst e
  simp [Instr.sameBits]
theorem mapFind_now {I:Imm} {kk:SK} {d:TypeDesc} (hd:(kk = .i ∧ ∃ k,d = .int k)∨(kk = .s∧d = .string)∨(kk = .b∧d = .bool)) {k:PV} {kv:Value} (h1:PRel I k kv) {es:List (PV × PV)} {l:List MapEntry} (hm:MRels I es l) :
 ∀ {i:Nat} {f:Option (Nat × PV)},mapFind kk k es i=some f→match f with
   | none=>Instr.findNow d kv l i=some none
   | some x=>∃ e,i≤x.1∧l[x.1-i]? = some e∧PRel I x.2 e.val∧Instr.findNow d kv l i=some (some (x.1,e.val)) ∧ ∀ n,Instr.sameBits (n+1) e.key kv=true:=by
 induction hm with
 | nil=>intro i f h; simp [mapFind] at h; subst h; rfl
 | cons q v e es l g1 g2 _ ih=>
   intro i f h
   simp only [mapFind] at h
   cases hq:keyEq kk k q with
   | none=>rw [hq] at h; cases h
   | some b=>
     obtain ⟨e1,e2⟩:=keyEq_now hd h1 g1 hq
     rw [hq] at h
     cases b with
     | true=>
       injection h with h; subst h
       exact ⟨e,Nat.le_refl _,by simp,g2,by simp [Instr.findNow,e1],e2 rfl⟩
     | false=>
       simp only at h
       have:=ih h
       cases f with
       | none=>simpa [Instr.findNow,e1] using this
       | some x=>
         obtain ⟨e',a1,a2,a3,a4,a5⟩:=this
         refine ⟨e',by omega,?_,a3,by simpa [Instr.findNow,e1] using a4,a5⟩
         rw [show x.1-i=(x.1-(i+1))+1 by omega,List.getElem?_cons_succ]; exact a2
theorem zeroPV_rel {t:TypeId} {p:PV} (h:zeroPV Γ.P t=some p):∃ i z,Γ.P.info? t=some i∧i.zero=some z∧PRel κ.imm p z:=by
 unfold zeroPV at h
 split at h
 ·rename_i i hi
  split at h
  ·rename_i z hz
   exact ⟨i,z,hi,hz,constPV_rel κ.imm h⟩
  ·cases h
 ·cases h
theorem lookV_rel {I:Imm} {ok:Bool} {z:PV} {f:Option (Nat × PV)} {zv:Value} (hz:PRel I z zv) {fv:Option Value} (hf:match f with | none=>fv=none | some x=>∃ u,fv=some u∧PRel I x.2 u) :
 PRel I (lookV ok z f) (if ok then .tuple #[fv.getD zv,.bool fv.isSome] else fv.getD zv):=by
 cases f with
 | none=>
   simp only at hf; subst hf
   cases ok
   ·simpa [lookV] using hz
   ·exact .tup [z,.bool false] [zv,.bool false] (.cons _ _ _ _ hz (.cons _ _ _ _ (.bool _) .nil))
 | some x=>
   obtain ⟨u,rfl,hu⟩:=hf
   cases ok
   ·simpa [lookV] using hu
   ·exact .tup [x.2,.bool true] [u,.bool true] (.cons _ _ _ _ hu (.cons _ _ _ _ (.bool _) .nil))
theorem look_rel (hs:SRel Γ base κ H w) {t kt et:TypeId} (ht:Γ.P.underlying t=some (.map kt et)) {kk:SK} (hk:keyT Γ.P kt=some kk) {z:PV} (hz:zeroPV Γ.P et=some z) {ok:Bool}
 {x k:AV} {vx vk:Value} (hx:VRel κ x vx) (hkv:VRel κ k vk) {v:AV} (he:lookK ok kk z x k H (fun p=>some (AV.pv p))=some v):∃ v',(Instr.lookup t vx vk ok).run Γ.P w = .ok v' w∧VRel κ v v':=by
 obtain ⟨i,zv,hi,hzz,hzr⟩:=zeroPV_rel (Γ:=Γ) (κ:=κ) hz
 obtain ⟨d,hu,hd⟩:=keyT_desc hk
 have hzv:(zeroValue et).run Γ.P w = .ok zv w:=run_zeroValue' hi hzz
 unfold lookK at he
 split at he
 ·rename_i id
  split at he
  ·rename_i k
   rw [bf] at he
   split at he
   ·rename_i es hg
    rw [bindK_def] at he
    obtain ⟨f,hf,he⟩:=obind_inv he
    injection he with he; subst he
    cases hx with
    | map _ kb hl=>
      obtain ⟨_,hob⟩:=hs.obj id kb (by rw [hg]; exact hl)
      rw [hg] at hob
      obtain ⟨ents,clock,hw,hm⟩:=hob
      cases hkv with
      | pv _ _ hkp=>
        have hfn:=mapFind_now hd hkp hm hf
        refine ⟨_,?_,.pv _ _ (lookV_rel (fv:=match f with | none=>none | some x=>(ents.toList[x.1]?).map (·.val)) hzr ?_)⟩
        ·cases f with
         | none=>
           simp only at hfn
           cases ok<;>simp [Instr.lookup,run_underlying ht,MapKept.run_getObj_map hw,run_checkKey hk,Instr.findKey,run_underlying hu,hfn,hzv]
         | some x=>
           obtain ⟨e,a1,a2,a3,a4,a5⟩:=hfn
           rw [Nat.sub_zero] at a2
           cases ok<;>simp [Instr.lookup,run_underlying ht,MapKept.run_getObj_map hw,run_checkKey hk,Instr.findKey,run_underlying hu,a4,a2]
        ·cases f with
         | none=>rfl
         | some x=>
           obtain ⟨e,a1,a2,a3,a4,a5⟩:=hfn
           rw [Nat.sub_zero] at a2
           exact ⟨e.val,by simp only [a2]; rfl,a3⟩
   ·cases he
  ·cases he
 ·injection he with he; subst he
  cases hx with
  | pv _ _ hp=>
    cases hp
    refine ⟨_,?_,.pv _ _ (lookV_rel (f:=none) (fv:=none) hzr rfl)⟩
    cases ok<;>simp [Instr.lookup,run_underlying ht,run_checkKey hk,Instr.findKey,run_underlying hu,Instr.findNow,hzv]
 ·cases he
theorem MRels.set {I:Imm} {es:List (PV × PV)} {l:List MapEntry} (hm:MRels I es l) {k v:PV} {e':MapEntry} (h1:PRel I k e'.key) (h2:PRel I v e'.val):∀ i:Nat,MRels I (es.set i (k,v)) (l.set i e'):=by
 induction hm with
 | nil=>intro i; exact .nil
 | cons q u e es l g1 g2 g3 ih=>
   intro i
   cases i with
   | zero=>exact .cons _ _ _ _ _ h1 h2 g3
   | succ i=>exact .cons _ _ _ _ _ g1 g2 (ih i)
theorem MRels.push {I:Imm} {es:List (PV × PV)} {l:List MapEntry} (hm:MRels I es l) {k v:PV} {e':MapEntry} (h1:PRel I k e'.key) (h2:PRel I v e'.val):MRels I (es++[(k,v)]) (l++[e']):=by
 induction hm with
 | nil=>exact .cons _ _ _ _ _ h1 h2 .nil
 | cons q u e es l g1 g2 g3 ih=>exact .cons _ _ _ _ _ g1 g2 ih
theorem modify_list {es:Array MapEntry} {i:Nat} {e:MapEntry} (h:es.toList[i]? = some e) (f:MapEntry→MapEntry):(es.modify i f).toList=es.toList.set i (f e):=by
 apply List.ext_getElem?
 intro j
 rw [Array.getElem?_toList,Array.getElem?_modify,List.getElem?_set]
 have hl:i<es.toList.length:=(List.getElem?_eq_some_iff.1 h).1
 by_cases hij:i=j
 ·subst hij
  rw [Array.getElem?_toList] at h
  simp only [h,if_true,hl,Option.map]
 ·simp [hij]
theorem SRel.mapTurn (h:SRel Γ base κ H w) {id l:Nat} {es es':List (PV × PV)} {a a':Array MapEntry} {c c':Nat} (hl:κ.loc id=some l) (hg:hget H id = .map es) (hL:w.heap[l]? = some (.map a c)) (ho:MRels κ.imm es' a'.toList) :
 SRel Γ base κ (hset H id (.map es')) (w.putObj l (.map a' c'))∧Grow κ H w κ (hset H id (.map es')) (w.putObj l (.map a' c')):=by
 have hlt:l<w.heap.size:=(Array.getElem?_eq_some_iff.1 hL).1
 refine h.turnOne id (.map es') l l ⟨rfl,rfl,rfl,by simp⟩ κ.le_refl (by rw [hg]; exact hl) rfl (fun _ _=>rfl) (fun k _ hne=>World.putObj_heap_other hne) (fun a v hv=>?_) (fun k hk=>?_) (.inl rfl) ?_
 ·have hne:a.block≠l:=fun e=>by
   have hc:=h.imm a v hv
   unfold World.cell? at hc
   rw [e,hL] at hc
   simp at hc
  exact ⟨(World.cell?_of_block (World.putObj_heap_other hne)).trans (h.imm a v hv),.inl hv⟩
 ·simp only [place] at hk; rw [hl] at hk; exact (Option.some.inj hk).symm
 ·exact ⟨a',c',World.putObj_heap_same hlt,ho⟩
theorem upd_rel (hs:SRel Γ base κ H w) {t kt et:TypeId} (ht:Γ.P.underlying t=some (.map kt et)) {kk:SK} (hk:keyT Γ.P kt=some kk)
 {x k u:AV} {vx vk vu:Value} (hx:VRel κ x vx) (hkv:VRel κ k vk) (huv:VRel κ u vu) {H':Heap} (he:updK kk x k u H some=some H') :
 ∃ w',(Instr.mapUpdate t vx vk vu).run Γ.P w = .ok () w'∧SRel Γ base κ H' w'∧Grow κ H w κ H' w':=by
 obtain ⟨d,hu,hd⟩:=keyT_desc hk
 unfold updK at he
 split at he
 ·rename_i id
  split at he
  ·rename_i k
   split at he
   ·rename_i u
    rw [bf] at he
    split at he
    ·rename_i es hg
     rw [bindK_def] at he
     obtain ⟨f,hf,he⟩:=obind_inv he
     injection he with he; subst he
     cases hx with
     | map _ kb hl=>
       obtain ⟨_,hob⟩:=hs.obj id kb (by rw [hg]; exact hl)
       rw [hg] at hob
       obtain ⟨ents,clock,hw,hm⟩:=hob
       cases hkv with
       | pv _ _ hkp=>
       cases huv with
       | pv _ _ hup=>
         have hfn:=mapFind_now hd hkp hm hf
         cases f with
         | none=>
           simp only at hfn
           obtain ⟨s,g⟩:=hs.mapTurn (a':=ents.push { key:=vk,val:=vu,born:=clock }) (c':=clock+1) (es':=es++[(k,u)]) hl hg hw (by rw [Array.toList_push]; exact hm.push hkp hup)
           refine ⟨_,?_,s,g⟩
           simp [Instr.mapUpdate,run_underlying ht,MapKept.run_getObj_map hw,run_checkKey hk,Instr.findKey,run_underlying hu,hfn,MapKept.run_setObj_map _ hw,World.putObj]
         | some x=>
           obtain ⟨e,a1,a2,a3,a4,a5⟩:=hfn
           rw [Nat.sub_zero] at a2
           have a2':ents[x.1]? = some e:=by rw [←Array.getElem?_toList]; exact a2
           obtain ⟨s,g⟩:=hs.mapTurn (a':=ents.modify x.1 fun e=>{ e with key:=vk,val:=vu }) (c':=clock) (es':=es.set x.1 (k,u)) hl hg hw (by rw [modify_list a2]; exact hm.set hkp hup x.1)
           refine ⟨_,?_,s,g⟩
           simp [Instr.mapUpdate,run_underlying ht,MapKept.run_getObj_map hw,run_checkKey hk,Instr.findKey,run_underlying hu,a4,a2',Instr.keyThatStays,a5,MapKept.run_setObj_map _ hw,World.putObj]
    ·cases he
   ·cases he
  ·cases he
 ·cases he
theorem SRel.newMap (h:SRel Γ base κ H w) :
 SRel Γ base (κ.at H.length w.heap.size) (H++[.map []]) (w.alloc (.map #[] 0))∧Grow κ H w (κ.at H.length w.heap.size) (H++[.map []]) (w.alloc (.map #[] 0)):=by
 refine h.turnNew (.map []) w.heap.size (Same.alloc w _) (κ.le_at (h.fresh _ (Nat.le_refl _)).1) (fun i hi=>by simp [K.at,hi]) (fun _ _=>rfl)
  (fun k hk=>heap_alloc_old w _ k hk) (fun _ _ h=>.inl h) (by simp [place,K.at]) (Nat.le_refl _) ⟨#[],0,heap_alloc_new w _,.nil⟩
end
end Go.VM
namespace Go.VM
open Go
section
variable {R S α:Type}
theorem aN (p:Bool) (x:Option R) (F:R→Option S):(needK p x).bind F=needK p (x.bind F):=by simp only [needK_def]; cases p<;>rfl
theorem boolK_bind (b:Bool) (G:Bool→Option R) (F:R→Option S):(boolK b G).bind F=boolK b fun c=>(G c).bind F:=by simp only [boolK_def]
theorem bz (x:α) (G:α→Option R) (F:R→Option S):(eqK x G).bind F=eqK x fun c=>(G c).bind F:=by simp only [bh]
theorem getK_bind (l:List α) (i:Nat) (G:α→Option R) (F:R→Option S):(getK l i G).bind F=getK l i fun c=>(G c).bind F:=by
 simp only [getK_def]; cases l[i]? <;> rfl
theorem secK_bind (l:List α) (i n:Nat) (G:List α→Option R) (F:R→Option S):(secK l i n G).bind F=secK l i n fun c=>(G c).bind F:=by
 simp only [secK_def]; cases Nat.ble (i+n) l.length<;>rfl
theorem bindK_bind (x:Option α) (G:α→Option R) (F:R→Option S):(bindK x G).bind F=bindK x fun c=>(G c).bind F:=by
 simp only [bindK_def]; cases x<;>rfl
theorem bt (h:Heap) (id:Nat) (G:HObj→Option R) (F:R→Option S):(hgetK h id G).bind F=hgetK h id fun c=>(G c).bind F:=by simp only [bf]
theorem bw (b:Bool) (x y:Option R) (F:R→Option S):(bif b then x else y).bind F=bif b then x.bind F else y.bind F:=by cases b<;>rfl
end
section
variable {R S:Type}
theorem intBinK_bind (op:BinOp) (k:IntKind) (a b:Int) (G:PV→Option R) (F:R→Option S):(intBinK op k a b G).bind F=intBinK op k a b fun p=>(G p).bind F:=by
 cases op<;>simp only [intBinK,aN,bz,boolK_bind]<;>rfl
theorem shiftK_bind (op:BinOp) (k:IntKind) (a b:Int) (G:PV→Option R) (F:R→Option S):(shiftK op k a b G).bind F=shiftK op k a b fun p=>(G p).bind F:=by
 cases op<;>simp only [shiftK,aN,bz]<;>rfl
theorem strBinK_bind (op:BinOp) (a b:ByteArray) (G:PV→Option R) (F:R→Option S):(strBinK op a b G).bind F=strBinK op a b fun p=>(G p).bind F:=by
 cases op<;>simp only [strBinK,aN,bz,boolK_bind]<;>rfl
theorem boolBinK_bind (op:BinOp) (a b:Bool) (G:PV→Option R) (F:R→Option S):(boolBinK op a b G).bind F=boolBinK op a b fun p=>(G p).bind F:=by
 cases op<;>simp only [boolBinK,boolK_bind]<;>rfl
theorem nilBinK_bind (k:BK) (op:BinOp) (x y:AV) (G:PV→Option R) (F:R→Option S):(nilBinK k op x y G).bind F=nilBinK k op x y fun p=>(G p).bind F:=by
 cases op<;>simp only [nilBinK]<;>(try rfl)<;>(cases nilEq k x y<;>rfl)
theorem binK_bind (k:BK) (op:BinOp) (x y:AV) (G:PV→Option R) (F:R→Option S):(binK k op x y G).bind F=binK k op x y fun p=>(G p).bind F:=by
 cases k with
 | num=>
   cases x with
   | pv p=>
     cases p with
     | int k a=>
       cases y with
       | pv q=>cases q<;>simp only [binK,bw,shiftK_bind,intBinK_bind]<;>rfl
       | _=>rfl
     | str a=>
       cases y with
       | pv q=>cases q<;>simp only [binK,strBinK_bind]<;>rfl
       | _=>rfl
     | _=>rfl
   | _=>rfl
 | bool=>
   cases x with
   | pv p=>
     cases p with
     | bool a=>
       cases y with
       | pv q=>cases q<;>simp only [binK,boolBinK_bind]<;>rfl
       | _=>rfl
     | _=>rfl
   | _=>rfl
 | agg sh=>
   cases x with
   | pv p=>
     cases p with
     | agg a=>
       cases y with
       | pv q=>cases q<;>(try rfl)<;>(cases op<;>simp only [binK,bindK_bind,boolK_bind]<;>rfl)
       | _=>rfl
     | _=>rfl
   | _=>rfl
 | _=>exact nilBinK_bind _ _ _ _ _ _
theorem unK_bind (op:UnOp) (x:AV) (G:PV→Option R) (F:R→Option S):(unK op x G).bind F=unK op x fun p=>(G p).bind F:=by
 cases op<;>cases x<;>(try rfl)<;>(rename_i p; cases p<;>simp only [unK,bz]<;>rfl)
theorem load1K_bind (p:AV) (h:Heap) (G:AV→Option R) (F:R→Option S):(load1K p h G).bind F=load1K p h fun v=>(G v).bind F:=by
 cases p<;>simp only [load1K,getK_bind,bt]<;>(try rfl)
 congr 1; funext o; cases o<;>simp only [getK_bind]<;>(try rfl)
 cases lget _ _<;>rfl
theorem loadNK_bind (n:Nat) (p:AV) (h:Heap) (G:AV→Option R) (F:R→Option S):(loadNK n p h G).bind F=loadNK n p h fun v=>(G v).bind F:=by
 cases p<;>simp only [loadNK,secK_bind,bt]<;>(try rfl)
 congr 1; funext o; cases o<;>simp only [secK_bind,bw]<;>rfl
theorem store1K_bind (p v:AV) (h:Heap) (G:Heap→Option R) (F:R→Option S):(store1K p v h G).bind F=store1K p v h fun v=>(G v).bind F:=by
 cases p<;>simp only [store1K,bt]<;>(try rfl)
 congr 1; funext o; cases o<;>simp only [bw]<;>(try rfl)
 cases v<;>simp only [bw,aN,bz]<;>rfl
theorem storeNK_bind (n:Nat) (p v:AV) (h:Heap) (G:Heap→Option R) (F:R→Option S):(storeNK n p v h G).bind F=storeNK n p v h fun v=>(G v).bind F:=by
 cases p<;>simp only [storeNK,bt]<;>(try rfl)
 congr 1; funext o; cases o<;>(try rfl)<;>(cases v<;>simp only [bw]<;>(try rfl)<;>(rename_i q; cases q<;>simp only [bw,aN,bz]<;>rfl))
theorem idxK_bind (i:AV) (len:Nat) (G:Nat→Option R) (F:R→Option S):(idxK i len G).bind F=idxK i len fun v=>(G v).bind F:=by
 cases i<;>(try rfl)<;>(rename_i p; cases p<;>simp only [idxK,aN]<;>rfl)
theorem idxAddrSK_bind (es:Nat) (x i:AV) (G:AV→Option R) (F:R→Option S):(idxAddrSK es x i G).bind F=idxAddrSK es x i fun v=>(G v).bind F:=by
 cases x<;>simp only [idxAddrSK,idxK_bind]<;>(try rfl)<;>(rename_i p; cases p<;>simp only [idxK_bind]<;>rfl)
theorem boundK_bind (x:Option AV) (d y:Nat) (G:Nat→Option R) (F:R→Option S):(boundK x d y G).bind F=boundK x d y fun v=>(G v).bind F:=by
 cases x with
 | none=>rfl
 | some x=>cases x<;>(try rfl)<;>(rename_i p; cases p<;>simp only [boundK,aN]<;>rfl)
theorem sliceStrK_bind (x:AV) (lo hi:Option AV) (G:AV→Option R) (F:R→Option S):(sliceStrK x lo hi G).bind F=sliceStrK x lo hi fun v=>(G v).bind F:=by
 cases x<;>(try rfl)<;>(rename_i p; cases p<;>simp only [sliceStrK,boundK_bind,bz]<;>rfl)
theorem sliceSK_bind (es:Nat) (x:AV) (lo hi mx:Option AV) (G:AV→Option R) (F:R→Option S):(sliceSK es x lo hi mx G).bind F=sliceSK es x lo hi mx fun v=>(G v).bind F:=by
 unfold sliceSK
 split
 ·split
  ·simp only [boundK_bind,bz]
  ·split<;>simp only [aN,boundK_bind,bz,Option.bind_none]
 ·split
  ·simp only [boundK_bind,bz]
  ·split<;>simp only [aN,boundK_bind,bz,Option.bind_none]
 ·split
  ·simp only [aN,boundK_bind]
  ·rfl
 ·split
  ·split
   ·simp only [boundK_bind,aN]
   ·rfl
  ·rfl
 ·rfl
theorem srcK_bind (h:Heap) (x:AV) (G:List PV→Option R) (F:R→Option S):(srcK h x G).bind F=srcK h x fun v=>(G v).bind F:=by
 unfold srcK
 split<;>(try rfl)
 simp only [bt]
 congr 1; funext o; cases o<;>simp only [secK_bind]<;>rfl
theorem appendTo_bind (mu:Bool) (es bytes m:Nat) (new:List PV) (s:AV) (h:Heap) (G:AV→Heap→Option R) (F:R→Option S):(appendTo mu es bytes m new s h G).bind F=appendTo mu es bytes m new s h fun v h=>(G v h).bind F:=by
 unfold appendTo
 split
 ·simp only [boolK_bind,bw,aN,bz,Option.bind_none]
 ·simp only [bt]
  congr 1; funext o; cases o<;>simp only [aN,bz,Option.bind_none]
 ·simp only [aN,bt]
  congr 1; congr 1; funext o; cases o<;>simp only [aN,bz,Option.bind_none]
 ·rfl
theorem appendK_bind (mu:Bool) (es bytes:Nat) (s x:AV) (h:Heap) (G:AV→Heap→Option R) (F:R→Option S):(appendK mu es bytes s x h G).bind F=appendK mu es bytes s x h fun v h=>(G v h).bind F:=by
 unfold appendK
 cases srcLen x with
 | none=>rfl
 | some m=>simp only [srcK_bind,appendTo_bind]
theorem appS_bind (mu:Bool) (es bytes:Nat) (s x:AV) (h:Heap) (G:AV→Heap→Option R) (F:R→Option S):(appS mu es bytes s x h G).bind F=appS mu es bytes s x h fun v h=>(G v h).bind F:=by
 rw [appS_def,appS_def]; exact appendK_bind ..
theorem copyK_bind (es:Nat) (d s:AV) (h:Heap) (G:AV→Heap→Option R) (F:R→Option S):(copyK es d s h G).bind F=copyK es d s h fun v h=>(G v h).bind F:=by
 unfold copyK
 split
 ·cases srcLen s with
  | none=>rfl
  | some m=>
    simp only [srcK_bind,bt]
    congr 1; funext new; congr 1; funext o; cases o<;>simp only [aN,bz,Option.bind_none]
 ·cases srcLen s with
  | none=>rfl
  | some m=>simp only [srcK_bind,aN]
 ·rfl
theorem lookK_bind (ok:Bool) (kk:SK) (z:PV) (x k:AV) (h:Heap) (G:PV→Option R) (F:R→Option S):(lookK ok kk z x k h G).bind F=lookK ok kk z x k h fun v=>(G v).bind F:=by
 unfold lookK
 split
 ·split
  ·rw [bt]
   congr 1; funext o; cases o<;>simp only [bindK_bind,Option.bind_none]
  ·rfl
 ·rfl
 ·rfl
theorem updK_bind (kk:SK) (x k v:AV) (h:Heap) (G:Heap→Option R) (F:R→Option S):(updK kk x k v h G).bind F=updK kk x k v h fun v=>(G v).bind F:=by
 unfold updK
 split
 ·split
  ·split
   ·rw [bt]
    congr 1; funext o; cases o<;>simp only [bindK_bind,Option.bind_none]
   ·rfl
  ·rfl
 ·rfl
theorem minmaxK_bind (mx:Bool) (l:List AV):∀ (a:Int) (k:IntKind) (G:PV→Option R) (F:R→Option S),(minmaxK mx a k l G).bind F=minmaxK mx a k l fun v=>(G v).bind F:=by
 induction l with
 | nil=>intro a k G F; rfl
 | cons x l ih=>
   intro a k G F
   cases x<;>(try rfl)<;>(rename_i p; cases p<;>(try rfl)<;>simp only [minmaxK,bz,ih])
theorem opK_bind (o:VOp) (r:Regs) (h:Heap) (G:AV→Heap→Option R) (F:R→Option S):(opK o r h G).bind F=opK o r h fun v h=>(G v h).bind F:=by
 cases o
 case strOf x=>
  simp only [opK]
  split
  ·rfl
  ·split
   ·simp only [srcK_bind,aN,bindK_bind]
   ·rfl
 case strOfP x=>
  simp only [opK]
  split
  ·simp only [aN,bindK_bind]
  ·simp only [aN,bindK_bind]
  ·rfl
 case build=>simp only [opK]; split<;>split<;>rfl
 case appendZ mu _ _ _ _ _=>
  simp only [opK]
  split
  ·cases mu
   ·simp only [aN,bz,appS_bind]
   ·simp only
    split
    ·simp only [aN]
    ·rfl
  ·rfl
 case capS=>
  simp only [opK]
  split
  ·simp only [bw,Option.bind_none]
  ·rfl
 case buildSlice mu _ _ _ _=>
  cases mu
  ·simp only [opK]; split<;>(try rfl); split<;>rfl
  ·simp only [opK]; split<;>split<;>rfl
 case mkFn=>simp only [opK]; split<;>rfl
 case idxA1 =>
  simp only [opK]
  split
  ·simp only [idxK_bind,getK_bind]
  ·simp only [idxK_bind]
   congr 1; funext j; split<;>rfl
  ·rfl
 case field1 =>
  simp only [opK]
  split
  ·simp only [getK_bind]
  ·split<;>rfl
  ·rfl
 case settle=>
  simp only [opK]
  split
  ·rfl
  ·rfl
  ·rw [bt]
   congr 1; funext o; cases o<;>simp only [secK_bind,Option.bind_none]
  ·rfl
 case freeze=>
  simp only [opK]
  split
  ·rw [bt]
   congr 1; funext o; cases o<;>simp only [aN,Option.bind_none]
  ·rfl
 case extract=>
  simp only [opK]
  split
  ·split<;>rfl
  ·split<;>rfl
  ·rfl
 case toArr=>
  simp only [opK]
  split
  ·split<;>simp only [aN,Option.bind_none]
  ·simp only [aN]
  ·simp only [aN]
  ·rfl
 all_goals
  simp only [opK,load1K_bind,loadNK_bind,store1K_bind,storeNK_bind,binK_bind,unK_bind,idxAddrSK_bind,sliceStrK_bind,sliceSK_bind,appS_bind,copyK_bind,lookK_bind,updK_bind,bw,Option.bind_none]
 all_goals
  try (split<;>simp only [bz,bw,getK_bind,secK_bind,idxK_bind,boundK_bind,aN,minmaxK_bind,Option.bind_none]; done)
 all_goals rfl
end
end Go.VM
namespace Go.VM
open Go
section
variable {Γ:Ctx} {base:Nat} {κ:K} {H H':Heap} {w:World} {o:Oper} {a:Act} {v:AV} {r:Regs}
theorem map_some {α β:Type} {x:Option α} {f:α→β} {y:β} (h:x.map f=some y):∃ a,x=some a∧f a=y:=by
 cases x with
 | none=>cases h
 | some a=>exact ⟨a,rfl,by simpa using h⟩
theorem down1_rel {κ:K} {a:AV} {p:PV} {v:Value} (hd:down1 a=some p) (h:VRel κ a v):PRel κ.imm p v:=by
 unfold down1 at hd
 split at hd
 ·injection hd with hd; subst hd; cases h with | pv _ _ h=>exact h
 ·injection hd with hd; subst hd; exact tsl_plain h
 ·cases hd
theorem downL_rel {κ:K}:∀ {l:List AV} {ps:List PV} {vs:List Value},downL l=some ps→VRels κ l vs→PRels κ.imm ps vs:=by
 intro l
 induction l with
 | nil=>intro ps vs hd h; simp [downL] at hd; subst hd; cases h; exact .nil
 | cons a l ih=>
   intro ps vs hd h
   simp only [downL] at hd
   split at hd
   ·rename_i p qs h1 h2
    injection hd with hd; subst hd
    cases h with | cons _ v _ vs g1 g2=>exact .cons _ _ _ _ (down1_rel h1 g1) (ih h2 g2)
   ·cases hd
theorem down2_rel {κ:K} {a:AV} {p:PV} {v:Value} (hd:down2 a=some p) (h:VRel κ a v):PRel κ.imm p v:=by
 unfold down2 at hd
 split at hd
 ·injection hd with hd; subst hd; cases h with | pv _ _ h=>exact h
 ·injection hd with hd; subst hd; exact tsl_plain h
 ·rename_i l
  obtain ⟨ps,h1,rfl⟩:=map_some hd
  cases h with | agg _ vs g1 g2=>exact .agg _ _ (downL_rel h1 g1) g2
 ·cases hd
theorem partsDown_rel {κ:K} {place:Nat→Option (Nat × Nat)}:∀ {l:List (Nat × Nat × AV)} {m:List (Nat × Value)} {ps:List (Nat × Nat × PV)},partsDown l=some ps→PartsRel κ place l m→PartsRel κ place (ps.map fun (o,n,p)=>(o,n,AV.pv p)) m∧(∀ most,(∀ p∈l,p.1+p.2.1≤most)→∀ p∈ps,p.1+p.2.1≤most):=by
 intro l
 induction l with
 | nil=>intro m ps h hp; simp [partsDown] at h; subst h; cases hp; exact ⟨.nil,fun _ _ p hp=>by cases hp⟩
 | cons q l ih=>
   intro m ps h hp
   obtain ⟨o,n,a⟩:=q
   simp only [partsDown] at h
   split at h
   ·rename_i p qs h1 h2
    injection h with h; subst h
    cases hp with
    | cons i _ _ _ v _ m h3 h4 h5=>
      obtain ⟨g1,g2⟩:=ih h2 h5
      refine ⟨.cons i _ _ _ v _ _ h3 (.pv _ _ (down2_rel h1 h4)) g1,fun most hm x hx=>?_⟩
      rcases List.mem_cons.1 hx with e | e
      ·subst e; exact hm (o,n,a) (by simp)
      ·exact g2 most (fun y hy=>hm y (by simp [hy])) x e
   ·cases h
theorem RunOK.op {s:Sem Value} (he:execOp a.eval o=(do pure (Next.value (←s)))) (h:RunOK Γ base κ H w s v H'):OpOK Γ base κ H w o a v H':=by
 obtain ⟨v',κ',w',h1,h2,h3,h4⟩:=h
 refine ⟨.value v',v',κ',w',?_,.inl rfl,h2,h3,h4⟩
 rw [he]
 simp [h1]
theorem bind_pair {α:Type} {x:Option α} {f:α→AV × Heap} {y:AV × Heap} (h:x.bind (fun p=>some (f p))=some y):∃ p,x=some p∧f p=y:=by
 cases x with
 | none=>cases h
 | some p=>exact ⟨p,rfl,by simpa using h⟩
theorem RunOK.keep {s:Sem Value} (hs:SRel Γ base κ H w) {x:Option AV} (he:x.bind (fun v=>some (v,H))=some (v,H'))
 (h:x=some v→∃ v',s.run Γ.P w = .ok v' w∧VRel κ v v'):RunOK Γ base κ H w s v H':=by
 obtain ⟨p,h1,h2⟩:=bind_pair he
 injection h2 with h2 h3; subst h2; subst h3
 exact RunOK.same hs (h h1)
theorem opt_ORel {κ:K} {r:Regs} {a:Act} (hr:RRel κ r a) {x:Option Operand} {y:Option Opd} (h:compOpt x=some y):ORel κ (y.map (Opd.ev r)) (x.map a.eval):=by
 rcases opt_rel hr h with ⟨rfl,rfl⟩ | ⟨u,v,rfl,rfl,hv⟩
 ·trivial
 ·exact hv
theorem parts_bound {r:Regs} {most:Nat} {ps:List (Nat × Nat × Opd)} (h:∀ p∈ps,p.1+p.2.1≤most):∀ p∈ps.map (fun (o,n,x)=>(o,n,x.ev r)),p.1+p.2.1≤most:=by
 intro p hp
 obtain ⟨q,hq,rfl⟩:=List.mem_map.1 hp
 exact h q hq
theorem parts_bound' {most:Nat} {ps:List (Nat × Nat × PV)} (h:∀ p∈ps.map (fun (o,n,x)=>(o,n,AV.pv x)),p.1+p.2.1≤most):∀ p∈ps,p.1+p.2.1≤most:=by
 intro p hp
 exact h _ (List.mem_map.2 ⟨p,hp,rfl⟩)
theorem fills {place:Nat→Option (Nat × Nat)} {r:Regs} {ps:List (Nat × Nat × Opd)} {m:List (Nat × Value)} {z:List PV} {cells:List Value}
 (hp:PartsRel κ place (ps.map fun (o,n,x)=>(o,n,x.ev r)) m) (hb:∀ p∈ps,p.1+p.2.1≤z.length) (hz:PRels κ.imm z cells) (h1:Ones cells) :
 (∀ qs l,partsPV (ps.map fun (o,n,x)=>(o,n,x.ev r))=some qs→fill z qs=some l→∃ c,Instr.fill place cells.toArray m=some c.toArray∧PRels κ.imm l c∧Ones c∧l.length=z.length) ∧
 (∀ l,fillA (z.map .pv) (ps.map fun (o,n,x)=>(o,n,x.ev r))=some l→∃ c,Instr.fill place cells.toArray m=some c.toArray∧VRels κ l c∧Ones c∧l.length=z.length):=by
 constructor
 ·intro qs l hq hf
  have e:=partsPV_eq hq
  have hb2:=parts_bound (r:=r) hb
  rw [e] at hp hb2
  exact fill_rel qs m place z l cells hp (parts_bound' hb2) hz h1 hf
 ·intro l hf
  have:=fillA_rel (ps.map fun (o,n,x)=>(o,n,x.ev r)) m place (z.map .pv) l cells hp (by rw [List.length_map]; exact parts_bound hb) (VRels.of_pv hz) h1 hf
  simpa using this
theorem run_places (P:Program) (w:World):∀ (fs:List Field),(∀ f∈fs,(sizeT P f.type).isSome=true) →
 (fs.mapM (fun f:Field=>(do pure (f.offset,←sizeOf f.type):Sem (Nat × Nat)))).run P w = .ok (fs.map fun f=>(f.offset,(sizeT P f.type).getD 0)) w:=by
 intro fs
 induction fs with
 | nil=>intro _; rfl
 | cons f fs ih=>
   intro h
   obtain ⟨n,hn⟩:=Option.isSome_iff_exists.1 (h f (by simp))
   rw [List.mapM_cons]
   simp only [Sem.run_bind,bd hn,Result.andThen_ok,Sem.run_pure,ih (fun g hg=>h g (by simp [hg])),List.map_cons,hn,Option.getD_some]
theorem build_run {t:TypeId} {z:List PV} (hz:zeroT Γ.P t=some z) {parts:List (Nat × Value)} (place:Nat→Option (Nat × Nat)) {c:List Value}
 (hpl:(∃ fs,Γ.P.underlying t=some (.struct fs)∧(∀ f∈fs.toList,(sizeT Γ.P f.type).isSome=true)∧place=structPlace Γ.P fs.toList) ∨
   (∃ n e m,Γ.P.underlying t=some (.array n e)∧sizeT Γ.P e=some m∧place=fun i=>some (i*m,m)))
 (hf:∀ i zv,Γ.P.info? t=some i→i.zero=some zv→Instr.fill place zv.cells.toList.toArray parts=some c.toArray):(Instr.build t parts.toArray).run Γ.P w = .ok (.agg c.toArray) w:=by
 obtain ⟨i,zv,hi,hzz,_,_,_⟩:=zeroT_rel (Γ:=Γ) (κ:=⟨fun _=>none,fun _=>none,fun _ _=>none⟩) hz
 have hf:=hf i zv hi hzz
 simp only [Array.toArray_toList] at hf
 rcases hpl with ⟨fs,hu,hall,rfl⟩ | ⟨n,e,m,hu,hm,rfl⟩
 ·have hpm:(fs.mapM (fun f:Field=>(do pure (f.offset,←sizeOf f.type):Sem (Nat × Nat)))).run Γ.P w = .ok (fs.map fun f=>(f.offset,(sizeT Γ.P f.type).getD 0)) w:=by
   rw [Array.mapM_eq_mapM_toList]
   have:=run_places Γ.P w fs.toList hall
   rw [Sem.run_map,this,Result.andThen_ok]
   congr 1
   apply Array.ext'
   simp
  have hpe:(fun i=>(fs.map fun f=>(f.offset,(sizeT Γ.P f.type).getD 0))[i]?)=structPlace Γ.P fs.toList:=by
   funext j
   unfold structPlace
   rw [Array.getElem?_map,←Array.getElem?_toList]
   cases hj:fs.toList[j]? with
   | none=>rfl
   | some f=>
     obtain ⟨n,hn⟩:=Option.isSome_iff_exists.1 (hall f (List.mem_of_getElem? hj))
     simp [hn]
  simp only [Instr.build,Sem.run_bind,run_zeroValue' hi hzz,Result.andThen_ok,run_underlying hu]
  simp only [hpm,Result.andThen_ok]
  rw [hpe,hf]
  rfl
 ·simp only [Instr.build,Sem.run_bind,run_zeroValue' hi hzz,Result.andThen_ok,run_underlying hu,bd hm]
  rw [hf]
  rfl
theorem as_some {α:Type} {x:Option α} {F:α→Option (AV × Heap)} {y:AV × Heap} (h:x.bind F=some y):∃ p,x=some p∧F p=some y:=by
 cases x with
 | none=>cases h
 | some p=>exact ⟨p,rfl,h⟩
theorem op_move (hs:SRel Γ base κ H w) (hr:RRel κ r a) {x:Operand} {y:Opd} (hy:compOpd x=some y) (hop:execOp a.eval o=pure (.value (a.eval x))) (he:opK (.mov y) r H (fun v h=>some (v,h))=some (v,H')) :
 OpOK Γ base κ H w o a v H':=by
 simp only [opK] at he
 injection he with he; injection he with h1 h2; subst h1; subst h2
 exact OpOK.same hs (by rw [hop]; rfl) (aJ hr hy)
theorem op_pick (hs:SRel Γ base κ H w) (hr:RRel κ r a) {c x y:Operand} {c' x' y':Opd} (hc:compOpd c=some c') (hx:compOpd x=some x') (hy:compOpd y=some y') (hop:o.op = .pick c x y)
 (he:opK (.pick c' x' y') r H (fun v h=>some (v,h))=some (v,H')):OpOK Γ base κ H w o a v H':=by
 simp only [opK] at he
 have h1:=aJ hr hc
 split at he
 ·rename_i b hb
  rw [hb] at h1
  have hcv:=bool_rel h1
  cases b with
  | true=>
    simp only [cond_true] at he
    injection he with he; injection he with e1 e2; subst e1; subst e2
    exact OpOK.same hs (by simp [execOp,hop,hcv,asBool]) (aJ hr hx)
  | false=>
    simp only [cond_false] at he
    injection he with he; injection he with e1 e2; subst e1; subst e2
    exact OpOK.same hs (by simp [execOp,hop,hcv,asBool]) (aJ hr hy)
 ·cases he
theorem op_alloc (hs:SRel Γ base κ H w) {t:TypeId} {z:List PV} (hz:zeroT Γ.P t=some z) (hop:o.op = .alloc t)
 (he:opK (.alloc z) r H (fun v h=>some (v,h))=some (v,H')):OpOK Γ base κ H w o a v H':=by
 simp only [opK] at he
 injection he with he; injection he with e1 e2; subst e1; subst e2
 obtain ⟨i,zv,hi,hzz,hzr,hz1,_⟩:=zeroT_rel (Γ:=Γ) (κ:=κ) hz
 have:=hs.newP z zv.cells.toList [] t hzr hz1
 simp only [List.append_nil,Array.toArray_toList] at this
 refine RunOK.op (s:=Instr.alloc t true (.tuple #[])) (by simp only [execOp,hop]) ⟨.pointer (some ⟨w.heap.size,0,none⟩),_,_,?_,.ptr _ _ _ (K.at_same _ _ _),this.1,this.2⟩
 simp [Instr.alloc,run_zeroValue' hi hzz,newVar,run_newRow']
theorem op_box (hs:SRel Γ base κ H w) (hr:RRel κ r a) {t:TypeId} {x:Operand} {y:Opd} (hy:compOpd x=some y) (hop:o.op = .box t x)
 (he:opK (.box y) r H (fun v h=>some (v,h))=some (v,H')):OpOK Γ base κ H w o a v H':=by
 simp only [opK] at he
 have hv:=aJ hr hy
 cases hb:boxOf (y.ev r) with
 | none=>rw [hb] at he; cases he
 | some ob=>
   rw [hb] at he; simp only at he
   injection he with he; injection he with e1 e2; subst e1; subst e2
   have hrun:(Instr.box t (a.eval x)).run Γ.P w = .ok (.pointer (some ⟨w.heap.size,0,none⟩)) (w.alloc (.cells (a.eval x).cells t)):=by
    simp [Instr.box,newVar,run_newRow']
   have fin:SRel Γ base (κ.at H.length w.heap.size) (H++[ob]) (w.alloc (.cells (a.eval x).cells t))∧Grow κ H w (κ.at H.length w.heap.size) (H++[ob]) (w.alloc (.cells (a.eval x).cells t)):=by
    have plain:∀ ps,ob = .pcells ps→PRels κ.imm ps (a.eval x).cells.toList→Ones (a.eval x).cells.toList→SRel Γ base (κ.at H.length w.heap.size) (H++[ob]) (w.alloc (.cells (a.eval x).cells t))∧Grow κ H w (κ.at H.length w.heap.size) (H++[ob]) (w.alloc (.cells (a.eval x).cells t)):=by
     intro ps e h1 h2
     subst e
     have:=hs.newP ps (a.eval x).cells.toList [] t h1 h2
     simpa using this
    have any:∀ ps,ob = .cells ps→VRels κ ps (a.eval x).cells.toList→Ones (a.eval x).cells.toList→SRel Γ base (κ.at H.length w.heap.size) (H++[ob]) (w.alloc (.cells (a.eval x).cells t))∧Grow κ H w (κ.at H.length w.heap.size) (H++[ob]) (w.alloc (.cells (a.eval x).cells t)):=by
     intro ps e h1 h2
     subst e
     have:=hs.newC ps (a.eval x).cells.toList [] t h1 h2
     simpa using this
    generalize y.ev r=u at hv hb
    have hnt:u.isTup=false:=by
     cases u with
     | pv p=>cases p<;>first | rfl | simp [boxOf] at hb
     | tup=>simp [boxOf] at hb
     | _=>rfl
    obtain ⟨g1,g2⟩:=cellsOf_rel hv hnt
    cases u with
    | pv p=>
      cases p with
      | agg ps=>
        simp only [boxOf] at hb
        injection hb with hb
        exact plain ps hb.symm (VRels.to_pv g1) g2
      | tup=>simp [boxOf] at hb
      | _=>
        simp only [boxOf] at hb
        injection hb with hb
        exact plain _ hb.symm (VRels.to_pv g1) g2
    | agg cs=>
      simp only [boxOf] at hb
      injection hb with hb
      exact any cs hb.symm g1 g2
    | tup=>simp [boxOf] at hb
    | _=>
      simp only [boxOf] at hb
      injection hb with hb
      exact any _ hb.symm g1 g2
   exact RunOK.op (s:=Instr.box t (a.eval x)) (by simp only [execOp,hop]) ⟨_,_,_,hrun,.ptr _ _ _ (K.at_same _ _ _),fin.1,fin.2⟩
theorem op_build (hs:SRel Γ base κ H w) (hr:RRel κ r a) {t:TypeId} {z:List PV} (hz:zeroT Γ.P t=some z) {parts:Array (Nat × Operand)} {ps:List (Nat × Nat × Opd)} (place:Nat→Option (Nat × Nat))
 (hpl:(∃ fs,Γ.P.underlying t=some (.struct fs)∧(∀ f∈fs.toList,(sizeT Γ.P f.type).isSome=true)∧place=structPlace Γ.P fs.toList) ∨
   (∃ n e m,Γ.P.underlying t=some (.array n e)∧sizeT Γ.P e=some m∧place=fun i=>some (i*m,m)))
 (hc:compParts place z.length parts.toList=some ps) (hop:o.op = .build t parts)
 (he:opK (.build z ps) r H (fun v h=>some (v,h))=some (v,H')):OpOK Γ base κ H w o a v H':=by
 simp only [opK] at he
 obtain ⟨hp,hb⟩:=compParts_rel hr hc
 have hparts:(parts.map fun (i,x)=>(i,a.eval x))=(parts.toList.map fun (i,x)=>(i,a.eval x)).toArray:=by
  apply Array.ext'; simp
 have hrun:∀ (c:List Value),(∀ i zv,Γ.P.info? t=some i→i.zero=some zv→Instr.fill place zv.cells.toList.toArray (parts.toList.map fun (i,x)=>(i,a.eval x))=some c.toArray) →
  (Instr.build t (parts.map fun (i,x)=>(i,a.eval x))).run Γ.P w = .ok (.agg c.toArray) w:=by
  intro c hf
  rw [hparts]
  exact build_run hz place hpl hf
 obtain ⟨i,zv,hi,hzz,hzr,hz1,_⟩:=zeroT_rel (Γ:=Γ) (κ:=κ) hz
 obtain ⟨f1,f2⟩:=fills hp hb hzr hz1
 have uniq:∀ (c:List Value),Instr.fill place zv.cells.toList.toArray (parts.toList.map fun (i,x)=>(i,a.eval x))=some c.toArray→∀ i' zv',Γ.P.info? t=some i'→i'.zero=some zv' →
  Instr.fill place zv'.cells.toList.toArray (parts.toList.map fun (i,x)=>(i,a.eval x))=some c.toArray:=by
  intro c h i' zv' hi' hz'
  rw [hi] at hi'; injection hi' with hi'; subst hi'
  rw [hzz] at hz'; injection hz' with hz'; subst hz'
  exact h
 refine RunOK.op (s:=Instr.build t (parts.map fun (i,x)=>(i,a.eval x))) (by simp only [execOp,hop]) ?_
 cases hq:partsPV (ps.map fun (o,n,x)=>(o,n,x.ev r)) with
 | some qs=>
   rw [hq] at he; simp only at he
   cases hl:fill z qs with
   | none=>rw [hl] at he; cases he
   | some l=>
     rw [hl] at he; simp only at he
     injection he with he; injection he with e1 e2; subst e1; subst e2
     obtain ⟨c,h1,h2,h3,_⟩:=f1 qs l hq hl
     exact RunOK.same hs ⟨_,hrun c (uniq c h1),.pv _ _ (.agg _ _ h2 h3)⟩
 | none=>
   rw [hq] at he; simp only at he
   cases hl:fillA (z.map .pv) (ps.map fun (o,n,x)=>(o,n,x.ev r)) with
   | none=>rw [hl] at he; cases he
   | some l=>
     rw [hl] at he; simp only at he
     injection he with he; injection he with e1 e2; subst e1; subst e2
     obtain ⟨c,h1,h2,h3,_⟩:=f2 l hl
     exact RunOK.same hs ⟨_,hrun c (uniq c h1),.agg _ _ h2 h3⟩
theorem op_buildSlice (hs:SRel Γ base κ H w) (hr:RRel κ r a) {t e:TypeId} (ht:Γ.P.underlying t=some (.slice e)) {z:List PV} (hz:zeroT Γ.P e=some z) {n len:Nat} (hn:sizeT Γ.P e=some n) (hl:len*n≤16777216) (hn0:0<n)
 {parts:Array (Nat × Operand)} {ps:List (Nat × Nat × Opd)} (hc:compParts (fun i=>some (i*n,n)) (len*n) parts.toList=some ps) (hop:o.op = .buildSlice t len parts) {mu:Bool}
 (he:opK (.buildSlice mu n len (zerosOf z len) ps) r H (fun v h=>some (v,h))=some (v,H')):OpOK Γ base κ H w o a v H':=by
 simp only [opK] at he
 obtain ⟨hp,hb⟩:=compParts_rel hr hc
 obtain ⟨i,zv,hi,hzz,hzr,hz1,hzl⟩:=zeroT_rel (Γ:=Γ) (κ:=κ) hz
 have hin:i.size=n:=by simp [sizeT,hi] at hn; exact hn
 have hzs:zv.cells.toList.length=n:=by rw [←hzr.length,hzl,hin]
 have hparts:(parts.map fun (i,x)=>(i,a.eval x)).toList=parts.toList.map fun (i,x)=>(i,a.eval x):=by simp
 have hzn:(zerosOf z len).length=len*n:=by rw [zerosOf_flat]; simp [hzr.length,hzs]
 have hcells:((Array.range (len*n)).map ((if len*n=0 then (#[]:Array Value) else zv.cells)[·% (if len*n=0 then (#[]:Array Value) else zv.cells).size]!))=((List.replicate len zv.cells.toList).flatten).toArray:=by
  by_cases hz0:len*n=0
  ·rw [hz0]
   apply Array.ext'
   have:(List.replicate len zv.cells.toList).flatten=[]:=by
    apply List.eq_nil_of_length_eq_zero
    simp only [List.length_flatten,List.map_replicate,List.sum_replicate_nat,hzs]
    exact hz0
   rw [this]
   simp
  ·simp only [hz0,if_false]
   apply Array.ext'
   have:=zeros_cells zv.cells.toList len
   simp only [hzs,Array.toArray_toList] at this
   simpa using this
 have hrun:∀ (c:List Value),Instr.fill (fun i=>some (i*n,n)) ((List.replicate len zv.cells.toList).flatten).toArray (parts.toList.map fun (i,x)=>(i,a.eval x))=some c.toArray →
  (Instr.buildSlice t len (parts.map fun (i,x)=>(i,a.eval x))).run Γ.P w = .ok (.slice (some ⟨w.heap.size,0,none⟩) len len) (w.alloc (.cells c.toArray e)):=by
  intro c hf
  have hle:¬ (len*n>2 ^ 24):=by omega
  simp only [Instr.buildSlice,Sem.run_bind,run_underlying ht,Result.andThen_ok,bd hn,hle,if_false,hparts]
  by_cases hz0:len*n=0
  ·simp only [hz0,if_true] at hcells ⊢
   simp only [Sem.run_bind,Sem.run_pure,Result.andThen_ok]
   rw [hcells,hf]
   rfl
  ·simp only [hz0,if_false] at hcells ⊢
   simp only [Sem.run_bind,Sem.run_pure,Result.andThen_ok,run_zeroValue' hi hzz]
   rw [hcells,hf]
   rfl
 obtain ⟨f1,f2⟩:=fills (m:=parts.toList.map fun (i,x)=>(i,a.eval x)) (z:=zerosOf z len) (cells:=(List.replicate len zv.cells.toList).flatten) hp (by rw [hzn]; exact hb) (by rw [zerosOf_flat]; exact hzr.flat _) (hz1.flat _)
 refine RunOK.op (s:=Instr.buildSlice t len (parts.map fun (i,x)=>(i,a.eval x))) (by simp only [execOp,hop]) ?_
 cases mu with
 | true=>
   simp only at he
   cases hq:partsPV (ps.map fun (o,n,x)=>(o,n,x.ev r)) with
   | some qs=>
     rw [hq] at he; simp only at he
     cases hlf:fill (zerosOf z len) qs with
     | none=>rw [hlf] at he; cases he
     | some l=>
       rw [hlf] at he; simp only at he
       obtain ⟨c,h1,h2,h3,h4⟩:=f1 qs l hq hlf
       injection he with he; injection he with e1 e2; subst e1; subst e2
       have:=hs.newP l c [] e h2 h3
       simp only [List.append_nil] at this
       exact ⟨_,_,_,hrun c h1,.hs _ _ _ _ _ w.heap.size len (K.at_same _ _ _) (Nat.le_refl _) (Nat.le_refl _),this.1,this.2⟩
   | none=>
     rw [hq] at he; simp only at he
     cases hlf:fillA ((zerosOf z len).map .pv) (ps.map fun (o,n,x)=>(o,n,x.ev r)) with
     | none=>rw [hlf] at he; cases he
     | some l=>
       rw [hlf] at he; simp only at he
       obtain ⟨c,h1,h2,h3,h4⟩:=f2 l hlf
       injection he with he; injection he with e1 e2; subst e1; subst e2
       have:=hs.newC l c [] e h2 h3
       simp only [List.append_nil] at this
       exact ⟨_,_,_,hrun c h1,.hs _ _ _ _ _ w.heap.size len (K.at_same _ _ _) (Nat.le_refl _) (Nat.le_refl _),this.1,this.2⟩
 | false=>
   simp only at he
   cases hq:partsDown (ps.map fun (o,n,x)=>(o,n,x.ev r)) with
   | none=>rw [hq] at he; cases he
   | some qs=>
     rw [hq] at he; simp only at he
     cases hlf:fill (zerosOf z len) qs with
     | none=>rw [hlf] at he; cases he
     | some l=>
       rw [hlf] at he; simp only at he
       obtain ⟨d1,d2⟩:=partsDown_rel hq hp
       obtain ⟨c,h1,h2,h3,h4⟩:=fill_rel qs _ _ (zerosOf z len) l _ d1 (d2 _ (by rw [hzn]; exact parts_bound hb)) (by rw [zerosOf_flat]; exact hzr.flat _) (hz1.flat _) hlf
       injection he with he; injection he with e1 e2; subst e1; subst e2
       obtain ⟨g1,g2,g3⟩:=hs.newRow c e (0,0)
       exact ⟨_,_,_,hrun c h1,.pv _ _ (.sl _ _ _ _ _ c (by simp) (fun _=>rfl) (Nat.le_refl _) (h2.mono (κ.le_keep _ _ _).imm) g3 h3),g1,g2⟩
end
end Go.VM
