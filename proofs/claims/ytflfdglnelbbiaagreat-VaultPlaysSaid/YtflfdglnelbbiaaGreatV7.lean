/-
  Part 7 of an abstract machine that answers as the model does.
  A region that draws its order: whatever order is drawn, it ends as the abstract machine says.
  A region that draws its order: the walk over all orders.
  A region that draws its order: every order walked.
-/
import Derived.Test.YtflfdglnelbbiaaGreatV6
set_option linter.all false
set_option linter.unusedVariables false
set_option linter.unusedSimpArgs false
set_option linter.unusedSectionVars false
namespace Go.VM
open Go
theorem SRel.wake {Γ:Ctx} {base:Nat} {κ:K} {H:Heap} {w:World} (h:SRel Γ base κ H w) {id:Nat} (hi:Idle κ id) (hl:id<H.length) {z:List PV} (hz:hget H id = .pcells z) {c:List Value} (e:TypeId) (hc:PRels κ.imm z c) (h1:Ones c) :
 SRel Γ base (κ.at id w.heap.size) H (w.alloc (.cells c.toArray e)):=by
 have hle:=κ.le_at (k:=w.heap.size) hi.1
 have hp:∀ i o,i≠id→place (κ.at id w.heap.size) i o=place κ i o:=fun i o hne=>by cases o<;>simp [place,K.at,hne]
 have hcell:∀ a v,w.cell? a=some v→(w.alloc (.cells c.toArray e)).cell? a=some v:=fun a v hv=>(World.cell?_of_block (heap_alloc_old w _ _ (block_lt hv))).trans hv
 have hpid:place (κ.at id w.heap.size) id (hget H id)=some w.heap.size:=by rw [hz]; exact K.at_same _ _ _
 refine ⟨fun a v hv=>hcell a v (h.imm a v hv),fun i k hk=>?_,fun i i' k hk hk'=>?_,fun i hi'=>?_,Nat.le_trans h.base (by simp),fun a v hv=>hle.imm a v (h.gv a v hv),fun a ha=>⟨(h.gn a ha).1,(World.cell?_of_block (heap_alloc_old w _ _ (Nat.lt_of_lt_of_le (h.gn a ha).1 h.base))).trans (h.gn a ha).2⟩⟩
 ·by_cases hne:i=id
  ·subst hne
   rw [hpid] at hk
   injection hk with hk; subst hk
   refine ⟨h.base,?_⟩
   rw [hz]
   exact ⟨c,[],e,by simpa using heap_alloc_new w _,hc,fun a ha=>h.imm_none a (by omega),h1⟩
  ·rw [hp i _ hne] at hk
   have hlt:=place_lt h hk
   obtain ⟨g1,g2⟩:=h.obj i k hk
   exact ⟨g1,g2.mono hle (heap_alloc_old w _ k hlt) (fun _ _=>rfl) (fun _=>rfl)⟩
 ·by_cases hne:i=id<;>by_cases hne':i'=id
  ·rw [hne,hne']
  ·subst hne
   rw [hpid] at hk; injection hk with hk; subst hk
   rw [hp _ _ hne'] at hk'
   have:=place_lt h hk'; omega
  ·subst hne'
   rw [hpid] at hk'; injection hk' with hk'; subst hk'
   rw [hp _ _ hne] at hk
   have:=place_lt h hk; omega
  ·rw [hp _ _ hne] at hk; rw [hp _ _ hne'] at hk'
   exact h.inj i i' k hk hk'
 ·obtain ⟨g1,g2⟩:=h.fresh i hi'
  have hne:i≠id:=by omega
  exact ⟨by simp [K.at,hne,g1],g2⟩
theorem Grow.wake {κ0 κ:K} {H0 H:Heap} {w0 w:World} (g:Grow κ0 H0 w0 κ H w) {id:Nat} (hi:Idle κ id) (hl:H0.length≤id) (o:Obj):Grow κ0 H0 w0 (κ.at id w.heap.size) H (w.alloc o):=by
 have hle:=κ.le_at (k:=w.heap.size) hi.1
 refine ⟨K.le_trans g.le hle,Nat.le_trans g.size (by simp),g.len,g.os,g.tape,g.output,fun k hk hn=>?_,fun i k hp=>?_,g.imm,fun i hi' hid=>?_⟩
 ·rw [heap_alloc_old w o k (Nat.lt_of_lt_of_le hk g.size)]; exact g.frame k hk hn
 ·by_cases hne:i=id
  ·subst hne
   have:k=w.heap.size:=by
    cases ho:hget H i with
    | dead=>rw [ho] at hp; cases hp
    | tok n es=>rw [ho] at hp; simp [place,K.at,hi.2] at hp
    | _=>rw [ho] at hp; simp [place,K.at] at hp; exact hp.symm
   exact .inr (by rw [this]; exact g.size)
  ·have:place (κ.at id w.heap.size) i (hget H i)=place κ i (hget H i):=by cases hget H i<;>simp [place,K.at,hne]
   rw [this] at hp
   exact g.places i k hp
 ·obtain ⟨g1,g2⟩:=g.idle i hi' hid
  exact ⟨g1,by simp only [K.at]; rw [if_neg (by omega)]; exact g2.1,g2.2⟩
theorem Marks.wake {sz:Nat} {κ:K} {H:Heap} {w:World} {ds:List Deferred} (h:Marks sz κ H w ds) {id:Nat} (hi:Idle κ id) (o:Obj):Marks sz (κ.at id w.heap.size) H (w.alloc o) ds:=by
 induction h with
 | nil=>exact .nil
 | cons D ds h1 h2 h3 h4 _ ih=>
   have hlt:D<w.heap.size:=(Array.getElem?_eq_some_iff.1 h2).1
   refine .cons D ds h1 (by rw [heap_alloc_old w o D hlt]; exact h2) (fun i hp=>?_) h4 ih
   by_cases hne:i=id
   ·subst hne
    cases ho:hget H i with
    | dead=>rw [ho] at hp; cases hp
    | tok n es=>rw [ho] at hp; simp [place,K.at,hi.2] at hp
    | _=>rw [ho] at hp; simp [place,K.at] at hp; omega
   ·have:place (κ.at id w.heap.size) i (hget H i)=place κ i (hget H i):=by cases hget H i<;>simp [place,K.at,hne]
    rw [this] at hp
    exact h3 i hp
theorem load1_view {R:Type} (id off:Nat) (h:Heap) (F:AV→Option R):load1K (.ptr id off) h F=(readObj (hget h id) off none).bind F:=by
 simp only [load1K,bf]
 cases hget h id<;>simp only [readObj,getK_def,Option.bind_none]
 ·cases lget _ _<;>rfl
 ·rename_i cs; cases cs[off]? <;> rfl
theorem loadN_view {R:Type} (n id off:Nat) (h:Heap) (F:AV→Option R):loadNK n (.ptr id off) h F=(readObj (hget h id) off (some n)).bind F:=by
 simp only [loadNK,bf]
 cases hget h id<;>simp only [readObj,secK_def,Option.bind_none]<;>(rename_i cs; cases Nat.ble (off+n) cs.length<;>rfl)
def alOf:List VOper→Nat→Nat→Option Nat
 | [],_,_=>none
 | v::l,i,t=>match isAl v with
   | some (u,_)=>bif Nat.beq u t then some i else alOf l (i+1) t
   | none=>alOf l (i+1) t
theorem alOf_some:∀ {l:List VOper} {i t j:Nat},alOf l i t=some j→∃ (m:Nat) (v:VOper) (z:AlK),j=i+m∧l[m]? = some v∧isAl v=some (t,z):=by
 intro l
 induction l with
 | nil=>intro i t j h; cases h
 | cons v l ih=>
   intro i t j h
   simp only [alOf] at h
   have more:alOf l (i+1) t=some j→∃ (m:Nat) (v':VOper) (z:AlK),j=i+m∧(v::l)[m]? = some v'∧isAl v'=some (t,z):=by
    intro h
    obtain ⟨m,v',z,h1,h2,h3⟩:=ih h
    exact ⟨m+1,v',z,by omega,by simpa using h2,h3⟩
   split at h
   ·rename_i u z hv
    cases hb:Nat.beq u t with
    | true=>
      rw [hb] at h; simp only [cond_true] at h
      injection h with h
      exact ⟨0,v,z,by omega,rfl,by rw [hv,Nat.eq_of_beq_eq_true hb]⟩
    | false=>rw [hb] at h; exact more h
   ·exact more h
theorem alOf_none:∀ {l:List VOper} {i t:Nat},alOf l i t=none→∀ (m:Nat) (v:VOper) (z:AlK),l[m]? = some v→isAl v≠some (t,z):=by
 intro l
 induction l with
 | nil=>intro i t _ m v z h; simp at h
 | cons v l ih=>
   intro i t h m v' z hm hv
   simp only [alOf] at h
   split at h
   ·rename_i u z' hv'
    cases hb:Nat.beq u t with
    | true=>rw [hb] at h; cases h
    | false=>
      rw [hb] at h
      cases m with
      | zero=>
        simp at hm; subst hm
        rw [hv'] at hv; injection hv with hv; injection hv with hv _; subst hv
        simp at hb
      | succ m=>simp at hm; exact ih h m v' z hm hv
   ·rename_i hv'
    cases m with
    | zero=>simp at hm; subst hm; rw [hv'] at hv; cases hv
    | succ m=>simp at hm; exact ih h m v' z hm hv
theorem isAl_dst' {v:VOper} {t:Nat} {z:AlK} (h:isAl v=some (t,z)):v.dst=some t∧v.guard=none∧((∃ l,z = .z l∧v.op = .alloc l)∨(∃ x,z = .x x∧v.op = .boxH x∧memN x.tmps t=false)∨(∃ es l x,z = .m es l x∧v.op = .mkSliceH es l x∧memN x.tmps t=false)):=by
 unfold isAl at h
 split at h
 ·rename_i h1 h2 h3
  injection h with h; injection h with e1 e2; subst e1; subst e2
  exact ⟨h1,h2,.inl ⟨_,rfl,h3⟩⟩
 ·rename_i x h1 h2 h3
  cases hm:memN x.tmps _ with
  | true=>rw [hm] at h; cases h
  | false=>
    rw [hm] at h
    injection h with h; injection h with e1 e2; subst e1; subst e2
    exact ⟨h1,h2,.inr (.inl ⟨_,rfl,h3,hm⟩)⟩
 ·rename_i es l x h1 h2 h3
  cases hm:memN x.tmps _ with
  | true=>rw [hm] at h; cases h
  | false=>
    rw [hm] at h
    injection h with h; injection h with e1 e2; subst e1; subst e2
    exact ⟨h1,h2,.inr (.inr ⟨_,_,_,rfl,h3,hm⟩)⟩
 ·cases h
theorem isAl_dst {v:VOper} {t:Nat} {z:AlK} (h:isAl v=some (t,z)):v.dst=some t∧v.guard=none:=⟨(isAl_dst' h).1,(isAl_dst' h).2.1⟩
theorem idled_al {v:VOper} {x:Nat × AlK} (h:isAl v=some x):∃ o,idled v=⟨none,none,o⟩ ∧ ∀ md,clsOf md o = .none:=by
 obtain ⟨t,z⟩:=x
 cases z with
 | z l=>exact ⟨.idle,by simp [idled,h],fun _=>rfl⟩
 | x x=>exact ⟨.idleX x,by simp [idled,h],fun _=>rfl⟩
 | m es z x=>exact ⟨.idleX x,by simp [idled,h],fun _=>rfl⟩
theorem idled_no {v:VOper} (h:isAl v=none):idled v=v:=by simp [idled,h]
theorem idled_dst {v:VOper} {t:Nat} (h:(idled v).dst=some t):isAl v=none∧v.dst=some t:=by
 cases hv:isAl v with
 | some x=>obtain ⟨o,h1,_⟩:=idled_al hv; rw [h1] at h; cases h
 | none=>rw [idled_no hv] at h; exact ⟨rfl,h⟩
theorem isEf_idled (md:FuncId→Mode) (v:VOper):isEf md (idled v)=isEf md v:=by
 cases hv:isAl v with
 | some x=>
   have:isEf md v=false:=by unfold isEf; rw [hv]
   obtain ⟨o,h1,h2⟩:=idled_al hv
   have h3:isAl (⟨none,none,o⟩:VOper)=none:=rfl
   rw [h1,this]
   unfold isEf
   rw [h3]
   simp only [h2]
 | none=>rw [idled_no hv]
theorem isEf_ne {md:FuncId→Mode} {v:VOper} (hv:isAl v=none) (h:isEf md v=false):clsOf md v.op ≠ .ef:=by
 intro e
 simp [isEf,hv,e] at h
theorem idled_ne {md:FuncId→Mode} {v:VOper} (h:isEf md (idled v)=false):clsOf md (idled v).op ≠ .ef:=by
 cases hv:isAl v with
 | some x=>obtain ⟨o,h1,h2⟩:=idled_al hv; rw [h1]; show clsOf md o ≠ .ef; rw [h2]; intro e; cases e
 | none=>rw [idled_no hv] at h ⊢; exact isEf_ne hv h
theorem Run.tame {env:Env} {E:Orc} {vs:List VOper} {T:List Ev} {r r2:Regs} {h h2:Heap} (g:Run env E (vs.map idled) r h T r2 h2):Tame env.md (vs.map idled) T:=by
 intro j o e hl hT he
 rcases g.at hl hT with ⟨_,_,h3⟩ | ⟨_,_,_,h3⟩
 ·rw [List.getElem?_map] at hl
  obtain ⟨v,hv,rfl⟩:=map_some hl
  exact operK_keep (idled_ne he) h3
 ·exact h3
end Go.VM
namespace Go.VM
open Go
theorem compOpers_get {P:Program} {mu:Nat→Mu} {n:Nat} {all:List Oper}:∀ {l:List Oper} {i:Nat} {o:Oper},l[i]? = some o→∃ vi,(compOpers P mu n all l)[i]? = some vi ∧
 ((∃ g v,vi=⟨o.dst,g,v⟩∧guardOf all o=some g∧okDst n o.dst=true∧compOp P (mu (o.dst.getD 0)) o.op=some v)∨vi=⟨none,none,.bad⟩):=by
 intro l
 induction l with
 | nil=>intro i o h; simp at h
 | cons o0 l ih=>
   intro i o h
   cases i with
   | zero=>
     simp at h; subst h
     rcases compOpers_cons (P:=P) (mu:=mu) (n:=n) (all:=all) (o:=o0) (l:=l) with ⟨g,v,e,h1,h2,h3⟩ | e
     ·exact ⟨_,by rw [e]; rfl,.inl ⟨g,v,rfl,h1,h2,h3⟩⟩
     ·exact ⟨_,by rw [e]; rfl,.inr rfl⟩
   | succ i=>
     simp at h
     obtain ⟨vi,h1,h2⟩:=ih h
     refine ⟨vi,?_,h2⟩
     rcases compOpers_cons (P:=P) (mu:=mu) (n:=n) (all:=all) (o:=o0) (l:=l) with ⟨g,v,e,_⟩ | e
     ·rw [e]; simpa using h1
     ·rw [e]; simpa using h1
theorem compOpers_length {P:Program} {mu:Nat→Mu} {n:Nat} {all:List Oper}:∀ {l:List Oper},(compOpers P mu n all l).length=l.length:=by
 intro l
 induction l with
 | nil=>rfl
 | cons o l ih=>simp [compOpers,ih]
theorem ranged_iff {preds:List (List Nat)} {i j:Nat}:ranged preds i j=true↔(j<i∧j∈nth preds i)∨(i<j∧i∈nth preds j):=by
 simp only [ranged,Bool.or_eq_true,Bool.and_eq_true,memN_iff]
 constructor
 ·rintro (⟨h1,h2⟩ | ⟨h1,h2⟩)
  ·exact .inl ⟨blt_lt h1,h2⟩
  ·exact .inr ⟨blt_lt h1,h2⟩
 ·rintro (⟨h1,h2⟩ | ⟨h1,h2⟩)
  ·exact .inl ⟨Nat.ble_eq_true_of_le h1,h2⟩
  ·exact .inr ⟨Nat.ble_eq_true_of_le h1,h2⟩
structure Drawn (Γ:Ctx) (env:Env) (E:Orc) (n hlen:Nat) (mu:Nat→Mu) (ops:Array Oper) (vs:List VOper) (preds:List (List Nat)) (pairs:List (Nat × Nat)) (r00 r0:Regs) (H0:Heap) (T:List Ev) (r2:Regs) (h2:Heap) (idf:Nat→Nat):Prop where
 vs_eq:∃ bx ms,vs=(compOpers Γ.P mu n ops.toList ops.toList).map (hb bx ms)
 ok:drawOK env.md vs (ops.toList.map depsOf) preds pairs=true
 run:Run env E (vs.map idled) r0 H0 T r2 h2
 pair:∀ (i j:Nat) (oi:VOper) (ei ej:Ev),(i,j)∈pairs→(vs.map idled)[i]? = some oi→T[i]? = some ei→ei.did=true→T[j]? = some ej→ej.did=true→∀ p m,loadOf oi.op ei.rb=some (p,m) →
  (∃ id off,p = .ptr id off∧readObj (hget ej.hb id) off m=readObj (hget ej.ha id) off m)∨(∃ cs off,p = .rptr cs off)
 al:∀ (j:Nat) (v:VOper) (t:Nat) (z:AlK),vs[j]? = some v→isAl v=some (t,z)→hlen≤idf j∧idf j<H0.length
 inj:∀ (j j':Nat) (v v':VOper) (x x':Nat × AlK),vs[j]? = some v→vs[j']? = some v'→isAl v=some x→isAl v'=some x'→idf j=idf j'→j=j'
 rest:∀ t,alOf vs 0 t=none→r0 t=r00 t
 alz:∀ (j:Nat) (v:VOper) (t:Nat) (z:List PV),vs[j]? = some v→isAl v=some (t,.z z)→r0 t = .ptr (idf j) 0∧hget H0 (idf j) = .pcells z
 alx:∀ (j:Nat) (v:VOper) (t:Nat) (x:Opd) (e:Ev),vs[j]? = some v→isAl v=some (t,.x x)→T[j]? = some e→r0 t = .ptr (idf j) 0 ∧ ∃ p c,x.ev e.rb = .pv p∧cellsP p=some c∧hget H0 (idf j) = .pcells c
 alm:∀ (j:Nat) (v:VOper) (t es:Nat) (z:List PV) (x:Opd) (e:Ev),vs[j]? = some v→isAl v=some (t,.m es z x)→T[j]? = some e→∃ k n,x.ev e.rb = .pv (.int k n)∧0≤n∧n≤1099511627776∧r0 t = .hs es (idf j) 0 n.toNat n.toNat∧hget H0 (idf j) = .pcells (zerosOf z n.toNat)
def regR (vs:List VOper) (T:List Ev) (r00 r0:Regs) (S:St):Regs:=fun t=>match alOf vs 0 t with
 | some j=>bif S j then r0 t else r00 t
 | none=>regS S (vs.map idled) T 0 r0 t
section
variable {Γ:Ctx} {env:Env} {E:Orc} {n hlen:Nat} {mu:Nat→Mu} {ops:Array Oper} {vs:List VOper} {preds:List (List Nat)} {pairs:List (Nat × Nat)} {r00 r0:Regs} {H0:Heap} {T:List Ev} {r2:Regs} {h2:Heap} {idf:Nat→Nat}
variable (D:Drawn Γ env E n hlen mu ops vs preds pairs r00 r0 H0 T r2 h2 idf)
include D
theorem Drawn.vlen:vs.length=ops.size:=by obtain ⟨bx,ms,h⟩:=D.vs_eq; rw [h,List.length_map,compOpers_length]; simp
theorem Drawn.tlen:T.length=ops.size:=by rw [D.run.len]; simp [D.vlen]
theorem Drawn.pre {i:Nat} {vi:VOper} (hi:vs[i]? = some vi):alone (ops.toList.map depsOf) preds i=true:=by
 have:=allFrom_get D.ok hi
 rw [Nat.zero_add,Bool.and_eq_true] at this
 exact this.1
theorem Drawn.two {i j:Nat} {vi vj:VOper} (hi:vs[i]? = some vi) (hj:vs[j]? = some vj) (hne:i≠j):both env.md preds pairs i vi j vj=true:=by
 have:=allFrom_get D.ok hi
 rw [Nat.zero_add,Bool.and_eq_true] at this
 have:=allFrom_get this.2 hj
 rw [Nat.zero_add,Bool.or_eq_true] at this
 rcases this with h | h
 ·exact absurd (Nat.eq_of_beq_eq_true h) hne
 ·exact h
theorem Drawn.c2 {i j t:Nat} {vi vj:VOper} (hi:vs[i]? = some vi) (hj:vs[j]? = some vj) (hne:i≠j) (hd:vj.dst=some t) (ht:t∈vi.names):(j<i∧j∈nth preds i)∨(i<j∧i∈nth preds j):=by
 have:=D.two hi hj hne
 simp only [both,Bool.and_eq_true,hd,memN_iff.2 ht,Bool.not_true,Bool.false_or] at this
 exact ranged_iff.1 this.1.1.1
theorem Drawn.c3 {i j t:Nat} {z:AlK} {vi vj:VOper} (hi:vs[i]? = some vi) (hj:vs[j]? = some vj) (hne:i≠j) (ha:isAl vj=some (t,z)):(t∈vi.names→j<i∧j∈nth preds i)∧vi.dst≠some t:=by
 have:=D.two hi hj hne
 simp only [both,Bool.and_eq_true,ha] at this
 obtain ⟨⟨⟨_,h1,h3⟩,_⟩,_⟩:=this
 constructor
 ·intro ht
  rw [memN_iff.2 ht] at h1
  simp only [Bool.not_true,Bool.false_or,Bool.and_eq_true,memN_iff] at h1
  exact ⟨blt_lt h1.1,h1.2⟩
 ·intro hd
  rw [hd] at h3
  simp at h3
theorem Drawn.c4 {i j:Nat} {vi vj:VOper} (hi:vs[i]? = some vi) (hj:vs[j]? = some vj) (hne:i≠j) (h1:isEf env.md vi=true) (h3:isEf env.md vj=true):(j<i∧j∈nth preds i)∨(i<j∧i∈nth preds j):=by
 have:=D.two hi hj hne
 simp only [both,Bool.and_eq_true,h1,h3,Bool.and_self,Bool.not_true,Bool.false_or] at this
 exact ranged_iff.1 this.1.2
theorem Drawn.c5 {i j:Nat} {vi vj:VOper} (hi:vs[i]? = some vi) (hj:vs[j]? = some vj) (hne:i≠j) (h1:isRd env.md vi=true) (h3:isEf env.md vj=true):((j<i∧j∈nth preds i)∨(i<j∧i∈nth preds j))∨(i,j)∈pairs:=by
 have:=D.two hi hj hne
 simp only [both,Bool.and_eq_true,h1,h3,Bool.and_self,Bool.not_true,Bool.false_or,Bool.or_eq_true,memP_iff] at this
 rcases this.2 with h | h
 ·exact .inl (ranged_iff.1 h)
 ·exact .inr h
theorem Drawn.preLt {i d:Nat} {vi:VOper} (hi:vs[i]? = some vi) (hd:d∈nth (ops.toList.map depsOf) i):d<i:=by
 have:=D.pre hi
 simp only [alone,Bool.and_eq_true,List.all_eq_true] at this
 exact blt_lt (this.1 d hd)
theorem Drawn.preVia {i p:Nat} {vi:VOper} (hi:vs[i]? = some vi) (hp:p∈nth preds i):p∈nth (ops.toList.map depsOf) i ∨ ∃ d∈nth (ops.toList.map depsOf) i,p∈nth preds d:=by
 have:=D.pre hi
 simp only [alone,Bool.and_eq_true,List.all_eq_true] at this
 have:=this.2 p hp
 simp only [Bool.or_eq_true,memN_iff,List.any_eq_true] at this
 exact this
def Closed (ops:Array Oper) (S:St):Prop:=(∀ j,S j=true→j<ops.size) ∧ ∀ j,S j=true→∀ d∈nth (ops.toList.map depsOf) j,S d=true
omit D in
theorem Closed.mono {S:St} (h:Closed ops S) {i:Nat} (hi:i<ops.size) (hd:∀ d∈nth (ops.toList.map depsOf) i,S d=true):Closed ops (S.add i):=by
 constructor
 ·intro j hj
  by_cases e:j=i
  ·rw [e]; exact hi
  ·rw [St.add_other e] at hj; exact h.1 j hj
 ·intro j hj d hd'
  have:S d=true:=by
   by_cases e:j=i
   ·subst e; exact hd d hd'
   ·rw [St.add_other e] at hj; exact h.2 j hj d hd'
  by_cases e:d=i
  ·rw [e]; exact St.add_same _ _
  ·rw [St.add_other e]; exact this
theorem Drawn.get {i:Nat} (h:i<ops.size):∃ vi,vs[i]? = some vi:=⟨vs[i]'(by rw [D.vlen]; exact h),by simp⟩
theorem Drawn.closed {S:St} (hc:Closed ops S):∀ j,S j=true→∀ p∈nth preds j,S p=true:=by
 intro j
 induction j using Nat.strongRecOn with
 | _ j ih=>
   intro hj p hp
   obtain ⟨vi,hvi⟩:=D.get (hc.1 j hj)
   rcases D.preVia hvi hp with h | ⟨d,hd,hpd⟩
   ·exact hc.2 j hj p h
   ·exact ih d (D.preLt hvi hd) (hc.2 j hj d hd) p hpd
theorem Drawn.readyPre {S:St} (hc:Closed ops S) {i:Nat} {vi:VOper} (hi:vs[i]? = some vi) (hd:∀ d∈nth (ops.toList.map depsOf) i,S d=true):∀ p∈nth preds i,S p=true:=by
 intro p hp
 rcases D.preVia hi hp with h | ⟨d,h1,h3⟩
 ·exact hd p h
 ·exact D.closed hc d (hd d h1) p h3
theorem Drawn.sides {S:St} (hc:Closed ops S) {i j:Nat} {vi:VOper} (hi:vs[i]? = some vi) (hd:∀ d∈nth (ops.toList.map depsOf) i,S d=true) (hn:S i=false)
 (h:(j<i∧j∈nth preds i)∨(i<j∧i∈nth preds j)):(j<i∧S j=true)∨(i<j∧S j=false):=by
 rcases h with ⟨h1,h3⟩ | ⟨h1,h3⟩
 ·exact .inl ⟨h1,D.readyPre hc hi hd j h3⟩
 ·refine .inr ⟨h1,?_⟩
  cases hs:S j with
  | false=>rfl
  | true=>have:=D.closed hc j hs i h3; rw [hn] at this; cases this
theorem Drawn.idl {j:Nat} {o:VOper} (h:(vs.map idled)[j]? = some o):∃ v,vs[j]? = some v∧o=idled v:=by
 rw [List.getElem?_map] at h
 obtain ⟨v,h1,h3⟩:=map_some h
 exact ⟨v,h1,h3.symm⟩
theorem Drawn.reg {S:St} (hc:Closed ops S) {i t:Nat} {vi:VOper} {e:Ev} (hi:vs[i]? = some vi) (hT:T[i]? = some e) (hna:∀ z,isAl vi≠some (t,z)) (hd:∀ d∈nth (ops.toList.map depsOf) i,S d=true) (hn:S i=false)
 (ht:t∈vi.names):regR vs T r00 r0 S t=e.rb t:=by
 unfold regR
 cases hal:alOf vs 0 t with
 | some j=>
   obtain ⟨m,v,z,h1,h3,h4⟩:=alOf_some hal
   rw [Nat.zero_add] at h1; subst h1
   have hne:i≠j:=fun e=>by subst e; rw [hi] at h3; injection h3 with h3; subst h3; exact hna _ h4
   have hS:S j=true:=by
    have:=(D.c3 hi h3 hne h4).1 ht
    exact D.readyPre hc hi hd j this.2
   simp only [hS,cond_true]
   rw [←D.run.reg (S:=fun _=>false) (k:=0) (r:=r0) hT rfl fun j' o ho hdo=>?_]
   ·exact (regS_skip (S:=fun _=>false) fun _ _ _ h=>by cases h).symm
   ·exfalso
    obtain ⟨v',hv',rfl⟩:=D.idl ho
    obtain ⟨hna',hd'⟩:=idled_dst hdo
    have hne':j'≠j:=fun e=>by subst e; rw [hv'] at h3; injection h3 with h3; subst h3; rw [hna'] at h4; cases h4
    exact (D.c3 hv' h3 hne' h4).2 hd'
 | none=>
   refine D.run.reg (k:=0) hT rfl fun j o ho hdo=>?_
   rw [Nat.zero_add]
   obtain ⟨v',hv',rfl⟩:=D.idl ho
   obtain ⟨_,hd'⟩:=idled_dst hdo
   by_cases hne:i=j
   ·subst hne; exact ⟨fun h=>absurd h (Nat.lt_irrefl _),fun _=>hn⟩
   ·rcases D.sides hc hi hd hn (D.c2 hi hv' hne hd' ht) with ⟨h1,h3⟩ | ⟨h1,h3⟩
    ·exact ⟨fun _=>h3,fun h=>by omega⟩
    ·exact ⟨fun h=>by omega,fun _=>h3⟩
theorem Drawn.regAdd {S:St} (hc:Closed ops S) {i:Nat} {vi:VOper} {e:Ev} (hi:vs[i]? = some vi) (hT:T[i]? = some e) (hna:isAl vi=none) (hd:∀ d∈nth (ops.toList.map depsOf) i,S d=true) (hn:S i=false) :
 regR vs T r00 r0 (S.add i)=put (regR vs T r00 r0 S) vi.dst e.v:=by
 have hadd:=regS_add (S:=S) (l:=vs.map idled) (T:=T) (k:=0) (m:=i) (r:=r0) (o:=idled vi) (e:=e) (by rw [List.getElem?_map,hi]; rfl) hT (by rw [Nat.zero_add]; exact hn) (fun j o' hj hlt hs t ht hd'=>by
  rw [Nat.zero_add] at hs
  obtain ⟨v',hv',rfl⟩:=D.idl hj
  rw [idled_no hna] at ht
  obtain ⟨_,hd'⟩:=idled_dst hd'
  rcases D.sides hc hi hd hn (D.c2 hi hv' (by omega) hd' (by simp [VOper.names,ht])) with ⟨h1,h3⟩ | ⟨h1,h3⟩
  ·omega
  ·rw [hs] at h3; cases h3)
 rw [Nat.zero_add,idled_no hna] at hadd
 funext t
 cases hal:alOf vs 0 t with
 | some j=>
   obtain ⟨m,v,z,h1,h3,h4⟩:=alOf_some hal
   rw [Nat.zero_add] at h1; subst h1
   have hne:i≠j:=fun e=>by subst e; rw [hi] at h3; injection h3 with h3; subst h3; rw [hna] at h4; cases h4
   rw [bi (D.c3 hi h3 hne h4).2]
   simp only [regR,hal,St.add_other (Ne.symm hne)]
 | none=>
   have h1:regR vs T r00 r0 (S.add i) t=regS (S.add i) (vs.map idled) T 0 r0 t:=by simp only [regR,hal]
   rw [h1,hadd]
   by_cases hdt:vi.dst=some t
   ·rw [hdt,put_same,put_same]
   ·rw [bi hdt,bi hdt]
    simp only [regR,hal]
theorem Drawn.regAl {S:St} {i t0:Nat} {z:AlK} {vi:VOper} {e:Ev} (hi:vs[i]? = some vi) (hT:T[i]? = some e) (ha:isAl vi=some (t0,z)) (hn:S i=false) :
 regR vs T r00 r0 (S.add i)=put (regR vs T r00 r0 S) (some t0) (r0 t0):=by
 obtain ⟨oi,hio,_⟩:=idled_al ha
 have hadd:=regS_add (S:=S) (l:=vs.map idled) (T:=T) (k:=0) (m:=i) (r:=r0) (o:=idled vi) (e:=e) (by rw [List.getElem?_map,hi]; rfl) hT (by rw [Nat.zero_add]; exact hn) (fun j o' hj hlt hs t ht=>by
  rw [hio] at ht; cases ht)
 rw [Nat.zero_add,hio] at hadd
 funext t
 cases hal:alOf vs 0 t with
 | some j=>
   obtain ⟨m,v,z',h1,h3,h4⟩:=alOf_some hal
   rw [Nat.zero_add] at h1; subst h1
   by_cases hne:i=j
   ·subst hne
    rw [hi] at h3; injection h3 with h3; subst h3
    rw [ha] at h4; injection h4 with h4; injection h4 with h4 _; subst h4
    rw [put_same]
    simp only [regR,hal,St.add_same,cond_true]
   ·have hne':t≠t0:=fun e=>by
     subst e
     exact (D.c3 hi h3 hne h4).2 (isAl_dst ha).1
    rw [bi (fun e=>hne' (by injection e with e; exact e.symm))]
    simp only [regR,hal,St.add_other (Ne.symm hne)]
 | none=>
   have hne':t≠t0:=fun e=>by
    subst e
    exact alOf_none hal i vi z hi ha
   rw [bi (fun e=>hne' (by injection e with e; exact e.symm))]
   simp only [regR,hal]
   rw [hadd]
   rfl
theorem Drawn.regAll {S:St} (hall:∀ j,j<ops.size→S j=true):regR vs T r00 r0 S=r2:=by
 funext t
 have h0:regS S (vs.map idled) T 0 r0 t=r2 t:=D.run.regAll rfl fun j o hj=>by
  rw [Nat.zero_add]
  exact hall j (by rw [←D.vlen]; have:=(List.getElem?_eq_some_iff.1 hj).1; simpa using this)
 unfold regR
 cases hal:alOf vs 0 t with
 | some j=>
   obtain ⟨m,v,z,h1,h3,h4⟩:=alOf_some hal
   rw [Nat.zero_add] at h1; subst h1
   simp only [hall j (by rw [←D.vlen]; exact (List.getElem?_eq_some_iff.1 h3).1),cond_true]
   rw [←h0]
   exact (regS_skip fun j' o ho _ hdo=>by
    obtain ⟨v',hv',rfl⟩:=D.idl ho
    obtain ⟨hna',hd'⟩:=idled_dst hdo
    have hne':j'≠j:=fun e=>by subst e; rw [hv'] at h3; injection h3 with h3; subst h3; rw [hna'] at h4; cases h4
    exact (D.c3 hv' h3 hne' h4).2 hd').symm
 | none=>exact h0
theorem Drawn.effRange {i j:Nat} {oi oj:VOper} (hi:(vs.map idled)[i]? = some oi) (hj:(vs.map idled)[j]? = some oj) (hne:i≠j) (h1:isEf env.md oi=true) (h3:isEf env.md oj=true):(j<i∧j∈nth preds i)∨(i<j∧i∈nth preds j):=by
 obtain ⟨v,hv,rfl⟩:=D.idl hi
 obtain ⟨v',hv',rfl⟩:=D.idl hj
 rw [isEf_idled] at h1 h3
 exact D.c4 hv hv' hne h1 h3
theorem Drawn.heapEf {S:St} (hc:Closed ops S) {i:Nat} {vi:VOper} {e:Ev} (hi:vs[i]? = some vi) (hT:T[i]? = some e) (hd:∀ d∈nth (ops.toList.map depsOf) i,S d=true) (hn:S i=false) (hef:isEf env.md vi=true) :
 heapS env.md S (vs.map idled) T 0 H0=e.hb∧heapS env.md (S.add i) (vs.map idled) T 0 H0=e.ha:=by
 have hli:(vs.map idled)[i]? = some (idled vi):=by rw [List.getElem?_map,hi]; rfl
 have side:∀ j o,(vs.map idled)[j]? = some o→isEf env.md o=true→(j<i→S j=true)∧(i<j→S j=false):=by
  intro j o hj ho
  by_cases hne:i=j
  ·subst hne; exact ⟨fun h=>absurd h (Nat.lt_irrefl _),fun h=>absurd h (Nat.lt_irrefl _)⟩
  ·rcases D.sides hc hi hd hn (D.effRange hli hj hne (by rw [isEf_idled]; exact hef) ho) with ⟨h1,h3⟩ | ⟨h1,h3⟩
   ·exact ⟨fun _=>h3,fun h=>by omega⟩
   ·exact ⟨fun h=>by omega,fun _=>h3⟩
 constructor
 ·refine D.run.heap D.run.tame hT fun j o hj ho=>?_
  rw [Nat.zero_add]
  refine ⟨(side j o hj ho).1,fun hle=>?_⟩
  rcases Nat.lt_or_ge i j with h | h
  ·exact (side j o hj ho).2 h
  ·have:j=i:=by omega
   rw [this]; exact hn
 ·refine D.run.heapAfter D.run.tame hT fun j o hj ho=>?_
  rw [Nat.zero_add]
  constructor
  ·intro hle
   by_cases hne:j=i
   ·rw [hne]; exact St.add_same _ _
   ·rw [St.add_other hne]; exact (side j o hj ho).1 (by omega)
  ·intro hlt
   rw [St.add_other (by omega)]; exact (side j o hj ho).2 hlt
theorem Drawn.heapNo {S:St} {i:Nat} {vi:VOper} (hi:vs[i]? = some vi) (hef:isEf env.md vi=false):heapS env.md (S.add i) (vs.map idled) T 0 H0=heapS env.md S (vs.map idled) T 0 H0:=by
 refine heapS_congr fun j o hj ho=>?_
 rw [Nat.zero_add]
 refine St.add_other fun e=>?_
 subst e
 obtain ⟨v,hv,rfl⟩:=D.idl hj
 rw [hi] at hv; injection hv with hv; subst hv
 rw [isEf_idled,hef] at ho; cases ho
theorem Drawn.heapAll {S:St} (hall:∀ j,j<ops.size→S j=true):heapS env.md S (vs.map idled) T 0 H0=h2:=D.run.heapAll D.run.tame fun j o hj=>by
 rw [Nat.zero_add]
 exact hall j (by rw [←D.vlen]; have:=(List.getElem?_eq_some_iff.1 hj).1; simpa using this)
theorem Drawn.look {S:St} (hc:Closed ops S) {i:Nat} {vi:VOper} {e:Ev} (hi:vs[i]? = some vi) (hT:T[i]? = some e) (hd:∀ d∈nth (ops.toList.map depsOf) i,S d=true) (hn:S i=false) (hrd:isRd env.md vi=true) (hna:isAl vi=none) (hdid:e.did=true)
 {id off:Nat} {m:Option Nat} (hl:loadOf vi.op e.rb=some (.ptr id off,m)):readObj (hget (heapS env.md S (vs.map idled) T 0 H0) id) off m=readObj (hget e.hb id) off m:=by
 have hli:(vs.map idled)[i]? = some vi:=by rw [List.getElem?_map,hi]; simp [idled_no hna]
 refine D.run.look (fun h=>readObj (hget h id) off m) (S:=S) D.run.tame hT rfl (.inl rfl) (fun j j' o o' hj hj' h1 h3 hlt hs=>?_) (fun j o ej hj hTj hef=>?_)
 ·rw [Nat.zero_add] at hs ⊢
  rcases D.effRange hj' hj (by omega) h3 h1 with ⟨_,h4⟩ | ⟨h4,_⟩
  ·exact D.closed hc j' hs j h4
  ·omega
 ·rw [Nat.zero_add]
  obtain ⟨vj,hvj,rfl⟩:=D.idl hj
  have hef':=hef
  rw [isEf_idled] at hef
  by_cases hne:i=j
  ·subst hne
   rw [hi] at hvj; injection hvj with hvj; subst hvj
   exfalso
   have:clsOf env.md vi.op = .ef:=by
    unfold isEf at hef
    rw [hna] at hef
    simp only at hef
    split at hef
    ·assumption
    ·cases hef
   unfold isRd at hrd
   rw [this] at hrd; cases hrd
  ·rcases D.c5 hi hvj hne hrd hef with hrg | hpr
   ·rcases D.sides hc hi hd hn hrg with ⟨h1,h3⟩ | ⟨h1,h3⟩
    ·exact ⟨fun _ h=>(by rw [h3] at h; cases h),fun h=>by omega⟩
    ·exact ⟨fun h=>by omega,fun _ h=>(by rw [h3] at h; cases h)⟩
   ·have key:readObj (hget ej.hb id) off m=readObj (hget ej.ha id) off m:=by
     rcases D.run.at hj hTj with ⟨hdj,_,_⟩ | ⟨_,_,_,h4⟩
     ·rcases D.pair i j _ e ej hpr hli hT hdid hTj hdj _ _ hl with ⟨id',off',h5,h6⟩ | ⟨cs,off',h5⟩
      ·injection h5 with e1 e2; subst e1; subst e2; exact h6
      ·cases h5
     ·rw [h4]
    exact ⟨fun _ _=>key,fun _ _=>key⟩
end
end Go.VM
namespace Go.VM
open Go
section
variable {Γ:Ctx} {env:Env} {E:Orc} {n hlen:Nat} {mu:Nat→Mu} {ops:Array Oper} {vs:List VOper} {preds:List (List Nat)} {pairs:List (Nat × Nat)} {r00 r0:Regs} {H0:Heap} {T:List Ev} {r2:Regs} {h2:Heap} {idf:Nat→Nat}
theorem nth_deps (ops:Array Oper) {i:Nat} {o:Oper} (h:ops[i]? = some o):nth (ops.toList.map depsOf) i=depsOf o:=by
 unfold nth
 rw [lget_eq,List.getElem?_map,Array.getElem?_toList,h]
 rfl
theorem depsOf_iff {o:Oper} {d:Nat}:d∈depsOf o ↔ ∃ e∈o.after,Region.binds .any e=true∧e.on=d:=by
 unfold depsOf
 simp only [List.mem_map,List.mem_filter,Array.mem_toList_iff]
 constructor
 ·rintro ⟨e,⟨h1,h3⟩,h4⟩; exact ⟨e,h1,h3,h4⟩
 ·rintro ⟨e,h1,h3,h4⟩; exact ⟨e,⟨h1,h3⟩,h4⟩
def setOf (listed:Array Bool):St:=fun j=>listed.getD j false
theorem setOf_add {listed:Array Bool} {i:Nat} (hi:i<listed.size):setOf (listed.setIfInBounds i true)=(setOf listed).add i:=by
 funext j
 by_cases h:j=i
 ·subst h
  rw [St.add_same]
  simp [setOf,Array.getD,hi]
 ·rw [St.add_other h]
  unfold setOf
  exact getD_set_ne false (Ne.symm h)
def DInv (Γ:Ctx) (env:Env) (base sz n:Nat) (ops:Array Oper) (vs:List VOper) (r00 r0:Regs) (H0:Heap) (T:List Ev) (idf:Nat→Nat) (κ0:K) (Hs:Heap) (w0:World) (listed:Array Bool) (a:Act) (w:World):Prop:=
 listed.size=ops.size∧Closed ops (setOf listed) ∧ ∃ κ,Conf Γ base sz n κ (heapS env.md (setOf listed) (vs.map idled) T 0 H0) w (regR vs T r00 r0 (setOf listed)) a ∧
  Grow κ0 Hs w0 κ (heapS env.md (setOf listed) (vs.map idled) T 0 H0) w ∧
  ∀ (j:Nat) (v:VOper) (t:Nat) (z:AlK),vs[j]? = some v→isAl v=some (t,z)→setOf listed j=false→Idle κ (idf j)∧idf j<(heapS env.md (setOf listed) (vs.map idled) T 0 H0).length∧hget (heapS env.md (setOf listed) (vs.map idled) T 0 H0) (idf j)=hget H0 (idf j)
theorem loadOf_rd {md:FuncId→Mode} {v:VOper} (h:isRd md v=true):(∃ p,v.op = .load1 p)∨(∃ m p,v.op = .loadN m p):=by
 unfold isRd at h
 have hc:clsOf md v.op = .rd:=by
  cases hcl:clsOf md v.op<;>rw [hcl] at h<;>first | rfl | cases h
 cases hop:v.op<;>rw [hop] at hc<;>simp only [clsOf] at hc<;>try (cases hc; done)
 case load1 p=>exact .inl ⟨p,rfl⟩
 case loadN m p=>exact .inr ⟨m,p,rfl⟩
 case mkSlice mu _ _ _ _=>cases mu<;>cases hc
 case buildSlice mu _ _ _ _=>cases mu<;>cases hc
 case call f _=>split at hc<;>cases hc
theorem Drawn.same (D:Drawn Γ env E n hlen mu ops vs preds pairs r00 r0 H0 T r2 h2 idf) {S:St} (hc:Closed ops S) {i:Nat} {vi:VOper} {e:Ev} (hi:vs[i]? = some vi) (hT:T[i]? = some e) (hna:isAl vi=none) (hd:∀ d∈nth (ops.toList.map depsOf) i,S d=true) (hn:S i=false)
 (hdid:e.did=true) (he:operK env E vi.op e.rb e.hb (fun v h=>some (v,h))=some (e.v,e.ha)) :
 operK env E vi.op (regR vs T r00 r0 S) (heapS env.md S (vs.map idled) T 0 H0) (fun v h=>some (v,h))=some (e.v,heapS env.md (S.add i) (vs.map idled) T 0 H0):=by
 have hreg:∀ t∈vi.op.tmps,regR vs T r00 r0 S t=e.rb t:=fun t ht=>D.reg hc hi hT (fun z e=>by rw [hna] at e; cases e) hd hn (by simp [VOper.names,ht])
 rw [operK_congr hreg]
 cases hef:isEf env.md vi with
 | true=>
   obtain ⟨h1,h3⟩:=D.heapEf hc hi hT hd hn hef
   rw [h1,h3]; exact he
 | false=>
   rw [D.heapNo hi hef]
   have hne:=isEf_ne hna hef
   have hk:=operK_keep hne he
   cases hcl:clsOf env.md vi.op with
   | ef=>exact absurd hcl hne
   | none=>
     rw [operK_none hcl _ e.hb e.hb] at he
     rw [operK_none hcl _ _ e.hb]
     obtain ⟨v1,g1,g2,g3⟩:=operK_inv he
     injection g3 with g3; injection g3 with g3 _; subst g3
     have:operK env E vi.op e.rb e.hb (fun v _=>some (v,heapS env.md S (vs.map idled) T 0 H0))=(operK env E vi.op e.rb e.hb (fun v h=>some (v,h))).bind fun p=>some (p.1,heapS env.md S (vs.map idled) T 0 H0):=by rw [operK_bind]; rfl
     rw [this,g2]
     rfl
   | rd=>
     have hrd:isRd env.md vi=true:=by unfold isRd; rw [hcl]
     rcases loadOf_rd hrd with ⟨p,hop⟩ | ⟨m,p,hop⟩
     ·rw [hop] at he ⊢
      simp only [operK,opK] at he ⊢
      cases hp:p.ev e.rb with
      | ptr id off=>
        rw [hp] at he
        rw [load1_view] at he ⊢
        rw [D.look hc hi hT hd hn hrd hna hdid (id:=id) (off:=off) (m:=none) (by rw [hop]; simp [loadOf,hp])]
        obtain ⟨q,g1,g2⟩:=bind_pair he
        injection g2 with g2 _; subst g2
        rw [g1]; rfl
      | rptr cs off=>
        rw [hp] at he
        simp only [load1K,getK_def] at he ⊢
        obtain ⟨q,g1,g2⟩:=bind_pair he
        injection g2 with g2 _
        rw [g1,←g2]; rfl
      | _=>rw [hp] at he; cases he
     ·rw [hop] at he ⊢
      simp only [operK,opK] at he ⊢
      cases hp:p.ev e.rb with
      | ptr id off=>
        rw [hp] at he
        rw [loadN_view] at he ⊢
        rw [D.look hc hi hT hd hn hrd hna hdid (id:=id) (off:=off) (m:=some m) (by rw [hop]; simp [loadOf,hp])]
        obtain ⟨q,g1,g2⟩:=bind_pair he
        injection g2 with g2 _; subst g2
        rw [g1]; rfl
      | rptr cs off=>
        rw [hp] at he
        simp only [loadNK,secK_def] at he ⊢
        cases hb:Nat.ble (off+m) cs.length with
        | false=>rw [hb] at he; cases he
        | true=>
          rw [hb] at he
          simp only [cond_true] at he ⊢
          injection he with he; injection he with he _
          rw [he]
      | _=>rw [hp] at he; cases he
theorem alloc_step {κ:K} {base sz:Nat} {H:Heap} {w:World} {r:Regs} {a:Act} {o:Oper} {ty:TypeId} {z:List PV} (hcf:Conf Γ base sz n κ H w r a) (hop:o.op = .alloc ty) (hz:zeroT Γ.P ty=some z) {id:Nat} (hi:Idle κ id) (hl:id<H.length) (hh:hget H id = .pcells z)
 (ro:Option Nat) {t:Nat} (hdst:o.dst=some t) (hok:okDst n o.dst=true) (K:Act→World→Prop) (Q:Exit→Act→World→Prop)
 (hK:∀ a' ob,Conf Γ base sz n (κ.at id w.heap.size) H (w.alloc ob) (put r (some t) (.ptr id 0)) a'→K a' (w.alloc ob)):o.wpIn (wideR ro) 0 Γ.P a w K Q:=by
 obtain ⟨i,zv,hi',hzz,hzr,hz1,_⟩:=zeroT_rel (Γ:=Γ) (κ:=κ) hz
 have hs:=hcf.srel.wake hi hl hh ty hzr hz1
 simp only [Array.toArray_toList] at hs
 have hrun:(execOp a.eval o).run Γ.P w = .ok (.value (.pointer (some ⟨w.heap.size,0,none⟩))) (w.alloc (.cells zv.cells ty)):=by
  simp [execOp,hop,Instr.alloc,run_zeroValue' hi' hzz,newVar,run_newRow']
 refine ⟨fun _ _=>trivial,?_⟩
 rw [Oper.semAt_eq _ _ _ (fun c e=>by rw [hop] at e; cases e),hrun,Oper.uponIn_value]
 refine hK _ (.cells zv.cells ty) ⟨hs,?_,by rw [put_size]; exact hcf.size,by rw [put_defers]; exact hcf.marks.wake hi _⟩
 rw [hdst]
 exact (hcf.regs.mono (κ.le_at hi.1)).put hcf.size (d:=some t) (by rw [←hdst]; exact hok) (.ptr _ _ _ (Go.VM.K.at_same _ _ _))
theorem compOp_boxH {P:Program} {mu:Mu} {op:Op} {x:Opd} (hop:compOp P mu op=some (.boxH x)):False:=by
 cases hoo:op with
 | alloc ty=>
   skip
   rw [hoo] at hop
   obtain ⟨y,hy,hyy⟩:=map_some hop
   cases hyy
 | box ty y=>
   skip
   rw [hoo] at hop
   obtain ⟨y,hy,hyy⟩:=map_some hop
   cases hyy
 | call c=>
   skip
   rw [hoo] at hop
   simp only [compOp] at hop
   split at hop
   ·split at hop
    ·split at hop
     ·rw [Bool.cond_eq_ite] at hop; split at hop
      ·cases hop
      ·cases hop
     ·cases hop
    ·obtain ⟨_,_,h⟩:=map_some hop; cases h
    ·unfold compBuiltin at hop
     repeat' split at hop
     all_goals first
      | (cases hop; done)
      | (rw [Bool.cond_eq_ite] at hop; split at hop<;>cases hop)
    ·cases hop
   ·cases hop
 | makeFunc fn p q=>
   skip
   rw [hoo] at hop
   cases fn with
   | func f=>
     simp only [compOp] at hop
     split at hop<;>cases hop
   | _=>simp [compOp] at hop
 | _=>
   skip
   rw [hoo] at hop
   simp only [compOp,compUpd] at hop
   repeat' split at hop
   all_goals (try (rw [Bool.cond_eq_ite] at hop; split at hop))
   all_goals (try (rw [Bool.cond_eq_ite] at hop; split at hop))
   all_goals first
    | (cases hop; done)
    | (injection hop with hop; cases hop; done)
    | (obtain ⟨_,_,h⟩:=map_some hop; cases h; done)
theorem compOp_mkSliceH {P:Program} {mu:Mu} {op:Op} {es:Nat} {z:List PV} {x:Opd} (hop:compOp P mu op=some (.mkSliceH es z x)):False:=by
 cases hoo:op with
 | alloc ty=>
   skip
   rw [hoo] at hop
   obtain ⟨y,hy,hyy⟩:=map_some hop
   cases hyy
 | box ty y=>
   skip
   rw [hoo] at hop
   obtain ⟨y,hy,hyy⟩:=map_some hop
   cases hyy
 | call c=>
   skip
   rw [hoo] at hop
   simp only [compOp] at hop
   split at hop
   ·split at hop
    ·split at hop
     ·rw [Bool.cond_eq_ite] at hop; split at hop
      ·cases hop
      ·cases hop
     ·cases hop
    ·obtain ⟨_,_,h⟩:=map_some hop; cases h
    ·unfold compBuiltin at hop
     repeat' split at hop
     all_goals first
      | (cases hop; done)
      | (rw [Bool.cond_eq_ite] at hop; split at hop<;>cases hop)
    ·cases hop
   ·cases hop
 | makeFunc fn p q=>
   skip
   rw [hoo] at hop
   cases fn with
   | func f=>
     simp only [compOp] at hop
     split at hop<;>cases hop
   | _=>simp [compOp] at hop
 | _=>
   skip
   rw [hoo] at hop
   simp only [compOp,compUpd] at hop
   repeat' split at hop
   all_goals (try (rw [Bool.cond_eq_ite] at hop; split at hop))
   all_goals (try (rw [Bool.cond_eq_ite] at hop; split at hop))
   all_goals first
    | (cases hop; done)
    | (injection hop with hop; cases hop; done)
    | (obtain ⟨_,_,h⟩:=map_some hop; cases h; done)
theorem compOp_box {P:Program} {mu:Mu} {op:Op} {x:Opd} (hop:compOp P mu op=some (.box x)):∃ ty y,op = .box ty y∧compOpd y=some x:=by
 cases hoo:op with
 | alloc ty=>
   exfalso
   rw [hoo] at hop
   obtain ⟨y,hy,hyy⟩:=map_some hop
   cases hyy
 | box ty y=>
   rw [hoo] at hop
   obtain ⟨y',hy,hyy⟩:=map_some hop
   injection hyy with hyy; subst hyy
   exact ⟨ty,y,rfl,hy⟩
 | call c=>
   exfalso
   rw [hoo] at hop
   simp only [compOp] at hop
   split at hop
   ·split at hop
    ·split at hop
     ·rw [Bool.cond_eq_ite] at hop; split at hop
      ·cases hop
      ·cases hop
     ·cases hop
    ·obtain ⟨_,_,h⟩:=map_some hop; cases h
    ·unfold compBuiltin at hop
     repeat' split at hop
     all_goals first
      | (cases hop; done)
      | (rw [Bool.cond_eq_ite] at hop; split at hop<;>cases hop)
    ·cases hop
   ·cases hop
 | makeFunc fn p q=>
   exfalso
   rw [hoo] at hop
   cases fn with
   | func f=>
     simp only [compOp] at hop
     split at hop<;>cases hop
   | _=>simp [compOp] at hop
 | _=>
   exfalso
   rw [hoo] at hop
   simp only [compOp,compUpd] at hop
   repeat' split at hop
   all_goals (try (rw [Bool.cond_eq_ite] at hop; split at hop))
   all_goals (try (rw [Bool.cond_eq_ite] at hop; split at hop))
   all_goals first
    | (cases hop; done)
    | (injection hop with hop; cases hop; done)
    | (obtain ⟨_,_,h⟩:=map_some hop; cases h; done)
theorem compOp_mkSlice {P:Program} {mu:Mu} {op:Op} {m:Bool} {es:Nat} {zp:List PV} {l c:Opd} (hop:compOp P mu op=some (.mkSlice m es zp l c)) :
 ∃ t e y q i,op = .makeSlice t y q∧P.underlying t=some (.slice e)∧compOpd y=some l∧compOpd q=some c∧zeroT P e=some zp∧P.info? e=some i∧es=i.size∧i.bytes≤256:=by
 cases hoo:op with
 | alloc ty=>
   exfalso
   rw [hoo] at hop
   obtain ⟨y,hy,hyy⟩:=map_some hop
   cases hyy
 | makeSlice t y q=>
   rw [hoo] at hop
   simp only [compOp] at hop
   split at hop
   ·rename_i e y' q' hu hy hq
    split at hop
    ·rename_i zp i hz hi
     cases hb:(Nat.blt 0 i.size&&Nat.ble i.bytes 256) with
     | false=>rw [hb] at hop; cases hop
     | true=>
       rw [hb] at hop; simp only [cond_true] at hop
       rw [Bool.and_eq_true] at hb
       injection hop with hop; injection hop with e1 e2 e3 e4 e5
       subst e2; subst e3; subst e4; subst e5
       exact ⟨t,e,y,q,i,rfl,hu,hy,hq,hz,hi,rfl,Nat.le_of_ble_eq_true hb.2⟩
    ·cases hop
   ·cases hop
 | box ty y=>
   exfalso
   rw [hoo] at hop
   obtain ⟨y',hy,hyy⟩:=map_some hop
   cases hyy
 | call c=>
   exfalso
   rw [hoo] at hop
   simp only [compOp] at hop
   split at hop
   ·split at hop
    ·split at hop
     ·rw [Bool.cond_eq_ite] at hop; split at hop
      ·cases hop
      ·cases hop
     ·cases hop
    ·obtain ⟨_,_,h⟩:=map_some hop; cases h
    ·unfold compBuiltin at hop
     repeat' split at hop
     all_goals first
      | (cases hop; done)
      | (rw [Bool.cond_eq_ite] at hop; split at hop<;>cases hop)
    ·cases hop
   ·cases hop
 | makeFunc fn p q=>
   exfalso
   rw [hoo] at hop
   cases fn with
   | func f=>
     simp only [compOp] at hop
     split at hop<;>cases hop
   | _=>simp [compOp] at hop
 | _=>
   exfalso
   rw [hoo] at hop
   simp only [compOp,compUpd] at hop
   repeat' split at hop
   all_goals (try (rw [Bool.cond_eq_ite] at hop; split at hop))
   all_goals (try (rw [Bool.cond_eq_ite] at hop; split at hop))
   all_goals first
    | (cases hop; done)
    | (injection hop with hop; cases hop; done)
    | (obtain ⟨_,_,h⟩:=map_some hop; cases h; done)
theorem cellsP_of {p:PV} {c:List PV} (h:cellsP p=some c):(AV.pv p).cellsOf=c.map .pv∧(AV.pv p).isTup=false:=by
 cases p<;>simp only [cellsP] at h<;>first | (cases h; done) | (injection h with h; subst h; exact ⟨rfl,rfl⟩)
theorem box_step {κ:K} {base sz:Nat} {H:Heap} {w:World} {r:Regs} {a:Act} {o:Oper} {ty:TypeId} {y:Operand} {x:Opd} {p:PV} {c:List PV} (hcf:Conf Γ base sz n κ H w r a) (hop:o.op = .box ty y) (hy:compOpd y=some x)
 (hx:x.ev r = .pv p) (hc:cellsP p=some c) {id:Nat} (hi:Idle κ id) (hl:id<H.length) (hh:hget H id = .pcells c)
 (ro:Option Nat) {t:Nat} (hdst:o.dst=some t) (hok:okDst n o.dst=true) (K:Act→World→Prop) (Q:Exit→Act→World→Prop)
 (hK:∀ a' ob,Conf Γ base sz n (κ.at id w.heap.size) H (w.alloc ob) (put r (some t) (.ptr id 0)) a'→K a' (w.alloc ob)):o.wpIn (wideR ro) 0 Γ.P a w K Q:=by
 have hv:=aJ hcf.regs hy
 rw [hx] at hv
 obtain ⟨g0,gt⟩:=cellsP_of hc
 obtain ⟨g1,g2⟩:=cellsOf_rel hv gt
 rw [g0] at g1
 have hs:=hcf.srel.wake hi hl hh ty (VRels.to_pv g1) g2
 simp only [Array.toArray_toList] at hs
 have hrun:(execOp a.eval o).run Γ.P w = .ok (.value (.pointer (some ⟨w.heap.size,0,none⟩))) (w.alloc (.cells (a.eval y).cells ty)):=by
  simp [execOp,hop,Instr.box,newVar,run_newRow']
 refine ⟨fun _ _=>trivial,?_⟩
 rw [Oper.semAt_eq _ _ _ (fun c e=>by rw [hop] at e; cases e),hrun,Oper.uponIn_value]
 refine hK _ (.cells (a.eval y).cells ty) ⟨hs,?_,by rw [put_size]; exact hcf.size,by rw [put_defers]; exact hcf.marks.wake hi _⟩
 rw [hdst]
 exact (hcf.regs.mono (κ.le_at hi.1)).put hcf.size (d:=some t) (by rw [←hdst]; exact hok) (.ptr _ _ _ (Go.VM.K.at_same _ _ _))
theorem make_step {κ:K} {base sz:Nat} {H:Heap} {w:World} {r:Regs} {a:Act} {o:Oper} {ty e:TypeId} {y q:Operand} {x:Opd} {zp:List PV} {ti:TypeInfo} {k:IntKind} {m:Int} (hcf:Conf Γ base sz n κ H w r a) (hop:o.op = .makeSlice ty y q) (hu:Γ.P.underlying ty=some (.slice e))
 (hy:compOpd y=some x) (hq:compOpd q=some x) (hz:zeroT Γ.P e=some zp) (hti:Γ.P.info? e=some ti) (hby:ti.bytes≤256) (hx:x.ev r = .pv (.int k m)) (h0:0≤m) (h1:m≤1099511627776)
 {id:Nat} (hi:Idle κ id) (hl:id<H.length) (hh:hget H id = .pcells (zerosOf zp m.toNat))
 (ro:Option Nat) {t:Nat} (hdst:o.dst=some t) (hok:okDst n o.dst=true) (K:Act→World→Prop) (Q:Exit→Act→World→Prop)
 (hK:∀ a' ob,Conf Γ base sz n (κ.at id w.heap.size) H (w.alloc ob) (put r (some t) (.hs ti.size id 0 m.toNat m.toNat)) a'→K a' (w.alloc ob)):o.wpIn (wideR ro) 0 Γ.P a w K Q:=by
 have v1:=aJ hcf.regs hy
 rw [hx] at v1
 have e1:=bm v1
 have v2:=aJ hcf.regs hq
 rw [hx] at v2
 have e2:=bm v2
 obtain ⟨cs,g1,g2,g3⟩:=mkSlice_rel (Γ:=Γ) (κ:=κ) (w:=w) hu hti hz hby (k:=k) (k':=k) h0 (Int.le_refl m) h1
 have hs:=hcf.srel.wake hi hl hh e g1 g2
 have hrun:(execOp a.eval o).run Γ.P w = .ok (.value (.slice (some ⟨w.heap.size,0,none⟩) m.toNat m.toNat)) (w.alloc (.cells cs.toArray e)):=by
  simp [execOp,hop,e1,e2,g3]
 refine ⟨fun _ _=>trivial,?_⟩
 rw [Oper.semAt_eq _ _ _ (fun c e=>by rw [hop] at e; cases e),hrun,Oper.uponIn_value]
 refine hK _ (.cells cs.toArray e) ⟨hs,?_,by rw [put_size]; exact hcf.size,by rw [put_defers]; exact hcf.marks.wake hi _⟩
 rw [hdst]
 exact (hcf.regs.mono (κ.le_at hi.1)).put hcf.size (d:=some t) (by rw [←hdst]; exact hok) (.hs _ _ _ _ _ _ _ (Go.VM.K.at_same _ _ _) (Nat.le_refl _) (Nat.le_refl _))
theorem hboxed_or (v:VOper):hboxed v=v ∨ ∃ t x,v=⟨some t,none,.box x⟩∧memN x.tmps t=false∧hboxed v=⟨some t,none,.boxH x⟩:=by
 obtain ⟨d,g,op⟩:=v
 unfold hboxed
 split
 ·rename_i t x h1 h2 h3
  simp only at h1 h2 h3
  subst h1; subst h2; subst h3
  cases hm:memN x.tmps t with
  | true=>exact .inl rfl
  | false=>exact .inr ⟨t,x,rfl,hm,rfl⟩
 ·exact .inl rfl
theorem hmade_or (v:VOper):hmade v=v ∨ ∃ t es z a,v=⟨some t,none,.mkSlice true es z (.t a) (.t a)⟩∧memN (Opd.t a).tmps t=false∧hmade v=⟨some t,none,.mkSliceH es z (.t a)⟩:=by
 obtain ⟨d,g,op⟩:=v
 unfold hmade
 split
 ·rename_i t mu es z a b h1 h2 h3
  simp only at h1 h2 h3
  subst h1; subst h2; subst h3
  cases hm:(mu&&Nat.beq a b && !Nat.beq a t) with
  | false=>exact .inl rfl
  | true=>
    simp only [Bool.and_eq_true,Bool.not_eq_true'] at hm
    obtain ⟨⟨hm1,hm2⟩,hm3⟩:=hm
    have hab:=Nat.eq_of_beq_eq_true hm2
    subst hab; subst hm1
    refine .inr ⟨t,es,z,a,rfl,?_,rfl⟩
    simp [memN,Opd.tmps,hm3]
 ·exact .inl rfl
theorem hb_or (bx ms:Bool) (v:VOper):hb bx ms v=v∨(∃ t x,v=⟨some t,none,.box x⟩∧memN x.tmps t=false∧hb bx ms v=⟨some t,none,.boxH x⟩) ∨
 ∃ t es z a,v=⟨some t,none,.mkSlice true es z (.t a) (.t a)⟩∧memN (Opd.t a).tmps t=false∧hb bx ms v=⟨some t,none,.mkSliceH es z (.t a)⟩:=by
 have hB:(bif bx then hboxed v else v)=v ∨ ∃ t x,v=⟨some t,none,.box x⟩∧memN x.tmps t=false∧(bif bx then hboxed v else v)=⟨some t,none,.boxH x⟩:=by
  cases bx with
  | false=>exact .inl rfl
  | true=>exact hboxed_or v
 unfold hb
 rcases hB with h | ⟨t,x,h1,h2,h3⟩
 ·rw [h]
  cases ms with
  | false=>exact .inl rfl
  | true=>
    rcases hmade_or v with g | g
    ·exact .inl g
    ·exact .inr (.inr g)
 ·rw [h3]
  refine .inr (.inl ⟨t,x,h1,h2,?_⟩)
  cases ms<;>rfl
theorem draw_any (D:Drawn Γ env E n hlen mu ops vs preds pairs r00 r0 H0 T r2 h2 idf) (hE:OrcOK Γ E) (ro:Option Nat) {base sz:Nat} {κ0:K} {Hs:Heap} {w0:World} (hlen0:Hs.length≤hlen) {Q:Exit→Act→World→Prop}
 (hfin:∀ κ a w,Conf Γ base sz n κ h2 w r2 a→Grow κ0 Hs w0 κ h2 w→Q .normal a w) :
 ∀ (fuel:Nat) (listed:Array Bool) (a:Act) (w:World),DInv Γ env base sz n ops vs r00 r0 H0 T idf κ0 Hs w0 listed a w→listed.toList.count false≤fuel→wpAnyIn (wideR ro) 0 Γ.P .any ops Q fuel listed a w:=by
 have done:∀ (listed:Array Bool) (a:Act) (w:World),DInv Γ env base sz n ops vs r00 r0 H0 T idf κ0 Hs w0 listed a w→Region.ready .any ops listed=[]→Q .normal a w:=by
  intro listed a w hinv hr
  obtain ⟨hsz,hcl,κ,hcf,hg,_⟩:=hinv
  have hall:∀ j,j<ops.size→setOf listed j=true:=by
   intro j
   induction j using Nat.strongRecOn with
   | _ j ih=>
     intro hj
     cases hS:setOf listed j with
     | true=>rfl
     | false=>
       exfalso
       have ho:ops[j]? = some ops[j]:=Array.getElem?_eq_getElem hj
       obtain ⟨vj,hvj⟩:=D.get hj
       have:j∈Region.ready .any ops listed:=by
        rw [mem_ready]
        refine ⟨?_,ops[j],ho,fun e he hb=>?_⟩
        ·have hlt:j<listed.size:=by rw [hsz]; exact hj
         simpa [setOf,Array.getD,hlt] using hS
        ·have hd:e.on∈nth (ops.toList.map depsOf) j:=by rw [nth_deps ops ho]; exact depsOf_iff.2 ⟨e,he,hb,rfl⟩
         have hlt:=D.preLt hvj hd
         exact ih e.on hlt (by omega)
       rw [hr] at this; cases this
  rw [D.regAll hall,D.heapAll hall] at hcf
  rw [D.heapAll hall] at hg
  exact hfin κ a w hcf hg
 intro fuel
 induction fuel with
 | zero=>
   intro listed a w hinv hcnt
   have hnil:Region.ready .any ops listed=[]:=by
    cases hr:Region.ready .any ops listed with
    | nil=>rfl
    | cons x l=>
      exfalso
      have hx:x∈Region.ready .any ops listed:=by rw [hr]; simp
      obtain ⟨h0,o,ho,_⟩:=mem_ready.1 hx
      have hlt:x<listed.size:=by rw [hinv.1]; exact (Array.getElem?_eq_some_iff.1 ho).1
      have hf:listed[x]=false:=by simpa [Array.getD,hlt] using h0
      have:false∈listed.toList:=by rw [←hf]; simp
      have:=List.count_pos_iff.2 this
      omega
   exact ⟨hnil,done listed a w hinv hnil⟩
 | succ fuel ih=>
   intro listed a w hinv hcnt
   refine ⟨done listed a w hinv,fun i hi=>?_⟩
   obtain ⟨hsz,hcl,κ,hcf,hg,hal⟩:=hinv
   obtain ⟨h0,o,ho,hafter⟩:=mem_ready.1 hi
   have hi':i<ops.size:=(Array.getElem?_eq_some_iff.1 ho).1
   have hlt:i<listed.size:=by rw [hsz]; exact hi'
   have hn:setOf listed i=false:=by
    have hf:listed[i]=false:=by simpa [Array.getD,hlt] using h0
    simp [setOf,Array.getD,hlt,hf]
   have hd:∀ d∈nth (ops.toList.map depsOf) i,setOf listed d=true:=by
    intro d hd
    rw [nth_deps ops ho] at hd
    obtain ⟨e,he,hb,rfl⟩:=depsOf_iff.1 hd
    exact hafter e he hb
   have hcnt':(listed.setIfInBounds i true).toList.count false≤fuel:=by
    rw [Array.toList_setIfInBounds,List.count_set (by simpa using hlt)]
    have hf:listed.toList[i]'(by simpa using hlt)=false:=by
     have hf:listed[i]=false:=by simpa [Array.getD,hlt] using h0
     simpa using hf
    rw [hf]
    have h1:(if (false==false)=true then 1 else 0)=1:=rfl
    have h3:(if (true==false)=true then 1 else 0)=0:=rfl
    rw [h1,h3]
    omega
   have hsz':(listed.setIfInBounds i true).size=ops.size:=by simp [hsz]
   have hset:=setOf_add hlt
   have hcl':Closed ops (setOf (listed.setIfInBounds i true)):=by rw [hset]; exact hcl.mono hi' hd
   obtain ⟨vi,hv0,hcase⟩:=compOpers_get (P:=Γ.P) (mu:=mu) (n:=n) (all:=ops.toList) (l:=ops.toList) (i:=i) (o:=o) (by rw [Array.getElem?_toList]; exact ho)
   obtain ⟨bx,ms,hvs⟩:=D.vs_eq
   have hvi:vs[i]? = some (hb bx ms vi):=by rw [hvs,List.getElem?_map,hv0]; rfl
   obtain ⟨e,hT⟩:∃ e,T[i]? = some e:=⟨T[i]'(by rw [D.tlen]; exact hi'),by simp⟩
   rcases hb_or bx ms vi with hbe | ⟨t,x,rfl,hmem,hbe⟩ | ⟨t,es,z,av,rfl,hmem,hbe⟩
   rotate_left
   ·rw [hbe] at hvi
    have hna:isAl (⟨some t,none,.boxH x⟩:VOper)=some (t,.x x):=by
     show (bif memN x.tmps t then none else some (t,AlK.x x))=_
     rw [hmem]; rfl
    rcases hcase with ⟨g,v,hvo,hgd,hdst,hop⟩ | hbad
    ·injection hvo with hdt hgn hvz
     subst hgn; subst hvz
     obtain ⟨ty,y,hoty,hy⟩:=compOp_box hop
     obtain ⟨q0,p,c,q1,q2,q3⟩:=D.alx i _ t x e hvi hna hT
     have hev:x.ev (regR vs T r00 r0 (setOf listed)) = .pv p:=by
      rw [←q1]
      exact bp fun t' ht'=>D.reg hcl hvi hT (fun z ez=>by
       rw [hna] at ez
       injection ez with ez; injection ez with ez _
       subst ez
       rw [memN_iff.2 ht'] at hmem; cases hmem) hd hn (by simp [VOper.names,VOp.tmps,ht'])
     unfold wpOpIn
     simp only [ho]
     rw [wanted_rel hcf.regs hgd]
     have hw:wantedV (regR vs T r00 r0 (setOf listed)) none=true:=rfl
     rw [hw]; simp only [if_true]
     obtain ⟨hidle,hlt2,hhz⟩:=hal i _ t _ hvi hna hn
     rw [q3] at hhz
     have hnef:isEf env.md (⟨some t,none,.boxH x⟩:VOper)=false:=by unfold isEf; rw [hna]
     refine box_step hcf hoty hy hev q2 hidle hlt2 hhz ro hdt.symm hdst _ Q fun a' ob hcf'=>ih _ a' _ ⟨hsz',hcl',κ.at (idf i) w.heap.size,?_,?_,?_⟩ hcnt'
     ·rw [hset,D.heapNo hvi hnef,D.regAl hvi hT hna hn,q0]; exact hcf'
     ·rw [hset,D.heapNo hvi hnef]; exact hg.wake hidle (Nat.le_trans hlen0 (D.al i _ t _ hvi hna).1) ob
     ·intro j v' t' z' hj hjal hjn
      rw [hset] at hjn ⊢
      rw [D.heapNo hvi hnef]
      have hne:j≠i:=fun e=>by subst e; rw [St.add_same] at hjn; cases hjn
      rw [St.add_other hne] at hjn
      obtain ⟨k1,k2,k3⟩:=hal j v' t' z' hj hjal hjn
      have hidne:idf j≠idf i:=fun e=>hne (D.inj j i _ _ _ _ hj hvi hjal hna e)
      exact ⟨⟨by simp only [K.at]; rw [if_neg hidne]; exact k1.1,k1.2⟩,k2,k3⟩
    ·cases hbad
   ·rw [hbe] at hvi
    have hna:isAl (⟨some t,none,.mkSliceH es z (.t av)⟩:VOper)=some (t,.m es z (.t av)):=by
     show (bif memN (Opd.t av).tmps t then none else some (t,AlK.m es z (.t av)))=_
     rw [hmem]; rfl
    rcases hcase with ⟨g,v,hvo,hgd,hdst,hop⟩ | hbad
    ·injection hvo with hdt hgn hvz
     subst hgn; subst hvz
     obtain ⟨ty,et,y,q,ti,hoty,hu,hy,hq,hz,hti,hes,hby⟩:=compOp_mkSlice hop
     subst hes
     obtain ⟨kd,nn,q1,q2,q4,q0,q3⟩:=D.alm i _ t _ z (.t av) e hvi hna hT
     have hev:(Opd.t av).ev (regR vs T r00 r0 (setOf listed)) = .pv (.int kd nn):=by
      rw [←q1]
      exact bp fun t' ht'=>D.reg hcl hvi hT (fun z ez=>by
       rw [hna] at ez
       injection ez with ez; injection ez with ez _
       subst ez
       rw [memN_iff.2 ht'] at hmem; cases hmem) hd hn (by simp [VOper.names,VOp.tmps,ht'])
     unfold wpOpIn
     simp only [ho]
     rw [wanted_rel hcf.regs hgd]
     have hw:wantedV (regR vs T r00 r0 (setOf listed)) none=true:=rfl
     rw [hw]; simp only [if_true]
     obtain ⟨hidle,hlt2,hhz⟩:=hal i _ t _ hvi hna hn
     rw [q3] at hhz
     have hnef:isEf env.md (⟨some t,none,.mkSliceH ti.size z (.t av)⟩:VOper)=false:=by unfold isEf; rw [hna]
     refine make_step hcf hoty hu hy hq hz hti hby hev q2 q4 hidle hlt2 hhz ro hdt.symm hdst _ Q fun a' ob hcf'=>ih _ a' _ ⟨hsz',hcl',κ.at (idf i) w.heap.size,?_,?_,?_⟩ hcnt'
     ·rw [hset,D.heapNo hvi hnef,D.regAl hvi hT hna hn,q0]; exact hcf'
     ·rw [hset,D.heapNo hvi hnef]; exact hg.wake hidle (Nat.le_trans hlen0 (D.al i _ t _ hvi hna).1) ob
     ·intro j v' t' z' hj hjal hjn
      rw [hset] at hjn ⊢
      rw [D.heapNo hvi hnef]
      have hne:j≠i:=fun e=>by subst e; rw [St.add_same] at hjn; cases hjn
      rw [St.add_other hne] at hjn
      obtain ⟨k1,k2,k3⟩:=hal j v' t' z' hj hjal hjn
      have hidne:idf j≠idf i:=fun e=>hne (D.inj j i _ _ _ _ hj hvi hjal hna e)
      exact ⟨⟨by simp only [K.at]; rw [if_neg hidne]; exact k1.1,k1.2⟩,k2,k3⟩
    ·cases hbad
   rw [hbe] at hvi
   have hli:(vs.map idled)[i]? = some (idled vi):=by rw [List.getElem?_map,hvi]; rfl
   unfold wpOpIn
   simp only [ho]
   rcases hcase with ⟨g,v,rfl,hgd,hdst,hop⟩ | rfl
   ·rw [wanted_rel hcf.regs hgd]
    cases hna:isAl (⟨o.dst,g,v⟩:VOper) with
    | some x=>
      obtain ⟨t,z⟩:=x
      obtain ⟨hdt,hgn,hvz⟩:=isAl_dst' hna
      simp only at hdt hgn hvz
      subst hgn
      rcases hvz with ⟨z,rfl,rfl⟩ | ⟨x,rfl,rfl,_⟩ | ⟨_,_,x,rfl,rfl,_⟩
      rotate_left
      ·exact (compOp_boxH hop).elim
      ·exact (compOp_mkSliceH hop).elim
      have hw:wantedV (regR vs T r00 r0 (setOf listed)) none=true:=rfl
      rw [hw]; simp only [if_true]
      obtain ⟨ty,hoty,hz⟩:∃ ty,o.op = .alloc ty∧zeroT Γ.P ty=some z:=by
       cases hoo:o.op with
       | alloc ty=>
         rw [hoo] at hop
         obtain ⟨y,hy,hyy⟩:=map_some hop
         injection hyy with hyy; subst hyy
         exact ⟨ty,rfl,hy⟩
       | call c=>
         exfalso
         rw [hoo] at hop
         simp only [compOp] at hop
         split at hop
         ·split at hop
          ·split at hop
           ·rw [Bool.cond_eq_ite] at hop; split at hop
            ·cases hop
            ·cases hop
           ·cases hop
          ·obtain ⟨_,_,h⟩:=map_some hop; cases h
          ·unfold compBuiltin at hop
           repeat' split at hop
           all_goals first
            | (cases hop; done)
            | (rw [Bool.cond_eq_ite] at hop; split at hop<;>cases hop)
          ·cases hop
         ·cases hop
       | makeFunc fn p q=>
         exfalso
         rw [hoo] at hop
         cases fn with
         | func f=>
           simp only [compOp] at hop
           split at hop<;>cases hop
         | _=>simp [compOp] at hop
       | _=>
         exfalso
         rw [hoo] at hop
         simp only [compOp,compUpd] at hop
         repeat' split at hop
         all_goals (try (rw [Bool.cond_eq_ite] at hop; split at hop))
         all_goals (try (rw [Bool.cond_eq_ite] at hop; split at hop))
         all_goals first
          | (cases hop; done)
          | (injection hop with hop; cases hop; done)
          | (obtain ⟨_,_,h⟩:=map_some hop; cases h; done)
      obtain ⟨hidle,hlt2,hhz⟩:=hal i _ t _ hvi hna hn
      obtain ⟨q0,q3⟩:=D.alz i _ t z hvi hna
      rw [q3] at hhz
      have hnef:isEf env.md (⟨o.dst,none,.alloc z⟩:VOper)=false:=by unfold isEf; rw [hna]
      refine alloc_step hcf hoty hz hidle hlt2 hhz ro hdt hdst _ Q fun a' ob hcf'=>ih _ a' _ ⟨hsz',hcl',κ.at (idf i) w.heap.size,?_,?_,?_⟩ hcnt'
      ·rw [hset,D.heapNo hvi hnef,D.regAl hvi hT hna hn,q0]; exact hcf'
      ·rw [hset,D.heapNo hvi hnef]; exact hg.wake hidle (Nat.le_trans hlen0 (D.al i _ t _ hvi hna).1) ob
      ·intro j v' t' z' hj hjal hjn
       rw [hset] at hjn ⊢
       rw [D.heapNo hvi hnef]
       have hne:j≠i:=fun e=>by subst e; rw [St.add_same] at hjn; cases hjn
       rw [St.add_other hne] at hjn
       obtain ⟨k1,k2,k3⟩:=hal j v' t' z' hj hjal hjn
       have hidne:idf j≠idf i:=fun e=>hne (D.inj j i _ _ _ _ hj hvi hjal hna e)
       exact ⟨⟨by simp only [K.at]; rw [if_neg hidne]; exact k1.1,k1.2⟩,k2,k3⟩
    | none=>
      have hreg:∀ t∈(⟨o.dst,g,v⟩:VOper).names,regR vs T r00 r0 (setOf listed) t=e.rb t:=fun t ht=>D.reg hcl hvi hT (fun z e=>by rw [hna] at e; cases e) hd hn ht
      have hwg:wantedV (regR vs T r00 r0 (setOf listed)) g=wantedV e.rb g:=by
       cases g with
       | none=>rfl
       | some q=>
         obtain ⟨t,wt⟩:=q
         simp only [wantedV]
         rw [hreg t (by simp [VOper.names])]
      rw [hwg]
      rw [idled_no hna] at hli
      have fin:∀ (κ':K) (w':World) (v':Value),VRel κ' e.v v'→SRel Γ base κ' (heapS env.md ((setOf listed).add i) (vs.map idled) T 0 H0) w'→Grow κ (heapS env.md (setOf listed) (vs.map idled) T 0 H0) w κ' (heapS env.md ((setOf listed).add i) (vs.map idled) T 0 H0) w' →
       wpAnyIn (wideR ro) 0 Γ.P .any ops Q fuel (listed.setIfInBounds i true) (a.put o.dst v') w':=by
       intro κ' w' v' hv hs hgr
       refine ih _ _ _ ⟨hsz',hcl',κ',?_,?_,?_⟩ hcnt'
       ·rw [hset,D.regAdd hcl hvi hT hna hd hn]; exact hcf.step hs hgr hdst hv
       ·rw [hset]; exact hg.trans hgr
       ·intro j v'' t' z' hj hjal hjn
        rw [hset] at hjn ⊢
        have hne:j≠i:=fun e=>by subst e; rw [St.add_same] at hjn; cases hjn
        rw [St.add_other hne] at hjn
        obtain ⟨k1,k2,k3⟩:=hal j v'' t' z' hj hjal hjn
        obtain ⟨q1,q2⟩:=hgr.idle (idf j) k2 k1
        exact ⟨q2,Nat.lt_of_lt_of_le k2 hgr.len,by rw [q1]; exact k3⟩
      rcases D.run.at hli hT with ⟨hdid,hw,hek⟩ | ⟨hdid,hw,hev,hha⟩
      ·simp only at hw hek
       rw [hw]; simp only [if_true]
       exact oper_sound hE ro hcf.srel hcf.regs hop (D.same hcl hvi hT hna hd hn hdid hek) _ _ fun v' κ' w' hv hs hgr=>fin κ' w' v' hv hs hgr
      ·simp only at hw
       rw [hw]; simp only [Bool.false_eq_true,if_false]
       have hh:heapS env.md ((setOf listed).add i) (vs.map idled) T 0 H0=heapS env.md (setOf listed) (vs.map idled) T 0 H0:=by
        cases hef:isEf env.md (⟨o.dst,g,v⟩:VOper) with
        | false=>exact D.heapNo hvi hef
        | true=>
          obtain ⟨k1,k2⟩:=D.heapEf hcl hvi hT hd hn hef
          rw [k1,k2,hha]
       refine ⟨fun _ _=>trivial,fin κ w undef (by rw [hev]; exact undefV_rel κ) ?_ ?_⟩
       ·rw [hh]; exact hcf.srel
       ·rw [hh]; exact Grow.refl _ _ _
   ·exfalso
    have hna:isAl (⟨none,none,.bad⟩:VOper)=none:=rfl
    rw [idled_no hna] at hli
    rcases D.run.at hli hT with ⟨_,_,hek⟩ | ⟨_,hw,_,_⟩
    ·cases hek
    ·cases hw
end
end Go.VM
