/-
  Part 10 of the functions and the law.
  The law's arguments: a list of operations; whether they are too many.
  What one operation does, beside the document's.
  VaultPlays' loop: one operation, and what is compared behind it.
  VaultPlays in the abstract machine.
  VaultPlays in the abstract machine: the law.
-/
import Derived.Test.YtflfdglnelbbiaaGreatP9
set_option linter.all false
set_option linter.unusedVariables false
set_option linter.unusedSimpArgs false
set_option linter.unusedSectionVars false
namespace Go.Proofs.YtflfdglnelbbiaaGreat.Di
open Go Go.VM
abbrev TOp:Ty:=.st [(1,.int .i64),(1,.int .i64),(3,TSt),(1,.sl 1 (.int .u8))]
structure OpX where
 kind:Int
 N:Int
 z:StX
 bx:Ext
 B:List UInt8
def opc (o:OpX):List PV:=.int .i64 o.kind :: .int .i64 o.N::(stcx o.z++[.sl o.bx o.B.length (bc o.B)])
theorem opc_len (o:OpX):(opc o).length=6:=rfl
structure okO (o:OpX):Prop where
 s:smallS o.z.s
 n : -9223372036854775808≤o.N∧o.N≤9223372036854775807
 x:(o.bx = .nil∧o.B=[])∨o.bx = .nn
 l:o.B.length≤9223372036854775807
theorem wf_i64 {n:Int} (h:(Lit.int .i64 n).wf=true) : -9223372036854775808≤n∧n≤9223372036854775807:=by
 simpa [Lit.wf,IntKind.min,IntKind.max,IntKind.signed,IntKind.bits] using h
theorem dec_op {cs:List PV} (h:HasTy TOp cs):∃ o,cs=opc o∧okO o:=by
 obtain ⟨_,_,rfl,_,⟨k,rfl,hk⟩,_,_,rfl,_,⟨n,rfl,hn⟩,_,_,rfl,_,hs,_,_,rfl,_,⟨x,len,cells,rfl,hx,hl,he⟩,rfl⟩:=h
 obtain ⟨z,rfl,hz⟩:=dec_st hs
 obtain ⟨bs,rfl,rfl⟩:=els_u8 len cells he
 refine ⟨⟨k,n,z,x,bs⟩,rfl,hz,wf_i64 hn,?_,by rw [aS] at hl; exact hl⟩
 rcases hx with ⟨h1,h2,_⟩ | h1
 ·exact .inl ⟨h1,List.eq_nil_of_length_eq_zero h2⟩
 ·exact .inr h1
theorem arg_ops {p:PV} (h:HasArg (.sl 6 TOp) p):∃ (x:Ext) (l:List OpX),p = .sl x l.length (flat opc l)∧l.length≤maxLen ∧ ∀ o∈l,okO o:=by
 obtain ⟨x,n,cells,h1,_,hn,he⟩:=h
 injection h1 with h1
 obtain ⟨l,rfl,rfl,hl⟩:=els_dec (fun _ h=>dec_op h) n cells he
 exact ⟨x,l,h1,hn,hl⟩
set_option maxHeartbeats 4000000 in
theorem great_law (xl:Ext) (l:List OpX) (hl:l.length≤maxLen) (hok:∀ o∈l,okO o):∃ t:Bool,EP (EE env) 6 [.sl xl l.length (flat opc l)]=some (.bool t)∧(t=false→l.length≤16):=by
 rw [aS] at hl
 have main:Has (EP (EE env) 6 [.sl xl l.length (flat opc l)]) fun u=>∃ t:Bool,u = .bool t∧(t=false→l.length≤16):=by
  refine aE ?_
  refine aw ?_
  refine aW (σ:=Nat × Int) (fun t=>l.length-t.1) (fun t=>[(0,.pv (.sl xl l.length (flat opc l))),(3,.pv (.int .i64 t.2)),(6,.pv (.sl xl l.length (flat opc l))),(7,.pv (.int .i64 l.length)),(8,.pv (.int .i64 t.1))]) (fun _=>[])
   (fun t=>t.1≤l.length) (fun ⟨i,n⟩ hi r J=>?_) (0,0) (Nat.zero_le _) [] ⟨rfl,rfl,rfl,rfl,rfl,trivial⟩ rfl
  dsimp only at hi ⊢
  refine ah (fun hc=>?_) (fun hc=>?_)
  ·have hlt:i<l.length:=by omega
   obtain ⟨o,ho⟩:∃ o,l[i]? = some o:=⟨_,List.getElem?_eq_getElem hlt⟩
   obtain ⟨f1,f2⟩:=aR opc_len ho
   obtain ⟨m,e1,_⟩:=great_ok' o.z.s o.z.x o.z.y (hok o (List.mem_of_getElem? ho)).s
   refine aa (by (first | rfl | (simp; done) | (simp; omega))) ?_
   refine ae f1 f2 ?_
   refine af ?_
   refine aa rfl ?_
   refine a9 (opc o) rfl ?_
   rw [aH]
   refine af ?_
   refine ae (v:=stc o.z.s o.z.x o.z.y) rfl (of_decide_eq_true rfl) ?_
   refine aj e1 ?_
   refine ao ?_
   refine af ?_
   refine ab (v:=.sl o.bx o.B.length (bc o.B)) rfl ?_
   refine ao ?_
   refine ao ?_
   refine ah (fun hg=>?_) (fun hg=>?_)
   ·exact Has.intro (Has.intro (Has.intro ⟨true,rfl,fun h=>by cases h⟩))
   ·refine a9 ((i+1:Nat):Int) (aq (by omega)) ?_
    exact Has.intro ⟨(i+1,_),hlt,(by dsimp only; omega),⟨rfl,rfl,rfl,rfl,rfl,trivial⟩,_,List.append_assoc _ _ _⟩
  ·refine Has.intro ?_
   refine ah (fun hg=>?_) (fun hg=>?_)
   ·exact Has.intro (Has.intro ⟨true,rfl,fun h=>by cases h⟩)
   ·exact Has.intro (Has.intro ⟨false,rfl,fun _=>by omega⟩)
 obtain ⟨u,h1,t,h2,h3⟩:=main
 exact ⟨t,by rw [h1,h2],h3⟩
structure Pz where
 V:Nat
 d:Dk
 S:Nat→List UInt8
 g:Nat
 e:Ext
 b:List UInt8
 wr:Int
 w:PV
 st:St
 x:Ext
 y:Ext
def xob (p:Pz):HObj:=.pcells (rvc ⟨p.S,p.d.left,p.d.down,p.wr,p.w⟩ p.g p.st p.x p.y)
structure POk (H:Heap) (D X i:Nat) (p:Pz):Prop where
 dk:DkOK H D p.d p.S
 n:p.d.n=65556
 v:hget H p.V=vobj D p.g p.e p.b
 xo:hget H X=xob p
 lb : -1≤p.d.left∧p.d.left≤9223372036854775807
 ox:okx p.e p.b
 bl:p.b.length≤65536
 gl:p.g≤1152921504606846976
 sm:sameS (stOf p.g p.b) p.st
 ss:smallS p.st
 kk:p.d.k≤i
 ww:∃ kw,okW p.w kw∧kw≤i
theorem POk.more {H:Heap} {D X i:Nat} {p:Pz} (h:POk H D X i p) {j:Nat} (hj:i≤j):POk H D X j p:={ h with kk:=Nat.le_trans h.kk hj,ww:=by obtain ⟨k,h1,h2⟩:=h.ww; exact ⟨k,h1,Nat.le_trans h2 hj⟩ }
theorem POk.kp0 {H H':Heap} {D X i:Nat} {p:Pz} (h:POk H D X i p) (k:Kp [] H H'):POk H' D X i p:=
 { h with dk:=h.dk.kp k (fun _ _ h=>by cases h),v:=k.get h.v ((by intro h; cases h)) (by simp),xo:=k.get h.xo ((by intro h; cases h)) (by simp) }
theorem POk.rows {H:Heap} {D X i:Nat} {p:Pz} (h:POk H D X i p):(p.S 0).length=65556∧(p.S 1).length=65556:=⟨(h.dk.row 0 (by decide)).2.trans h.n,(h.dk.row 1 (by decide)).2.trans h.n⟩
theorem POk.put {H:Heap} {D X:Nat} {p:Pz} (hdk:DkOK H D p.d p.S) (hv:hget H p.V=vobj D p.g p.e p.b) (hX:X∉dids D p.d) (hXV:X≠p.V) (hXl:X<H.length):DkOK (hset H X (xob p)) D p.d p.S∧hget (hset H X (xob p)) p.V=vobj D p.g p.e p.b∧hget (hset H X (xob p)) X=xob p:=
 ⟨hdk.kp (Kp.set H X _) (fun i hi hm=>by simp at hm; subst hm; exact hX hi),(an _ _ (Ne.symm hXV)).trans hv,ai _ hXl⟩
end Go.Proofs.YtflfdglnelbbiaaGreat.Di
namespace Go.Proofs.YtflfdglnelbbiaaGreat.Di
open Go Go.VM
def rdp (p:Pz):Rd:=⟨p.S,p.d.left,p.d.down,p.wr,p.w⟩
theorem x_out {H:Heap} {D X:Nat} {d:Dk} {S:Nat→List UInt8} {cs:List PV} (h:DkOK H D d S) (hn:d.n=65556) (hx:hget H X = .pcells cs) (hl:cs.length<65556):X∉dids D d:=by
 intro hi
 have no:∀ i,i<2→X≠d.a i:=fun i hi2 e=>by
  have:=(h.row i hi2).1
  rw [←e,hx] at this
  injection this with this
  have h2:=congrArg List.length this
  rw [be,(h.row i hi2).2,hn] at h2
  omega
 unfold dids at hi
 simp only [List.mem_cons] at hi
 rcases hi with rfl | rfl | rfl | hi
 ·rw [h.obj] at hx; cases hx
 ·exact no 0 (by decide) rfl
 ·exact no 1 (by decide) rfl
 ·obtain ⟨ws,h1⟩:=h.app
  rcases h1 with ⟨_,_,h1,_⟩ | ⟨_,_,t,h1,h2⟩
  ·rw [h1] at hi; simp [tokOf] at hi
  ·rw [h1] at hi; simp [tokOf] at hi; subst hi
   rw [h2] at hx; cases hx
def Pk (H H':Heap):Prop:=∀ O cs,hget H O = .pcells cs→cs.length<65556→hget H' O = .pcells cs
theorem Pk.refl (H:Heap):Pk H H:=fun _ _ h _=>h
theorem Pk.of0 {H H':Heap} (k:Kp [] H H'):Pk H H':=fun O cs h _=>k.get h ((by intro h; cases h)) (by simp)
theorem Pk.trans {H H1 H2:Heap} (a:Pk H H1) (b:Pk H1 H2):Pk H H2:=fun O cs h hl=>b O cs (a O cs h hl) hl
theorem Pk.of {H H':Heap} {D V g:Nat} {d:Dk} {S:Nat→List UInt8} {e:Ext} {b:List UInt8} (h:DkOK H D d S) (hn:d.n=65556) (hv:hget H V=vobj D g e b) (k:Kp (V::dids D d) H H'):Pk H H':=fun O cs ho hl=>by
 refine k.get ho ((by intro h; cases h)) fun hm=>?_
 rcases List.mem_cons.1 hm with e | e
 ·rw [e,hv] at ho; cases ho
 ·exact x_out h hn ho hl e
structure P0 (H:Heap) (D i:Nat) (p:Pz):Prop where
 dk:DkOK H D p.d p.S
 n:p.d.n=65556
 v:hget H p.V=vobj D p.g p.e p.b
 lb : -1≤p.d.left∧p.d.left≤9223372036854775807
 ox:okx p.e p.b
 bl:p.b.length≤65536
 gl:p.g≤1152921504606846976
 sm:sameS (stOf p.g p.b) p.st
 ss:smallS p.st
 kk:p.d.k≤i
 ww:∃ kw,okW p.w kw∧kw≤i
theorem POk.p0 {H:Heap} {D X i:Nat} {p:Pz} (h:POk H D X i p):P0 H D i p:=⟨h.dk,h.n,h.v,h.lb,h.ox,h.bl,h.gl,h.sm,h.ss,h.kk,h.ww⟩
theorem P0.more {H:Heap} {D i:Nat} {p:Pz} (h:P0 H D i p) {j:Nat} (hj:i≤j):P0 H D j p:={ h with kk:=Nat.le_trans h.kk hj,ww:=by obtain ⟨k,h1,h2⟩:=h.ww; exact ⟨k,h1,Nat.le_trans h2 hj⟩ }
theorem P0.kp0 {H H':Heap} {D i:Nat} {p:Pz} (h:P0 H D i p) (k:Kp [] H H'):P0 H' D i p:={ h with dk:=h.dk.kp k (fun _ _ h=>by cases h),v:=k.get h.v ((by intro h; cases h)) (by simp) }
theorem P0.store {H:Heap} {D X i:Nat} {p:Pz} (h:P0 H D i p) {cs:List PV} (hx:hget H X = .pcells cs) (hl:cs.length<65556):POk (hset H X (xob p)) D X i p:=by
 have hX:=x_out h.dk h.n hx hl
 have hXV:X≠p.V:=fun hh=>by
  have:=h.v
  rw [←hh,hx] at this
  cases this
 obtain ⟨h1,h2,h3⟩:=POk.put h.dk h.v hX hXV (ap hx ((by intro h; cases h)))
 exact ⟨h1,h.n,h2,h3,h.lb,h.ox,h.bl,h.gl,h.sm,h.ss,h.kk,h.ww⟩
theorem lf_wrap {left:Int} {m:Nat} (h:left≤9223372036854775807) (hm:0<left→(m:Int)≤left):(if 0<left then IntKind.i64.wrap (left-m) else left)=lf left m:=by
 unfold lf
 split
 ·rename_i h1
  have:=hm h1
  exact wrap_i64 (by omega) (by omega)
 ·rfl
theorem lf_bound {left:Int} {m:Nat} (h : -1≤left∧left≤9223372036854775807) (hm:0<left→(m:Int)≤left) : -1≤lf left m∧lf left m≤9223372036854775807:=by
 unfold lf
 split
 ·rename_i h1
  have:=hm h1
  omega
 ·exact h
theorem cut_case (left:Int) (n:Nat):∃ (m:Nat) (dn:Bool),((0≤left∧left≤n∧(m:Int)=left∧dn=true)∨((left<0∨(n:Int)<left)∧m=n∧dn=false))∧(0<left→(m:Int)≤left):=by
 by_cases h:0≤left∧left≤n
 ·exact ⟨left.toNat,true,.inl ⟨h.1,h.2,by omega,rfl⟩,fun _=>by omega⟩
 ·exact ⟨n,false,.inr ⟨by omega,rfl,rfl⟩,fun _=>by omega⟩
set_option maxHeartbeats 4000000 in
theorem save_both {H0:Heap} {D X i:Nat} {p:Pz} (h:POk H0 D X i p) (hi:i≤16) (s:St) (x y:Ext) (hs:smallS s) :
 ∃ (er:Int) (q:List PV),q.length=10∧EP (EE env) 17 [.agg (rvc (rdp p) p.g p.st p.x p.y),.agg (stc s x y)]=some (.tup [.agg q,.int .i64 er]) ∧
   ∀ H,Kp [] H0 H→Has (EE env (.fn 18) [.ptr p.V 0,.pv (.agg (stc s x y))] H) fun z=>z.1 = .pv (.int .i64 er)∧Pk H z.2 ∧ ∃ p',p'.V=p.V∧xob p' = .pcells q∧P0 z.2 D (i+1) p':=by
 obtain ⟨kw,hw,hkw⟩:=h.ww
 have hkk:=h.kk
 have keep:∀ (er:Int) (H H':Heap),Kp [] H0 H→Kp [] H H'→Pk H H' ∧ ∃ p',p'.V=p.V∧xob p' = .pcells (rvc (rdp p) p.g p.st p.x p.y)∧P0 H' D (i+1) p':=fun er H H' k1 k2=>by
  have hh:=(h.kp0 k1).kp0 k2
  exact ⟨Pk.of0 k2,p,rfl,rfl,hh.p0.more (by omega)⟩
 by_cases hr:rightP s
 rotate_left
 ·refine ⟨2,_,rfl,rsave_no hs hr,fun H k=>?_⟩
  rw [save_no hs hr]
  obtain ⟨a,b⟩:=keep 2 H _ k (Kp.app H _)
  exact Has.intro ⟨rfl,a,b⟩
 by_cases hg:1152921504606846976≤p.g
 ·refine ⟨15,_,rfl,rsave_over hs hr hg,fun H k=>?_⟩
  rw [save_over (h.kp0 k).v hg hs hr]
  obtain ⟨a,b⟩:=keep 15 H _ k (Kp.app H _)
  exact Has.intro ⟨rfl,a,b⟩
 cases hd:p.d.down with
 | true=>
   refine ⟨26,_,rfl,rsave_write (d':=rdp p) hs hr (by omega) (rwrite_off (rdp p) hd _ _),fun H k=>?_⟩
   rw [save_down (h.kp0 k).dk hd (h.kp0 k).v (by omega) hs hr,if_neg (by decide)]
   obtain ⟨a,b⟩:=keep 26 H _ k (Kp.app H _)
   exact Has.intro ⟨rfl,a,b⟩
 | false=>
   have hsv:=saves_right hs hr
   have hfl:=W.frame_len (p.g+1) (putB s)
   obtain ⟨m,dn,hm,hml⟩:=cut_case p.d.left (W.frame (p.g+1) (putB s)).length
   obtain ⟨wr',w',hw',hW⟩:=rwrite_ok (rdp p) hd h.rows ((p.g+1) % 2) (by omega) (W.frame (p.g+1) (putB s)) (by have:=hsv.2.2; omega) kw hw (by omega) h.lb.2 m dn hm
   refine ⟨_,_,?_,rsave_write hs hr (by omega) hW,fun H k=>?_⟩
   ·split<;>rfl
   have hh:=h.kp0 k
   refine (save_gen hh.dk hh.n hd (by omega) hh.v (by omega) s x y hs right_400 m dn (fun _=>hm)).mono fun z hz=>?_
   rcases hz with ⟨q0,_⟩ | ⟨_,q1,left,wr,Wv,q2,q3,q4,_,e',q5,q6⟩
   ·exact absurd hsv q0
   rw [lf_wrap h.lb.2 hml] at q4
   subst q4
   have hX:Pk H z.2:=Pk.of hh.dk hh.n hh.v q3
   have hlb:=lf_bound h.lb hml
   refine ⟨q1,hX,?_⟩
   cases dn with
   | true=>
     refine ⟨⟨p.V,⟨p.d.a,p.d.n,lf p.d.left m,true,wr,Wv,p.d.k+1⟩,upS p.S ((p.g+1) % 2) ((W.frame (p.g+1) (putB s)).take m++(p.S ((p.g+1) % 2)).drop m),p.g,p.e,p.b,wr',w',p.st,p.x,p.y⟩,rfl,?_,⟨q2,h.n,q6,hlb,h.ox,h.bl,h.gl,h.sm,h.ss,by dsimp only; omega,kw+1,hw',by omega⟩⟩
     rw [if_neg (show ¬ (bif true then (26:Int) else 0)=0 by decide)]
     rfl
   | false=>
     refine ⟨⟨p.V,⟨p.d.a,p.d.n,lf p.d.left m,false,wr,Wv,p.d.k+1⟩,upS p.S ((p.g+1) % 2) ((W.frame (p.g+1) (putB s)).take m++(p.S ((p.g+1) % 2)).drop m),p.g+1,e',putB s,wr',w',s,x,y⟩,rfl,?_,⟨q2,h.n,q6,hlb,q5,hsv.2.2,by dsimp only; omega,?_,hs,by dsimp only; omega,kw+1,hw',by omega⟩⟩
     ·rw [if_pos (show (bif false then (26:Int) else 0)=0 from rfl)]
      rfl
     ·show sameS (stOf (p.g+1) (putB s)) s
      rw [st_frame hsv hs.2.2.2 (by omega)]
      exact same_norm s
set_option maxHeartbeats 4000000 in
theorem write_both {H0:Heap} {D X i:Nat} {p:Pz} (h:POk H0 D X i p) (hi:i≤16) (j:Nat) (hj:j=0∨j=1) (x:Ext) (b:List UInt8) (hx:(x = .nil∧b=[])∨x = .nn) :
 ∃ (er:Int) (r:Rd),EP (EE env) 16 [.agg (rdc (rdp p)),.int .i64 j,sv b]=some (.tup [.agg (rdc r),.int .i64 er]) ∧
   ∀ H,Kp [] H0 H→Has (EE env (.fn 15) [.ptr D 0,.pv (.int .i64 j),.pv (.sl x b.length (bc b))] H) fun z=>z.1 = .pv (.int .i64 er)∧Pk H z.2 ∧ ∃ p',p'.V=p.V∧xob p' = .pcells (rvc r p.g p.st p.x p.y)∧P0 z.2 D (i+1) p':=by
 obtain ⟨kw,hw,hkw⟩:=h.ww
 have hkk:=h.kk
 have keep:∀ (H:Heap),Kp [] H0 H→Pk H H ∧ ∃ p',p'.V=p.V∧xob p' = .pcells (rvc (rdp p) p.g p.st p.x p.y)∧P0 H D (i+1) p':=fun H k1=>by
  have hh:=h.kp0 k1
  exact ⟨Pk.refl H,p,rfl,rfl,hh.p0.more (by omega)⟩
 cases hd:p.d.down with
 | true=>
   refine ⟨26,rdp p,rwrite_off (rdp p) hd _ _,fun H k=>?_⟩
   rw [write_down (h.kp0 k).dk hd]
   obtain ⟨a,b⟩:=keep H k
   exact Has.intro ⟨rfl,a,b⟩
 | false=>
   by_cases hb:65556<b.length
   ·refine ⟨2,rdp p,rwrite_long (rdp p) hd j hj b (by have:=h.rows.1; show (p.S 0).length<_; omega),fun H k=>?_⟩
    rw [write_long (h.kp0 k).dk hd j hj x b (by rw [h.n]; exact hb)]
    obtain ⟨a,b⟩:=keep H k
    exact Has.intro ⟨rfl,a,b⟩
   ·obtain ⟨m,dn,hm,hml⟩:=cut_case p.d.left b.length
    obtain ⟨wr',w',hw',hW⟩:=rwrite_ok (rdp p) hd h.rows j hj b (by omega) kw hw (by omega) h.lb.2 m dn hm
    refine ⟨_,_,hW,fun H k=>?_⟩
    have hh:=h.kp0 k
    refine (write_gen hh.dk (by rw [h.n]; decide) j hj hd x b (by rcases hx with q | q; exact .inl q; exact .inr (.inl q)) (by rw [h.n]; omega) (by omega) m dn hm).mono fun z hz=>?_
    obtain ⟨q1,left,wr,Wv,q2,q3,q4,_⟩:=hz
    rw [lf_wrap h.lb.2 hml] at q4
    subst q4
    have hX:Pk H z.2:=Pk.of hh.dk hh.n hh.v (q3.more fun _ h=>List.mem_cons_of_mem _ h)
    have hV:hget z.2 p.V=vobj D p.g p.e p.b:=q3.get hh.v ((by intro h; cases h)) (v_out hh.dk hh.v)
    refine ⟨q1,hX,⟨p.V,⟨p.d.a,p.d.n,lf p.d.left m,dn,wr,Wv,p.d.k+1⟩,upS p.S j (b.take m++(p.S j).drop m),p.g,p.e,p.b,wr',w',p.st,p.x,p.y⟩,rfl,rfl,⟨q2,h.n,hV,lf_bound h.lb hml,h.ox,h.bl,h.gl,h.sm,h.ss,by dsimp only; omega,kw+1,hw',by omega⟩⟩
theorem acc_bound (S:Nat→List UInt8):∀ i,(acc S i).1≤1152921504606846976∧(acc S i).2.length≤65536:=by
 have hc:∀ s,(cnt s).1≤1152921504606846976∧(cnt s).2.length≤65536:=fun s=>by
  have:=W.getM_le s
  unfold cnt
  split
  ·exact ⟨Nat.zero_le _,Nat.zero_le _⟩
  split
  ·exact ⟨Nat.zero_le _,Nat.zero_le _⟩
  ·exact ⟨this.1,this.2.1⟩
 intro i
 induction i with
 | zero=>exact ⟨Nat.zero_le _,Nat.zero_le _⟩
 | succ i ih=>
   rw [acc_ge]
   split
   ·exact hc _
   ·exact ih
theorem same_refl (s:St):sameS s s:=by
 refine ⟨rfl,⟨rfl,fun j c d hc hd=>?_⟩,rfl⟩
 rw [hc] at hd
 injection hd with hd
 subst hd
 exact ⟨⟨rfl,rfl,rfl,rfl⟩,⟨rfl,rfl,rfl,rfl⟩,rfl,rfl⟩
theorem open_both {H0:Heap} {D X i:Nat} {p:Pz} (h:POk H0 D X i p) (hd:p.d.down=false) :
 ∃ (x y:Ext),EP (EE env) 9 [.agg (rdc (rdp p))]=some (.agg (rvc (rdp p) (acc p.S 2).1 (stOf (acc p.S 2).1 (acc p.S 2).2) x y)) ∧
   ∀ H,Kp [] H0 H→Has (EE env (.fn 8) [.ptr D 0] H) fun z=>∃ p',z.1 = .tup [.ptr p'.V 0,.pv (.int .i64 0)]∧Pk H z.2∧xob p' = .pcells (rvc (rdp p) (acc p.S 2).1 (stOf (acc p.S 2).1 (acc p.S 2).2) x y)∧P0 z.2 D i p':=by
 obtain ⟨x,y,hr⟩:=ropen_ok (rdp p) h.rows
 refine ⟨x,y,hr,fun H k=>?_⟩
 have hh:=h.kp0 k
 refine (open_ok hh.dk hh.n hd).mono fun z hz=>?_
 obtain ⟨V',e,q1,q2,q3,q4,q5⟩:=hz
 have hb:=acc_bound p.S 2
 exact ⟨⟨V',p.d,p.S,(acc p.S 2).1,e,(acc p.S 2).2,p.wr,p.w,stOf (acc p.S 2).1 (acc p.S 2).2,x,y⟩,q1,Pk.of0 q5,rfl,⟨(hh.kp0 q5).dk,h.n,q3,h.lb,q4,hb.2,hb.1,same_refl _,stOf_small (by omega),h.kk,h.ww⟩⟩
end Go.Proofs.YtflfdglnelbbiaaGreat.Di
namespace Go.Proofs.YtflfdglnelbbiaaGreat.Di
open Go Go.VM
theorem and_one (n:Int):∃ j:Nat,(j=0∨j=1)∧IntKind.i64.wrap (BitVec.ofInt IntKind.i64.bits n &&& BitVec.ofInt IntKind.i64.bits 1).toNat=j:=by
 have e1:(BitVec.ofInt 64 n &&& BitVec.ofInt 64 1).toNat=(BitVec.ofInt 64 n).toNat % 2:=by
  rw [BitVec.toNat_and]
  have:(BitVec.ofInt 64 1).toNat=1:=rfl
  rw [this,Nat.and_one_is_mod]
 refine ⟨(BitVec.ofInt 64 n).toNat % 2,by omega,?_⟩
 show IntKind.i64.wrap ((BitVec.ofInt 64 n &&& BitVec.ofInt 64 1).toNat:Int)=_
 rw [e1]
 exact wrap_i64 (by omega) (by omega)
theorem x10 (p:Pz):(rvc (rdp p) p.g p.st p.x p.y).length<65556:=by show 10<65556; decide
theorem o6 (o:OpX):(opc o).length<65556:=by show 6<65556; decide
def Jn (gn:Int) (D X i:Nat) (xl:Ext) (l:List OpX) (ex:Ex) (r:Regs) (G:Heap):Prop:=
 (ex = .normal∨ex = .exit 1) ∧ ∃ p,POk G D X (i+1) p∧Agr r [(1,.pv (.int .i64 gn)),(5,.ptr D 0),(7,.ptr p.V 0),(9,.ptr X 0),(42,.pv (.sl xl l.length (flat opc l))),(43,.pv (.int .i64 l.length)),(44,.pv (.int .i64 i))]
set_option maxHeartbeats 16000000 in
theorem op_ok {gn:Int} {H:Heap} {D X O i:Nat} {xl:Ext} {l:List OpX} (hi:i≤15) {o:OpX} (hok:okO o) {p:Pz} (hp:POk H D X i p) (ho:hget H O = .pcells (opc o)) (r:Regs) :
 Has (evK env (EE env) (VCode.at c3 [1,1,1,1,1,1,0,1,0,0,1,1,0,0,1,0]) Res (setL r [(1,.pv (.int .i64 gn)),(5,.ptr D 0),(7,.ptr p.V 0),(9,.ptr X 0),(42,.pv (.sl xl l.length (flat opc l))),(43,.pv (.int .i64 l.length)),(44,.pv (.int .i64 i)),(11,.ptr O 0)]) H doneK) fun x=>Jn gn D X i xl l x.1 x.2.1 x.2.2:=by
 have hox:=hp.xo
 have hx:hget H X = .pcells (rvc (rdp p) p.g p.st p.x p.y):=hp.xo
 refine a8 _ ho ?_
 refine ab (v:=.int .i64 o.kind) rfl ?_
 refine ao ?_
 refine aa (by decide) ?_
 refine eqK_has_name (fun kk _=>?_)
 refine aP (fun h3=>?_) (fun h3=>?_)
 ·refine a8 _ ho ?_
  refine ab (v:=.int .i64 o.N) rfl ?_
  refine au (arm_gen hp.dk o.N) ?_
  have k2:Kp [D] H (hset H D (dobj { p.d with left:=max o.N (-1),down:=p.d.down,wr:=p.d.wr })):=Kp.set H D _
  have pk:Pk H (hset H D (dobj { p.d with left:=max o.N (-1),down:=p.d.down,wr:=p.d.wr })):=Pk.of hp.dk hp.n hp.v (k2.more (by intro j hj; simp at hj; subst hj; simp [dids]))
  have hv2:=k2.get hp.v ((by intro h; cases h)) (by simp; intro hh; exact v_out hp.dk hp.v (by rw [hh]; simp [dids]))
  have hP:P0 (hset H D (dobj { p.d with left:=max o.N (-1),down:=p.d.down,wr:=p.d.wr })) D (i+1) { p with d:={ p.d with left:=max o.N (-1),down:=p.d.down,wr:=p.d.wr } }:=
   ⟨hp.dk.upd (max o.N (-1)) p.d.down p.d.wr,hp.n,hv2,⟨by dsimp only; omega,by have:=hok.n; dsimp only; omega⟩,hp.ox,hp.bl,hp.gl,hp.sm,hp.ss,Nat.le_trans hp.kk (Nat.le_succ _),by obtain ⟨k,h1,h2⟩:=hp.ww; exact ⟨k,h1,by omega⟩⟩
  have hx2:=pk X _ hx (x10 p)
  refine a8 _ hx2 ?_
  (refine ae (v:=rdc (rdp p)) rfl (of_decide_eq_true rfl) ?_)
  refine a8 _ (pk O _ ho (o6 o)) ?_
  refine ab (v:=.int .i64 o.N) rfl ?_
  refine aj (rarm_ok (rdp p) o.N) ?_
  refine a8 _ hx2 ?_
  refine aa rfl ?_
  refine ao ?_
  exact Has.intro ⟨.inl rfl,_,hP.store hx2 (x10 p),⟨rfl,rfl,rfl,rfl,rfl,rfl,rfl,trivial⟩⟩
 refine aP (fun h4=>?_) (fun h4=>?_)
 ·refine aT h4 ?_
  refine au (up_ok hp.dk) ?_
  obtain ⟨G,hG⟩:∃ G,G=hset (hset H D (dobj { p.d with left:=p.d.left,down:=false,wr:=p.d.wr })) D (dobj { p.d with left := -1,down:=false,wr:=p.d.wr }):=⟨_,rfl⟩
  have k2:Kp [D] H G:=by rw [hG]; exact (Kp.set H D _).trans (Kp.set _ D _) (by simp)
  have pk:Pk H G:=Pk.of hp.dk hp.n hp.v (k2.more (by intro j hj; simp at hj; subst hj; simp [dids]))
  have hv2:=k2.get hp.v ((by intro h; cases h)) (by simp; intro hh; exact v_out hp.dk hp.v (by rw [hh]; simp [dids]))
  have hP:P0 G D i { p with d:={ p.d with left := -1,down:=false,wr:=p.d.wr } }:=
   ⟨by rw [hG]; exact (hp.dk.upd p.d.left false p.d.wr).upd (-1) false p.d.wr,hp.n,hv2,⟨by dsimp only; omega,by dsimp only; omega⟩,hp.ox,hp.bl,hp.gl,hp.sm,hp.ss,hp.kk,hp.ww⟩
  rw [←hG]
  have hx2:=pk X _ hx (x10 p)
  refine a8 _ hx2 ?_
  (refine ae (v:=rdc (rdp p)) rfl (of_decide_eq_true rfl) ?_)
  refine aj (rup_ok (rdp p)) ?_
  refine a8 _ hx2 ?_
  refine aa rfl ?_
  refine ao ?_
  obtain ⟨q,hqd⟩:∃ q:Pz,q={ p with d:={ p.d with left := -1,down:=false,wr:=p.d.wr } }:=⟨_,rfl⟩
  rw [←hqd] at hP
  have hq:=hP.store hx2 (x10 p)
  have hdn:q.d.down=false:=by rw [hqd]
  have hxq:xob q = .pcells (rvc ⟨p.S,-1,false,p.wr,p.w⟩ p.g p.st p.x p.y):=by rw [hqd]; rfl
  rw [hxq] at hq
  show Has (callSK (EE env) (.fn 8) [.ptr D 0] (hset G X (.pcells (rvc ⟨p.S,-1,false,p.wr,p.w⟩ p.g p.st p.x p.y))) _) _
  ((obtain ⟨x,y,hr,hop⟩:=open_both hq hdn; refine am ((hop _ (Kp.refl _ _)).mono fun z hz=>?_); obtain ⟨z1,G1⟩:=z; obtain ⟨p',q1,q2,q3,q4⟩:=hz; dsimp only at q1 q2 q4 ⊢; subst q1; have hx1:=q2 X _ hq.xo (x10 q); refine a8 _ hx1 ?_; refine ab (v:=.bool q.d.down) rfl ?_; rw [hdn]; refine bg rfl ?_; refine a8 _ hx1 ?_; refine ae (v:=rdc (rdp q)) rfl (of_decide_eq_true rfl) ?_; refine aj hr ?_; refine a8 _ hx1 ?_; refine aa rfl ?_; refine ao ?_; have hfin:=(q4.more (Nat.le_succ i)).store hx1 (x10 q); rw [q3] at hfin; exact Has.intro ⟨.inl rfl,p',hfin,⟨rfl,rfl,rfl,rfl,rfl,rfl,rfl,trivial⟩⟩))
 refine aP (fun h6=>?_) (fun h6=>?_)
 ·refine boolK_beq_f h4 ?_
  cases hdn:p.d.down with
  | true=>
    refine au (open_down hp.dk hp.n hdn) ?_
    refine a8 _ hx ?_
    refine ab (v:=.bool p.d.down) rfl ?_
    rw [hdn]
    refine bg rfl ?_
    exact Has.intro ⟨.inr rfl,p,hp.more (Nat.le_succ i),⟨rfl,rfl,rfl,rfl,rfl,rfl,rfl,trivial⟩⟩
  | false=>
    obtain ⟨q,hqd⟩:∃ q:Pz,q=p:=⟨_,rfl⟩
    have hq:POk H D X i q:=by rw [hqd]; exact hp
    rw [←hqd] at hdn
    ((obtain ⟨x,y,hr,hop⟩:=open_both hq hdn; refine am ((hop _ (Kp.refl _ _)).mono fun z hz=>?_); obtain ⟨z1,G1⟩:=z; obtain ⟨p',q1,q2,q3,q4⟩:=hz; dsimp only at q1 q2 q4 ⊢; subst q1; have hx1:=q2 X _ hq.xo (x10 q); refine a8 _ hx1 ?_; refine ab (v:=.bool q.d.down) rfl ?_; rw [hdn]; refine bg rfl ?_; refine a8 _ hx1 ?_; refine ae (v:=rdc (rdp q)) rfl (of_decide_eq_true rfl) ?_; refine aj hr ?_; refine a8 _ hx1 ?_; refine aa rfl ?_; refine ao ?_; have hfin:=(q4.more (Nat.le_succ i)).store hx1 (x10 q); rw [q3] at hfin; exact Has.intro ⟨.inl rfl,p',hfin,⟨rfl,rfl,rfl,rfl,rfl,rfl,rfl,trivial⟩⟩))
 refine aP (fun h5=>?_) (fun h5=>?_)
 ·obtain ⟨j,hj,hje⟩:=and_one o.N
  obtain ⟨er,rd,hEP,hop⟩:=write_both hp (by omega) j hj o.bx o.B hok.x
  refine a8 _ ho ?_
  refine ab (v:=.int .i64 o.N) rfl ?_
  refine a9 (j:Int) hje ?_
  refine a8 _ ho ?_
  refine ab (v:=.sl o.bx o.B.length (bc o.B)) rfl ?_
  refine am ((hop _ (Kp.refl _ _)).mono fun z hz=>?_)
  obtain ⟨z1,G⟩:=z
  obtain ⟨q1,q2,p',q3,q4,q5⟩:=hz
  dsimp only at q1 q2 q5 ⊢
  subst q1
  have hx1:=q2 X _ hx (x10 p)
  have ho1:=q2 O _ ho (o6 o)
  refine a8 _ hx1 ?_
  (refine ae (v:=rdc (rdp p)) rfl (of_decide_eq_true rfl) ?_)
  refine a8 _ ho1 ?_
  refine ab (v:=.int .i64 o.N) rfl ?_
  refine a9 (j:Int) hje ?_
  refine a8 _ ho1 ?_
  refine ab (v:=.sl o.bx o.B.length (bc o.B)) rfl ?_
  refine aa (by rw [be]; simp) ?_
  refine bj (W.strOf_bc o.B) ?_
  refine aj hEP ?_
  refine af ?_
  refine aa rfl ?_
  refine ao ?_
  rw [aH]
  refine af ?_
  refine ae (v:=rdc rd) rfl (of_decide_eq_true rfl) ?_
  have hx2:=(aA [HObj.pcells (rdc rd)] (ap hx1 ((by intro h; cases h)))).trans hx1
  refine a8 _ hx2 ?_
  refine aa rfl ?_
  refine ao ?_
  refine bg rfl ?_
  have hfin:=(q5.kp0 (Kp.app G [HObj.pcells (rdc rd)])).store hx2 (x10 p)
  rw [q4] at hfin
  rw [←q3]
  exact Has.intro ⟨.inl rfl,p',hfin,⟨rfl,rfl,rfl,rfl,rfl,rfl,rfl,trivial⟩⟩
 ·obtain ⟨er,q,hql,hEP,hop⟩:=save_both hp (by omega) o.z.s o.z.x o.z.y hok.s
  refine a8 _ hx ?_
  refine ae (v:=rvc (rdp p) p.g p.st p.x p.y) rfl (of_decide_eq_true rfl) ?_
  refine a8 _ ho ?_
  refine ae (v:=stc o.z.s o.z.x o.z.y) rfl (of_decide_eq_true rfl) ?_
  refine aj hEP ?_
  refine af ?_
  refine aa (by rw [hql]; rfl) ?_
  refine a9 q (by show []++q++[]=q; simp) ?_
  rw [aH]
  have ho1:=(aA [HObj.pcells q] (ap ho ((by intro h; cases h)))).trans ho
  refine a8 _ ho1 ?_
  refine ae (v:=stc o.z.s o.z.x o.z.y) rfl (of_decide_eq_true rfl) ?_
  refine am ((hop _ (Kp.app H [HObj.pcells q])).mono fun z hz=>?_)
  obtain ⟨z1,G⟩:=z
  obtain ⟨q1,q2,p',q3,q4,q5⟩:=hz
  dsimp only at q1 q2 q5 ⊢
  subst q1
  have hq1:=q2 H.length q (ak _ _) (by omega)
  have hx1:=q2 X _ ((aA [HObj.pcells q] (ap hx ((by intro h; cases h)))).trans hx) (x10 p)
  refine bg rfl ?_
  refine a8 _ hq1 ?_
  refine ae (v:=q) (by rw [List.drop_zero]; exact List.take_of_length_le (by omega)) (by omega) ?_
  refine a8 _ hx1 ?_
  refine aa (by rw [hql]; rfl) ?_
  refine a9 q (by show []++q++[]=q; simp) ?_
  have hfin:=q5.store hx1 (x10 p)
  rw [q4] at hfin
  rw [←q3]
  exact Has.intro ⟨.inl rfl,p',hfin,⟨rfl,rfl,rfl,rfl,rfl,rfl,rfl,trivial⟩⟩
end Go.Proofs.YtflfdglnelbbiaaGreat.Di
namespace Go.Proofs.YtflfdglnelbbiaaGreat.Di
open Go Go.VM
set_option maxHeartbeats 8000000 in
theorem check_ok {gn:Int} {H:Heap} {D X i j:Nat} {xl:Ext} {l:List OpX} {p:Pz} (hp:POk H D X j p) (r:Regs) :
 Has (evK env (EE env) (VCode.at c3 [1,1,1,1,1,1,0,1,0,0,1,1,0,0,1,1]) Res (setL r [(1,.pv (.int .i64 gn)),(5,.ptr D 0),(7,.ptr p.V 0),(9,.ptr X 0),(42,.pv (.sl xl l.length (flat opc l))),(43,.pv (.int .i64 l.length)),(44,.pv (.int .i64 i))]) H doneK) fun x=>
  x.1 = .normal∧Agr x.2.1 [(1,.pv (.int .i64 gn)),(5,.ptr D 0),(7,.ptr p.V 0),(9,.ptr X 0),(42,.pv (.sl xl l.length (flat opc l))),(43,.pv (.int .i64 l.length)),(44,.pv (.int .i64 i))]∧POk x.2.2 D X j p:=by
 have hx:hget H X = .pcells (rvc (rdp p) p.g p.st p.x p.y):=hp.xo
 obtain ⟨L,y1,y2,hst⟩:=state_ok hp.v hp.ox (by have:=hp.bl; omega)
 have hp1:=hp.kp0 (Kp.app H L)
 have hx1:hget (H++L) X = .pcells (rvc (rdp p) p.g p.st p.x p.y):=hp1.xo
 have hn:=hp.n
 have sz:∀ i,i<2→(p.S i).length=p.d.n:=fun i hi=>(hp.dk.row i hi).2
 refine au (gen_ok hp.v) ?_
 refine a8 _ hx ?_
 refine ab (v:=.int .i64 p.g) rfl ?_
 refine bg rfl ?_
 refine au hst ?_
 refine a8 _ hx1 ?_
 refine ae (v:=stc p.st p.x p.y) rfl (of_decide_eq_true rfl) ?_
 refine aj ((rsameS_ok (stOf p.g p.b) p.st y1 y2 p.x p.y (stOf_small (by have:=hp.bl; omega)) hp.ss).trans (by rw [decide_eq_true hp.sm])) ?_
 refine au (down_disk hp1.dk) ?_
 refine a8 _ hx1 ?_
 refine ab (v:=.bool p.d.down) rfl ?_
 refine aQ (by simp [rdp]) ?_
 refine au (image_ok hp1.dk (by omega) 0 (.inl rfl)) ?_
 refine aa (by rw [be,sz 0 (by decide)]; simp) ?_
 refine bj (W.strOf_bc (p.S 0)) ?_
 refine aa (by decide) ?_
 refine a8 _ hx1 ?_
 refine ab (v:=sv (p.S 0)) rfl ?_
 refine aD (c:=false) ((W.str_bne (p.S 0) (p.S 0)).trans (by simp)) ?_
 refine au (image_ok hp1.dk (by omega) 1 (.inr rfl)) ?_
 refine aa (by rw [be,sz 1 (by decide)]; simp) ?_
 refine bj (W.strOf_bc (p.S 1)) ?_
 refine aa (by decide) ?_
 refine a8 _ hx1 ?_
 refine ab (v:=sv (p.S 1)) rfl ?_
 refine aD (c:=false) ((W.str_bne (p.S 1) (p.S 1)).trans (by simp)) ?_
 refine bq rfl (by rw [hx]; rfl) ?_
 refine bq (by rw [hx,hx1]) (by rw [hx]; rfl) ?_
 refine bq rfl (by rw [hx1]; rfl) ?_
 refine bq rfl (by rw [hx1]; rfl) ?_
 refine bq rfl (by rw [hx1]; rfl) ?_
 exact Has.intro ⟨rfl,⟨rfl,rfl,rfl,rfl,rfl,rfl,rfl,trivial⟩,hp1⟩
theorem block_one {R:Type} {Q:R→Prop} {env:Env} {E:Orc} {id:Nat} {c:VCode} {r:Regs} {h:Heap} {k:Ex→Regs→Heap→Option R} (hx:Has (evK env E c R r h (blockK id k)) Q):Has (evK env E (.block id c) R r h k) Q:=hx
set_option maxHeartbeats 4000000 in
theorem play_body {gn:Int} {H:Heap} {D X i:Nat} {xl:Ext} {l:List OpX} (hi:i<l.length) (h16:l.length≤16) {o:OpX} (ho:l[i]? = some o) (hok:okO o) {p:Pz} (hp:POk H D X i p) (r:Regs) :
 Has (evK env (EE env) (VCode.at c3 [1,1,1,1,1,1,0,1,0,0,1,1,0,0]) Res (setL r [(1,.pv (.int .i64 gn)),(5,.ptr D 0),(7,.ptr p.V 0),(9,.ptr X 0),(42,.pv (.sl xl l.length (flat opc l))),(43,.pv (.int .i64 l.length)),(44,.pv (.int .i64 i))]) H doneK) fun x=>Jn gn D X i xl l x.1 x.2.1 x.2.2:=by
 obtain ⟨f1,f2⟩:=aR opc_len ho
 refine aM [(1,.pv (.int .i64 gn)),(5,.ptr D 0),(7,.ptr p.V 0),(9,.ptr X 0),(42,.pv (.sl xl l.length (flat opc l))),(43,.pv (.int .i64 l.length)),(44,.pv (.int .i64 i)),(11,.ptr H.length 0)] (H++[.pcells (opc o)]) ?_ (fun r=>?_)
 ·refine aa (by (first | rfl | (simp; done) | (simp; omega))) ?_
  refine ae f1 f2 ?_
  refine af ?_
  refine aa rfl ?_
  refine a9 (opc o) rfl ?_
  refine Has.intro ⟨rfl,⟨rfl,rfl,rfl,rfl,rfl,rfl,rfl,rfl,trivial⟩,?_⟩
  exact aH _ _ _
 refine seq_join (fun ex r G=>Jn gn D X i xl l ex r G) ?_ (fun ex r G hJ=>?_)
 ·exact op_ok (by omega) hok (hp.kp0 (Kp.app H _)) (ak _ _) r
 obtain ⟨hex,p',hp',hA⟩:=hJ
 rcases hex with rfl | rfl
 ·rw [←hA.eq]
  refine seqK_norm ?_
  refine (check_ok hp' r).mono fun x hx=>?_
  exact ⟨.inl hx.1,p',hx.2.2,hx.2.1⟩
 ·exact Has.intro ⟨.inr rfl,p',hp',hA⟩
set_option maxHeartbeats 4000000 in
theorem play_round {gn:Int} {H:Heap} {D X i:Nat} {xl:Ext} {l:List OpX} (hi:i<l.length) (h16:l.length≤16) {o:OpX} (ho:l[i]? = some o) (hok:okO o) {p:Pz} (hp:POk H D X i p) (r:Regs) :
 Has (evK env (EE env) (VCode.at c3 [1,1,1,1,1,1,0,1,0,0]) Res (setL r [(1,.pv (.int .i64 gn)),(5,.ptr D 0),(7,.ptr p.V 0),(9,.ptr X 0),(42,.pv (.sl xl l.length (flat opc l))),(43,.pv (.int .i64 l.length)),(44,.pv (.int .i64 i))]) H doneK) fun x=>x.1 = .normal ∧ ∃ p',POk x.2.2 D X (i+1) p'∧Agr x.2.1 [(1,.pv (.int .i64 gn)),(5,.ptr D 0),(7,.ptr p'.V 0),(9,.ptr X 0),(42,.pv (.sl xl l.length (flat opc l))),(43,.pv (.int .i64 l.length)),(44,.pv (.int .i64 (i+1:Nat)))]:=by
 refine aM [(1,.pv (.int .i64 gn)),(5,.ptr D 0),(7,.ptr p.V 0),(9,.ptr X 0),(42,.pv (.sl xl l.length (flat opc l))),(43,.pv (.int .i64 l.length)),(44,.pv (.int .i64 i)),(45,.pv (.bool true))] H ?_ (fun r=>?_)
 ·refine aY (by omega) ?_
  (refine Has.intro ⟨rfl,?_,rfl⟩; (repeat (first | exact trivial | refine ⟨rfl,?_⟩)))
 refine aM [(1,.pv (.int .i64 gn)),(5,.ptr D 0),(7,.ptr p.V 0),(9,.ptr X 0),(42,.pv (.sl xl l.length (flat opc l))),(43,.pv (.int .i64 l.length)),(44,.pv (.int .i64 i))] H (by (refine Has.intro ⟨rfl,?_,rfl⟩; (repeat (first | exact trivial | refine ⟨rfl,?_⟩)))) (fun r=>?_)
 refine seq_join (fun ex r G=>ex = .normal ∧ ∃ p',POk G D X (i+1) p'∧Agr r [(1,.pv (.int .i64 gn)),(5,.ptr D 0),(7,.ptr p'.V 0),(9,.ptr X 0),(42,.pv (.sl xl l.length (flat opc l))),(43,.pv (.int .i64 l.length)),(44,.pv (.int .i64 i))]) ?_ (fun ex r G hJ=>?_)
 ·refine block_one ?_
  refine evK_split ((play_body hi h16 ho hok hp r).mono fun x hx=>?_)
  obtain ⟨ex,r',G'⟩:=x
  obtain ⟨hex,hx⟩:=hx
  dsimp only at hex
  rcases hex with rfl | rfl
  ·exact Has.intro ⟨rfl,hx⟩
  ·exact Has.intro ⟨rfl,hx⟩
 obtain ⟨rfl,p',h1,h2⟩:=hJ
 rw [←h2.eq]
 refine seqK_norm ?_
 refine a9 ((i+1:Nat):Int) (aq (by omega)) ?_
 exact Has.intro ⟨rfl,p',h1,⟨rfl,rfl,rfl,rfl,rfl,rfl,rfl,trivial⟩⟩
end Go.Proofs.YtflfdglnelbbiaaGreat.Di
namespace Go.Proofs.YtflfdglnelbbiaaGreat.Di
open Go Go.VM
theorem new_small (H:Heap):∃ H' D d S,EE env (.fn 7) [.pv (.int .i64 65555)] H=some (.tup [.ptr D 0,.pv (.int .i64 0)],H')∧DkOK H' D d S∧d.n=65555:=by
 have key:∀ n:Nat,n=65555→∃ H' D d S,EE env (.fn 7) [.pv (.int .i64 n)] H=some (.tup [.ptr D 0,.pv (.int .i64 0)],H')∧DkOK H' D d S∧d.n=n:=by
  intro n hn
  obtain ⟨H',h1,h2,h3⟩:=new_disk n (by omega) (by omega) H
  exact ⟨H',_,_,_,h1,h2,rfl⟩
 exact key 65555 rfl
set_option maxHeartbeats 8000000 in
theorem plays_law (ps:List PV) (h:HasArgs [.sl 6 TOp,.int .i64] ps):∃ H',EE env (.fn 3) (ps.map .pv) []=some (.pv (.bool true),H'):=by
 obtain ⟨p1,_,rfl,h1,p2,_,rfl,h2,rfl⟩:=h
 obtain ⟨xl,l,rfl,hl,hok⟩:=arg_ops h1
 obtain ⟨gn,rfl⟩:=arg_int h2
 obtain ⟨t,hgr,ht⟩:=great_law xl l hl hok
 obtain ⟨Z,hZ,hZ4,hrn,hnew⟩:=both_new
 obtain ⟨P,hP⟩:∃ P,P=AV.pv (.sl xl l.length (flat opc l)):=⟨_,rfl⟩
 refine law_end (aK (fn_has rfl ?_))
 refine aM [(0,P),(1,.pv (.int .i64 gn))] [] (by rw [hP]; (refine Has.intro ⟨rfl,?_,rfl⟩; (repeat (first | exact trivial | refine ⟨rfl,?_⟩)))) (fun r=>?_)
 refine aM [(0,P),(1,.pv (.int .i64 gn))] [] ?_ (fun r=>?_)
 ·refine aj first_ok ?_
  exact Has.intro ⟨rfl,⟨rfl,rfl,trivial⟩,rfl⟩
 refine seq_if [(4,.pv (.bool true))] True [(0,P),(1,.pv (.int .i64 gn))] (l.length≤16) [] ?_ (fun _ r=>?_) (fun h16 r=>?_)
 ·rw [hP]
  refine aj hgr ?_
  cases t with
  | true=>exact Has.intro (.inl ⟨rfl,⟨rfl,trivial⟩,rfl,trivial⟩)
  | false=>exact Has.intro (.inr ⟨rfl,⟨rfl,rfl,trivial⟩,rfl,ht rfl⟩)
 ·exact Has.intro rfl
 obtain ⟨H1,a,hn1,d1,_⟩:=hnew []
 refine aM [(0,P),(1,.pv (.int .i64 gn)),(5,.ptr 2 0)] H1 ?_ (fun r=>?_)
 ·refine au hn1 ?_
  (refine Has.intro ⟨rfl,?_,rfl⟩; (repeat (first | exact trivial | refine ⟨rfl,?_⟩)))
 have cz:cnt Z=(0,[]):=cnt_no (by omega) (by rw [hZ4]; decide)
 have az:acc (fun _=>Z) 2=(0,[]):=acc_no cz cz
 refine aV (σ:=Heap × Nat × Ext) (fun s=>[(0,P),(1,.pv (.int .i64 gn)),(5,.ptr 2 0),(7,.ptr s.2.1 0)]) (fun s=>s.1) (fun s=>DkOK s.1 2 ⟨a,65556,-1,false,0,.pv (.sl .nil 0 []),0⟩ (fun _=>Z)∧hget s.1 s.2.1=vobj 2 0 s.2.2 []∧okx s.2.2 []) ?_ (fun s hs r=>?_)
 ·refine am ((open_ok d1 rfl rfl).mono fun y hy=>?_)
  obtain ⟨v,G⟩:=y
  obtain ⟨V,e,q1,q2,q3,q4,q5⟩:=hy
  dsimp only at q1 q3 q5
  subst q1
  rw [az] at q3 q4
  exact Has.intro ⟨rfl,(G,V,e),⟨d1.kp q5 (fun _ _ h=>by cases h),q3,q4⟩,⟨rfl,rfl,rfl,rfl,trivial⟩,rfl⟩
 obtain ⟨H2,V,e⟩:=s
 obtain ⟨d2,v2,x2⟩:=hs
 dsimp only at d2 v2 x2 ⊢
 obtain ⟨x,y,hro⟩:=ropen_ok ⟨fun _=>Z,-1,false,0,.sl .nil 0 []⟩ ⟨hZ,hZ⟩
 rw [az] at hro
 refine aM [(0,P),(1,.pv (.int .i64 gn)),(5,.ptr 2 0),(7,.ptr V 0),(9,.ptr H2.length 0)] (H2++[.pcells (rvc ⟨fun _=>Z,-1,false,0,.sl .nil 0 []⟩ 0 s0 x y)]) ?_ (fun r=>?_)
 ·refine aj hrn ?_
  refine aj hro ?_
  refine af ?_
  refine aa rfl ?_
  refine ao ?_
  refine Has.intro ⟨rfl,⟨rfl,rfl,rfl,rfl,rfl,trivial⟩,?_⟩
  exact aH _ _ _
 have k3:=Kp.app H2 [HObj.pcells (rvc ⟨fun _=>Z,-1,false,0,.sl .nil 0 []⟩ 0 s0 x y)]
 have p3:POk (H2++[.pcells (rvc ⟨fun _=>Z,-1,false,0,.sl .nil 0 []⟩ 0 s0 x y)]) 2 H2.length 0 ⟨V,⟨a,65556,-1,false,0,.pv (.sl .nil 0 []),0⟩,fun _=>Z,0,e,[],0,.sl .nil 0 [],s0,x,y⟩:=
  ⟨d2.kp k3 (fun _ _ h=>by cases h),rfl,k3.get v2 ((by intro h; cases h)) (by simp),ak _ _,⟨by dsimp only; omega,by dsimp only; omega⟩,x2,Nat.zero_le _,Nat.zero_le _,same_refl _,⟨Nat.zero_le _,Nat.zero_le _,fun e h=>(by cases h),fun e h=>(by cases h)⟩,Nat.le_refl _,0,⟨_,_,rfl,rfl⟩,Nat.le_refl _⟩
 refine seq_join (fun ex r _=>ex = .normal∧Agr r [(1,.pv (.int .i64 gn))]) ?_ (fun ex r G hJ=>?_)
 ·rw [hP]
  refine aw ?_
  refine aC (σ:=Nat × Pz × Heap) (fun t=>l.length-t.1) (fun t=>[(1,.pv (.int .i64 gn)),(5,.ptr 2 0),(7,.ptr t.2.1.V 0),(9,.ptr H2.length 0),(42,.pv (.sl xl l.length (flat opc l))),(43,.pv (.int .i64 l.length)),(44,.pv (.int .i64 t.1))]) (fun t=>t.2.2)
   (fun t=>t.1≤l.length∧POk t.2.2 2 H2.length t.1 t.2.1) (fun ⟨i,p,H⟩ ⟨hi,hp⟩ r=>?_) (0,_,_) ⟨Nat.zero_le _,p3⟩ ⟨rfl,rfl,rfl,rfl,rfl,rfl,rfl,trivial⟩ rfl
  dsimp only at hi hp ⊢
  rcases Nat.lt_or_ge i l.length with hlt | hge
  ·obtain ⟨o,ho⟩:∃ o,l[i]? = some o:=⟨_,List.getElem?_eq_getElem hlt⟩
   refine (play_round hlt h16 ho (hok o (List.mem_of_getElem? ho)) hp r).mono fun x hx=>?_
   obtain ⟨ex,r',G'⟩:=x
   obtain ⟨rfl,p',hp',hA'⟩:=hx
   exact ⟨(i+1,p',G'),⟨hlt,hp'⟩,(by dsimp only; omega),hA',rfl⟩
  ·refine aF (by omega) ?_
   exact Has.intro (Has.intro ⟨rfl,⟨rfl,trivial⟩⟩)
 obtain ⟨rfl,hA⟩:=hJ
 rw [←hA.eq]
 refine seqK_norm ?_
 obtain ⟨H4,D4,d4,S4,hn4,dk4,n4⟩:=new_small G
 refine aM [(1,.pv (.int .i64 gn)),(21,.pv .nilp)] G (by (refine Has.intro ⟨rfl,?_,rfl⟩; (repeat (first | exact trivial | refine ⟨rfl,?_⟩)))) (fun r=>?_)
 refine aM [(1,.pv (.int .i64 gn)),(21,.pv .nilp),(22,.ptr D4 0)] H4 ?_ (fun r=>?_)
 ·refine au hn4 ?_
  (refine Has.intro ⟨rfl,?_,rfl⟩; (repeat (first | exact trivial | refine ⟨rfl,?_⟩)))
 refine aM [(1,.pv (.int .i64 gn)),(21,.pv .nilp),(25,.pv (.int .i64 2))] H4 ?_ (fun r=>?_)
 ·refine au (open_small dk4 (by rw [n4]; decide)) ?_
  (refine Has.intro ⟨rfl,?_,rfl⟩; (repeat (first | exact trivial | refine ⟨rfl,?_⟩)))
 refine aM [(1,.pv (.int .i64 gn)),(21,.pv .nilp),(25,.pv (.int .i64 2)),(26,.pv (.int .i64 0))] H4 (by (refine Has.intro ⟨rfl,?_,rfl⟩; (repeat (first | exact trivial | refine ⟨rfl,?_⟩)))) (fun r=>?_)
 refine aM [(1,.pv (.int .i64 gn)),(21,.pv .nilp),(25,.pv (.int .i64 2)),(26,.pv (.int .i64 (if gn>0 then gn % 2 else 0)))] H4 ?_ (fun r=>?_)
 ·refine ah (fun hg=>?_) (fun hg=>?_)
  ·refine aa (by decide) ?_
   refine a9 (if gn>0 then gn % 2 else 0) (by rw [Int.tmod_eq_emod_of_nonneg (by omega),if_pos hg]) ?_
   (refine Has.intro ⟨rfl,?_,rfl⟩; (repeat (first | exact trivial | refine ⟨rfl,?_⟩)))
  ·rw [if_neg hg]
   (refine Has.intro ⟨rfl,?_,rfl⟩; (repeat (first | exact trivial | refine ⟨rfl,?_⟩)))
 obtain ⟨L,hsn⟩:=state_none (H4++[.pcells (stc s0 .nil .nil)])
 refine aT rfl ?_
 refine aj (slot_gen gn) ?_
 refine aT rfl ?_
 refine au (save_none (s:=s0) (x:=.nil) (y:=.nil) H4) ?_
 refine aT rfl ?_
 refine au (gen_none _) ?_
 refine aT rfl ?_
 refine au (disk_none _) ?_
 refine au hsn ?_
 refine ab (v:=.sl .nil 0 []) rfl ?_
 refine aT rfl ?_
 exact Has.intro rfl
end Go.Proofs.YtflfdglnelbbiaaGreat.Di
