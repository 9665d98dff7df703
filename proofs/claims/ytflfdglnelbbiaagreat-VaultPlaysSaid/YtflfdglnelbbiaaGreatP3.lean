/-
  Part 3 of the functions and the law.
  Disks: what is known of one; the functions that change little.
  A disk's Write.
  A disk's clone.
  Names.
  Sums that tell when they do not fit: what the program's functions compute.
  Vectors.
  Containers.
  Containers that are found by their names.
  Find.
  Sums of vectors.
  Sums of pods.
-/
import Derived.Test.YtflfdglnelbbiaaGreatP2
import Derived.Test.YtflfdglnelbbiaaGreatP1
set_option linter.all false
set_option linter.unusedVariables false
set_option linter.unusedSimpArgs false
set_option linter.unusedSectionVars false
namespace Go.Proofs.YtflfdglnelbbiaaGreat.Di
open Go Go.VM
def Kp (l:List Nat) (H H':Heap):Prop:=H.length≤H'.length ∧ ∀ i,i<H.length→i∉l→hget H' i=hget H i
theorem Kp.refl (l:List Nat) (H:Heap):Kp l H H:=⟨Nat.le_refl _,fun _ _ _=>rfl⟩
theorem Kp.trans {l l':List Nat} {H H1 H2:Heap} (h1:Kp l H H1) (h2:Kp l' H1 H2) (hl:∀ i∈l',i∈l∨H.length≤i):Kp l H H2:=
 ⟨Nat.le_trans h1.1 h2.1,fun i hi hn=>(h2.2 i (Nat.lt_of_lt_of_le hi h1.1) fun hm=>by
   rcases hl i hm with h | h
   ·exact hn h
   ·omega).trans (h1.2 i hi hn)⟩
theorem Kp.app (H L:Heap):Kp [] H (H++L):=⟨by simp,fun i hi _=>aA L hi⟩
theorem Kp.set (H:Heap) (p:Nat) (o:HObj):Kp [p] H (hset H p o):=⟨by rw [br]; exact Nat.le_refl _,fun i _ hn=>an _ _ (fun e=>hn (by simp [e]))⟩
theorem Kp.more {l l':List Nat} {H H':Heap} (h:Kp l H H') (hl:∀ i∈l,i∈l'):Kp l' H H':=⟨h.1,fun i hi hn=>h.2 i hi fun hm=>hn (hl i hm)⟩
theorem Kp.get {l:List Nat} {H H':Heap} (h:Kp l H H') {i:Nat} {o:HObj} (hg:hget H i=o) (ho:o ≠ .dead) (hn:i∉l):hget H' i=o:=(h.2 i (ap hg ho) hn).trans hg
structure Dk where
 a:Nat→Nat
 n:Nat
 left:Int
 down:Bool
 wr:Int
 W:AV
 k:Nat
def dobj (d:Dk):HObj:=.cells [.hs 1 (d.a 0) 0 d.n d.n,.hs 1 (d.a 1) 0 d.n d.n,.pv (.int .i64 d.left),.pv (.bool d.down),.pv (.int .i64 d.wr),d.W]
structure DkOK (H:Heap) (D:Nat) (d:Dk) (S:Nat→List UInt8):Prop where
 obj:hget H D=dobj d
 row:∀ i,i<2→hget H (d.a i) = .pcells (bc (S i))∧(S i).length=d.n
 app:∃ ws,AppV H d.W .nil 1 d.k ws
 ne:d.a 0≠d.a 1
def dids (D:Nat) (d:Dk):List Nat:=D::d.a 0::d.a 1::(tokOf d.W).toList
theorem DkOK.rne {H:Heap} {D:Nat} {d:Dk} {S:Nat→List UInt8} (h:DkOK H D d S) {i:Nat} (hi:i<2):d.a i≠D:=by
 intro e
 have h1:=(h.row i hi).1
 rw [e,h.obj] at h1
 cases h1
theorem DkOK.kp {H H':Heap} {D:Nat} {d:Dk} {S:Nat→List UInt8} (h:DkOK H D d S) {l:List Nat} (hk:Kp l H H') (hl:∀ i∈dids D d,i∉l):DkOK H' D d S:=by
 obtain ⟨ws,hw⟩:=h.app
 refine ⟨hk.get h.obj (by intro h; cases h) (hl _ (by simp [dids])),fun i hi=>⟨hk.get (h.row i hi).1 (by intro h; cases h) (hl _ ?_),(h.row i hi).2⟩,⟨ws,?_⟩,h.ne⟩
 ·have:i=0∨i=1:=by omega
  rcases this with rfl | rfl<;>simp [dids]
 ·rcases hw with h1 | ⟨h1,h2,t,h3,h4⟩
  ·exact .inl h1
  ·exact .inr ⟨h1,h2,t,h3,hk.get h4 (by intro h; cases h) (hl _ (by simp [dids,h3,tokOf]))⟩
theorem DkOK.more {H:Heap} {D:Nat} {d:Dk} {S:Nat→List UInt8} (h:DkOK H D d S) (L:Heap):DkOK (H++L) D d S:=h.kp (Kp.app H L) fun _ _ h=>by cases h
theorem DkOK.upd {H:Heap} {D:Nat} {d:Dk} {S:Nat→List UInt8} (h:DkOK H D d S) (left:Int) (down:Bool) (wr:Int):DkOK (hset H D (dobj { d with left:=left,down:=down,wr:=wr })) D { d with left:=left,down:=down,wr:=wr } S:=by
 obtain ⟨ws,hw⟩:=h.app
 exact ⟨ai _ (ap h.obj (by intro h; cases h)),fun i hi=>⟨(an _ _ (h.rne hi)).trans (h.row i hi).1,(h.row i hi).2⟩,⟨ws,b9 hw _ h.obj (fun _ _ h=>by cases h)⟩,h.ne⟩
def upS (S:Nat→List UInt8) (i:Nat) (b:List UInt8):Nat→List UInt8:=fun j=>if j=i then b else S j
theorem DkOK.slot {H:Heap} {D:Nat} {d:Dk} {S:Nat→List UInt8} (h:DkOK H D d S) {i:Nat} (hi:i<2) {b:List UInt8} (hb:b.length=d.n):DkOK (hset H (d.a i) (.pcells (bc b))) D d (upS S i b):=by
 obtain ⟨ws,hw⟩:=h.app
 have hr:=(h.row i hi).1
 refine ⟨(an _ _ (h.rne hi).symm).trans h.obj,fun j hj=>?_,⟨ws,b9 hw _ hr (fun _ _ h=>by cases h)⟩,h.ne⟩
 by_cases hji:j=i
 ·subst hji
  exact ⟨by simp only [upS,if_true]; exact ai _ (ap hr (by intro h; cases h)),by simp [upS,hb]⟩
 ·have hne:d.a j≠d.a i:=by
   have h1:i=0∨i=1:=by omega
   have h2:j=0∨j=1:=by omega
   have:=h.ne
   rcases h1 with rfl | rfl<;>rcases h2 with rfl | rfl
   ·exact absurd rfl hji
   ·exact this.symm
   ·exact this
   ·exact absurd rfl hji
  simp only [upS,hji,if_false]
  exact ⟨(an _ _ hne).trans (h.row j hj).1,(h.row j hj).2⟩
theorem new_disk (n:Nat) (h1:16≤n) (h2:n≤262144) (H:Heap) :
 ∃ H',EE env (.fn 7) [.pv (.int .i64 n)] H=some (.tup [.ptr (H.length+2) 0,.pv (.int .i64 0)],H')∧DkOK H' (H.length+2) ⟨fun i=>H.length+i,n,-1,false,0,.pv (.sl .nil 0 []),0⟩ (fun _=>List.replicate n 0)∧Kp [] H H':=by
 refine ⟨H++[.pcells (bc (List.replicate n 0)),.pcells (bc (List.replicate n 0)),dobj ⟨fun i=>H.length+i,n,-1,false,0,.pv (.sl .nil 0 []),0⟩],?_,?_,Kp.app _ _⟩
 ·refine Has.eq (aK ?_)
  refine aF (by omega) ?_
  refine aF (by omega) ?_
  refine aa (by simp; omega) ?_
  refine a9 (bc (List.replicate n 0)) (by rw [Int.toNat_natCast]; exact bc_zeros n) ?_
  refine aa (by simp; omega) ?_
  refine a9 (bc (List.replicate n 0)) (by rw [Int.toNat_natCast]; exact bc_zeros n) ?_
  refine bq rfl rfl ?_
  refine bq rfl rfl ?_
  refine Has.intro ?_
  obtain ⟨Z,hZ⟩:∃ Z,Z=HObj.pcells (bc (List.replicate n 0)):=⟨_,rfl⟩
  show (AV.tup [.ptr ((H++[HObj.pcells (bc (List.replicate n 0))])++[HObj.pcells (bc (List.replicate n 0))]).length 0,.pv (.int .i64 0)],((H++[HObj.pcells (bc (List.replicate n 0))])++[HObj.pcells (bc (List.replicate n 0))])++[HObj.cells [.hs 1 H.length 0 n n,.hs 1 (H++[HObj.pcells (bc (List.replicate n 0))]).length 0 n n,.pv (.int .i64 (-1)),.pv (.bool false),.pv (.int .i64 0),.pv (.sl .nil 0 [])]])=_
  rw [←hZ]
  simp [dobj]
 ·have g:∀ j,j<3→hget (H++[HObj.pcells (bc (List.replicate n 0)),.pcells (bc (List.replicate n 0)),dobj ⟨fun i=>H.length+i,n,-1,false,0,.pv (.sl .nil 0 []),0⟩]) (H.length+j)=hget [HObj.pcells (bc (List.replicate n 0)),.pcells (bc (List.replicate n 0)),dobj ⟨fun i=>H.length+i,n,-1,false,0,.pv (.sl .nil 0 []),0⟩] j:=by
   intro j _
   rw [hget_eq,hget_eq,List.getElem?_append_right (by omega)]
   congr 2; omega
  refine ⟨g 2 (by omega),fun i hi=>⟨?_,by simp⟩,⟨[],AppV.new rfl⟩,by simp⟩
  have:i=0∨i=1:=by omega
  rcases this with rfl | rfl
  ·exact g 0 (by omega)
  ·exact g 1 (by omega)
variable {H:Heap} {D:Nat} {d:Dk} {S:Nat→List UInt8}
theorem size_disk (h:DkOK H D d S):EE env (.fn 32) [.ptr D 0] H=some (.pv (.int .i64 d.n),H):=by
 refine Has.eq (aK ?_)
 refine aa (by decide) ?_
 refine a8 _ h.obj ?_
 exact Has.intro rfl
theorem able_ok (h:DkOK H D d S) (hd:d.down=false) (i:Nat) (hi:i=0∨i=1):EE env (.fn 36) [.ptr D 0,.pv (.int .i64 i)] H=some (.pv (.int .i64 0),H):=by
 obtain ⟨a,n,left,down,wr,W,k⟩:=d
 simp only at hd
 subst hd
 refine Has.eq (aK ?_)
 refine a8 _ h.obj ?_
 rcases hi with rfl | rfl
 ·refine aF (by decide) ?_
  refine aF (by decide) ?_
  exact Has.intro rfl
 ·refine aF (by decide) ?_
  refine aF (by decide) ?_
  exact Has.intro rfl
theorem down_disk (h:DkOK H D d S):EE env (.fn 22) [.ptr D 0] H=some (.pv (.bool d.down),H):=by
 refine Has.eq (aK ?_)
 refine a8 _ h.obj ?_
 exact Has.intro rfl
theorem arm_ok (h:DkOK H D d S):EE env (.fn 11) [.ptr D 0,.pv (.int .i64 3)] H=some (.pv (.tup []),hset H D (dobj { d with left:=3,down:=d.down,wr:=d.wr })):=by
 refine Has.eq (aK ?_)
 refine a9 3 (by decide) ?_
 refine a8 _ h.obj ?_
 exact Has.intro rfl
theorem arm_gen (h:DkOK H D d S) (n:Int):EE env (.fn 11) [.ptr D 0,.pv (.int .i64 n)] H=some (.pv (.tup []),hset H D (dobj { d with left:=max n (-1),down:=d.down,wr:=d.wr })):=by
 refine Has.eq (aK ?_)
 refine a9 (max n (-1)) (by show (if _ then _ else _)=_; split<;>omega) ?_
 refine a8 _ h.obj ?_
 exact Has.intro rfl
theorem up_ok (h:DkOK H D d S):EE env (.fn 13) [.ptr D 0] H=some (.pv (.tup []),hset (hset H D (dobj { d with left:=d.left,down:=false,wr:=d.wr })) D (dobj { d with left := -1,down:=false,wr:=d.wr })):=by
 refine Has.eq (aK ?_)
 refine a8 _ h.obj ?_
 refine a8 _ (h.upd d.left false d.wr).obj ?_
 exact Has.intro rfl
theorem all_bc {bs:List UInt8} {n:Nat} (hl:bs.length=n):((bc bs).drop 0).take (n*1)=bc bs:=by
 rw [List.drop_zero]; exact List.take_of_length_le (by rw [be]; omega)
theorem image_ok (h:DkOK H D d S) (hn:1≤d.n∧d.n≤1000000) (i:Nat) (hi:i=0∨i=1):EE env (.fn 23) [.ptr D 0,.pv (.int .i64 i)] H=some (.pv (.sl .nn d.n (bc (S i))),H):=by
 have h0:=h.row 0 (by decide)
 have h1:=h.row 1 (by decide)
 have e0:S 0≠[]:=by intro e; rw [e] at h0; simp at h0; omega
 have e1:S 1≠[]:=by intro e; rw [e] at h1; simp at h1; omega
 have c0:=W.clone_ee (S 0) e0 (by omega)
 have c1:=W.clone_ee (S 1) e1 (by omega)
 rw [h0.2] at c0
 rw [h1.2] at c1
 refine Has.eq (aK ?_)
 rcases hi with rfl | rfl
 ·refine aF (by decide) ?_
  refine aF (by decide) ?_
  refine aa (by decide) ?_
  refine a8 _ h.obj ?_
  refine a8 _ h0.1 ?_
  refine ae (v:=bc (S 0)) (all_bc h0.2) (by rw [be]; omega) ?_
  refine au c0 ?_
  refine aa (by simp) ?_
  refine aa (W.bc_flat _) ?_
  exact Has.intro rfl
 ·refine aF (by decide) ?_
  refine aF (by decide) ?_
  refine aa (by decide) ?_
  refine a8 _ h.obj ?_
  refine a8 _ h1.1 ?_
  refine ae (v:=bc (S 1)) (all_bc h1.2) (by rw [be]; omega) ?_
  refine au c1 ?_
  refine aa (by simp) ?_
  refine aa (W.bc_flat _) ?_
  exact Has.intro rfl
end Go.Proofs.YtflfdglnelbbiaaGreat.Di
namespace Go.Proofs.YtflfdglnelbbiaaGreat.Di
open Go Go.VM
theorem clone_x (x:Ext) (hx:x = .nn∨x = .nnx) (bs:List UInt8) (hl:bs.length≤1000000):EP (EE env) 37 [.sl x bs.length (bc bs)]=some (.sl (W.cx bs) bs.length (bc bs)):=by
 rcases hx with rfl | rfl
 ·exact W.clone_nn bs hl
 refine Has.eq (aE ?_)
 cases bs with
 | nil=>
   refine app_none ?_
   exact Has.intro (Has.intro rfl)
 | cons b bs=>
   refine app_plain rfl rfl (by rw [be,Nat.mul_one]) (by simp) (by show (0+(b::bs).length)*1≤140737488355328; omega) ?_
   refine Has.intro (Has.intro ?_)
   show PV.sl .nn (0+(b::bs).length) ([]++bc (b::bs))=_
   rw [Nat.zero_add]; rfl
theorem clone_any (x:Ext) (bs:List UInt8) (hx:(x = .nil∧bs=[])∨x = .nn∨x = .nnx) (hl:bs.length≤1000000):∃ e,EP (EE env) 37 [.sl x bs.length (bc bs)]=some (.sl e bs.length (bc bs)):=by
 rcases hx with ⟨rfl,rfl⟩ | hx
 ·exact ⟨_,W.clone_nil⟩
 ·exact ⟨_,clone_x x hx bs hl⟩
theorem tok_ids {D:Nat} {d:Dk} {i:Nat} (h:tokOf d.W=some i):i∈dids D d:=by simp [dids,h]
theorem DkOK.wr {H H1:Heap} {D:Nat} {d:Dk} {S:Nat→List UInt8} (h:DkOK H D d S) {W':AV} {k':Nat} {ws:List PV} (hw:AppV H1 W' .nil 1 k' ws) (hf:Fr d.W H H1) (ht:tokOf W'=tokOf d.W∨tokOf W'=some H.length) :
 DkOK (hset H1 D (dobj { d with W:=W',k:=k' })) D { d with W:=W',k:=k' } S∧Kp (dids D d) H (hset H1 D (dobj { d with W:=W',k:=k' })):=by
 obtain ⟨ws0,hw0⟩:=h.app
 have o1:=Fr.obj hw0 hf h.obj (by intro h; cases h) (fun _ _ h=>by cases h)
 refine ⟨⟨ai _ (ap o1 (by intro h; cases h)),fun i hi=>⟨(an _ _ (h.rne hi)).trans (Fr.obj hw0 hf (h.row i hi).1 (by intro h; cases h) (fun _ _ h=>by cases h)),(h.row i hi).2⟩,⟨ws,b9 hw _ o1 (fun _ _ h=>by cases h)⟩,h.ne⟩,?_⟩
 refine ⟨by rw [br]; exact hf.1,fun i hi hn=>?_⟩
 rw [an _ _ (fun e=>hn (by simp [dids,e]))]
 exact hf.2 i hi fun hh=>hn (tok_ids hh)
theorem slot_cells (was b:List UInt8) (m:Nat) (hm:m≤b.length) (hb:b.length≤was.length):(bc was).take 0++(bc (b.take m)).take (mulE (min m was.length) 1)++(bc was).drop (0+mulE (min m was.length) 1)=bc (b.take m++was.drop m):=by
 have e:min m was.length=m:=by omega
 rw [e,aG,Nat.mul_one,List.take_zero,List.nil_append,Nat.zero_add,bc_take,bc_drop,bc_append,List.take_take,Nat.min_self]
set_option maxHeartbeats 4000000 in
theorem write_gen {H:Heap} {D:Nat} {d:Dk} {S:Nat→List UInt8} (h:DkOK H D d S) (hn:1≤d.n∧d.n≤262144) (i:Nat) (hi:i=0∨i=1) (hdn:d.down=false) (x:Ext) (b:List UInt8) (hx:(x = .nil∧b=[])∨x = .nn∨x = .nnx) (hb:b.length≤d.n) (hk:d.k≤100000)
 (m:Nat) (dn:Bool) (hm:(0≤d.left∧d.left≤b.length∧(m:Int)=d.left∧dn=true)∨((d.left<0∨(b.length:Int)<d.left)∧m=b.length∧dn=false)) :
 Has (EE env (.fn 15) [.ptr D 0,.pv (.int .i64 i),.pv (.sl x b.length (bc b))] H) fun y=>y.1 = .pv (.int .i64 (bif dn then 26 else 0)) ∧ ∃ left wr Wv,DkOK y.2 D ⟨d.a,d.n,left,dn,wr,Wv,d.k+1⟩ (upS S i (b.take m++(S i).drop m)) ∧
  Kp (dids D d) H y.2∧left=(if 0<d.left then IntKind.i64.wrap (d.left-m) else d.left) ∧ ∃ t,tokOf Wv=some t∧(tokOf d.W=some t∨H.length≤t):=by
 have hmb:m≤b.length:=by
  rcases hm with ⟨_,e1,e2,_⟩ | ⟨_,e1,_⟩<;>omega
 have hi2:i<2:=by omega
 obtain ⟨cx,hcx⟩:=clone_any x b hx (by omega)
 refine aK (fn_has rfl ?_)
 refine aM ([(0,.ptr D 0),(1,.pv (.int .i64 i)),(2,.pv (.sl x b.length (bc b)))]) H (by (refine Has.intro ⟨rfl,?_,rfl⟩; (repeat (first | exact trivial | refine ⟨rfl,?_⟩)))) (fun r=>?_)
 refine aM ([(0,.ptr D 0),(1,.pv (.int .i64 i)),(2,.pv (.sl x b.length (bc b)))]) H ?_ (fun r=>?_)
 ·refine au (able_ok h hdn i hi) ?_
  refine bg rfl ?_
  (refine Has.intro ⟨rfl,?_,rfl⟩; (repeat (first | exact trivial | refine ⟨rfl,?_⟩)))
 refine aM ([(0,.ptr D 0),(1,.pv (.int .i64 i)),(2,.pv (.sl x b.length (bc b)))]) H ?_ (fun r=>?_)
 ·refine au (size_disk h) ?_
  refine aF (by omega) ?_
  (refine Has.intro ⟨rfl,?_,rfl⟩; (repeat (first | exact trivial | refine ⟨rfl,?_⟩)))
 refine aV (σ:=Heap × AV) (fun _=>([(0,.ptr D 0),(1,.pv (.int .i64 i)),(2,.pv (.sl x b.length (bc b)))])) (fun s=>s.1) (fun s=>DkOK s.1 D ⟨d.a,d.n,d.left,d.down,d.wr,s.2,d.k+1⟩ S∧Kp (dids D d) H s.1 ∧ ∃ t,tokOf s.2=some t∧(tokOf d.W=some t∨H.length≤t)) ?_ (fun s hs r=>?_)
 ·obtain ⟨a,n,left,down,wr,Wv,k⟩:=d
  obtain ⟨ws,hw⟩:=h.app
  have hob:=h.obj
  simp only at hn hdn hb hk hm hw hob
  have fin:∀ v' H',AppV H' v' .nil 1 (k+1) (ws++[PV.sl cx b.length (bc b)])→Fr Wv H H'→(tokOf v'=tokOf Wv∨tokOf v'=some H.length)→∃ t,v' = .tsl t (k+1) (ws++[PV.sl cx b.length (bc b)])∧hget H' D=dobj ⟨a,n,left,down,wr,Wv,k⟩ ∧
   DkOK (hset H' D (dobj ⟨a,n,left,down,wr,v',k+1⟩)) D ⟨a,n,left,down,wr,v',k+1⟩ S∧Kp (dids D ⟨a,n,left,down,wr,Wv,k⟩) H (hset H' D (dobj ⟨a,n,left,down,wr,v',k+1⟩))∧(tokOf Wv=some t∨H.length≤t):=by
   intro v' H' q1 q2 q3
   obtain ⟨p1,p2⟩:=h.wr q1 q2 q3
   have o1:=Fr.obj hw q2 hob ((by intro h; cases h)) (fun _ _ h=>by cases h)
   rcases q1 with ⟨q,_⟩ | ⟨_,_,t,q,_⟩
   ·omega
   ·subst q
    refine ⟨t,rfl,o1,p1,p2,?_⟩
    rcases q3 with q3 | q3
    ·exact .inl q3.symm
    ·right; injection q3 with q3; omega
  rcases hw with ⟨rfl,rfl,rfl,_⟩ | ⟨hk0,hl,t,rfl,ht⟩
  ·refine a8 _ hob ?_
   refine aj hcx ?_
   refine app_has (AppV.new (e:=.nil) (es:=1) rfl) (m:=1) (by rfl) (by show (0+1)*24≤140737488355328; omega) (fun v' H' q1 q2 q3=>?_)
   obtain ⟨t,rfl,p1,p2,p3,p4⟩:=fin v' H' q1 q2 q3
   refine a8 _ p1 ?_
   exact Has.intro ⟨rfl,(_,_),⟨p2,p3,t,rfl,p4⟩,⟨rfl,rfl,rfl,trivial⟩,rfl⟩
  ·refine a8 _ hob ?_
   refine aj hcx ?_
   refine app_has (e:=.nil) (cs:=ws) (n:=k) (.inr ⟨hk0,hl,t,rfl,ht⟩) (m:=1) (by rfl) (by show (k+1)*24≤140737488355328; omega) (fun v' H' q1 q2 q3=>?_)
   obtain ⟨t',rfl,p1,p2,p3,p4⟩:=fin v' H' q1 q2 q3
   refine a8 _ p1 ?_
   exact Has.intro ⟨rfl,(_,_),⟨p2,p3,t',rfl,p4⟩,⟨rfl,rfl,rfl,trivial⟩,rfl⟩
 obtain ⟨H1,W1⟩:=s
 obtain ⟨h1,k1,t1⟩:=hs
 simp only at h1 k1 t1 ⊢
 refine aM [(0,.ptr D 0),(1,.pv (.int .i64 i)),(2,.pv (.sl x b.length (bc b))),(8,.pv (.int .i64 b.length))] H1 (by (refine Has.intro ⟨rfl,?_,rfl⟩; (repeat (first | exact trivial | refine ⟨rfl,?_⟩)))) (fun r=>?_)
 refine aV (σ:=Heap) (fun _=>([(0,.ptr D 0),(1,.pv (.int .i64 i)),(2,.pv (.sl x b.length (bc b))),(8,.pv (.int .i64 m))])) (fun s=>s) (fun s=>DkOK s D ⟨d.a,d.n,d.left,dn,d.wr,W1,d.k+1⟩ S∧Kp (dids D d) H s) ?_ (fun H2 hs r=>?_)
 ·rw [hdn] at h1
  refine a8 _ h1.obj ?_
  refine ah (fun q1=>?_) (fun q1=>?_)
  ·have q1':0≤d.left:=q1
   refine a8 _ h1.obj ?_
   refine ah (fun q2=>?_) (fun q2=>?_)
   ·have q2':d.left≤b.length:=q2
    obtain ⟨e1,e2⟩:(m:Int)=d.left∧dn=true:=by
     rcases hm with ⟨_,_,e1,e2⟩ | ⟨e1,_,_⟩
     ·exact ⟨e1,e2⟩
     ·omega
    subst e2
    refine a8 _ h1.obj ?_
    refine a8 _ h1.obj ?_
    refine Has.intro ⟨rfl,_,⟨h1.upd d.left true d.wr,k1.trans (Kp.set _ _ _) (by intro j hj; simp at hj; subst hj; left; simp [dids])⟩,⟨rfl,rfl,rfl,?_,trivial⟩,rfl⟩
    exact congrArg (fun n=>AV.pv (.int .i64 n)) e1.symm
   ·have q2':¬ d.left≤b.length:=q2
    obtain ⟨e1,e2⟩:m=b.length∧dn=false:=by
     rcases hm with ⟨_,e1,_,_⟩ | ⟨_,e1,e2⟩
     ·omega
     ·exact ⟨e1,e2⟩
    subst e2
    rw [e1]
    exact Has.intro ⟨rfl,H1,⟨h1,k1⟩,⟨rfl,rfl,rfl,rfl,trivial⟩,rfl⟩
  ·have q1':¬ 0≤d.left:=q1
   obtain ⟨e1,e2⟩:m=b.length∧dn=false:=by
    rcases hm with ⟨e1,_,_,_⟩ | ⟨_,e1,e2⟩
    ·omega
    ·exact ⟨e1,e2⟩
   subst e2
   rw [e1]
   exact Has.intro ⟨rfl,H1,⟨h1,k1⟩,⟨rfl,rfl,rfl,rfl,trivial⟩,rfl⟩
 obtain ⟨h2,k2⟩:=hs
 refine aV (σ:=Heap) (fun _=>[(0,.ptr D 0),(8,.pv (.int .i64 m))]) (fun s=>s) (fun s=>DkOK s D ⟨d.a,d.n,d.left,dn,d.wr,W1,d.k+1⟩ (upS S i (b.take m++(S i).drop m))∧Kp (dids D d) H s) ?_ (fun H3 hs r=>?_)
 ·have hrow:=h2.row i hi2
  simp only at hrow
  have hbl:b.length≤(S i).length:=by rw [hrow.2]; exact hb
  have hlen:(b.take m++(S i).drop m).length=d.n:=by rw [List.length_append,List.length_take,List.length_drop,hrow.2]; omega
  have g1:=h2.slot hi2 (b:=b.take m++(S i).drop m) hlen
  have g2:Kp (dids D d) H (hset H2 (d.a i) (.pcells (bc (b.take m++(S i).drop m)))):=k2.trans (Kp.set _ _ _) (by
   intro j hj; simp at hj; subst hj; left
   rcases hi with rfl | rfl<;>simp [dids])
  refine aa (by simp; omega) ?_
  refine a8 _ h2.obj ?_
  rcases hi with rfl | rfl
  ·refine aa (by simp; omega) ?_
   refine a9 (bc (b.take m)) (by rw [aG,aG,Int.toNat_natCast,Nat.zero_mul,List.drop_zero,Nat.sub_zero,Nat.mul_one,bc_take]) ?_
   refine a8 _ hrow.1 ?_
   refine aa (by simp [be,aG]; omega) ?_
   refine a9 (min m (S 0).length) (by rw [hrow.2,Int.toNat_natCast]; rfl) ?_
   refine a9 (bc (b.take m++(S 0).drop m)) (slot_cells (S 0) b m hmb hbl) ?_
   exact Has.intro ⟨rfl,_,⟨g1,g2⟩,⟨rfl,rfl,trivial⟩,rfl⟩
  ·refine aa (by simp; omega) ?_
   refine a9 (bc (b.take m)) (by rw [aG,aG,Int.toNat_natCast,Nat.zero_mul,List.drop_zero,Nat.sub_zero,Nat.mul_one,bc_take]) ?_
   refine a8 _ hrow.1 ?_
   refine aa (by simp [be,aG]; omega) ?_
   refine a9 (min m (S 1).length) (by rw [hrow.2,Int.toNat_natCast]; rfl) ?_
   refine a9 (bc (b.take m++(S 1).drop m)) (slot_cells (S 1) b m hmb hbl) ?_
   exact Has.intro ⟨rfl,_,⟨g1,g2⟩,⟨rfl,rfl,trivial⟩,rfl⟩
 obtain ⟨h3,k3⟩:=hs
 refine aV (σ:=Heap × Int) (fun _=>[(0,.ptr D 0),(8,.pv (.int .i64 m))]) (fun s=>s.1) (fun s=>DkOK s.1 D ⟨d.a,d.n,d.left,dn,s.2,W1,d.k+1⟩ (upS S i (b.take m++(S i).drop m))∧Kp (dids D d) H s.1) ?_ (fun s hs r=>?_)
 ·refine a8 _ h3.obj ?_
  refine ao ?_
  refine a8 _ h3.obj ?_
  exact Has.intro ⟨rfl,(hset H3 D (dobj ⟨d.a,d.n,d.left,dn,IntKind.i64.wrap (d.wr+m),W1,d.k+1⟩),IntKind.i64.wrap (d.wr+m)),⟨h3.upd d.left dn _,k3.trans (Kp.set _ _ _) (by intro j hj; simp at hj; subst hj; left; simp [dids])⟩,⟨rfl,rfl,trivial⟩,rfl⟩
 obtain ⟨H4,wr⟩:=s
 obtain ⟨h4,k4⟩:=hs
 simp only at h4 k4 ⊢
 refine aV (σ:=Heap × Int) (fun _=>[(0,.ptr D 0)]) (fun s=>s.1) (fun s=>DkOK s.1 D ⟨d.a,d.n,s.2,dn,wr,W1,d.k+1⟩ (upS S i (b.take m++(S i).drop m))∧Kp (dids D d) H s.1∧s.2=(if 0<d.left then IntKind.i64.wrap (d.left-m) else d.left)) ?_ (fun s hs r=>?_)
 ·refine a8 _ h4.obj ?_
  refine ah (fun q1=>?_) (fun q1=>?_)
  ·have q1':0<d.left:=q1
   refine a8 _ h4.obj ?_
   refine ao ?_
   refine a8 _ h4.obj ?_
   exact Has.intro ⟨rfl,(hset H4 D (dobj ⟨d.a,d.n,IntKind.i64.wrap (d.left-m),dn,wr,W1,d.k+1⟩),IntKind.i64.wrap (d.left-m)),⟨h4.upd _ dn wr,k4.trans (Kp.set _ _ _) (by intro j hj; simp at hj; subst hj; left; simp [dids]),by rw [if_pos q1']⟩,⟨rfl,trivial⟩,rfl⟩
  ·have q1':¬ 0<d.left:=q1
   exact Has.intro ⟨rfl,(H4,d.left),⟨h4,k4,by rw [if_neg q1']⟩,⟨rfl,trivial⟩,rfl⟩
 obtain ⟨H5,left⟩:=s
 obtain ⟨h5,k5,l5⟩:=hs
 simp only at h5 k5 l5 ⊢
 refine a8 _ h5.obj ?_
 cases dn with
 | false=>exact Has.intro ⟨rfl,left,wr,W1,h5,k5,l5,t1⟩
 | true=>exact Has.intro ⟨rfl,left,wr,W1,h5,k5,l5,t1⟩
end Go.Proofs.YtflfdglnelbbiaaGreat.Di
namespace Go.Proofs.YtflfdglnelbbiaaGreat.Di
open Go Go.VM
end Go.Proofs.YtflfdglnelbbiaaGreat.Di
namespace Go.Proofs.YtflfdglnelbbiaaGreat
open Go Go.VM
theorem seq_if {R:Type} {Q:R→Prop} {env:Env} {E:Orc} {a b:VCode} {r:Regs} {h:Heap} {k:Ex→Regs→Heap→Option R} (Lr:List (Nat × AV)) (Pr:Prop) (L:List (Nat × AV)) (Pn:Prop) (H:Heap)
 (ha:Has (evK env E a Res r h doneK) fun x=>(x.1 = .ret∧Agr x.2.1 Lr∧x.2.2=H∧Pr)∨(x.1 = .normal∧Agr x.2.1 L∧x.2.2=H∧Pn))
 (hr:Pr→∀ r,Has (k .ret (setL r Lr) H) Q) (hn:Pn→∀ r,Has (evK env E b R (setL r L) H k) Q):Has (evK env E (.seq a b) R r h k) Q:=by
 refine seq_join (fun e r h=>(e = .ret∧Agr r Lr∧h=H∧Pr)∨(e = .normal∧Agr r L∧h=H∧Pn)) ha fun e r h hj=>?_
 rcases hj with ⟨rfl,h2,rfl,h4⟩ | ⟨rfl,h2,rfl,h4⟩
 ·have:=hr h4 r
  rw [h2.eq] at this
  exact this
 ·have:=hn h4 r
  rw [h2.eq] at this
  exact this
def plainc (c:UInt8):Prop:=(97≤c.toNat∧c.toNat≤122)∨(48≤c.toNat∧c.toNat≤57)
instance (c:UInt8):Decidable (plainc c):=by unfold plainc; infer_instance
def okc (n i:Nat) (c:UInt8):Bool:=decide (plainc c∨(c.toNat=45∧i≠0∧i+1≠n))
def nameF (n:Nat):Nat→List UInt8→Bool
 | _,[]=>true
 | i,c::l=>okc n i c&&nameF n (i+1) l
def nameB (l:List UInt8):Bool:=decide (0<l.length)&&decide (l.length<17)&&nameF l.length 0 l
theorem drop_of {α:Type} {l:List α} {i:Nat} {c:α} (h:l[i]? = some c):l.drop i=c::l.drop (i+1):=by
 obtain ⟨hlt,he⟩:=List.getElem?_eq_some_iff.1 h
 rw [List.drop_eq_getElem_cons hlt,he]
theorem nameF_step {n i:Nat} {l:List UInt8} {c:UInt8} (h:l[i]? = some c):nameF n i (l.drop i)=(okc n i c&&nameF n (i+1) (l.drop (i+1))):=by
 rw [drop_of h]; rfl
theorem nameB_f {l:List UInt8} (h:nameF l.length 0 l=false):nameB l=false:=by unfold nameB; rw [h]; simp
theorem nameF_ends:∀ (l:List UInt8) (n i j:Nat) (c:UInt8),l[j]? = some c→okc n (i+j) c=false→nameF n i l=false:=by
 intro l
 induction l with
 | nil=>intro n i j c h; simp at h
 | cons d l ih=>
   intro n i j c h hb
   unfold nameF
   cases j with
   | zero=>
     simp at h; subst h
     rw [Nat.add_zero] at hb
     rw [hb]; rfl
   | succ j=>
     simp at h
     rw [ih n (i+1) j c h (by rw [←hb]; congr 1; omega),Bool.and_false]
set_option maxHeartbeats 1000000 in
theorem name_ok (l:List UInt8) (hl:l.length≤maxLen):EP (EE env) 126 [sv l]=some (.bool (nameB l)):=by
 rw [aS] at hl
 have hsz:((⟨l.toArray⟩:ByteArray).size:Int)=(l.length:Int):=by rw [ay]
 refine Has.eq (aE (fn_has rfl ?_))
 refine aM [(0,.pv (sv l))] [] (Has.intro ⟨rfl,⟨rfl,trivial⟩,rfl⟩) (fun r=>?_)
 refine seq_if [(2,.pv (.bool false))] (nameB l=false) [(0,.pv (sv l))] (1≤l.length∧l.length≤16∧(∀ c,l[0]? = some c→c.toNat≠45)∧(∀ c,l[l.length-1]? = some c→c.toNat≠45)) [] ?_ (fun h r=>?_) (fun ⟨h1,h2,h3,h4⟩ r=>?_)
 ·refine ah (fun h1=>?_) (fun h1=>?_)
  ·refine Has.intro (.inl ⟨rfl,⟨rfl,trivial⟩,rfl,?_⟩)
   unfold nameB; rw [decide_eq_false (by omega)]; rfl
  refine ah (fun h2=>?_) (fun h2=>?_)
  ·refine Has.intro (.inl ⟨rfl,⟨rfl,trivial⟩,rfl,?_⟩)
   unfold nameB; rw [decide_eq_false (p:=l.length<17) (by omega)]; simp
  obtain ⟨c,hc⟩:∃ c,l[0]? = some c:=⟨_,List.getElem?_eq_getElem (show 0<l.length by omega)⟩
  refine aa (by simp; omega) ?_
  refine ab hc ?_
  refine aP (fun h3=>?_) (fun h3=>?_)
  ·refine Has.intro (.inl ⟨rfl,⟨rfl,trivial⟩,rfl,nameB_f (nameF_ends l _ 0 0 c hc ?_)⟩)
   unfold okc; rw [decide_eq_false]; unfold plainc; omega
  refine a9 ((l.length-1:Nat):Int) ((wrap_i64 (by omega) (by omega)).trans (by omega)) ?_
  obtain ⟨d,hd⟩:∃ d,l[l.length-1]? = some d:=⟨_,List.getElem?_eq_getElem (show l.length-1<l.length by omega)⟩
  refine aa (by simp; omega) ?_
  refine ab hd ?_
  refine aP (fun h4=>?_) (fun h4=>?_)
  ·refine Has.intro (.inl ⟨rfl,⟨rfl,trivial⟩,rfl,nameB_f (nameF_ends l _ 0 (l.length-1) d hd ?_)⟩)
   unfold okc; rw [decide_eq_false]; unfold plainc; omega
  refine Has.intro (.inr ⟨rfl,⟨rfl,trivial⟩,rfl,by omega,by omega,fun c' h=>?_,fun c' h=>?_⟩)
  ·rw [hc] at h; injection h with h; subst h; omega
  ·rw [hd] at h; injection h with h; subst h; omega
 ·rw [h]
  exact Has.intro (Has.intro rfl)
 refine seq_if [(2,.pv (.bool false))] (nameB l=false) [] (nameB l=true) [] ?_ (fun h r=>?_) (fun h r=>?_)
 ·refine aw ?_
  refine aC (σ:=Nat) (fun i=>l.length-i) (fun i=>[(0,.pv (sv l)),(26,.pv (sv l)),(27,.pv (.int .i64 l.length)),(28,.pv (.int .i64 i))]) (fun _=>[]) (fun i=>i≤l.length∧nameF l.length 0 l=nameF l.length i (l.drop i)) (fun i ⟨hi,he⟩ r=>?_) 0 ⟨Nat.zero_le _,rfl⟩ ⟨rfl,rfl,by rw [←hsz]; rfl,rfl,trivial⟩ rfl
  refine ah (fun hc=>?_) (fun hc=>?_)
  ·have hlt:i<l.length:=by omega
   obtain ⟨c,hcg⟩:∃ c,l[i]? = some c:=⟨_,List.getElem?_eq_getElem hlt⟩
   refine aa (by simp; omega) ?_
   refine ab hcg ?_
   have hns:=nameF_step (n:=l.length) hcg
   rw [hns] at he
   have hok:okc l.length i c=decide (plainc c∨c.toNat=45):=by
    unfold okc
    rw [Bool.eq_iff_iff,decide_eq_true_iff,decide_eq_true_iff]
    refine or_congr Iff.rfl ⟨fun h=>h.1,fun h=>⟨h,fun h0=>?_,fun h0=>?_⟩⟩
    ·subst h0; exact h3 c hcg h
    ·exact h4 c (by rw [show l.length-1=i by omega]; exact hcg) h
   repeat' (first
    | refine ah (fun _=>?_) (fun _=>?_)
    | refine aO (fun _=>?_) (fun _=>?_)
    | fail)
   all_goals first
    | (exfalso; omega)
    | (refine Has.intro (Has.intro (.inl ⟨rfl,⟨rfl,trivial⟩,rfl,nameB_f ?_⟩))
       rw [he,hok,decide_eq_false (by unfold plainc; omega)]; rfl)
    | (refine a9 _ (aq (by omega)) ?_
       refine Has.intro ⟨i+1,⟨hlt,?_⟩,by omega,⟨rfl,rfl,rfl,rfl,trivial⟩,rfl⟩
       rw [he,hok,decide_eq_true (by unfold plainc; omega)]; rfl)
  ·have:i=l.length:=by omega
   subst this
   rw [List.drop_length] at he
   refine Has.intro (Has.intro (.inr ⟨rfl,trivial,rfl,?_⟩))
   unfold nameB
   rw [he,decide_eq_true (show 0<l.length by omega),decide_eq_true (show l.length<17 by omega)]; rfl
 ·rw [h]
  exact Has.intro (Has.intro rfl)
 ·rw [h]
  exact Has.intro (Has.intro rfl)
set_option maxHeartbeats 1000000 in
theorem rname_ok (l:List UInt8) (hl:l.length≤maxLen):EP (EE env) 101 [sv l]=some (.bool (nameB l)):=by
 rw [aS] at hl
 have hsz:((⟨l.toArray⟩:ByteArray).size:Int)=(l.length:Int):=by rw [ay]
 refine Has.eq (aE (fn_has rfl ?_))
 refine aM [(0,.pv (sv l))] [] (Has.intro ⟨rfl,⟨rfl,trivial⟩,rfl⟩) (fun r=>?_)
 refine seq_if [(2,.pv (.bool false))] (nameB l=false) [(0,.pv (sv l))] (nameF l.length 0 l=true) [] ?_ (fun h r=>?_) (fun h r=>?_)
 ·refine aw ?_
  refine aC (σ:=Nat) (fun i=>l.length-i) (fun i=>[(0,.pv (sv l)),(3,.pv (.int .i64 i))]) (fun _=>[]) (fun i=>i≤l.length∧nameF l.length 0 l=nameF l.length i (l.drop i)) (fun i ⟨hi,he⟩ r=>?_) 0 ⟨Nat.zero_le _,rfl⟩ ⟨rfl,rfl,trivial⟩ rfl
  refine ah (fun hc=>?_) (fun hc=>?_)
  ·have hlt:i<l.length:=by omega
   obtain ⟨c,hcg⟩:∃ c,l[i]? = some c:=⟨_,List.getElem?_eq_getElem hlt⟩
   refine aa (by simp; omega) ?_
   refine ab hcg ?_
   have hns:=nameF_step (n:=l.length) hcg
   rw [hns] at he
   have hsub:IntKind.i64.wrap (((⟨l.toArray⟩:ByteArray).size:Int)-1)=((l.length-1:Nat):Int):=(wrap_i64 (by omega) (by omega)).trans (by omega)
   repeat' (first
    | refine ah (fun _=>?_) (fun _=>?_)
    | refine aO (fun _=>?_) (fun _=>?_)
    | refine aP (fun _=>?_) (fun _=>?_)
    | refine a9 _ hsub ?_
    | fail)
   all_goals first
    | (exfalso; omega)
    | (refine Has.intro (Has.intro (.inl ⟨rfl,⟨rfl,trivial⟩,rfl,nameB_f ?_⟩))
       rw [he]; unfold okc; rw [decide_eq_false (by unfold plainc; omega)]; rfl)
    | (refine a9 _ (aq (by omega)) ?_
       refine Has.intro ⟨i+1,⟨hlt,?_⟩,by omega,⟨rfl,rfl,trivial⟩,rfl⟩
       rw [he]; unfold okc; rw [decide_eq_true (by unfold plainc; omega)]; rfl)
  ·have:i=l.length:=by omega
   subst this
   rw [List.drop_length] at he
   exact Has.intro (Has.intro (.inr ⟨rfl,⟨rfl,trivial⟩,rfl,he⟩))
 ·rw [h]
  exact Has.intro (Has.intro rfl)
 ·have hn:nameB l=(decide (0<l.length)&&decide (l.length<17)):=by unfold nameB; rw [h,Bool.and_true]
  refine ah (fun h1=>?_) (fun h1=>?_)
  ·refine ah (fun h2=>?_) (fun h2=>?_)
   ·rw [hn,decide_eq_true (show 0<l.length by omega),decide_eq_true (show l.length<17 by omega)]
    exact Has.intro (Has.intro rfl)
   ·rw [hn,decide_eq_true (show 0<l.length by omega),decide_eq_false (show ¬ l.length<17 by omega)]
    exact Has.intro (Has.intro rfl)
  ·rw [hn,decide_eq_false (show ¬ 0<l.length by omega)]
   exact Has.intro (Has.intro rfl)
end Go.Proofs.YtflfdglnelbbiaaGreat
namespace Go.Proofs.YtflfdglnelbbiaaGreat
open Go Go.VM
def fit (n:Int):Bool:=decide (-9223372036854775808≤n)&&decide (n≤9223372036854775807)
def told (n:Int):PV:=.tup [.int .i64 (if fit n then n else 0),.bool (fit n)]
theorem fit_true {n:Int} (h:fit n=true) : -9223372036854775808≤n∧n≤9223372036854775807:=by
 unfold fit at h; rw [Bool.and_eq_true,decide_eq_true_eq,decide_eq_true_eq] at h; exact h
theorem fit_iff (n:Int):fit n=true ↔ -9223372036854775808≤n∧n≤9223372036854775807:=by
 unfold fit; rw [Bool.and_eq_true,decide_eq_true_eq,decide_eq_true_eq]
theorem lt0 (z:BitVec 64):decide (z.toInt<0)=z.msb:=(BitVec.msb_eq_toInt).symm
theorem bmod_add (x y:BitVec 64):(x+y).toInt=if fit (x.toInt+y.toInt) then x.toInt+y.toInt else if x.toInt+y.toInt<0 then x.toInt+y.toInt+18446744073709551616 else x.toInt+y.toInt-18446744073709551616:=by
 have hx:=toInt_range x
 have hy:=toInt_range y
 rw [BitVec.toInt_add,Int.bmod_def]
 have e:((2 ^ 64:Nat):Int)=18446744073709551616:=rfl
 rw [e]
 by_cases h:fit (x.toInt+y.toInt)=true
 ·rw [if_pos h]; have:=fit_true h; omega
 ·rw [if_neg h]
  rw [fit_iff] at h
  omega
theorem over_add (x y:BitVec 64):decide (((x ^^^ (x+y)) &&& (y ^^^ (x+y))).toInt<0) = !fit (x.toInt+y.toInt):=by
 rw [lt0,BitVec.msb_and,BitVec.msb_xor,BitVec.msb_xor,←lt0,←lt0,←lt0]
 have h:=bmod_add x y
 have hx:=toInt_range x
 have hy:=toInt_range y
 rw [Bool.eq_iff_iff]
 cases hf:fit (x.toInt+y.toInt) with
 | true=>
   rw [hf] at h; simp only [if_true] at h
   generalize (x+y).toInt=s at h ⊢
   simp
   omega
 | false=>
   rw [hf] at h; simp only [Bool.false_eq_true,if_false] at h
   have hn:¬ (-9223372036854775808≤x.toInt+y.toInt∧x.toInt+y.toInt≤9223372036854775807):=by rw [←fit_iff,hf]; simp
   generalize (x+y).toInt=s at h ⊢
   simp
   omega
theorem add_bits (x y:BitVec 64):EP (EE env) 138 [i64 x,i64 y]=some (told (x.toInt+y.toInt)):=by
 have h:=bmod_add x y
 refine Has.eq (aE ?_)
 refine a9 _ (u64_of_toInt x) ?_
 refine a9 _ (u64_of_toInt y) ?_
 refine a9 _ (u64_add _ _) ?_
 refine a9 _ (i64_of_toNat _) ?_
 refine a9 _ (i64_xor _ _) ?_
 refine a9 _ (i64_xor _ _) ?_
 refine a9 _ (i64_and _ _) ?_
 refine aD (over_add x y) ?_
 cases hf:fit (x.toInt+y.toInt) with
 | true=>
   rw [hf] at h; simp only [if_true] at h
   refine Has.intro (Has.intro ?_)
   show PV.tup [.int .i64 (x+y).toInt,.bool true]=_
   unfold told
   rw [hf,h]; rfl
 | false=>
   refine Has.intro (Has.intro ?_)
   show PV.tup [.int .i64 0,.bool false]=_
   unfold told
   rw [hf]; rfl
theorem add_ok {a b:Int} (ha:fit a=true) (hb:fit b=true):EP (EE env) 138 [.int .i64 a,.int .i64 b]=some (told (a+b)):=by
 obtain ⟨x,rfl⟩:=i64_bits (fit_true ha).1 (fit_true ha).2
 obtain ⟨y,rfl⟩:=i64_bits (fit_true hb).1 (fit_true hb).2
 exact add_bits x y
end Go.Proofs.YtflfdglnelbbiaaGreat
namespace Go.Proofs.YtflfdglnelbbiaaGreat
open Go Go.VM
structure Vc where
 c:Int
 m:Int
 h:Int
def vc (v:Vc):List PV:=[.int .i64 v.c,.int .i64 v.m,.int .i64 v.h]
def vR (v:Vc):Prop:=(0≤v.c∧v.c≤1099511627776)∧(0≤v.m∧v.m≤1125899906842624)∧(0≤v.h∧v.h≤1125899906842624)∧v.h % 2097152=0
instance (v:Vc):Decidable (vR v):=by unfold vR; infer_instance
def vRB (v:Vc):Bool:=decide (vR v)
theorem vRB_iff {v:Vc}:vRB v=true↔vR v:=decide_eq_true_iff
theorem vRB_t {v:Vc} (h:vR v):vRB v=true:=decide_eq_true h
theorem vRB_f {v:Vc} (h:¬ vR v):vRB v=false:=decide_eq_false h
def fitP (r:Nat) (n:Int):Prop:=0≤n∧n≤(if r=0 then 1099511627776 else 1125899906842624)
instance (r:Nat) (n:Int):Decidable (fitP r n):=by unfold fitP; infer_instance
theorem parts_ok (v:Vc):EP (EE env) 134 [.agg (vc v)]=some (.agg (vc v)):=by
 refine Has.eq (aE ?_)
 (repeat (first | refine af ?_ | refine aB ?_ | refine a8 _ rfl ?_ | refine aa rfl ?_ | refine ab rfl ?_ | refine ae rfl (by first | exact Nat.le_refl _ | decide) ?_ | refine ao ?_))
 (refine Has.intro (Has.intro ?_))
 rfl
theorem of_ok (v:Vc):EP (EE env) 139 [.agg (vc v)]=some (.agg (vc v)):=by
 refine Has.eq (aE ?_)
 (repeat (first | refine af ?_ | refine aB ?_ | refine a8 _ rfl ?_ | refine aa rfl ?_ | refine ab rfl ?_ | refine ae rfl (by first | exact Nat.le_refl _ | decide) ?_ | refine ao ?_))
 (refine Has.intro (Has.intro ?_))
 rfl
theorem fits_ok (r:Nat) (n:Int):EP (EE env) 135 [.int .i64 r,.int .i64 n]=some (.bool (decide (fitP r n))):=by
 refine Has.eq (aE ?_)
 refine aP (fun h=>?_) (fun h=>?_)
 all_goals
  refine ah (fun h1=>?_) (fun h1=>?_)
  ·refine ah (fun h2=>?_) (fun h2=>?_)
   ·rw [decide_eq_true (show fitP r n by unfold fitP; split<;>omega)]
    (refine Has.intro (Has.intro ?_))
    rfl
   ·rw [decide_eq_false (show ¬ fitP r n by unfold fitP; split<;>omega)]
    (refine Has.intro (Has.intro ?_))
    rfl
  ·rw [decide_eq_false (show ¬ fitP r n by unfold fitP; split<;>omega)]
   (refine Has.intro (Has.intro ?_))
   rfl
theorem and21 (n:Int):IntKind.i64.wrap ((BitVec.ofInt IntKind.i64.bits n &&& BitVec.ofInt IntKind.i64.bits 2097151).toNat:Int)=n % 2097152:=by
 have e:(BitVec.ofInt 64 n &&& BitVec.ofInt 64 2097151).toNat=(n % 2097152).toNat:=by
  rw [BitVec.toNat_and,BitVec.toNat_ofInt,show (BitVec.ofInt 64 2097151).toNat=2 ^ 21-1 from rfl,Nat.and_two_pow_sub_one_eq_mod]
  simp only [Nat.reducePow]
  omega
 show IntKind.i64.wrap ((BitVec.ofInt 64 n &&& BitVec.ofInt 64 2097151).toNat:Int)=_
 rw [e,wrap_i64 (by omega) (by omega)]; omega
set_option maxHeartbeats 1000000 in
theorem right_ok (v:Vc):EP (EE env) 131 [.agg (vc v)]=some (.bool (vRB v)):=by
 refine Has.eq (aE (fn_has rfl ?_))
 refine aM [(1,.ptr 0 0)] [.pcells (vc v)] (by (repeat (first | refine af ?_ | refine aB ?_ | refine a8 _ rfl ?_ | refine aa rfl ?_ | refine ab rfl ?_ | refine ae rfl (by first | exact Nat.le_refl _ | decide) ?_ | refine ao ?_)); (refine Has.intro ⟨rfl,?_,rfl⟩; (repeat (first | exact trivial | refine ⟨rfl,?_⟩)))) (fun r=>?_)
 refine seq_if [(2,.pv (.bool false))] (¬ vR v) [(1,.ptr 0 0)] (fitP 0 v.c∧fitP 1 v.m∧fitP 2 v.h) [.pcells (vc v)] ?_ (fun h r=>?_) (fun ⟨h1,h2,h3⟩ r=>?_)
 ·(repeat (first | refine af ?_ | refine aB ?_ | refine a8 _ rfl ?_ | refine aa rfl ?_ | refine ab rfl ?_ | refine ae rfl (by first | exact Nat.le_refl _ | decide) ?_ | refine ao ?_))
  refine aj (parts_ok v) ?_
  refine aw ?_
  refine aC (σ:=Nat) (fun i=>3-i) (fun i=>[(1,.ptr 0 0),(6,.pv (.agg (vc v))),(7,.pv (.int .i64 i))]) (fun _=>[.pcells (vc v)]) (fun i=>i≤3∧(0<i→fitP 0 v.c)∧(1<i→fitP 1 v.m)∧(2<i→fitP 2 v.h)) (fun i ⟨hi,f0,f1,f2⟩ r=>?_) 0 ⟨by decide,(by omega),(by omega),(by omega)⟩ ⟨rfl,rfl,rfl,trivial⟩ rfl
  refine ah (fun hc=>?_) (fun hc=>?_)
  ·have h3:i=0∨i=1∨i=2:=by omega
   rcases h3 with rfl | rfl | rfl
   all_goals
    refine aa rfl ?_
    refine ab rfl ?_
    refine aI (fits_ok _ _) (fun h=>?_) (fun h=>?_)
    ·refine a9 _ (aq (by decide)) ?_
     exact Has.intro ⟨_,⟨(by decide),(fun _=>by first | exact h | exact f0 (by decide)),(fun _=>by first | exact h | exact f1 (by decide) | (exfalso; omega)),(fun _=>by first | exact h | (exfalso; omega))⟩,(by decide),⟨rfl,rfl,rfl,trivial⟩,rfl⟩
    ·refine Has.intro (Has.intro (.inl ⟨rfl,⟨rfl,trivial⟩,rfl,fun hv=>h ?_⟩))
     first
      | exact hv.1
      | exact hv.2.1
      | exact hv.2.2.1
  ·have:i=3:=by omega
   subst this
   exact Has.intro (Has.intro (.inr ⟨rfl,⟨rfl,trivial⟩,rfl,f0 (by decide),f1 (by decide),f2 (by decide)⟩))
 ·have:vRB v=false:=decide_eq_false h
  rw [this]
  exact Has.intro (Has.intro rfl)
 ·(repeat (first | refine a8 _ rfl ?_ | refine aa rfl ?_ | refine ab rfl ?_))
  refine a9 _ (and21 v.h) ?_
  refine boolK_has_keep ?_
  refine Has.intro (Has.intro ?_)
  show PV.bool (v.h % 2097152==0)=_
  congr 1
  rw [Bool.eq_iff_iff,beq_iff_eq,vRB_iff]
  exact ⟨fun h=>⟨h1,h2,h3,h⟩,fun h=>h.2.2.2⟩
theorem at_ok (v:Vc) (i:Nat) (hi:i<3):EP (EE env) 132 [.agg (vc v),.int .i64 i]=some (.int .i64 (if i=0 then v.c else if i=1 then v.m else v.h)):=by
 refine Has.eq (aE ?_)
 have h3:i=0∨i=1∨i=2:=by omega
 rcases h3 with rfl | rfl | rfl
 all_goals
  refine aF (by decide) ?_
  refine aF (by decide) ?_
  (repeat (first | refine af ?_ | refine aB ?_ | refine a8 _ rfl ?_ | refine aa rfl ?_ | refine ab rfl ?_ | refine ae rfl (by first | exact Nat.le_refl _ | decide) ?_ | refine ao ?_))
  refine aj (parts_ok v) ?_
  refine aa rfl ?_
  refine ab rfl ?_
  (refine Has.intro (Has.intro ?_))
  rfl
set_option maxHeartbeats 1000000 in
theorem rright_ok (v:Vc):EP (EE env) 114 [.agg (vc v)]=some (.bool (vRB v)):=by
 refine Has.eq (aE ?_)
 (repeat (first | refine af ?_ | refine aB ?_ | refine a8 _ rfl ?_ | refine aa rfl ?_ | refine ab rfl ?_ | refine ae rfl (by first | exact Nat.le_refl _ | decide) ?_ | refine ao ?_))
 repeat' (first
  | refine ah (fun _=>?_) (fun _=>?_)
  | refine aP (fun _=>?_) (fun _=>?_)
  | refine ao ?_
  | refine a8 _ rfl ?_
  | refine ab rfl ?_
  | refine aa rfl ?_
  | fail)
 all_goals
  refine Has.intro (Has.intro ?_)
  first
   | exact congrArg PV.bool (vRB_t (by unfold vR; have:=Int.tmod_eq_emod_of_nonneg (a:=v.h) (b:=2097152) (by omega); omega)).symm
   | exact congrArg PV.bool (vRB_f (by unfold vR; omega)).symm
   | exact congrArg PV.bool (vRB_f (by unfold vR; have:=Int.tmod_eq_emod_of_nonneg (a:=v.h) (b:=2097152) (by omega); omega)).symm
def vadd (a b:Vc):Vc:=⟨a.c+b.c,a.m+b.m,a.h+b.h⟩
def addV (a b:Vc):Option Vc:=if vR a∧vR b∧vR (vadd a b) then some (vadd a b) else none
def v0:Vc:=⟨0,0,0⟩
def pairV (o:Option Vc):PV:=match o with
 | some v=>.tup [.agg (vc v),.bool true]
 | none=>.tup [.agg (vc v0),.bool false]
theorem vR_in {v:Vc} (h:vR v):(0≤v.c∧v.c≤1125899906842624)∧(0≤v.m∧v.m≤1125899906842624)∧(0≤v.h∧v.h≤1125899906842624):=by unfold vR at h; omega
theorem cadd_ok (a b:Int) (ha:0≤a∧a≤1125899906842624) (hb:0≤b∧b≤1125899906842624):EP (EE env) 138 [.int .i64 a,.int .i64 b]=some (.tup [.int .i64 (a+b),.bool true]):=by
 rw [add_ok ((fit_iff a).2 (by omega)) ((fit_iff b).2 (by omega))]
 unfold told
 rw [(fit_iff (a+b)).2 (by omega)]; rfl
set_option maxHeartbeats 1000000 in
theorem radd_ok (a b:Vc):EP (EE env) 125 [.agg (vc a),.agg (vc b)]=some (pairV (addV a b)):=by
 refine Has.eq (aE ?_)
 (repeat (first | refine af ?_ | refine aB ?_ | refine a8 _ rfl ?_ | refine aa rfl ?_ | refine ab rfl ?_ | refine ae rfl (by first | exact Nat.le_refl _ | decide) ?_ | refine ao ?_))
 refine aI (rright_ok a) (fun h1=>?_) (fun h1=>?_)
 ·(repeat (first | refine af ?_ | refine aB ?_ | refine a8 _ rfl ?_ | refine aa rfl ?_ | refine ab rfl ?_ | refine ae rfl (by first | exact Nat.le_refl _ | decide) ?_ | refine ao ?_))
  refine aI (rright_ok b) (fun h2=>?_) (fun h2=>?_)
  ·have:=vR_in h1
   have:=vR_in h2
   (repeat (first | refine a8 _ rfl ?_ | refine aa rfl ?_ | refine ab rfl ?_))
   refine a9 (a.c+b.c) (wrap_i64 (by omega) (by omega)) ?_
   (repeat (first | refine a8 _ rfl ?_ | refine aa rfl ?_ | refine ab rfl ?_))
   refine a9 (a.m+b.m) (wrap_i64 (by omega) (by omega)) ?_
   (repeat (first | refine a8 _ rfl ?_ | refine aa rfl ?_ | refine ab rfl ?_))
   refine a9 (a.h+b.h) (wrap_i64 (by omega) (by omega)) ?_
   (repeat (first | refine af ?_ | refine aB ?_ | refine a8 _ rfl ?_ | refine aa rfl ?_ | refine ab rfl ?_ | refine ae rfl (by first | exact Nat.le_refl _ | decide) ?_ | refine ao ?_))
   refine aI (rright_ok (vadd a b)) (fun h3=>?_) (fun h3=>?_)
   ·(repeat (first | refine af ?_ | refine aB ?_ | refine a8 _ rfl ?_ | refine aa rfl ?_ | refine ab rfl ?_ | refine ae rfl (by first | exact Nat.le_refl _ | decide) ?_ | refine ao ?_))
    (refine Has.intro (Has.intro ?_))
    unfold addV; rw [if_pos ⟨h1,h2,h3⟩]; rfl
   ·(repeat (first | refine af ?_ | refine aB ?_ | refine a8 _ rfl ?_ | refine aa rfl ?_ | refine ab rfl ?_ | refine ae rfl (by first | exact Nat.le_refl _ | decide) ?_ | refine ao ?_))
    (refine Has.intro (Has.intro ?_))
    unfold addV; rw [if_neg (fun h=>h3 h.2.2)]; rfl
  ·(repeat (first | refine af ?_ | refine aB ?_ | refine a8 _ rfl ?_ | refine aa rfl ?_ | refine ab rfl ?_ | refine ae rfl (by first | exact Nat.le_refl _ | decide) ?_ | refine ao ?_))
   (refine Has.intro (Has.intro ?_))
   unfold addV; rw [if_neg (fun h=>h2 h.2.1)]; rfl
 ·(repeat (first | refine af ?_ | refine aB ?_ | refine a8 _ rfl ?_ | refine aa rfl ?_ | refine ab rfl ?_ | refine ae rfl (by first | exact Nat.le_refl _ | decide) ?_ | refine ao ?_))
  (refine Has.intro (Has.intro ?_))
  unfold addV; rw [if_neg (fun h=>h1 h.1)]; rfl
def z3:HObj:=.pcells (vc v0)
def mixV (a b:Vc) (i:Nat):Vc:=⟨if 0<i then a.c+b.c else a.c,if 1<i then a.m+b.m else a.m,if 2<i then a.h+b.h else a.h⟩
set_option maxHeartbeats 2000000 in
theorem both_ok (a b:Vc):EP (EE env) 137 [.agg (vc a),.agg (vc b),.fn 138 [] []]=some (pairV (addV a b)):=by
 refine Has.eq (aE (fn_has rfl ?_))
 refine aM [(2,.pv (.fn 138 [] [])),(3,.ptr 0 0),(4,.ptr 1 0),(6,.ptr 2 0)] [.pcells (vc a),.pcells (vc b),z3] (by (repeat (first | refine af ?_ | refine aB ?_ | refine a8 _ rfl ?_ | refine aa rfl ?_ | refine ab rfl ?_ | refine ae rfl (by first | exact Nat.le_refl _ | decide) ?_ | refine ao ?_)); (refine Has.intro ⟨rfl,?_,rfl⟩; (repeat (first | exact trivial | refine ⟨rfl,?_⟩)))) (fun r=>?_)
 refine seq_if [(6,.ptr 2 0),(7,.pv (.bool false))] (¬ (vR a∧vR b)) [(2,.pv (.fn 138 [] [])),(3,.ptr 0 0),(4,.ptr 1 0),(6,.ptr 2 0)] (vR a∧vR b) [.pcells (vc a),.pcells (vc b),z3] ?_ (fun h r=>?_) (fun ⟨h1,h2⟩ r=>?_)
 ·(repeat (first | refine af ?_ | refine aB ?_ | refine a8 _ rfl ?_ | refine aa rfl ?_ | refine ab rfl ?_ | refine ae rfl (by first | exact Nat.le_refl _ | decide) ?_ | refine ao ?_))
  refine aI (right_ok a) (fun h1=>?_) (fun h1=>?_)
  ·(repeat (first | refine af ?_ | refine aB ?_ | refine a8 _ rfl ?_ | refine aa rfl ?_ | refine ab rfl ?_ | refine ae rfl (by first | exact Nat.le_refl _ | decide) ?_ | refine ao ?_))
   refine aI (right_ok b) (fun h2=>?_) (fun h2=>?_)
   ·exact Has.intro (.inr ⟨rfl,⟨rfl,rfl,rfl,rfl,trivial⟩,rfl,h1,h2⟩)
   ·(repeat (first | refine af ?_ | refine aB ?_ | refine a8 _ rfl ?_ | refine aa rfl ?_ | refine ab rfl ?_ | refine ae rfl (by first | exact Nat.le_refl _ | decide) ?_ | refine ao ?_))
    exact Has.intro (.inl ⟨rfl,⟨rfl,rfl,trivial⟩,rfl,fun h=>h2 h.2⟩)
  ·(repeat (first | refine af ?_ | refine aB ?_ | refine a8 _ rfl ?_ | refine aa rfl ?_ | refine ab rfl ?_ | refine ae rfl (by first | exact Nat.le_refl _ | decide) ?_ | refine ao ?_))
   exact Has.intro (.inl ⟨rfl,⟨rfl,rfl,trivial⟩,rfl,fun h=>h1 h.1⟩)
 ·(repeat (first | refine af ?_ | refine aB ?_ | refine a8 _ rfl ?_ | refine aa rfl ?_ | refine ab rfl ?_ | refine ae rfl (by first | exact Nat.le_refl _ | decide) ?_ | refine ao ?_))
  refine Has.intro (Has.intro ?_)
  unfold addV; rw [if_neg (fun hh=>h ⟨hh.1,hh.2.1⟩)]; rfl
 have b1:=vR_in h1
 have b2:=vR_in h2
 refine aM [(2,.pv (.fn 138 [] [])),(6,.ptr 2 0),(8,.ptr 3 0),(9,.ptr 4 0)] [.pcells (vc a),.pcells (vc b),z3,.pcells (vc a),.pcells (vc b)] ?_ (fun r=>?_)
 ·(repeat (first | refine af ?_ | refine aB ?_ | refine a8 _ rfl ?_ | refine aa rfl ?_ | refine ab rfl ?_ | refine ae rfl (by first | exact Nat.le_refl _ | decide) ?_ | refine ao ?_))
  refine aj (parts_ok a) ?_
  (repeat (first | refine af ?_ | refine aB ?_ | refine a8 _ rfl ?_ | refine aa rfl ?_ | refine ab rfl ?_ | refine ae rfl (by first | exact Nat.le_refl _ | decide) ?_ | refine ao ?_))
  refine aj (parts_ok b) ?_
  (repeat (first | refine af ?_ | refine aB ?_ | refine a8 _ rfl ?_ | refine aa rfl ?_ | refine ab rfl ?_ | refine ae rfl (by first | exact Nat.le_refl _ | decide) ?_ | refine ao ?_))
  (refine Has.intro ⟨rfl,?_,rfl⟩; (repeat (first | exact trivial | refine ⟨rfl,?_⟩)))
 refine aM [(6,.ptr 2 0),(8,.ptr 3 0)] [.pcells (vc a),.pcells (vc b),z3,.pcells (vc (vadd a b)),.pcells (vc b)] ?_ (fun r=>?_)
 ·refine aw ?_
  refine aC (σ:=Nat) (fun i=>3-i) (fun i=>[(2,.pv (.fn 138 [] [])),(6,.ptr 2 0),(8,.ptr 3 0),(9,.ptr 4 0),(25,.pv (.int .i64 i))]) (fun i=>[.pcells (vc a),.pcells (vc b),z3,.pcells (vc (mixV a b i)),.pcells (vc b)]) (fun i=>i≤3) (fun i hi r=>?_) 0 (by decide) ⟨rfl,rfl,rfl,rfl,rfl,trivial⟩ rfl
  refine ah (fun hc=>?_) (fun hc=>?_)
  ·have h3:i=0∨i=1∨i=2:=by omega
   rcases h3 with rfl | rfl | rfl
   all_goals
    (repeat (first | refine a8 _ rfl ?_ | refine aa rfl ?_ | refine ab rfl ?_))
    first
     | refine aj (cadd_ok a.c b.c (by omega) (by omega)) ?_
     | refine aj (cadd_ok a.m b.m (by omega) (by omega)) ?_
     | refine aj (cadd_ok a.h b.h (by omega) (by omega)) ?_
    (repeat (first | refine af ?_ | refine aB ?_ | refine a8 _ rfl ?_ | refine aa rfl ?_ | refine ab rfl ?_ | refine ae rfl (by first | exact Nat.le_refl _ | decide) ?_ | refine ao ?_))
    first
     | exact Has.intro ⟨1,(by decide),(by decide),⟨rfl,rfl,rfl,rfl,rfl,trivial⟩,rfl⟩
     | exact Has.intro ⟨2,(by decide),(by decide),⟨rfl,rfl,rfl,rfl,rfl,trivial⟩,rfl⟩
     | exact Has.intro ⟨3,(by decide),(by decide),⟨rfl,rfl,rfl,rfl,rfl,trivial⟩,rfl⟩
  ·have:i=3:=by omega
   subst this
   refine Has.intro (Has.intro ?_)
   exact ⟨rfl,⟨rfl,rfl,trivial⟩,rfl⟩
 by_cases h3:vR (vadd a b)
 ·(repeat (first | refine af ?_ | refine aB ?_ | refine a8 _ rfl ?_ | refine aa rfl ?_ | refine ab rfl ?_ | refine ae rfl (by first | exact Nat.le_refl _ | decide) ?_ | refine ao ?_))
  refine aj (of_ok (vadd a b)) ?_
  (repeat (first | refine af ?_ | refine aB ?_ | refine a8 _ rfl ?_ | refine aa rfl ?_ | refine ab rfl ?_ | refine ae rfl (by first | exact Nat.le_refl _ | decide) ?_ | refine ao ?_))
  refine callPK_dec_t (right_ok (vadd a b)) h3 ?_
  (repeat (first | refine af ?_ | refine aB ?_ | refine a8 _ rfl ?_ | refine aa rfl ?_ | refine ab rfl ?_ | refine ae rfl (by first | exact Nat.le_refl _ | decide) ?_ | refine ao ?_))
  refine Has.intro (Has.intro ?_)
  unfold addV; rw [if_pos ⟨h1,h2,h3⟩]; rfl
 ·(repeat (first | refine af ?_ | refine aB ?_ | refine a8 _ rfl ?_ | refine aa rfl ?_ | refine ab rfl ?_ | refine ae rfl (by first | exact Nat.le_refl _ | decide) ?_ | refine ao ?_))
  refine aj (of_ok (vadd a b)) ?_
  (repeat (first | refine af ?_ | refine aB ?_ | refine a8 _ rfl ?_ | refine aa rfl ?_ | refine ab rfl ?_ | refine ae rfl (by first | exact Nat.le_refl _ | decide) ?_ | refine ao ?_))
  refine callPK_dec_f (right_ok (vadd a b)) h3 ?_
  (repeat (first | refine af ?_ | refine aB ?_ | refine a8 _ rfl ?_ | refine aa rfl ?_ | refine ab rfl ?_ | refine ae rfl (by first | exact Nat.le_refl _ | decide) ?_ | refine ao ?_))
  refine Has.intro (Has.intro ?_)
  unfold addV; rw [if_neg (fun hh=>h3 hh.2.2)]; rfl
theorem add2_ok (a b:Vc):EP (EE env) 136 [.agg (vc a),.agg (vc b)]=some (pairV (addV a b)):=by
 refine Has.eq (aE ?_)
 (repeat (first | refine af ?_ | refine aB ?_ | refine a8 _ rfl ?_ | refine aa rfl ?_ | refine ab rfl ?_ | refine ae rfl (by first | exact Nat.le_refl _ | decide) ?_ | refine ao ?_))
 refine aj (both_ok a b) ?_
 cases h:addV a b with
 | some v=>
   (repeat (first | refine af ?_ | refine aB ?_ | refine a8 _ rfl ?_ | refine aa rfl ?_ | refine ab rfl ?_ | refine ae rfl (by first | exact Nat.le_refl _ | decide) ?_ | refine ao ?_))
   exact Has.intro (Has.intro rfl)
 | none=>
   (repeat (first | refine af ?_ | refine aB ?_ | refine a8 _ rfl ?_ | refine aa rfl ?_ | refine ab rfl ?_ | refine ae rfl (by first | exact Nat.le_refl _ | decide) ?_ | refine ao ?_))
   exact Has.intro (Has.intro rfl)
end Go.Proofs.YtflfdglnelbbiaaGreat
namespace Go.Proofs.YtflfdglnelbbiaaGreat
open Go Go.VM
structure Ct where
 name:List UInt8
 rq:Vc
 lm:Vc
 r0:Bool
 r1:Bool
 r2:Bool
def ct (c:Ct):List PV:=[sv c.name,.int .i64 c.rq.c,.int .i64 c.rq.m,.int .i64 c.rq.h,.int .i64 c.lm.c,.int .i64 c.lm.m,.int .i64 c.lm.h,.bool c.r0,.bool c.r1,.bool c.r2]
theorem ct_len (c:Ct):(ct c).length=10:=rfl
def cP (c:Ct):Prop:=nameB c.name=true∧vR c.rq∧vR c.lm∧c.rq.h=c.lm.h∧(c.lm.c=0∨c.rq.c≤c.lm.c)∧(c.lm.m=0∨c.rq.m≤c.lm.m)
instance (c:Ct):Decidable (cP c):=by unfold cP; infer_instance
theorem name_dec (l:List UInt8) (hl:l.length≤maxLen):EP (EE env) 126 [sv l]=some (.bool (decide (nameB l=true))):=(name_ok l hl).trans (by cases nameB l<;>rfl)
theorem rname_dec (l:List UInt8) (hl:l.length≤maxLen):EP (EE env) 101 [sv l]=some (.bool (decide (nameB l=true))):=(rname_ok l hl).trans (by cases nameB l<;>rfl)
set_option maxHeartbeats 2000000 in
theorem ctr_ok (c:Ct) (hl:c.name.length≤maxLen):EP (EE env) 127 [.agg (ct c)]=some (.bool (decide (cP c))):=by
 refine Has.eq (aE (fn_has rfl ?_))
 refine aM [(1,.ptr 0 0)] [.pcells (ct c)] (by (repeat (first | refine af ?_ | refine aB ?_ | refine a8 _ rfl ?_ | refine aa rfl ?_ | refine ab rfl ?_ | refine ae rfl (of_decide_eq_true rfl) ?_ | refine ao ?_)); (refine Has.intro ⟨rfl,?_,rfl⟩; (repeat (first | exact trivial | refine ⟨rfl,?_⟩)))) (fun r=>?_)
 refine seq_if [(2,.pv (.bool false))] (¬ cP c) [(1,.ptr 0 0)] (nameB c.name=true∧vR c.rq∧vR c.lm∧c.rq.h=c.lm.h) [.pcells (ct c)] ?_ (fun h r=>?_) (fun ⟨h1,h2,h3,h4⟩ r=>?_)
 ·(repeat (first | refine af ?_ | refine aB ?_ | refine a8 _ rfl ?_ | refine aa rfl ?_ | refine ab rfl ?_ | refine ae rfl (of_decide_eq_true rfl) ?_ | refine ao ?_))
  refine aI (name_dec c.name hl) (fun h1=>?_) (fun h1=>?_)
  ·(repeat (first | refine af ?_ | refine aB ?_ | refine a8 _ rfl ?_ | refine aa rfl ?_ | refine ab rfl ?_ | refine ae rfl (of_decide_eq_true rfl) ?_ | refine ao ?_))
   refine aI (right_ok c.rq) (fun h2=>?_) (fun h2=>?_)
   ·(repeat (first | refine af ?_ | refine aB ?_ | refine a8 _ rfl ?_ | refine aa rfl ?_ | refine ab rfl ?_ | refine ae rfl (of_decide_eq_true rfl) ?_ | refine ao ?_))
    refine aI (right_ok c.lm) (fun h3=>?_) (fun h3=>?_)
    ·(repeat (first | refine af ?_ | refine aB ?_ | refine a8 _ rfl ?_ | refine aa rfl ?_ | refine ab rfl ?_ | refine ae rfl (of_decide_eq_true rfl) ?_ | refine ao ?_))
     refine aO (fun h4=>?_) (fun h4=>?_)
     ·exact Has.intro (.inl ⟨rfl,⟨rfl,trivial⟩,rfl,fun h=>h4 h.2.2.2.1⟩)
     ·exact Has.intro (.inr ⟨rfl,⟨rfl,trivial⟩,rfl,h1,h2,h3,h4⟩)
    ·(repeat (first | refine af ?_ | refine aB ?_ | refine a8 _ rfl ?_ | refine aa rfl ?_ | refine ab rfl ?_ | refine ae rfl (of_decide_eq_true rfl) ?_ | refine ao ?_))
     exact Has.intro (.inl ⟨rfl,⟨rfl,trivial⟩,rfl,fun h=>h3 h.2.2.1⟩)
   ·(repeat (first | refine af ?_ | refine aB ?_ | refine a8 _ rfl ?_ | refine aa rfl ?_ | refine ab rfl ?_ | refine ae rfl (of_decide_eq_true rfl) ?_ | refine ao ?_))
    exact Has.intro (.inl ⟨rfl,⟨rfl,trivial⟩,rfl,fun h=>h2 h.2.1⟩)
  ·(repeat (first | refine af ?_ | refine aB ?_ | refine a8 _ rfl ?_ | refine aa rfl ?_ | refine ab rfl ?_ | refine ae rfl (of_decide_eq_true rfl) ?_ | refine ao ?_))
   exact Has.intro (.inl ⟨rfl,⟨rfl,trivial⟩,rfl,fun h=>h1 h.1⟩)
 ·rw [decide_eq_false h]
  exact Has.intro (Has.intro rfl)
 have b3:=vR_in h3
 refine seq_if [(2,.pv (.bool false))] (¬ cP c) [(1,.ptr 0 0)] (cP c) [.pcells (ct c)] ?_ (fun h r=>?_) (fun h r=>?_)
 ·refine aw ?_
  refine aC (σ:=Nat) (fun i=>2-i) (fun i=>[(1,.ptr 0 0),(3,.pv (.int .i64 i))]) (fun _=>[.pcells (ct c)]) (fun i=>i≤2∧(0<i→(c.lm.c=0∨c.rq.c≤c.lm.c))∧(1<i→(c.lm.m=0∨c.rq.m≤c.lm.m))) (fun i ⟨hi,f0,f1⟩ r=>?_) 0 ⟨by decide,(by omega),(by omega)⟩ ⟨rfl,rfl,trivial⟩ rfl
  refine ah (fun hc=>?_) (fun hc=>?_)
  ·have h3:i=0∨i=1:=by omega
   rcases h3 with rfl | rfl
   all_goals
    (repeat (first | refine a8 _ rfl ?_ | refine aa rfl ?_ | refine ab rfl ?_))
    (repeat (first | refine af ?_ | refine aB ?_ | refine a8 _ rfl ?_ | refine aa rfl ?_ | refine ab rfl ?_ | refine ae rfl (of_decide_eq_true rfl) ?_ | refine ao ?_))
    refine aj (at_ok c.lm _ (by decide)) ?_
    refine ah (fun g1=>?_) (fun g1=>?_)
    ·(repeat (first | refine af ?_ | refine aB ?_ | refine a8 _ rfl ?_ | refine aa rfl ?_ | refine ab rfl ?_ | refine ae rfl (of_decide_eq_true rfl) ?_ | refine ao ?_))
     refine aj (at_ok c.rq _ (by decide)) ?_
     refine ah (fun g2=>?_) (fun g2=>?_)
     ·simp only [if_true,if_false,Nat.one_ne_zero] at g1 g2
      refine Has.intro (Has.intro (.inl ⟨rfl,⟨rfl,trivial⟩,rfl,fun h=>?_⟩))
      have:=h.2.2.2.2
      omega
     ·simp only [if_true,if_false,Nat.one_ne_zero] at g1 g2
      (repeat (first | refine af ?_ | refine aB ?_ | refine a8 _ rfl ?_ | refine aa rfl ?_ | refine ab rfl ?_ | refine ae rfl (of_decide_eq_true rfl) ?_ | refine ao ?_))
      first
       | exact Has.intro ⟨1,⟨(by decide),(fun _=>by omega),(by omega)⟩,(by decide),⟨rfl,rfl,trivial⟩,rfl⟩
       | exact Has.intro ⟨2,⟨(by decide),(fun _=>f0 (by decide)),(fun _=>by omega)⟩,(by decide),⟨rfl,rfl,trivial⟩,rfl⟩
    ·simp only [if_true,if_false,Nat.one_ne_zero] at g1
     (repeat (first | refine af ?_ | refine aB ?_ | refine a8 _ rfl ?_ | refine aa rfl ?_ | refine ab rfl ?_ | refine ae rfl (of_decide_eq_true rfl) ?_ | refine ao ?_))
     first
      | exact Has.intro ⟨1,⟨(by decide),(fun _=>by omega),(by omega)⟩,(by decide),⟨rfl,rfl,trivial⟩,rfl⟩
      | exact Has.intro ⟨2,⟨(by decide),(fun _=>f0 (by decide)),(fun _=>by omega)⟩,(by decide),⟨rfl,rfl,trivial⟩,rfl⟩
  ·have:i=2:=by omega
   subst this
   exact Has.intro (Has.intro (.inr ⟨rfl,⟨rfl,trivial⟩,rfl,h1,h2,h3,h4,f0 (by decide),f1 (by decide)⟩))
 ·rw [decide_eq_false h]
  exact Has.intro (Has.intro rfl)
 ·rw [decide_eq_true h]
  exact Has.intro (Has.intro rfl)
set_option maxHeartbeats 2000000 in
theorem rctr_ok (c:Ct) (hl:c.name.length≤maxLen):EP (EE env) 102 [.agg (ct c)]=some (.bool (decide (cP c))):=by
 refine Has.eq (aE (fn_has rfl ?_))
 refine aM [(1,.ptr 0 0)] [.pcells (ct c)] (by (repeat (first | refine af ?_ | refine aB ?_ | refine a8 _ rfl ?_ | refine aa rfl ?_ | refine ab rfl ?_ | refine ae rfl (of_decide_eq_true rfl) ?_ | refine ao ?_)); (refine Has.intro ⟨rfl,?_,rfl⟩; (repeat (first | exact trivial | refine ⟨rfl,?_⟩)))) (fun r=>?_)
 refine aM [(1,.ptr 0 0),(3,.ptr 1 0),(4,.ptr 2 0)] [.pcells (ct c),.pcells (vc c.rq),.pcells (vc c.lm)] ?_ (fun r=>?_)
 ·(repeat (first | refine af ?_ | refine aB ?_ | refine a8 _ rfl ?_ | refine aa rfl ?_ | refine ab rfl ?_ | refine ae rfl (of_decide_eq_true rfl) ?_ | refine ao ?_))
  refine bq rfl rfl ?_
  (refine Has.intro ⟨rfl,?_,rfl⟩; (repeat (first | exact trivial | refine ⟨rfl,?_⟩)))
 (repeat (first | refine af ?_ | refine aB ?_ | refine a8 _ rfl ?_ | refine aa rfl ?_ | refine ab rfl ?_ | refine ae rfl (of_decide_eq_true rfl) ?_ | refine ao ?_))
 refine aI (rname_dec c.name hl) (fun h1=>?_) (fun h1=>?_)
 ·(repeat (first | refine af ?_ | refine aB ?_ | refine a8 _ rfl ?_ | refine aa rfl ?_ | refine ab rfl ?_ | refine ae rfl (of_decide_eq_true rfl) ?_ | refine ao ?_))
  refine aI (rright_ok c.rq) (fun h2=>?_) (fun h2=>?_)
  ·(repeat (first | refine af ?_ | refine aB ?_ | refine a8 _ rfl ?_ | refine aa rfl ?_ | refine ab rfl ?_ | refine ae rfl (of_decide_eq_true rfl) ?_ | refine ao ?_))
   refine aI (rright_ok c.lm) (fun h3=>?_) (fun h3=>?_)
   ·have b3:=vR_in h3
    (repeat (first | refine af ?_ | refine aB ?_ | refine a8 _ rfl ?_ | refine aa rfl ?_ | refine ab rfl ?_ | refine ae rfl (of_decide_eq_true rfl) ?_ | refine ao ?_))
    refine aP (fun g1=>?_) (fun g1=>?_)
    all_goals (repeat (first | refine a8 _ rfl ?_ | refine aa rfl ?_ | refine ab rfl ?_))
    all_goals (try refine ah (fun g2=>?_) (fun g2=>?_))
    all_goals (repeat (first | refine a8 _ rfl ?_ | refine aa rfl ?_ | refine ab rfl ?_))
    all_goals (try refine aP (fun g3=>?_) (fun g3=>?_))
    all_goals (repeat (first | refine a8 _ rfl ?_ | refine aa rfl ?_ | refine ab rfl ?_))
    all_goals (try refine ah (fun g4=>?_) (fun g4=>?_))
    all_goals (repeat (first | refine a8 _ rfl ?_ | refine aa rfl ?_ | refine ab rfl ?_))
    all_goals (try refine aP (fun g5=>?_) (fun g5=>?_))
    all_goals
     refine Has.intro (Has.intro ?_)
     first
      | exact yes (p:=cP c) ⟨h1,h2,h3,(by omega),(by omega),(by omega)⟩
      | exact no (p:=cP c) (fun h=>by have:=h.2.2.2; omega)
   ·(repeat (first | refine af ?_ | refine aB ?_ | refine a8 _ rfl ?_ | refine aa rfl ?_ | refine ab rfl ?_ | refine ae rfl (of_decide_eq_true rfl) ?_ | refine ao ?_))
    exact Has.intro (Has.intro (no (fun h=>h3 h.2.2.1)))
  ·(repeat (first | refine af ?_ | refine aB ?_ | refine a8 _ rfl ?_ | refine aa rfl ?_ | refine ab rfl ?_ | refine ae rfl (of_decide_eq_true rfl) ?_ | refine ao ?_))
   exact Has.intro (Has.intro (no (fun h=>h2 h.2.1)))
 ·(repeat (first | refine af ?_ | refine aB ?_ | refine a8 _ rfl ?_ | refine aa rfl ?_ | refine ab rfl ?_ | refine ae rfl (of_decide_eq_true rfl) ?_ | refine ao ?_))
  exact Has.intro (Has.intro (no (fun h=>h1 h.1)))
end Go.Proofs.YtflfdglnelbbiaaGreat
namespace Go.Proofs.YtflfdglnelbbiaaGreat
open Go Go.VM
def SL (v:AV) (H:Heap) (l:List Ct):Prop:=(∃ x,v = .pv (.sl x l.length (flat ct l)))∨(∃ id cap,v = .hs 10 id 0 l.length cap∧hget H id = .pcells (flat ct l))
theorem SL.grow {v:AV} {H:Heap} {l:List Ct} (h:SL v H l) (J:Heap):SL v (H++J) l:=by
 rcases h with h | ⟨id,cap,h1,h2⟩
 ·exact .inl h
 ·exact .inr ⟨id,cap,h1,(aA J (ap h2 ((by intro h; cases h)))).trans h2⟩
def findF (name:List UInt8):Nat→List Ct→Int
 | _,[] => -1
 | i,c::l=>if c.name=name then (i:Int) else findF name (i+1) l
def findI (name:List UInt8) (l:List Ct):Int:=findF name 0 l
theorem findF_step {name:List UInt8} {l:List Ct} {i:Nat} {c:Ct} (h:l[i]? = some c):findF name i (l.drop i)=if c.name=name then (i:Int) else findF name (i+1) (l.drop (i+1)):=by
 rw [drop_of h]; rfl
theorem str_beq (a b:List UInt8):((⟨a.toArray⟩:ByteArray).toList==(⟨b.toArray⟩:ByteArray).toList)=decide (a=b):=by
 rw [Bool.eq_iff_iff]; simp
theorem at10 (i:Nat):addO 0 (mulE ((i:Nat):Int).toNat 10)=i*10:=by
 show mulE i 10=_
 rw [aG]
theorem is_ok (c:Ct) (name:List UInt8) (q:Nat) (H:Heap) (hq:hget H q = .pcells [sv name]) :
 EE env (.fn 122) [.pv (.agg (ct c)),.ptr q 0] H=some (.pv (.bool (decide (c.name=name))),H++[.pcells (ct c)]):=by
 refine Has.eq (aK ?_)
 (repeat (first | refine af ?_ | refine aB ?_ | refine aa rfl ?_ | refine ab rfl ?_ | refine ae rfl (of_decide_eq_true rfl) ?_ | refine ao ?_))
 refine a8 _ ((aA _ (ap hq ((by intro h; cases h)))).trans hq) ?_
 refine ab rfl ?_
 refine aD (c:=decide (c.name=name)) ?_ ?_
 ·exact str_beq c.name name
 exact Has.intro rfl
set_option maxHeartbeats 1000000 in
theorem index_ok (v:AV) (l:List Ct) (hl:l.length≤maxLen) (name:List UInt8) (q:Nat) (H:Heap) (hv:SL v H l) (hq:hget H q = .pcells [sv name]) :
 Has (EE env (.fn 121) [v,.fn 122 [] [.ptr q 0]] H) (fun y=>y.1 = .pv (.int .i64 (findI name l)) ∧ ∃ J,y.2=H++J):=by
 rw [aS] at hl
 refine aK ?_
 rcases id hv with ⟨x,rfl⟩ | ⟨id,cap,rfl,hid⟩
 ·skip
  refine aw ?_
  refine aW (σ:=Nat) (fun i=>l.length-i) (fun i=>[(0,.pv (.sl x l.length (flat ct l))),(1,.fn 122 [] [.ptr q 0]),(6,.pv (.sl x l.length (flat ct l))),(7,.pv (.int .i64 l.length)),(8,.pv (.int .i64 i))]) (fun _=>H) (fun i=>i≤l.length∧findI name l=findF name i (l.drop i)) (fun i ⟨hi,he⟩ r J=>?_) 0 ⟨Nat.zero_le _,rfl⟩ [] ⟨rfl,rfl,rfl,rfl,rfl,trivial⟩ (List.append_nil _).symm
  refine ah (fun hc=>?_) (fun hc=>?_)
  ·have hlt:i<l.length:=by omega
   obtain ⟨c,hcg⟩:∃ c,l[i]? = some c:=⟨_,List.getElem?_eq_getElem hlt⟩
   obtain ⟨g1,g2⟩:=aR ct_len hcg
   rw [findF_step hcg] at he
   have hq':=(aA J (ap hq ((by intro h; cases h)))).trans hq
   refine aa (by (first | rfl | (simp; done) | (simp; omega))) ?_
   refine ae g1 g2 ?_
   refine au (is_ok c name q _ hq') ?_
   by_cases hn:c.name=name
   ·rw [decide_eq_true hn]
    rw [if_pos hn] at he
    refine Has.intro (Has.intro ⟨?_,_,List.append_assoc _ _ _⟩)
    rw [he]; rfl
   ·rw [decide_eq_false hn]
    rw [if_neg hn] at he
    refine a9 _ (aq (by omega)) ?_
    exact Has.intro ⟨i+1,⟨hlt,he⟩,by omega,⟨rfl,rfl,rfl,rfl,rfl,trivial⟩,_,List.append_assoc _ _ _⟩
  ·have:i=l.length:=by omega
   subst this
   rw [List.drop_length] at he
   refine Has.intro (Has.intro ⟨?_,J,rfl⟩)
   rw [he]; rfl
 ·skip
  refine aw ?_
  refine aW (σ:=Nat) (fun i=>l.length-i) (fun i=>[(0,.hs 10 id 0 l.length cap),(1,.fn 122 [] [.ptr q 0]),(6,.hs 10 id 0 l.length cap),(7,.pv (.int .i64 l.length)),(8,.pv (.int .i64 i))]) (fun _=>H) (fun i=>i≤l.length∧findI name l=findF name i (l.drop i)) (fun i ⟨hi,he⟩ r J=>?_) 0 ⟨Nat.zero_le _,rfl⟩ [] ⟨rfl,rfl,rfl,rfl,rfl,trivial⟩ (List.append_nil _).symm
  refine ah (fun hc=>?_) (fun hc=>?_)
  ·have hlt:i<l.length:=by omega
   obtain ⟨c,hcg⟩:∃ c,l[i]? = some c:=⟨_,List.getElem?_eq_getElem hlt⟩
   obtain ⟨g1,g2⟩:=aR ct_len hcg
   rw [findF_step hcg] at he
   have hq':=(aA J (ap hq ((by intro h; cases h)))).trans hq
   refine aa (by (first | rfl | (simp; done) | (simp; omega))) ?_
   refine a8 _ ((aA J (ap hid ((by intro h; cases h)))).trans hid) ?_
   refine ae (v:=ct c) (by rw [at10]; exact g1) (by rw [at10]; exact g2) ?_
   refine au (is_ok c name q _ hq') ?_
   by_cases hn:c.name=name
   ·rw [decide_eq_true hn]
    rw [if_pos hn] at he
    refine Has.intro (Has.intro ⟨?_,_,List.append_assoc _ _ _⟩)
    rw [he]; rfl
   ·rw [decide_eq_false hn]
    rw [if_neg hn] at he
    refine a9 _ (aq (by omega)) ?_
    exact Has.intro ⟨i+1,⟨hlt,he⟩,by omega,⟨rfl,rfl,rfl,rfl,rfl,trivial⟩,_,List.append_assoc _ _ _⟩
  ·have:i=l.length:=by omega
   subst this
   rw [List.drop_length] at he
   refine Has.intro (Has.intro ⟨?_,J,rfl⟩)
   rw [he]; rfl
end Go.Proofs.YtflfdglnelbbiaaGreat
namespace Go.Proofs.YtflfdglnelbbiaaGreat
open Go Go.VM
structure Pd where
 name:List UInt8
 prio:Int
 pol:Int
 l:List Ct
def pdc (p:Pd) (x:Ext):List PV:=[sv p.name,.int .i64 p.prio,.int .i64 p.pol,.sl x p.l.length (flat ct p.l)]
def PA (u:AV) (_:Heap) (p:Pd):Prop:=(∃ x,u = .pv (.agg (pdc p x)))∨False
theorem PA.grow {u:AV} {H:Heap} {p:Pd} (h:PA u H p) (J:Heap):PA u (H++J) p:=by
 exact h
def foundB (n:Int):PV:=.tup [.int .i64 (if 0>n then 0 else n),.bool (decide (n≥0))]
set_option maxHeartbeats 1000000 in
theorem find_ok (u:AV) (p:Pd) (hl:p.l.length≤maxLen) (name:List UInt8) (H:Heap) (hu:PA u H p) :
 Has (EE env (.fn 106) [u,.pv (sv name)] H) (fun y=>y.1 = .pv (foundB (findI name p.l)) ∧ ∃ J,y.2=H++J):=by
 refine aK ?_
 rcases id hu with ⟨x,rfl⟩ | hid
 ·refine a8 (.pcells (pdc p x)) ((aA _ (by simp)).trans (ak H _)) ?_
  refine ab rfl ?_
  refine am ((index_ok _ p.l hl name (H++[HObj.pcells (pdc p x)]).length ((H++[HObj.pcells (pdc p x)])++[HObj.pcells [sv name]]) (.inl ⟨x,rfl⟩) (ak _ _)).mono fun y hy=>?_)
  obtain ⟨v,H'⟩:=y
  obtain ⟨rfl,J,rfl⟩:=hy
  (repeat (first | refine af ?_ | refine aB ?_ | refine aa rfl ?_ | refine ab rfl ?_ | refine ae rfl (of_decide_eq_true rfl) ?_ | refine ao ?_))
  refine boolK_has_keep ?_
  refine Has.intro ⟨rfl,[HObj.pcells (pdc p x)]++[HObj.pcells [sv name]]++J,by simp⟩
 ·exact hid.elim
set_option maxHeartbeats 1000000 in
theorem rfind_ok (x:Ext) (p:Pd) (hl:p.l.length≤maxLen) (name:List UInt8):EP (EE env) 45 [.agg (pdc p x),sv name]=some (.int .i64 (findI name p.l)):=by
 rw [aS] at hl
 refine Has.eq (aE ?_)
 refine a8 _ rfl ?_
 refine ab rfl ?_
 refine aw ?_
 refine aW (σ:=Nat) (fun i=>p.l.length-i) (fun i=>[(1,.pv (sv name)),(8,.pv (.sl x p.l.length (flat ct p.l))),(9,.pv (.int .i64 p.l.length)),(10,.pv (.int .i64 i))]) (fun _=>[.pcells (pdc p x)]) (fun i=>i≤p.l.length∧findI name p.l=findF name i (p.l.drop i)) (fun i ⟨hi,he⟩ r J=>?_) 0 ⟨Nat.zero_le _,rfl⟩ [] ⟨rfl,rfl,rfl,rfl,trivial⟩ rfl
 refine ah (fun hc=>?_) (fun hc=>?_)
 ·have hlt:i<p.l.length:=by omega
  obtain ⟨c,hcg⟩:∃ c,p.l[i]? = some c:=⟨_,List.getElem?_eq_getElem hlt⟩
  obtain ⟨g1,g2⟩:=aR ct_len hcg
  rw [findF_step hcg] at he
  refine aa (by (first | rfl | (simp; done) | (simp; omega))) ?_
  refine ae g1 g2 ?_
  (repeat (first | refine af ?_ | refine aB ?_ | refine aa rfl ?_ | refine ab rfl ?_ | refine ae rfl (of_decide_eq_true rfl) ?_ | refine ao ?_))
  refine aD (c:=decide (c.name=name)) (str_beq _ _) ?_
  by_cases hn:c.name=name
  ·rw [decide_eq_true hn]
   rw [if_pos hn] at he
   refine Has.intro (Has.intro (Has.intro ?_))
   rw [he]
  ·rw [decide_eq_false hn]
   rw [if_neg hn] at he
   refine a9 _ (aq (by omega)) ?_
   exact Has.intro ⟨i+1,⟨hlt,he⟩,by omega,⟨rfl,rfl,rfl,rfl,trivial⟩,_,rfl⟩
 ·have:i=p.l.length:=by omega
  subst this
  rw [List.drop_length] at he
  refine Has.intro (Has.intro (Has.intro ?_))
  rw [he]; rfl
end Go.Proofs.YtflfdglnelbbiaaGreat
namespace Go.Proofs.YtflfdglnelbbiaaGreat
open Go Go.VM
def sumF (acc:Vc):List Vc→Option Vc
 | []=>some acc
 | v::l=>match addV acc v with
   | some s=>sumF s l
   | none=>none
def sumV (l:List Vc):Option Vc:=sumF v0 l
theorem vc_len (v:Vc):(vc v).length=3:=rfl
theorem sumF_step {acc:Vc} {l:List Vc} {i:Nat} {v:Vc} (h:l[i]? = some v):sumF acc (l.drop i)=match addV acc v with
 | some s=>sumF s (l.drop (i+1))
 | none=>none:=by rw [drop_of h]; rfl
theorem sumV_none {l:List Vc} {acc:Vc} {v:Vc} {i:Nat} (h:sumV l=sumF acc (l.drop i)) (hg:l[i]? = some v) (ha:addV acc v=none):sumV l=none:=by
 rw [h,sumF_step hg,ha]
theorem sumV_some {l:List Vc} {acc:Vc} {v s:Vc} {i:Nat} (h:sumV l=sumF acc (l.drop i)) (hg:l[i]? = some v) (ha:addV acc v=some s):sumV l=sumF s (l.drop (i+1)):=by
 rw [h,sumF_step hg,ha]
set_option maxHeartbeats 1000000 in
theorem sum_ok (x:Ext) (l:List Vc) (hl:l.length≤maxLen):EP (EE env) 133 [.sl x l.length (flat vc l)]=some (pairV (sumV l)):=by
 rw [aS] at hl
 refine Has.eq (aE ?_)
 refine aw ?_
 refine aC (σ:=Nat × Vc × Heap) (fun s=>l.length-s.1) (fun s=>[(2,.ptr 0 0),(4,.ptr 1 0),(9,.pv (.sl x l.length (flat vc l))),(10,.pv (.int .i64 l.length)),(11,.pv (.int .i64 s.1))]) (fun s=>s.2.2) (fun s=>s.1≤l.length∧sumV l=sumF s.2.1 (l.drop s.1)∧hget s.2.2 0=z3∧hget s.2.2 1 = .pcells (vc s.2.1)) (fun ⟨i,acc,G⟩ ⟨hi,he,h0,h1⟩ r=>?_) (0,v0,[z3,z3]) ⟨Nat.zero_le _,rfl,rfl,rfl⟩ ⟨rfl,rfl,rfl,rfl,rfl,trivial⟩ rfl
 dsimp only at hi he h0 h1 ⊢
 refine ah (fun hc=>?_) (fun hc=>?_)
 ·have hlt:i<l.length:=by omega
  obtain ⟨v,hcg⟩:∃ c,l[i]? = some c:=⟨_,List.getElem?_eq_getElem hlt⟩
  obtain ⟨g1,g2⟩:=aR vc_len hcg
  refine aa (by (first | rfl | (simp; done) | (simp; omega))) ?_
  refine ae g1 g2 ?_
  refine af ?_
  refine aa rfl ?_
  refine a9 (vc v) rfl ?_
  have h0:=keep2 (.pcells ([PV.int IntKind.i64 0,PV.int IntKind.i64 0,PV.int IntKind.i64 0])) (.pcells (vc v)) h0 ((by intro h; cases h))
  have h1:=keep2 (.pcells ([PV.int IntKind.i64 0,PV.int IntKind.i64 0,PV.int IntKind.i64 0])) (.pcells (vc v)) h1 ((by intro h; cases h))
  have h6:=ai (H:=G++[HObj.pcells ([PV.int IntKind.i64 0,PV.int IntKind.i64 0,PV.int IntKind.i64 0])]) (id:=G.length) (.pcells (vc v)) (by simp)
  refine a8 _ h1 ?_
  refine ae (v:=vc acc) rfl (Nat.le_refl _) ?_
  refine a8 _ h6 ?_
  refine ae (v:=vc v) rfl (Nat.le_refl _) ?_
  generalize hset (G++[HObj.pcells ([PV.int IntKind.i64 0,PV.int IntKind.i64 0,PV.int IntKind.i64 0])]) G.length (.pcells (vc v))=G at *
  refine aj (add2_ok acc v) ?_
  cases ha:addV acc v with
  | some s=>
    refine af ?_
    refine aa rfl ?_
    refine a9 (vc s) rfl ?_
    have h0:=keep2 (.pcells ([PV.int IntKind.i64 0,PV.int IntKind.i64 0,PV.int IntKind.i64 0])) (.pcells (vc s)) h0 ((by intro h; cases h))
    have h1:=keep2 (.pcells ([PV.int IntKind.i64 0,PV.int IntKind.i64 0,PV.int IntKind.i64 0])) (.pcells (vc s)) h1 ((by intro h; cases h))
    have h6:=ai (H:=G++[HObj.pcells ([PV.int IntKind.i64 0,PV.int IntKind.i64 0,PV.int IntKind.i64 0])]) (id:=G.length) (.pcells (vc s)) (by simp)
    refine a8 _ h6 ?_
    refine ae (v:=vc s) rfl (Nat.le_refl _) ?_
    refine a8 _ h1 ?_
    refine aa rfl ?_
    refine a9 (vc s) rfl ?_
    refine a9 _ (aq (by omega)) ?_
    exact Has.intro ⟨(i+1,s,_),⟨hlt,sumV_some he hcg ha,(an _ _ (by decide)).trans h0,ai _ (ap h1 ((by intro h; cases h)))⟩,by dsimp only; omega,⟨rfl,rfl,rfl,rfl,rfl,trivial⟩,rfl⟩
  | none=>
    refine af ?_
    refine aa rfl ?_
    refine a9 ([PV.int IntKind.i64 0,PV.int IntKind.i64 0,PV.int IntKind.i64 0]) rfl ?_
    have h0:=keep2 (.pcells ([PV.int IntKind.i64 0,PV.int IntKind.i64 0,PV.int IntKind.i64 0])) (.pcells ([PV.int IntKind.i64 0,PV.int IntKind.i64 0,PV.int IntKind.i64 0])) h0 ((by intro h; cases h))
    refine a8 _ h0 ?_
    refine aa rfl ?_
    refine a9 ([PV.int IntKind.i64 0,PV.int IntKind.i64 0,PV.int IntKind.i64 0]) rfl ?_
    refine Has.intro ?_
    refine a8 (.pcells ([PV.int IntKind.i64 0,PV.int IntKind.i64 0,PV.int IntKind.i64 0])) (ai _ (ap h0 ((by intro h; cases h)))) ?_
    refine ae (v:=([PV.int IntKind.i64 0,PV.int IntKind.i64 0,PV.int IntKind.i64 0])) rfl (Nat.le_refl _) ?_
    refine Has.intro (Has.intro ?_)
    rw [sumV_none he hcg ha]; rfl
 ·have:i=l.length:=by omega
  subst this
  rw [List.drop_length] at he
  refine Has.intro ?_
  refine a8 _ h1 ?_
  refine ae (v:=vc acc) rfl (Nat.le_refl _) ?_
  refine a8 _ h0 ?_
  refine aa rfl ?_
  refine a9 (vc acc) rfl ?_
  refine a8 (.pcells (vc acc)) (ai _ (ap h0 ((by intro h; cases h)))) ?_
  refine ae (v:=vc acc) rfl (Nat.le_refl _) ?_
  refine Has.intro (Has.intro ?_)
  rw [he]; rfl
set_option maxHeartbeats 1000000 in
theorem rsum_ok (x:Ext) (l:List Vc) (hl:l.length≤maxLen):EP (EE env) 115 [.sl x l.length (flat vc l)]=some (pairV (sumV l)):=by
 rw [aS] at hl
 refine Has.eq (aE ?_)
 (repeat (first | refine af ?_ | refine aB ?_ | refine aa rfl ?_ | refine ab rfl ?_ | refine ae rfl (of_decide_eq_true rfl) ?_ | refine ao ?_))
 refine aw ?_
 refine aC (σ:=Nat × Option Vc × Heap) (fun s=>l.length-s.1) (fun s=>[(2,.ptr 0 0),(4,.ptr 1 0),(5,.pv (.bool s.2.1.isSome)),(9,.pv (.sl x l.length (flat vc l))),(10,.pv (.int .i64 l.length)),(11,.pv (.int .i64 s.1))]) (fun s=>s.2.2) (fun s=>s.1≤l.length∧(sumV l=match s.2.1 with | some acc=>sumF acc (l.drop s.1) | none=>none)∧hget s.2.2 0=z3∧hget s.2.2 1 = .pcells (vc (s.2.1.getD v0))) (fun ⟨i,oa,G⟩ ⟨hi,he,h0,h1⟩ r=>?_) (0,some v0,[z3,z3]) ⟨Nat.zero_le _,rfl,rfl,rfl⟩ ⟨rfl,rfl,rfl,rfl,rfl,rfl,trivial⟩ rfl
 dsimp only at hi he h0 h1 ⊢
 refine ah (fun hc=>?_) (fun hc=>?_)
 ·have hlt:i<l.length:=by omega
  obtain ⟨v,hcg⟩:∃ c,l[i]? = some c:=⟨_,List.getElem?_eq_getElem hlt⟩
  obtain ⟨g1,g2⟩:=aR vc_len hcg
  refine aa (by (first | rfl | (simp; done) | (simp; omega))) ?_
  refine ae g1 g2 ?_
  refine af ?_
  refine aa rfl ?_
  refine a9 (vc v) rfl ?_
  have h0:=keep2 (.pcells ([PV.int IntKind.i64 0,PV.int IntKind.i64 0,PV.int IntKind.i64 0])) (.pcells (vc v)) h0 ((by intro h; cases h))
  have h1:=keep2 (.pcells ([PV.int IntKind.i64 0,PV.int IntKind.i64 0,PV.int IntKind.i64 0])) (.pcells (vc v)) h1 ((by intro h; cases h))
  have h6:=ai (H:=G++[HObj.pcells ([PV.int IntKind.i64 0,PV.int IntKind.i64 0,PV.int IntKind.i64 0])]) (id:=G.length) (.pcells (vc v)) (by simp)
  cases oa with
  | some acc=>
    dsimp only at he
    refine a8 _ h1 ?_
    refine ae (v:=vc acc) rfl (Nat.le_refl _) ?_
    refine a8 _ h6 ?_
    refine ae (v:=vc v) rfl (Nat.le_refl _) ?_
    generalize hset (G++[HObj.pcells ([PV.int IntKind.i64 0,PV.int IntKind.i64 0,PV.int IntKind.i64 0])]) G.length (.pcells (vc v))=G at *
    refine aj (radd_ok acc v) ?_
    cases ha:addV acc v with
    | some s=>
      refine a8 _ h1 ?_
      refine aa rfl ?_
      refine a9 (vc s) rfl ?_
      refine a9 _ (aq (by omega)) ?_
      exact Has.intro ⟨(i+1,some s,_),⟨hlt,sumV_some he hcg ha,(an _ _ (by decide)).trans h0,ai _ (ap h1 ((by intro h; cases h)))⟩,by dsimp only; omega,⟨rfl,rfl,rfl,rfl,rfl,rfl,trivial⟩,rfl⟩
    | none=>
      refine a8 _ h1 ?_
      refine aa rfl ?_
      refine a9 (vc v0) rfl ?_
      refine a9 _ (aq (by omega)) ?_
      exact Has.intro ⟨(i+1,none,_),⟨hlt,sumV_none he hcg ha,(an _ _ (by decide)).trans h0,ai _ (ap h1 ((by intro h; cases h)))⟩,by dsimp only; omega,⟨rfl,rfl,rfl,rfl,rfl,rfl,trivial⟩,rfl⟩
  | none=>
    dsimp only at he
    refine a9 _ (aq (by omega)) ?_
    exact Has.intro ⟨(i+1,none,_),⟨hlt,he,h0,h1⟩,by dsimp only; omega,⟨rfl,rfl,rfl,rfl,rfl,rfl,trivial⟩,rfl⟩
 ·have:i=l.length:=by omega
  subst this
  rw [List.drop_length] at he
  have he':sumV l=oa:=he.trans (by cases oa<;>rfl)
  refine Has.intro ?_
  refine a8 _ h1 ?_
  refine ae (v:=vc (oa.getD v0)) rfl (Nat.le_refl _) ?_
  refine a8 _ h0 ?_
  refine aa rfl ?_
  refine a9 (vc (oa.getD v0)) rfl ?_
  refine a8 (.pcells (vc (oa.getD v0))) (ai _ (ap h0 ((by intro h; cases h)))) ?_
  refine ae (v:=vc (oa.getD v0)) rfl (Nat.le_refl _) ?_
  refine Has.intro (Has.intro ?_)
  rw [he']
  cases oa<;>rfl
end Go.Proofs.YtflfdglnelbbiaaGreat
namespace Go.Proofs.YtflfdglnelbbiaaGreat
open Go Go.VM
def rqs (l:List Ct):List Vc:=l.map Ct.rq
def lms (l:List Ct):List Vc:=l.map Ct.lm
theorem map_take {α β:Type} {f:α→β} {l:List α} {i:Nat} {c:α} (h:l[i]? = some c):(l.map f).take (i+1)=(l.map f).take i++[f c]:=by
 rw [List.take_add_one]; congr 1; simp [h]
def Two (G:Heap) (l:List Ct) (i:Nat) (v w:AV):Prop:=
 AppV G v .nil 3 i (flat vc ((rqs l).take i))∧AppV G w .nil 3 i (flat vc ((lms l).take i))∧(tokOf w=none∨tokOf w≠tokOf v)∧(tokOf v=none∨tokOf v≠tokOf w)
def sum3 (l:List Ct):PV:=.tup [.agg (vc ((sumV (rqs l)).getD v0)),.agg (vc ((sumV (lms l)).getD v0)),.bool ((sumV (rqs l)).isSome&&(sumV (lms l)).isSome)]
theorem AppV.tok {G:Heap} {v:AV} {e:Ext} {es n:Nat} {cs:List PV} (h:AppV G v e es n cs) (t:Nat) (ht:tokOf v=some t):t<G.length:=by
 rcases h with ⟨_,_,rfl,_⟩ | ⟨_,_,t',rfl,h⟩
 ·cases ht
 ·cases ht
  exact ap h ((by intro h; cases h))
theorem Two.zero (G:Heap) (l:List Ct):Two G l 0 (.pv (.sl .nil 0 [])) (.pv (.sl .nil 0 [])):=⟨AppV.new rfl,AppV.new rfl,.inl rfl,.inl rfl⟩
theorem Two.box {G:Heap} {l:List Ct} {i:Nat} {v w:AV} (h:Two G l i v w) (z o':HObj) (hz:∀ n es,z ≠ .tok n es):Two (hset (G++[z]) G.length o') l i v w:=
 ⟨b9 (AppV_grow h.1 [z]) o' (ak G z) hz,b9 (AppV_grow h.2.1 [z]) o' (ak G z) hz,h.2.2⟩
theorem two_first {G G':Heap} {l:List Ct} {i:Nat} {v w v':AV} (h:Two G l i v w) {c:Ct} (hc:l[i]? = some c) (hv:AppV G' v' .nil 3 (i+1) (flat vc ((rqs l).take i)++vc c.rq)) (hf:Fr v G G') (ht:tokOf v'=tokOf v∨tokOf v'=some G.length) :
 AppV G' v' .nil 3 (i+1) (flat vc ((rqs l).take (i+1)))∧AppV G' w .nil 3 i (flat vc ((lms l).take i))∧(tokOf w=none∨tokOf w≠tokOf v'):=by
 obtain ⟨h1,h2,h3,h4⟩:=h
 refine ⟨?_,AppV.keep h2 hf h3,?_⟩
 ·unfold rqs at hv ⊢
  rw [map_take hc,←flat_snoc]; exact hv
 ·cases hw:tokOf w with
  | none=>exact .inl rfl
  | some t=>
    refine .inr ?_
    rcases ht with ht | ht
    ·rw [ht,←hw]
     rcases h3 with h3 | h3
     ·rw [h3] at hw; cases hw
     ·exact h3
    ·rw [ht]
     have:=AppV.tok h2 t hw
     intro e; injection e with e; omega
theorem two_second {G G':Heap} {l:List Ct} {i:Nat} {v w w':AV} (h1:AppV G v .nil 3 (i+1) (flat vc ((rqs l).take (i+1)))) (h2:AppV G w .nil 3 i (flat vc ((lms l).take i))) (h3:tokOf w=none∨tokOf w≠tokOf v) {c:Ct} (hc:l[i]? = some c)
 (hw:AppV G' w' .nil 3 (i+1) (flat vc ((lms l).take i)++vc c.lm)) (hf:Fr w G G') (ht:tokOf w'=tokOf w∨tokOf w'=some G.length):Two G' l (i+1) v w':=by
 have hvw:tokOf v=none∨tokOf v≠tokOf w:=by
  cases hv:tokOf v with
  | none=>exact .inl rfl
  | some t=>
    refine .inr fun e=>?_
    rcases h3 with h3 | h3
    ·rw [h3] at e; cases e
    ·exact h3 (e.symm.trans hv.symm)
 have hne:tokOf v≠none→tokOf w'≠tokOf v:=fun hn=>by
  cases hv:tokOf v with
  | none=>exact absurd hv hn
  | some t=>
    rcases ht with ht | ht
    ·rw [ht]
     rcases hvw with h | h
     ·exact absurd h hn
     ·rw [←hv]; exact fun e=>h e.symm
    ·rw [ht]
     have:=AppV.tok h1 t hv
     intro e; injection e with e; omega
 refine ⟨AppV.keep h1 hf hvw,?_,?_,?_⟩
 ·unfold lms at hw ⊢
  rw [map_take hc,←flat_snoc]; exact hw
 ·cases hw':tokOf w' with
  | none=>exact .inl rfl
  | some t=>
    refine .inr fun e=>?_
    exact hne (by rw [←e]; simp) (hw'.trans e)
 ·cases hv:tokOf v with
  | none=>exact .inl rfl
  | some t=>
    refine .inr fun e=>?_
    exact hne (by rw [hv]; simp) (e.symm.trans hv.symm)
theorem AppV.forms {G:Heap} {v:AV} {n:Nat} {cs:List PV} (h:AppV G v .nil 3 n cs):(n=0∧v = .pv (.sl .nil 0 []))∨(∃ t,v = .tsl t n cs):=by
 rcases h with ⟨h1,_,h3,_⟩ | ⟨_,_,t,h,_⟩
 ·exact .inl ⟨h1,h3⟩
 ·exact .inr ⟨t,h⟩
end Go.Proofs.YtflfdglnelbbiaaGreat
