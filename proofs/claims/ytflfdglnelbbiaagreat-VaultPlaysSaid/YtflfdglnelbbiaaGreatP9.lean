/-
  Part 9 of the functions and the law.
  The document's reader: a state is read as the program reads it.
  A vault's functions: what a slot counts for; Open, State, Gen, Disk, Room, Slot.
  A vault's Save.
  What must be answered ahead of everything else.
  The answer that stands ahead of everything else.
  The law's arguments: three states, a number.
  States read from a body are small.
  The document's disks and vaults.
  The document's Write.
  The document's vaults: Open, Save.
  The document's Save.
  What a disk and a vault answer where nothing is written.
-/
import Derived.Test.YtflfdglnelbbiaaGreatP8
import Derived.Test.YtflfdglnelbbiaaGreatP3
import Derived.Test.YtflfdglnelbbiaaGreatP2
import Derived.Test.YtflfdglnelbbiaaGreatP7
set_option linter.all false
set_option linter.unusedVariables false
set_option linter.unusedSimpArgs false
set_option linter.unusedSectionVars false
namespace Go.Proofs.YtflfdglnelbbiaaGreat
open Go Go.VM
theorem AppV.put1 {H:Heap} {r:RS} {v:AV} {e:Ext} {es n:Nat} {cs:List PV} (h:AppV H v e es n cs) (hr:SD H 1 r) (o:HObj):AppV (hset H 1 o) v e es n cs:=b9 h o hr.1 (fun _ _ h=>by cases h)
theorem sfail_no {H:Heap} {p:Nat} {r:RS} (h:SD H p r) (err:Int) (he:r.2≠0):EE env (.fn 65) [.ptr p 0,.pv (.int .i64 err)] H=some (.pv (.tup []),H):=by
 refine Has.eq (aK ?_)
 refine a8 _ h.1 ?_
 refine ab rfl ?_
 refine boolK_beq_f he ?_
 exact Has.intro rfl
set_option maxHeartbeats 8000000 in
theorem rget_ok' (b:List UInt8) (hb:b.length≤1000000):∃ x1 x2,EP (EE env) 35 [sv b]=some (.tup [.agg (stc (getS b).1 x1 x2),.int .i64 (getS b).2]):=by
 have main:Has (EP (EE env) 35 [sv b]) (fun u=>∃ x1 x2,u = .tup [.agg (stc (getS b).1 x1 x2),.int .i64 (getS b).2]):=by
  refine aE (fn_has rfl ?_)
  refine aM [(0,.pv (sv b)),(2,.ptr 0 0)] [.pcells ([.int .i64 0,.sl .nil 0 [],.sl .nil 0 []])] (Has.intro ⟨rfl,⟨rfl,rfl,trivial⟩,rfl⟩) (fun r=>?_)
  refine aM [(2,.ptr 0 0),(4,.ptr 1 0)] [.pcells ([.int .i64 0,.sl .nil 0 [],.sl .nil 0 []]),so (b,0)] (Has.intro ⟨rfl,⟨rfl,rfl,trivial⟩,rfl⟩) (fun r=>?_)
  refine aM ([(2,.ptr 0 0),(4,.ptr 1 0),(5,.ptr 2 0)]) [.pcells ([.int .i64 0,.sl .nil 0 [],.sl .nil 0 []]),so (b,0),.pcells ([.int .i64 0,.sl .nil 0 [],.sl .nil 0 []])] (Has.intro ⟨rfl,⟨rfl,rfl,rfl,trivial⟩,rfl⟩) (fun r=>?_)
  have hr:SD [.pcells ([.int .i64 0,.sl .nil 0 [],.sl .nil 0 []]),so (b,0),.pcells ([.int .i64 0,.sl .nil 0 [],.sl .nil 0 []])] 1 (b,0):=⟨rfl,hb⟩
  have c1:=gN_le 1099511627776 (b,0)
  refine aV (σ:=Heap) (fun _=>([(2,.ptr 0 0),(4,.ptr 1 0),(5,.ptr 2 0)])) (fun G=>G) (fun G=>SD G 1 (gN 1099511627776 (b,0)).2∧hget G 0 = .pcells ([.int .i64 0,.sl .nil 0 [],.sl .nil 0 []])∧hget G 2=sobj (gN 1099511627776 (b,0)).1 ((.pv (.sl .nil 0 []))) ((.pv (.sl .nil 0 [])))) ?_ (fun G ⟨hr,k0,k2⟩ r=>?_)
  ·refine am ((snum_rd hr 1099511627776 (by decide)).mono fun z hz=>?_)
   obtain ⟨u,G2⟩:=z
   obtain ⟨rfl,h1,hk⟩:=hz
   dsimp only at h1 hk ⊢
   refine a9 ((gN 1099511627776 (b,0)).1:Int) (wrap_i64 (by omega) (by omega)) ?_
   have k2:hget G2 2 = .pcells ([.int .i64 0,.sl .nil 0 [],.sl .nil 0 []]):=hk.obj (by decide) rfl ((by intro h; cases h))
   refine a8 _ k2 ?_
   refine aa rfl ?_
   refine a9 [.int .i64 (gN 1099511627776 (b,0)).1,.sl .nil 0 [],.sl .nil 0 []] rfl ?_
   exact Has.intro ⟨rfl,_,⟨h1.set _ (by decide),(an _ _ (by decide)).trans (hk.obj (by decide) rfl ((by intro h; cases h))),ai _ (ap k2 ((by intro h; cases h)))⟩,⟨rfl,rfl,rfl,trivial⟩,rfl⟩
  have hgE:=gst_stop b
  have hgEs:=gEs_small (kE b).2 (by have:(gN 1099511627776 (b,0)).2.1.length≤b.length:=gN_short 1099511627776 (b,0); have:=gN_short 16 (gN 1099511627776 (b,0)).2; show (gN 16 (gN 1099511627776 (b,0)).2).2.1.length≤_; omega)
  have hk16:=gN_le 16 (gN 1099511627776 (b,0)).2
  refine aV (σ:=Heap) (fun _=>Lg (.pv (.int .i64 ((kE b).1:Nat)))) (fun G=>G) (fun G=>SD G 1 (kE b).2∧hget G 0 = .pcells ([.int .i64 0,.sl .nil 0 [],.sl .nil 0 []])∧hget G 2=sobj (gN 1099511627776 (b,0)).1 ((.pv (.sl .nil 0 []))) ((.pv (.sl .nil 0 [])))) ?_ (fun G ⟨hr,k0,k2⟩ r=>?_)
  ·refine am ((snum_rd hr 16 (by decide)).mono fun z hz=>?_)
   obtain ⟨u,G2⟩:=z
   obtain ⟨rfl,h1,hk⟩:=hz
   dsimp only at h1 hk ⊢
   refine a9 ((kE b).1:Int) (wrap_i64 (by omega) (by omega)) ?_
   exact Has.intro ⟨rfl,_,⟨h1,hk.obj (by decide) k0 ((by intro h; cases h)),hk.obj (by decide) k2 aX.1⟩,⟨rfl,rfl,rfl,rfl,trivial⟩,rfl⟩
  have hk16:(kE b).1≤16:=by unfold kE; exact gN_le 16 _
  refine aV _ _ _ (loop1_ok (gN 1099511627776 (b,0)).1 (kE b).2 (kE b).1 hk16 hr k0 k2 r) (fun ⟨i,v,G⟩ ⟨hi,hi2,hr,k0,k2,hv⟩ r=>?_)
  dsimp only at hi hi2 hr k0 k2 hv ⊢
  have hk192:(kH b i).1≤192:=gN_le 192 _
  refine aV (σ:=Heap) (fun _=>Lg (.pv (.int .i64 ((kH b i).1:Nat)))) (fun G=>G) (fun G=>SD G 1 (kH b i).2∧hget G 0 = .pcells ([.int .i64 0,.sl .nil 0 [],.sl .nil 0 []])∧hget G 2=sobj (gN 1099511627776 (b,0)).1 v ((.pv (.sl .nil 0 [])))∧AppV G v .nil 10 i (flat en (gEs (kE b).2 i).1)) ?_ (fun G ⟨hr,k0,k2,hv⟩ r=>?_)
  ·refine am ((snum_rd hr 192 (by decide)).mono fun z hz=>?_)
   obtain ⟨u,G2⟩:=z
   obtain ⟨rfl,h1,hk⟩:=hz
   dsimp only at h1 hk ⊢
   refine a9 ((kH b i).1:Int) (wrap_i64 (by unfold kH at *; omega) (by unfold kH at *; omega)) ?_
   exact Has.intro ⟨rfl,_,⟨h1,hk.obj (by decide) k0 ((by intro h; cases h)),hk.obj (by decide) k2 aX.1,AppV.krn hv hk hr⟩,⟨rfl,rfl,rfl,rfl,trivial⟩,rfl⟩
  refine aV _ _ _ (loop2_ok (gN 1099511627776 (b,0)).1 (kH b i).2 (kH b i).1 hk192 hr k0 v i _ hv k2 r) (fun ⟨j,w,G⟩ ⟨hj,hj2,hr,k0,k2,hv,hw⟩ r=>?_)
  dsimp only at hj hj2 hr k0 k2 hv hw ⊢
  obtain ⟨e1,e2⟩:=hgE i j hi hi2 hj hj2
  have hEl:=gEs_len (kE b).2 i
  have hHl:=gHs_len (kH b i).2 j
  have hH8:=gHs_eight (kH b i).2 j
  have hEs:=hgEs i
  rw [getS_of b _ _ e1 e2]
  clear e1 e2 hgE hgEs
  generalize (gN 1099511627776 (b,0)).1=gn at *
  generalize (gEs (kE b).2 i).1=E at *
  generalize hgh:gHs (kH b i).2 j=gh at *
  obtain ⟨Hs,r9⟩:=gh
  dsimp only at hr hw hHl hH8 ⊢
  have hsm:smallS ⟨gn,E,Hs⟩:=⟨by show E.length≤maxLen; rw [hEl]; exact ml (by omega),by show Hs.length≤maxLen; rw [hHl]; exact ml (by omega),hEs,hH8⟩
  obtain ⟨rb,re⟩:=r9
  refine aV (σ:=Heap × List UInt8) (fun _=>([(2,.ptr 0 0),(4,.ptr 1 0),(5,.ptr 2 0)])) (fun t=>t.1) (fun t=>hget t.1 1=so (t.2,T.rEnd rb re)∧hget t.1 0 = .pcells ([.int .i64 0,.sl .nil 0 [],.sl .nil 0 []])∧hget t.1 2=sobj gn v w∧AppV t.1 v .nil 10 i (flat en E)∧AppV t.1 w .nil 11 j (flat hoc Hs)) ?_ (fun ⟨G,bs⟩ ⟨k1,k0,k2,hv,hw⟩ r=>?_)
  ·refine a8 _ hr.1 ?_
   refine ab rfl ?_
   refine boolK_sne (b:=[]) (fun h1=>?_) (fun h1=>?_)
   ·by_cases he:re=0
    ·subst he
     refine au (sfail hr 13 (by decide)) ?_
     have he:T.rEnd rb 0=13:=by unfold T.rEnd; rw [if_pos ⟨rfl,h1⟩]
     rw [he]
     exact Has.intro ⟨rfl,(hset G 1 (so ([],13)),[]),⟨ai _ hr.lt,(an _ _ (by decide)).trans k0,(an _ _ (by decide)).trans k2,AppV.put1 hv hr _,AppV.put1 hw hr _⟩,⟨rfl,rfl,rfl,trivial⟩,rfl⟩
    ·refine au (sfail_no hr 13 he) ?_
     have he:T.rEnd rb re=re:=by unfold T.rEnd; rw [if_neg (fun h=>he h.1)]
     rw [he]
     exact Has.intro ⟨rfl,(G,rb),⟨hr.1,k0,k2,hv,hw⟩,⟨rfl,rfl,rfl,trivial⟩,rfl⟩
   ·have he:T.rEnd rb re=re:=by unfold T.rEnd; rw [if_neg (fun h=>h.2 h1)]
    rw [he]
    exact Has.intro ⟨rfl,(G,rb),⟨hr.1,k0,k2,hv,hw⟩,⟨rfl,rfl,rfl,trivial⟩,rfl⟩
  generalize T.rEnd rb re=er at *
  clear hr
  have h0l:=ap k0 ((by intro h; cases h))
  refine seq_if2 [(2,.ptr 0 0),(3,.pv (.int .i64 er))] G (er≠0) ([(2,.ptr 0 0),(4,.ptr 1 0),(5,.ptr 2 0)]) (er=0) G ?_ (fun he r=>?_) (fun he r=>?_)
  ·refine a8 _ k1 ?_
   refine ab rfl ?_
   refine aO (fun he=>?_) (fun he=>?_)
   ·refine a8 _ k1 ?_
    refine ab rfl ?_
    refine a8 _ k0 ?_
    refine aa rfl ?_
    refine a9 ([.int .i64 0,.sl .nil 0 [],.sl .nil 0 []]) rfl ?_
    have hse:hset G 0 (.pcells ([.int .i64 0,.sl .nil 0 [],.sl .nil 0 []]))=G:=hset_self k0
    refine bq (by first | rfl | rw [hse]) (by first | rfl | (rw [k1]; rfl)) ?_
    exact Has.intro (.inl ⟨rfl,⟨rfl,rfl,trivial⟩,hse,he⟩)
   ·exact Has.intro (.inr ⟨rfl,⟨rfl,rfl,rfl,trivial⟩,rfl,he⟩)
  ·rw [if_pos he]
   refine a8 _ k0 ?_
   refine ae (v:=([.int .i64 0,.sl .nil 0 [],.sl .nil 0 []])) rfl (of_decide_eq_true rfl) ?_
   exact Has.intro (Has.intro ⟨.nil,.nil,rfl⟩)
  rw [if_neg (fun h=>h he)]
  rcases formsG hv with ⟨hz,hcs,hve⟩ | ⟨hz,t,hve⟩
  all_goals
   rcases formsG hw with ⟨hz2,hcs2,hwe⟩ | ⟨hz2,t2,hwe⟩
  all_goals
   rw [hve,hwe] at k2
   first
    | rw [←hEl] at k2
    | skip
   first
    | rw [←hHl] at k2
    | skip
   refine a8 _ k2 ?_
   first
    | refine ae (v:=[.int .i64 gn,.sl .nil 0 [],.sl .nil 0 []]) rfl (of_decide_eq_true rfl) ?_
    | skip
   have hzl:E.length=i:=hEl
   have hzl2:Hs.length=j:=hHl
   first
    | (have hE0:E=[]:=List.eq_nil_of_length_eq_zero (by omega)
       subst hE0)
    | skip
   first
    | (have hH0:Hs=[]:=List.eq_nil_of_length_eq_zero (by omega)
       subst hH0)
    | skip
   first
    | refine aI (rright_ok' ⟨gn,[],[]⟩ .nil .nil hsm) (fun hR=>?_) (fun hR=>?_)
    | refine aI (rright_ok' ⟨gn,[],Hs⟩ .nil .nn hsm) (fun hR=>?_) (fun hR=>?_)
    | refine aI (rright_ok' ⟨gn,E,[]⟩ .nn .nil hsm) (fun hR=>?_) (fun hR=>?_)
    | refine aI (rright_ok' ⟨gn,E,Hs⟩ .nn .nn hsm) (fun hR=>?_) (fun hR=>?_)
  all_goals first
   | (rw [if_pos hR]
      refine a8 _ k2 ?_
      first
       | refine ae (v:=[.int .i64 gn,.sl .nil 0 [],.sl .nil 0 []]) rfl (of_decide_eq_true rfl) ?_
       | skip
      refine a8 _ k0 ?_
      first
       | (refine aa rfl ?_
          refine a9 [.int .i64 gn,.sl .nil 0 [],.sl .nil 0 []] rfl ?_)
       | skip
      refine a8 _ (ai _ h0l) ?_
      first
       | refine ae (v:=[.int .i64 gn,.sl .nil 0 [],.sl .nil 0 []]) rfl (of_decide_eq_true rfl) ?_
       | skip
      first
       | exact Has.intro (Has.intro ⟨.nil,.nil,rfl⟩)
       | exact Has.intro (Has.intro ⟨.nil,.nn,rfl⟩)
       | exact Has.intro (Has.intro ⟨.nn,.nil,rfl⟩)
       | exact Has.intro (Has.intro ⟨.nn,.nn,rfl⟩))
   | (rw [if_neg hR]
      refine a8 _ k0 ?_
      refine aa rfl ?_
      refine a9 ([.int .i64 0,.sl .nil 0 [],.sl .nil 0 []]) rfl ?_
      refine a8 _ (ai _ h0l) ?_
      refine ae (v:=([.int .i64 0,.sl .nil 0 [],.sl .nil 0 []])) rfl (of_decide_eq_true rfl) ?_
      exact Has.intro (Has.intro ⟨.nil,.nil,rfl⟩))
 obtain ⟨u,h1,x',y',h2⟩:=main
 exact ⟨x',y',by rw [h1,h2]⟩
end Go.Proofs.YtflfdglnelbbiaaGreat
namespace Go.Proofs.YtflfdglnelbbiaaGreat.Di
open Go Go.VM
theorem Kp.setNew {H G:Heap} (h:Kp [] H G) {V:Nat} (hV:H.length≤V) (o:HObj):Kp [] H (hset G V o):=
 ⟨by rw [br]; exact h.1,fun i hi hn=>(an _ _ (by omega)).trans (h.2 i hi hn)⟩
def vobj (D g:Nat) (e:Ext) (b:List UInt8):HObj:=.cells [.ptr D 0,.pv (.int .i64 g),.pv (.sl e b.length (bc b))]
theorem room_ok:EP (EE env) 31 []=some (.int .i64 65556):=by
 refine Has.eq (aE ?_)
 refine aj (W.size_ok 65536) ?_
 exact Has.intro (Has.intro rfl)
theorem slot_fn (n:Nat):EP (EE env) 24 [.int .i64 n]=some (.int .i64 ((n % 2:Nat):Int)):=by
 refine Has.eq (aE ?_)
 refine aF (by omega) ?_
 refine aa (by decide) ?_
 refine a9 ((n % 2:Nat):Int) (by rw [Int.tmod_eq_emod_of_nonneg (by omega)]; omega) ?_
 exact Has.intro (Has.intro rfl)
noncomputable def cnt (s:List UInt8):Nat × List UInt8:=if (W.getM s).2.2≠0 then (0,[]) else if (getS (W.getM s).2.1).2≠0 then (0,[]) else ((W.getM s).1,(W.getM s).2.1)
theorem body_len {s:List UInt8}:(W.getM s).2.1.length≤65536:=by
 unfold W.getM
 repeat' split
 all_goals first
  | exact Nat.zero_le _
  | (show (W.bodyN s).length≤65536
     unfold W.bodyN
     simp only [List.length_drop,List.length_take]
     omega)
theorem okx_cx (b:List UInt8):okx (W.cx b) b:=by
 cases b with
 | nil=>exact .inr (.inr rfl)
 | cons a b=>exact .inr (.inl rfl)
variable {H:Heap} {D:Nat} {d:Dk} {S:Nat→List UInt8}
theorem counts_ok (h:DkOK H D d S) (hn:1≤d.n∧d.n≤262144) (i:Nat) (hi:i=0∨i=1):∃ L e,EE env (.fn 33) [.ptr D 0,.pv (.int .i64 i)] H=some (.pv (.tup [.int .i64 (cnt (S i)).1,.sl e (cnt (S i)).2.length (bc (cnt (S i)).2)]),H++L)∧okx e (cnt (S i)).2:=by
 have hl:=(h.row i (by omega)).2
 have hg:=W.get_ok .nn (S i) (.inr rfl) (by omega)
 rw [hl] at hg
 have hbl:=body_len (s:=S i)
 have main:Has (EE env (.fn 33) [.ptr D 0,.pv (.int .i64 i)] H) fun y=>∃ L e,y=(.pv (.tup [.int .i64 (cnt (S i)).1,.sl e (cnt (S i)).2.length (bc (cnt (S i)).2)]),H++L)∧okx e (cnt (S i)).2:=by
  refine aK ?_
  refine au (image_ok h (by omega) i hi) ?_
  refine aj hg ?_
  have hnil:(cnt (S i))=(0,[])→∃ L e,((AV.pv (.tup [.int .i64 0,.sl .nil 0 []])),H)=(AV.pv (.tup [.int .i64 (cnt (S i)).1,.sl e (cnt (S i)).2.length (bc (cnt (S i)).2)]),H++L)∧okx e (cnt (S i)).2:=fun h=>by
   rw [h]
   exact ⟨[],.nil,by simp; rfl,.inl ⟨rfl,rfl⟩⟩
  refine aO (fun he=>?_) (fun he=>?_)
  ·exact Has.intro (hnil (by unfold cnt; rw [if_pos he]))
  have hx:W.getX (S i)=W.cx (W.getM (S i)).2.1:=by unfold W.getX; rw [if_pos he]
  rw [hx]
  obtain ⟨x1,x2,hr⟩:=get_ok' (W.cx (W.getM (S i)).2.1) (W.getM (S i)).2.1 (okx_cx _) (by omega)
  refine aj hr ?_
  refine af ?_
  refine aa rfl ?_
  refine ao ?_
  rw [aH]
  refine aO (fun hf=>?_) (fun hf=>?_)
  ·have hc:cnt (S i)=(0,[]):=by unfold cnt; rw [if_neg (fun hh=>hh he),if_pos hf]
   rw [hc]
   exact Has.intro ⟨_,.nil,rfl,.inl ⟨rfl,rfl⟩⟩
  ·have hc:cnt (S i)=((W.getM (S i)).1,(W.getM (S i)).2.1):=by unfold cnt; rw [if_neg (fun hh=>hh he),if_neg (fun hh=>hh hf)]
   rw [hc]
   exact Has.intro ⟨_,_,rfl,okx_cx _⟩
 obtain ⟨y,h1,L,e,h2,h3⟩:=main
 exact ⟨L,e,by rw [h1,h2],h3⟩
noncomputable def acc (S:Nat→List UInt8):Nat→Nat × List UInt8
 | 0=>(0,[])
 | i+1=>if (cnt (S i)).1>(acc S i).1 then cnt (S i) else acc S i
theorem open_nil (H:Heap):EE env (.fn 8) [.pv .nilp] H=some (.pv (.tup [.nilp,.int .i64 1]),H):=by
 refine Has.eq (aK ?_)
 exact Has.intro rfl
set_option maxHeartbeats 4000000 in
theorem open_ok (h:DkOK H D d S) (hn:d.n=65556) (hdn:d.down=false):Has (EE env (.fn 8) [.ptr D 0] H) fun y=>∃ V e,y.1 = .tup [.ptr V 0,.pv (.int .i64 0)]∧H.length≤V∧hget y.2 V=vobj D (acc S 2).1 e (acc S 2).2∧okx e (acc S 2).2∧Kp [] H y.2:=by
 have hn':1≤d.n∧d.n≤262144:=by omega
 refine aK (fn_has rfl ?_)
 refine aM [(0,.ptr D 0)] H (by (refine Has.intro ⟨rfl,?_,rfl⟩; (repeat (first | exact trivial | refine ⟨rfl,?_⟩)))) (fun r=>?_)
 refine aM [(0,.ptr D 0)] H ?_ (fun r=>?_)
 ·refine au (size_disk h) ?_
  refine aj room_ok ?_
  refine aF (by omega) ?_
  refine au (down_disk h) ?_
  rw [hdn]
  (refine Has.intro ⟨rfl,?_,rfl⟩; (repeat (first | exact trivial | refine ⟨rfl,?_⟩)))
 refine aM [(0,.ptr D 0),(4,.ptr H.length 0)] (H++[vobj D 0 .nil []]) (by (refine Has.intro ⟨rfl,?_,rfl⟩; (repeat (first | exact trivial | refine ⟨rfl,?_⟩)))) (fun r=>?_)
 refine aV (σ:=Heap × Ext) (fun _=>[(4,.ptr H.length 0)]) (fun s=>s.1) (fun s=>hget s.1 H.length=vobj D (acc S 2).1 s.2 (acc S 2).2∧okx s.2 (acc S 2).2∧Kp [] H s.1) ?_ (fun s hs r=>?_)
 ·refine aw ?_
  refine aC (σ:=Nat × Heap × Ext) (fun s=>2-s.1) (fun s=>[(0,.ptr D 0),(4,.ptr H.length 0),(22,.pv (.int .i64 s.1))]) (fun s=>s.2.1)
   (fun s=>s.1≤2∧hget s.2.1 H.length=vobj D (acc S s.1).1 s.2.2 (acc S s.1).2∧okx s.2.2 (acc S s.1).2∧Kp [] H s.2.1) (fun ⟨i,G,e⟩ ⟨hi,q1,q2,q3⟩ r=>?_) (0,H++[vobj D 0 .nil []],.nil) ⟨Nat.zero_le _,ak _ _,.inl ⟨rfl,rfl⟩,Kp.app _ _⟩ ⟨rfl,rfl,rfl,trivial⟩ rfl
  dsimp only at hi q1 q2 q3 ⊢
  refine ah (fun hc=>?_) (fun hc=>?_)
  ·have hi2:i=0∨i=1:=by omega
   obtain ⟨L,e',c1,c2⟩:=counts_ok (h.kp q3 fun _ _ h=>by cases h) hn' i hi2
   have hV:H.length<G.length:=ap q1 ((by intro h; cases h))
   have q1':hget (G++L) H.length=vobj D (acc S i).1 e (acc S i).2:=(aA L hV).trans q1
   have q3':Kp [] H (G++L):=q3.trans (Kp.app G L) (by simp)
   refine au c1 ?_
   refine a8 _ q1' ?_
   refine ah (fun hgt=>?_) (fun hgt=>?_)
   ·have ha:acc S (i+1)=cnt (S i):=by show (if _ then _ else _)=_; rw [if_pos (by omega)]
    refine a8 _ q1' ?_
    have q4:hget (hset (G++L) H.length (.cells [.ptr D 0,.pv (.int .i64 (cnt (S i)).1),.pv (.sl e (acc S i).2.length (bc (acc S i).2))])) H.length = .cells [.ptr D 0,.pv (.int .i64 (cnt (S i)).1),.pv (.sl e (acc S i).2.length (bc (acc S i).2))]:=ai _ (by simp; omega)
    refine a8 _ q4 ?_
    refine a9 _ (aq (by omega)) ?_
    refine Has.intro ⟨(i+1,hset (hset (G++L) H.length (.cells [.ptr D 0,.pv (.int .i64 (cnt (S i)).1),.pv (.sl e (acc S i).2.length (bc (acc S i).2))])) H.length (vobj D (acc S (i+1)).1 e' (acc S (i+1)).2),e'),⟨by dsimp only; omega,ai _ (by rw [br]; simp; omega),by rw [ha]; exact c2,(q3'.setNew (Nat.le_refl _) _).setNew (Nat.le_refl _) _⟩,(by dsimp only; omega),⟨rfl,rfl,rfl,trivial⟩,?_⟩
    dsimp only
    rw [ha]
    rfl
   ·have ha:acc S (i+1)=acc S i:=by show (if _ then _ else _)=_; rw [if_neg (by omega)]
    refine a9 _ (aq (by omega)) ?_
    refine Has.intro ⟨(i+1,G++L,e),⟨by dsimp only; omega,by dsimp only; rw [ha]; exact q1',by dsimp only; rw [ha]; exact q2,q3'⟩,(by dsimp only; omega),⟨rfl,rfl,rfl,trivial⟩,rfl⟩
  ·have:i=2:=by omega
   subst this
   refine Has.intro (Has.intro ⟨rfl,(G,e),⟨q1,q2,q3⟩,⟨rfl,trivial⟩,rfl⟩)
 obtain ⟨G,e⟩:=s
 obtain ⟨q1,q2,q3⟩:=hs
 exact Has.intro ⟨H.length,e,rfl,Nat.le_refl _,q1,q2,q3⟩
variable {V g:Nat} {e:Ext} {b:List UInt8}
theorem gen_ok (hv:hget H V=vobj D g e b):EE env (.fn 19) [.ptr V 0] H=some (.pv (.int .i64 g),H):=by
 refine Has.eq (aK ?_)
 refine a8 _ hv ?_
 exact Has.intro rfl
theorem disk_fn (hv:hget H V=vobj D g e b):EE env (.fn 25) [.ptr V 0] H=some (.ptr D 0,H):=by
 refine Has.eq (aK ?_)
 refine a8 _ hv ?_
 exact Has.intro rfl
noncomputable def stOf (g:Nat) (b:List UInt8):St:=if g=0 then s0 else (getS b).1
theorem state_ok (hv:hget H V=vobj D g e b) (he:okx e b) (hb:b.length≤1000000):∃ L x1 x2,EE env (.fn 21) [.ptr V 0] H=some (.pv (.agg (stc (stOf g b) x1 x2)),H++L):=by
 have hV:=ap hv ((by intro h; cases h))
 have main:Has (EE env (.fn 21) [.ptr V 0] H) fun y=>∃ L x1 x2,y=(.pv (.agg (stc (stOf g b) x1 x2)),H++L):=by
  refine aK ?_
  refine a8 _ ((aA _ hV).trans hv) ?_
  refine aP (fun h0=>?_) (fun h0=>?_)
  ·have h0':g=0:=by omega
   subst h0'
   refine af ?_
   refine aa rfl ?_
   refine ao ?_
   rw [aH]
   refine af ?_
   refine ae (v:=stc s0 .nil .nil) rfl (of_decide_eq_true rfl) ?_
   exact Has.intro ⟨_,.nil,.nil,rfl⟩
  ·have h0':g≠0:=by omega
   obtain ⟨x1,x2,hr⟩:=get_ok' e b he hb
   refine a8 _ ((aA _ hV).trans hv) ?_
   refine aj hr ?_
   refine af ?_
   refine aa rfl ?_
   refine ao ?_
   rw [aH]
   refine af ?_
   refine ae (v:=stc (getS b).1 x1 x2) rfl (of_decide_eq_true rfl) ?_
   have hz:hget (H++[HObj.pcells [.int .i64 0,.sl .nil 0 [],.sl .nil 0 []]]++[HObj.pcells (stc (getS b).1 x1 x2)]) H.length = .pcells [.int .i64 0,.sl .nil 0 [],.sl .nil 0 []]:=(aA _ (by simp)).trans (ak _ _)
   refine a8 _ hz ?_
   refine aa rfl ?_
   refine ao ?_
   refine a8 (.pcells (stc (getS b).1 x1 x2)) (ai _ (by simp)) ?_
   refine ae (v:=stc (getS b).1 x1 x2) rfl (of_decide_eq_true rfl) ?_
   refine Has.intro ?_
   have e1:hset (H++[HObj.pcells [.int .i64 0,.sl .nil 0 [],.sl .nil 0 []]]++[HObj.pcells (stc (getS b).1 x1 x2)]) H.length (.pcells (stc (getS b).1 x1 x2))=H++[.pcells (stc (getS b).1 x1 x2),.pcells (stc (getS b).1 x1 x2)]:=by
    have:∀ (L:Heap) (a o o':HObj),hset ((L++[a])++[o]) L.length o'=L++[o',o]:=by
     intro L a o o'
     induction L with
     | nil=>rfl
     | cons x L ih=>show x::hset ((L++[a])++[o]) L.length o'=_; rw [ih]; rfl
    exact this _ _ _ _
   refine ⟨[.pcells (stc (getS b).1 x1 x2),.pcells (stc (getS b).1 x1 x2)],x1,x2,?_⟩
   rw [←e1]
   unfold stOf
   rw [if_neg h0']
   rfl
 obtain ⟨y,h1,L,x1,x2,h2⟩:=main
 exact ⟨L,x1,x2,by rw [h1,h2]⟩
end Go.Proofs.YtflfdglnelbbiaaGreat.Di
namespace Go.Proofs.YtflfdglnelbbiaaGreat.Di
open Go Go.VM
def saves (s:St):Prop:=rightP s∧1≤(putB s).length∧(putB s).length≤65536
theorem put_any (s:St) (x y:Ext) (hs:smallS s) (h4:rightP s→s.hs.length≤400):∃ w e,EP (EE env) 38 [.agg (stc s x y)]=some (.sl e w.length (bc w))∧okx e w∧((rightP s∧w=putB s)∨(¬ rightP s∧w=[])):=by
 by_cases hr:rightP s
 ·obtain ⟨e,h1,h2⟩:=put_ok' s x y hs hr (h4 hr)
  exact ⟨putB s,e,h1,h2,.inl ⟨hr,rfl⟩⟩
 ·exact ⟨[],.nil,put_no s x y hs hr,.inl ⟨rfl,rfl⟩,.inr ⟨hr,rfl⟩⟩
theorem v_out {H:Heap} {D:Nat} {d:Dk} {S:Nat→List UInt8} (h:DkOK H D d S) {V g:Nat} {e:Ext} {b:List UInt8} (hv:hget H V=vobj D g e b):V∉dids D d:=by
 intro hi
 unfold dids at hi
 simp only [List.mem_cons] at hi
 rcases hi with rfl | rfl | rfl | hi
 ·rw [h.obj] at hv; cases hv
 ·rw [(h.row 0 (by decide)).1] at hv; cases hv
 ·rw [(h.row 1 (by decide)).1] at hv; cases hv
 ·obtain ⟨ws,h1⟩:=h.app
  rcases h1 with ⟨_,_,h1,_⟩ | ⟨_,_,t,h1,h2⟩
  ·rw [h1] at hi; simp [tokOf] at hi
  ·rw [h1] at hi; simp [tokOf] at hi; subst hi
   rw [h2] at hv; cases hv
set_option maxHeartbeats 4000000 in
theorem save_gen {H:Heap} {D:Nat} {d:Dk} {S:Nat→List UInt8} (h:DkOK H D d S) (hn:d.n=65556) (hdn:d.down=false) (hk:d.k≤100000) {V g:Nat} {e:Ext} {b:List UInt8} (hv:hget H V=vobj D g e b) (hg:g<1152921504606846976)
 (s:St) (x y:Ext) (hs:smallS s) (h4:rightP s→s.hs.length≤400) (m:Nat) (dn:Bool) (hm:saves s→(0≤d.left∧d.left≤(W.frame (g+1) (putB s)).length∧(m:Int)=d.left∧dn=true)∨((d.left<0∨((W.frame (g+1) (putB s)).length:Int)<d.left)∧m=(W.frame (g+1) (putB s)).length∧dn=false)) :
 Has (EE env (.fn 18) [.ptr V 0,.pv (.agg (stc s x y))] H) fun z=>
  (¬ saves s∧z.1 = .pv (.int .i64 2)∧Kp [] H z.2) ∨
  (saves s∧z.1 = .pv (.int .i64 (bif dn then 26 else 0)) ∧ ∃ left wr Wv,DkOK z.2 D ⟨d.a,d.n,left,dn,wr,Wv,d.k+1⟩ (upS S ((g+1) % 2) ((W.frame (g+1) (putB s)).take m++(S ((g+1) % 2)).drop m)) ∧
    Kp (V::dids D d) H z.2∧left=(if 0<d.left then IntKind.i64.wrap (d.left-m) else d.left)∧(∃ t,tokOf Wv=some t∧(tokOf d.W=some t∨H.length≤t)) ∧
    ∃ e',okx e' (putB s)∧hget z.2 V=bif dn then vobj D g e b else vobj D (g+1) e' (putB s)):=by
 obtain ⟨w,ew,hput,hox,hw⟩:=put_any s x y hs h4
 have hV:=ap hv ((by intro h; cases h))
 refine aK (fn_has rfl ?_)
 refine aM [(0,.ptr V 0),(3,.ptr H.length 0)] (H++[.pcells (stc s x y)]) (by (refine Has.intro ⟨rfl,?_,rfl⟩; (repeat (first | exact trivial | refine ⟨rfl,?_⟩)))) (fun r=>?_)
 have h1:DkOK (H++[.pcells (stc s x y)]) D d S:=h.more _
 have hv1:hget (H++[.pcells (stc s x y)]) V=vobj D g e b:=(aA _ hV).trans hv
 have kp1:Kp [] H (H++[.pcells (stc s x y)]):=Kp.app _ _
 obtain ⟨H1,hH1⟩:∃ H1,H1=H++[.pcells (stc s x y)]:=⟨_,rfl⟩
 have hst:hget H1 H.length = .pcells (stc s x y):=by rw [hH1]; exact ak _ _
 rw [←hH1] at h1 hv1 kp1 ⊢
 refine aM [(0,.ptr V 0),(3,.ptr H.length 0)] H1 (by (refine Has.intro ⟨rfl,?_,rfl⟩; (repeat (first | exact trivial | refine ⟨rfl,?_⟩)))) (fun r=>?_)
 refine aM [(0,.ptr V 0),(5,.pv (.sl ew w.length (bc w)))] H1 ?_ (fun r=>?_)
 ·refine a8 _ hst ?_
  refine ae (v:=stc s x y) rfl (of_decide_eq_true rfl) ?_
  refine aj hput ?_
  (refine Has.intro ⟨rfl,?_,rfl⟩; (repeat (first | exact trivial | refine ⟨rfl,?_⟩)))
 refine seq_if [(4,.pv (.int .i64 2))] (¬ saves s) [(0,.ptr V 0),(5,.pv (.sl ew w.length (bc w)))] (saves s∧w=putB s) H1 ?_ (fun hp r=>?_) (fun hp r=>?_)
 ·refine aP (fun h0=>?_) (fun h0=>?_)
  ·refine Has.intro (.inl ⟨rfl,⟨rfl,trivial⟩,rfl,fun hh=>?_⟩)
   rcases hw with ⟨_,q⟩ | ⟨q,_⟩
   ·subst q; have:=hh.2.1; omega
   ·exact q hh.1
  refine ah (fun h0'=>?_) (fun h0'=>?_)
  ·refine Has.intro (.inl ⟨rfl,⟨rfl,trivial⟩,rfl,fun hh=>?_⟩)
   rcases hw with ⟨_,q⟩ | ⟨q,_⟩
   ·subst q; have:=hh.2.2; omega
   ·exact q hh.1
  refine a8 _ hv1 ?_
  refine aF (by omega) ?_
  rcases hw with ⟨q0,q⟩ | ⟨_,q⟩
  ·subst q
   exact Has.intro (.inr ⟨rfl,⟨rfl,rfl,trivial⟩,rfl,⟨q0,by omega,by omega⟩,rfl⟩)
  ·subst q; exact absurd rfl h0
 ·exact Has.intro (.inl ⟨hp,rfl,kp1⟩)
 obtain ⟨hsv,rfl⟩:=hp
 have hfl:=W.frame_len (g+1) (putB s)
 have hfb:W.putB ((g+1:Nat):Int) (putB s)=W.frame (g+1) (putB s):=by
  unfold W.putB
  rw [if_pos ⟨⟨by omega,by omega⟩,hsv.2.2⟩,Int.toNat_natCast]
 have hfe:W.putE ((g+1:Nat):Int) (putB s) = .nn:=by
  unfold W.putE
  rw [if_pos ⟨⟨by omega,by omega⟩,hsv.2.2⟩]
 have hpf:=W.put_ok ((g+1:Nat):Int) ⟨by omega,by omega⟩ ew (putB s) (by have:=hsv.2.2; omega)
 rw [hfb,hfe] at hpf
 have hwr:=write_gen h1 (by omega) ((g+1) % 2) (by omega) hdn .nn (W.frame (g+1) (putB s)) (.inr (.inl rfl)) (by rw [hfl,hn]; have:=hsv.2.2; omega) hk m dn (hm hsv)
 have hin:V∉dids D d:=v_out h1 hv1
 refine seq_join (fun e r G=>((dn=true∧e = .ret∧Agr r [(4,.pv (.int .i64 26))])∨(dn=false∧e = .normal∧Agr r [(0,.ptr V 0),(5,.pv (.sl ew (putB s).length (bc (putB s))))])) ∧
  ∃ left wr Wv,DkOK G D ⟨d.a,d.n,left,dn,wr,Wv,d.k+1⟩ (upS S ((g+1) % 2) ((W.frame (g+1) (putB s)).take m++(S ((g+1) % 2)).drop m))∧Kp (dids D d) H1 G∧left=(if 0<d.left then IntKind.i64.wrap (d.left-m) else d.left) ∧ ∃ t,tokOf Wv=some t∧(tokOf d.W=some t∨H1.length≤t)) ?_ (fun ex r G hJ=>?_)
 ·refine a8 _ hv1 ?_
  refine a8 _ hv1 ?_
  refine a9 ((g+1:Nat):Int) (aq (by omega)) ?_
  refine aj (slot_fn (g+1)) ?_
  refine a8 _ hv1 ?_
  refine a9 ((g+1:Nat):Int) (aq (by omega)) ?_
  refine aj hpf ?_
  refine am (hwr.mono fun z hz=>?_)
  obtain ⟨z1,z2⟩:=z
  obtain ⟨hz1,hz2⟩:=hz
  dsimp only at hz1 hz2 ⊢
  rw [hz1]
  cases dn with
  | true=>
    refine boolK_bne_t (by decide) ?_
    exact Has.intro ⟨.inl ⟨rfl,rfl,⟨rfl,trivial⟩⟩,hz2⟩
  | false=>
    refine bg rfl ?_
    exact Has.intro ⟨.inr ⟨rfl,rfl,⟨rfl,rfl,trivial⟩⟩,hz2⟩
 obtain ⟨hcs,left,wr,Wv,q1,q2,q3,t,q4,q5⟩:=hJ
 have hvG:hget G V=vobj D g e b:=q2.get hv1 ((by intro h; cases h)) hin
 have hl1:H.length≤H1.length:=kp1.1
 have q5':tokOf d.W=some t∨H.length≤t:=q5.imp id (fun h=>Nat.le_trans hl1 h)
 have kpG:Kp (V::dids D d) H G:=(kp1.more (by simp)).trans q2 (fun i hi=>.inl (List.mem_cons_of_mem _ hi))
 rcases hcs with ⟨rfl,rfl,hA⟩ | ⟨rfl,rfl,hA⟩
 ·rw [←hA.eq]
  exact Has.intro (.inr ⟨hsv,rfl,left,wr,Wv,q1,kpG,q3,⟨t,q4,q5'⟩,ew,hox,hvG⟩)
 ·rw [←hA.eq]
  have hVG:V<G.length:=ap hvG ((by intro h; cases h))
  refine a8 _ hvG ?_
  refine a9 ((g+1:Nat):Int) (aq (by omega)) ?_
  refine a8 _ hvG ?_
  refine a8 (vobj D (g+1) e b) (ai _ hVG) ?_
  refine Has.intro (.inr ⟨hsv,rfl,left,wr,Wv,?_,?_,q3,⟨t,q4,q5'⟩,ew,hox,?_⟩)
  ·refine q1.kp ((Kp.set G V _).trans (Kp.set _ V _) (fun i hi=>.inl hi)) (fun i hi hm=>?_)
   simp at hm; subst hm
   exact v_out q1 hvG hi
  ·exact (kpG.trans (Kp.set G V _) (by simp)).trans (Kp.set _ V _) (by simp)
  ·exact ai _ (by rw [br]; exact hVG)
theorem save_ok {H:Heap} {D:Nat} {d:Dk} {S:Nat→List UInt8} (h:DkOK H D d S) (hn:d.n=65556) (hdn:d.down=false) (hk:d.k≤100000) {V g:Nat} {e:Ext} {b:List UInt8} (hv:hget H V=vobj D g e b) (hg:g≤100000)
 (s:St) (x y:Ext) (hs:smallS s) (h4:rightP s→s.hs.length≤400) (dn:Bool) (hm:(d.left = -1∧dn=false)∨(d.left=3∧dn=true)) :
 Has (EE env (.fn 18) [.ptr V 0,.pv (.agg (stc s x y))] H) fun z=>
  (¬ saves s∧z.1 = .pv (.int .i64 2)∧Kp [] H z.2) ∨
  (saves s∧z.1 = .pv (.int .i64 (bif dn then 26 else 0)) ∧ ∃ left wr Wv,DkOK z.2 D ⟨d.a,d.n,left,dn,wr,Wv,d.k+1⟩ (upS S ((g+1) % 2) ((W.frame (g+1) (putB s)).take (bif dn then 3 else (W.frame (g+1) (putB s)).length)++(S ((g+1) % 2)).drop (bif dn then 3 else (W.frame (g+1) (putB s)).length))) ∧
    Kp (V::dids D d) H z.2∧(dn=false→left = -1)∧(∃ t,tokOf Wv=some t∧(tokOf d.W=some t∨H.length≤t)) ∧
    ∃ e',okx e' (putB s)∧hget z.2 V=bif dn then vobj D g e b else vobj D (g+1) e' (putB s)):=by
 refine (save_gen h hn hdn hk hv (by omega) s x y hs h4 (bif dn then 3 else (W.frame (g+1) (putB s)).length) dn (fun hsv=>?_)).mono fun z hz=>?_
 ·have:=W.frame_len (g+1) (putB s)
  rcases hm with ⟨e1,e2⟩ | ⟨e1,e2⟩
  ·subst e2; exact .inr ⟨by omega,rfl,rfl⟩
  ·subst e2; exact .inl ⟨by omega,by omega,by rw [e1]; rfl,rfl⟩
 ·rcases hz with hz | ⟨q1,q2,left,wr,Wv,q3,q4,q5,q6⟩
  ·exact .inl hz
  ·refine .inr ⟨q1,q2,left,wr,Wv,q3,q4,fun e=>?_,q6⟩
   rcases hm with ⟨e1,_⟩ | ⟨_,e2⟩
   ·rw [q5,e1]; rfl
   ·rw [e] at e2; cases e2
end Go.Proofs.YtflfdglnelbbiaaGreat.Di
namespace Go.Proofs.YtflfdglnelbbiaaGreat.Di
open Go Go.VM
theorem new_room (H:Heap):∃ H' Z a,Z.length=65556∧Z.take 4=[0,0,0,0]∧EE env (.fn 7) [.pv (.int .i64 65556)] H=some (.tup [.ptr (H.length+2) 0,.pv (.int .i64 0)],H')∧DkOK H' (H.length+2) ⟨a,65556,-1,false,0,.pv (.sl .nil 0 []),0⟩ (fun _=>Z)∧Kp [] H H':=by
 have key:∀ n:Nat,n=65556→∃ H' Z a,Z.length=n∧Z.take 4=[0,0,0,0]∧EE env (.fn 7) [.pv (.int .i64 n)] H=some (.tup [.ptr (H.length+2) 0,.pv (.int .i64 0)],H')∧DkOK H' (H.length+2) ⟨a,n,-1,false,0,.pv (.sl .nil 0 []),0⟩ (fun _=>Z)∧Kp [] H H':=by
  intro n hn
  obtain ⟨H',h1,h2,h3⟩:=new_disk n (by omega) (by omega) H
  refine ⟨H',_,_,by simp,?_,h1,h2,h3⟩
  rw [List.take_replicate,show min 4 n=4 by omega]
  rfl
 exact key 65556 rfl
theorem cnt_no {s:List UInt8} (h:4≤s.length) (hm:s.take 4≠W.magic):cnt s=(0,[]):=by
 have:W.getM s=(0,[],11):=by
  unfold W.getM
  rw [if_neg (by omega),if_pos hm]
 unfold cnt
 rw [this,if_pos (by decide)]
theorem cnt_frame {s:St} (hs:saves s) (h8:∀ h∈s.hs,h.sp.length=8) {g:Nat} (h1:1≤g) (h2:g≤1152921504606846976) (rest:List UInt8):cnt (W.frame g (putB s)++rest)=(g,putB s):=by
 unfold cnt
 rw [W.frame_get h1 h2 hs.2.2 rest]
 dsimp only
 rw [if_neg (fun h=>h rfl),get_put hs.1 h8,if_neg (fun h=>h rfl)]
theorem st_frame {s:St} (hs:saves s) (h8:∀ h∈s.hs,h.sp.length=8) {g:Nat} (h1:1≤g):stOf g (putB s)=normS s:=by
 unfold stOf
 rw [if_neg (by omega),get_put hs.1 h8]
theorem acc_no {S:Nat→List UInt8} (h0:cnt (S 0)=(0,[])) (h1:cnt (S 1)=(0,[])):acc S 2=(0,[]):=by
 simp [acc,h0,h1]
theorem acc_1 {S:Nat→List UInt8} {g:Nat} {b:List UInt8} (hg:1≤g) (h0:cnt (S 0)=(0,[])) (h1:cnt (S 1)=(g,b)):acc S 2=(g,b):=by
 simp [acc,h0,h1]; omega
def sN (n:Int):St:=⟨n,[],[]⟩
theorem small_N (n:Int):smallS (sN n):=⟨Nat.zero_le _,Nat.zero_le _,fun e h=>(by cases h),fun e h=>(by cases h)⟩
theorem right_N {n:Int} (h:0≤n∧n≤1099511627776):rightP (sN n):=⟨h,by show 0≤16; decide,fun i e h=>(by simp [sN] at h),fun i e h=>(by simp [sN] at h)⟩
theorem enc_small {u:Nat} (h:u<128):T.enc u=[UInt8.ofNat u]:=by unfold T.enc; rw [if_pos h]
theorem len_N {n:Int} (h:n.toNat<128):(putB (sN n)).length=3:=by
 have e:putB (sN n)=T.enc n.toNat++T.enc 0++[]++T.enc 0++[]:=rfl
 rw [e,enc_small h,enc_small (by decide)]
 rfl
theorem saves_N {n:Int} (h0:0≤n∧n≤1099511627776) (h:n.toNat<128):saves (sN n):=⟨right_N h0,by rw [len_N h]; decide,by rw [len_N h]; decide⟩
theorem saves_7:saves (sN 7):=saves_N (by decide) (by decide)
theorem saves_8:saves (sN 8):=saves_N (by decide) (by decide)
theorem torn_no {g:Nat} {b Z:List UInt8} (hZ:Z.take 4=[0,0,0,0]):((W.frame g b).take 3++Z.drop 3).take 4≠W.magic:=by
 have e1:(W.frame g b).take 3=W.magic.take 3:=by
  unfold W.frame W.head
  rw [List.append_assoc,List.take_append_of_le_length (by decide)]
 have e2:(Z.drop 3).take 1=[0]:=by
  have:(Z.drop 3).take 1=(Z.take 4).drop 3:=by rw [List.drop_take]
  rw [this,hZ]; rfl
 rw [e1,List.take_append,show (W.magic.take 3).length=3 by decide,show 4-3=1 by decide,e2]
 decide
end Go.Proofs.YtflfdglnelbbiaaGreat.Di
namespace Go.Proofs.YtflfdglnelbbiaaGreat.Di
open Go Go.VM
set_option maxHeartbeats 4000000 in
theorem first_ok:EP (EE env) 5 []=some (.bool true):=by
 obtain ⟨H1,Z,a,hZ,hZ4,hnew,d1,_⟩:=new_room []
 refine Has.eq (aE (fn_has rfl ?_))
 refine aM [] [] (by (refine Has.intro ⟨rfl,?_,rfl⟩; (repeat (first | exact trivial | refine ⟨rfl,?_⟩)))) (fun r=>?_)
 refine aM [(1,.ptr 2 0)] H1 ?_ (fun r=>?_)
 ·refine aj room_ok ?_
  refine au hnew ?_
  (refine Has.intro ⟨rfl,?_,rfl⟩; (repeat (first | exact trivial | refine ⟨rfl,?_⟩)))
 have cz:cnt Z=(0,[]):=cnt_no (by omega) (by rw [hZ4]; decide)
 have az:acc (fun _=>Z) 2=(0,[]):=acc_no cz cz
 refine aV (σ:=Heap × Nat × Ext) (fun s=>[(1,.ptr 2 0),(3,.ptr s.2.1 0),(4,.pv (.int .i64 0))]) (fun s=>s.1) (fun s=>DkOK s.1 2 ⟨a,65556,-1,false,0,.pv (.sl .nil 0 []),0⟩ (fun _=>Z)∧hget s.1 s.2.1=vobj 2 0 s.2.2 []) ?_ (fun s hs r=>?_)
 ·refine am ((open_ok d1 rfl rfl).mono fun y hy=>?_)
  obtain ⟨v,G⟩:=y
  obtain ⟨V,e,q1,q2,q3,q4,q5⟩:=hy
  dsimp only at q1 q3 q5
  subst q1
  rw [az] at q3
  exact Has.intro ⟨rfl,(G,V,e),⟨d1.kp q5 (fun _ _ h=>by cases h),q3⟩,⟨rfl,rfl,rfl,trivial⟩,rfl⟩
 obtain ⟨H2,V,e⟩:=s
 obtain ⟨d2,v2⟩:=hs
 dsimp only at d2 v2 ⊢
 refine aM [(1,.ptr 2 0),(3,.ptr V 0),(4,.pv (.int .i64 0)),(6,.pv (.int .i64 1))] H2 ?_ (fun r=>?_)
 ·refine au (open_nil H2) ?_
  (refine Has.intro ⟨rfl,?_,rfl⟩; (repeat (first | exact trivial | refine ⟨rfl,?_⟩)))
 obtain ⟨S1,hS1⟩:∃ S1,S1=upS (fun _=>Z) 1 ((W.frame 1 (putB (sN 7))).take (W.frame 1 (putB (sN 7))).length++Z.drop (W.frame 1 (putB (sN 7))).length):=⟨_,rfl⟩
 refine aV (σ:=Heap × Int × AV × Ext) (fun s=>[(1,.ptr 2 0),(3,.ptr V 0),(4,.pv (.int .i64 0)),(6,.pv (.int .i64 1)),(7,.pv (.int .i64 0))]) (fun s=>s.1) (fun s=>DkOK s.1 2 ⟨a,65556,-1,false,s.2.1,s.2.2.1,1⟩ S1∧hget s.1 V=vobj 2 1 s.2.2.2 (putB (sN 7))∧okx s.2.2.2 (putB (sN 7))) ?_ (fun s hs r=>?_)
 ·refine am ((save_ok d2 rfl rfl (by show 0≤100000; decide) v2 (by decide) (sN 7) .nil .nil (small_N 7) (fun _=>by show 0≤400; decide) false (.inl ⟨rfl,rfl⟩)).mono fun z hz=>?_)
  obtain ⟨z1,G⟩:=z
  rcases hz with ⟨hn,_⟩ | ⟨_,h1,left,wr,Wv,q1,q2,q3,q4,e',q5,q6⟩
  ·exact absurd saves_7 hn
  dsimp only at h1 q1 q6 ⊢
  rw [q3 rfl] at q1
  subst h1
  rw [hS1]
  exact Has.intro ⟨rfl,(G,wr,Wv,e'),⟨q1,q6,q5⟩,⟨rfl,rfl,rfl,rfl,rfl,trivial⟩,rfl⟩
 obtain ⟨H3,wr,Wv,e3⟩:=s
 obtain ⟨d3,v3,x3⟩:=hs
 dsimp only at d3 v3 x3 ⊢
 refine aM [(1,.ptr 2 0),(3,.ptr V 0),(4,.pv (.int .i64 0)),(6,.pv (.int .i64 1)),(7,.pv (.int .i64 0))] (hset H3 2 (dobj ⟨a,65556,3,false,wr,Wv,1⟩)) ?_ (fun r=>?_)
 ·refine au (arm_ok d3) ?_
  (refine Has.intro ⟨rfl,?_,rfl⟩; (repeat (first | exact trivial | refine ⟨rfl,?_⟩)))
 have d4:=d3.upd 3 false wr
 have hV2:V≠2:=fun hh=>v_out d3 v3 (by simp [dids,hh])
 have v4:hget (hset H3 2 (dobj ⟨a,65556,3,false,wr,Wv,1⟩)) V=vobj 2 1 e3 (putB (sN 7)):=(an _ _ hV2).trans v3
 obtain ⟨H4,hH4⟩:∃ H4,H4=hset H3 2 (dobj ⟨a,65556,3,false,wr,Wv,1⟩):=⟨_,rfl⟩
 dsimp only at d4
 rw [←hH4] at d4 v4 ⊢
 obtain ⟨S2,hS2⟩:∃ S2,S2=upS S1 0 ((W.frame 2 (putB (sN 8))).take 3++(S1 0).drop 3):=⟨_,rfl⟩
 refine aV (σ:=Heap × Int × Int × AV) (fun s=>[(1,.ptr 2 0),(3,.ptr V 0),(4,.pv (.int .i64 0)),(6,.pv (.int .i64 1)),(7,.pv (.int .i64 0)),(8,.pv (.int .i64 26))]) (fun s=>s.1) (fun s=>DkOK s.1 2 ⟨a,65556,s.2.1,true,s.2.2.1,s.2.2.2,2⟩ S2∧hget s.1 V=vobj 2 1 e3 (putB (sN 7))) ?_ (fun s hs r=>?_)
 ·refine am ((save_ok d4 rfl rfl (by show 1≤100000; decide) v4 (by decide) (sN 8) .nil .nil (small_N 8) (fun _=>by show 0≤400; decide) true (.inr ⟨rfl,rfl⟩)).mono fun z hz=>?_)
  obtain ⟨z1,G⟩:=z
  rcases hz with ⟨hn,_⟩ | ⟨_,h1,left,wr',Wv',q1,q2,q3,q4,e',q5,q6⟩
  ·exact absurd saves_8 hn
  dsimp only at h1 q1 q6 ⊢
  subst h1
  rw [hS2]
  exact Has.intro ⟨rfl,(G,left,wr',Wv'),⟨q1,q6⟩,⟨rfl,rfl,rfl,rfl,rfl,rfl,trivial⟩,rfl⟩
 obtain ⟨H5,left,wr5,Wv5⟩:=s
 obtain ⟨d5,v5⟩:=hs
 dsimp only at d5 v5 ⊢
 have hV5:V≠2:=fun hh=>v_out d5 v5 (by simp [dids,hh])
 have d6:=(d5.upd left false wr5).upd (-1) false wr5
 obtain ⟨H6,hH6⟩:∃ H6,H6=hset (hset H5 2 (dobj ⟨a,65556,left,false,wr5,Wv5,2⟩)) 2 (dobj ⟨a,65556,-1,false,wr5,Wv5,2⟩):=⟨_,rfl⟩
 have v6:hget H6 V=vobj 2 1 e3 (putB (sN 7)):=by rw [hH6]; exact (an _ _ hV5).trans ((an _ _ hV5).trans v5)
 dsimp only at d6
 rw [←hH6] at d6
 refine aM [(1,.ptr 2 0),(3,.ptr V 0),(4,.pv (.int .i64 0)),(6,.pv (.int .i64 1)),(7,.pv (.int .i64 0)),(8,.pv (.int .i64 26))] H6 ?_ (fun r=>?_)
 ·refine au (up_ok d5) ?_
  rw [hH6]
  (refine Has.intro ⟨rfl,?_,rfl⟩; (repeat (first | exact trivial | refine ⟨rfl,?_⟩)))
 have hrow:(S1 0).take 4=[0,0,0,0]:=by rw [hS1]; exact hZ4
 have c0:cnt (S2 0)=(0,[]):=by
  refine cnt_no (by have:=(d6.row 0 (by decide)).2; dsimp only at this; omega) ?_
  rw [hS2]
  exact torn_no hrow
 have c1:cnt (S2 1)=(1,putB (sN 7)):=by
  have e1:S2 1=S1 1:=by rw [hS2]; rfl
  rw [e1,hS1]
  show cnt ((W.frame 1 (putB (sN 7))).take (W.frame 1 (putB (sN 7))).length++Z.drop (W.frame 1 (putB (sN 7))).length)=_
  rw [List.take_length]
  exact cnt_frame saves_7 (fun h hh=>by cases hh) (by decide) (by decide) _
 have a6:=acc_1 (by decide) c0 c1
 refine aV (σ:=Heap × Nat × Ext) (fun s=>[(1,.ptr 2 0),(3,.ptr V 0),(4,.pv (.int .i64 0)),(6,.pv (.int .i64 1)),(7,.pv (.int .i64 0)),(8,.pv (.int .i64 26)),(9,.ptr s.2.1 0),(10,.pv (.int .i64 0))]) (fun s=>s.1) (fun s=>hget s.1 V=vobj 2 1 e3 (putB (sN 7))∧hget s.1 s.2.1=vobj 2 1 s.2.2 (putB (sN 7))∧okx s.2.2 (putB (sN 7))) ?_ (fun s hs r=>?_)
 ·refine am ((open_ok d6 rfl rfl).mono fun y hy=>?_)
  obtain ⟨v,G⟩:=y
  obtain ⟨V',e',q1,q2,q3,q4,q5⟩:=hy
  dsimp only at q1 q3 q5
  subst q1
  rw [a6] at q3 q4
  exact Has.intro ⟨rfl,(G,V',e'),⟨q5.get v6 ((by intro h; cases h)) (by simp),q3,q4⟩,⟨rfl,rfl,rfl,rfl,rfl,rfl,rfl,rfl,trivial⟩,rfl⟩
 obtain ⟨H7,V',e7⟩:=s
 obtain ⟨v7,w7,x7⟩:=hs
 dsimp only at v7 w7 x7 ⊢
 have hlen:(putB (sN 7)).length≤1000000:=by rw [len_N (by decide)]; decide
 obtain ⟨L,y1,y2,hst⟩:=state_ok w7 x7 hlen
 have hs7:(stOf 1 (putB (sN 7))).next=7:=by rw [st_frame saves_7 (fun h hh=>by cases hh) (by decide)]; rfl
 have w8:hget (H7++L) V'=vobj 2 1 e7 (putB (sN 7)):=(aA _ (ap w7 ((by intro h; cases h)))).trans w7
 refine aT rfl ?_
 refine aT rfl ?_
 refine aT rfl ?_
 refine aT rfl ?_
 refine au (gen_ok v7) ?_
 refine aT rfl ?_
 refine aT rfl ?_
 refine au (gen_ok w7) ?_
 refine aT rfl ?_
 refine au hst ?_
 refine ab (v:=.int .i64 (stOf 1 (putB (sN 7))).next) rfl ?_
 refine aT hs7 ?_
 refine aj (slot_fn 3) ?_
 refine aT rfl ?_
 refine aj room_ok ?_
 refine aT rfl ?_
 refine au (disk_fn w8) ?_
 exact Has.intro (Has.intro rfl)
end Go.Proofs.YtflfdglnelbbiaaGreat.Di
namespace Go.Proofs.YtflfdglnelbbiaaGreat.Di
open Go Go.VM
abbrev TV:Ty:=.st [(1,.int .i64),(1,.int .i64),(1,.int .i64)]
abbrev TCt:Ty:=.st [(1,.str),(3,TV),(3,TV),(3,.arr 3 1 .bool)]
abbrev TPd:Ty:=.st [(1,.str),(1,.int .i64),(1,.int .i64),(1,.sl 10 TCt)]
abbrev TEn:Ty:=.st [(4,TPd),(4,TPd),(1,.int .i64),(1,.int .i64)]
abbrev TOw:Ty:=.st [(1,.str),(1,.str),(1,.int .i64)]
abbrev THo:Ty:=.st [(3,TOw),(8,.arr 8 1 (.int .i64))]
abbrev TSt:Ty:=.st [(1,.int .i64),(1,.sl 10 TEn),(1,.sl 11 THo)]
theorem dec_str (s:ByteArray):∃ l:List UInt8,PV.str s=sv l∧l.length=s.size:=⟨s.data.toList,rfl,rfl⟩
theorem dec_v {cs:List PV} (h:HasTy TV cs):∃ v,cs=vc v:=by
 obtain ⟨_,_,rfl,_,⟨a,rfl,_⟩,_,_,rfl,_,⟨b,rfl,_⟩,_,_,rfl,_,⟨c,rfl,_⟩,rfl⟩:=h
 exact ⟨⟨a,b,c⟩,rfl⟩
theorem dec_ct {cs:List PV} (h:HasTy TCt cs):∃ c,cs=ct c∧c.name.length≤maxLen:=by
 obtain ⟨_,_,rfl,_,⟨s,rfl,hs⟩,_,_,rfl,_,hv,_,_,rfl,_,hw,_,_,rfl,_,⟨_,_,rfl,_,⟨a,rfl⟩,_,_,rfl,_,⟨b,rfl⟩,_,_,rfl,_,⟨c,rfl⟩,rfl⟩,rfl⟩:=h
 obtain ⟨v,rfl⟩:=dec_v hv
 obtain ⟨w,rfl⟩:=dec_v hw
 obtain ⟨l,h1,h2⟩:=dec_str s
 rw [h1]
 exact ⟨⟨l,v,w,a,b,c⟩,rfl,by show l.length≤_; omega⟩
theorem els_dec {α:Type} {f:α→List PV} {P:α→Prop} {T:Ty} {es:Nat} (hd:∀ cs,HasTy T cs→∃ a,cs=f a∧P a):∀ (n:Nat) (cs:List PV),Els (HasTy T) es n cs→∃ l:List α,l.length=n∧cs=flat f l ∧ ∀ a∈l,P a:=by
 intro n
 induction n with
 | zero=>intro cs h; exact ⟨[],rfl,h,fun a ha=>by cases ha⟩
 | succ n ih=>
   intro cs h
   obtain ⟨x,y,rfl,_,h1,h2⟩:=h
   obtain ⟨a,rfl,ha⟩:=hd _ h1
   obtain ⟨l,rfl,rfl,hl⟩:=ih _ h2
   refine ⟨a::l,rfl,by simp [flat],fun b hb=>?_⟩
   rcases List.mem_cons.1 hb with rfl | hb
   ·exact ha
   ·exact hl b hb
theorem dec_pd {cs:List PV} (h:HasTy TPd cs):∃ q x,cs=pdc q x∧small q:=by
 obtain ⟨_,_,rfl,_,⟨s,rfl,hs⟩,_,_,rfl,_,⟨a,rfl,_⟩,_,_,rfl,_,⟨b,rfl,_⟩,_,_,rfl,_,⟨x,n,cells,rfl,_,hn,he⟩,rfl⟩:=h
 obtain ⟨l,h1,h2⟩:=dec_str s
 obtain ⟨cs,rfl,rfl,hc⟩:=els_dec (fun _ h=>dec_ct h) n cells he
 rw [h1]
 exact ⟨⟨l,a,b,cs⟩,x,rfl,by show l.length≤_; omega,hn,hc⟩
theorem dec_en {cs:List PV} (h:HasTy TEn cs):∃ e,cs=en e∧smallE e:=by
 obtain ⟨_,_,rfl,_,hp,_,_,rfl,_,hq,_,_,rfl,_,⟨a,rfl,_⟩,_,_,rfl,_,⟨b,rfl,_⟩,rfl⟩:=h
 obtain ⟨p,x,rfl,h1⟩:=dec_pd hp
 obtain ⟨q,y,rfl,h2⟩:=dec_pd hq
 exact ⟨⟨p,q,x,y,a,b⟩,rfl,h1,h2⟩
theorem dec_ho {cs:List PV} (h:HasTy THo cs):∃ e,cs=hoc e∧e.sp.length=8:=by
 obtain ⟨_,_,rfl,_,⟨_,_,rfl,_,⟨s,rfl,_⟩,_,_,rfl,_,⟨t,rfl,_⟩,_,_,rfl,_,⟨k,rfl,_⟩,rfl⟩,_,_,rfl,_,
  ⟨_,_,rfl,_,⟨a0,rfl,_⟩,_,_,rfl,_,⟨a1,rfl,_⟩,_,_,rfl,_,⟨a2,rfl,_⟩,_,_,rfl,_,⟨a3,rfl,_⟩,_,_,rfl,_,⟨a4,rfl,_⟩,_,_,rfl,_,⟨a5,rfl,_⟩,_,_,rfl,_,⟨a6,rfl,_⟩,_,_,rfl,_,⟨a7,rfl,_⟩,rfl⟩,rfl⟩:=h
 obtain ⟨l,h1,h2⟩:=dec_str s
 obtain ⟨m,h3,h4⟩:=dec_str t
 rw [h1,h3]
 exact ⟨⟨⟨l,m,k⟩,[a0,a1,a2,a3,a4,a5,a6,a7]⟩,rfl,rfl⟩
structure StX where
 s:St
 x:Ext
 y:Ext
def stcx (z:StX):List PV:=stc z.s z.x z.y
theorem dec_st {cs:List PV} (h:HasTy TSt cs):∃ z,cs=stcx z∧smallS z.s:=by
 obtain ⟨_,_,rfl,_,⟨n,rfl,_⟩,_,_,rfl,_,⟨x,k,cells,rfl,_,hk,he⟩,_,_,rfl,_,⟨y,m,cells2,rfl,_,hm,hf⟩,rfl⟩:=h
 obtain ⟨es,rfl,rfl,h1⟩:=els_dec (fun _ h=>dec_en h) k cells he
 obtain ⟨hs,rfl,rfl,h2⟩:=els_dec (fun _ h=>dec_ho h) m cells2 hf
 exact ⟨⟨⟨n,es,hs⟩,x,y⟩,rfl,hk,hm,h1,h2⟩
theorem arg_int {p:PV} (h:HasArg (.int .i64) p):∃ n:Int,p = .int .i64 n:=by
 obtain ⟨n,h1,_⟩:=h
 injection h1 with h1
 exact ⟨n,h1⟩
theorem saves_right {s:St} (hs:smallS s) (hr:rightP s):saves s:=by
 obtain ⟨_,_,_,h8⟩:=hs
 have h192:=hs_192 hr
 obtain ⟨r1,r2,r3,r4⟩:=id hr
 have l1:=bv (n:=s.next) (by unfold nok; omega)
 have l2:=len_enc (n:=s.es.length) (by omega)
 have l3:=len_enc (n:=s.hs.length) (by omega)
 have l4:=bu (f:=entB) (b:=1200) (l:=s.es) (fun e he=>by
  obtain ⟨j,hj⟩:=List.getElem?_of_mem he
  exact entB_len (r3 j e hj).1)
 have l5:=bu (f:=hoB) (b:=150) (l:=s.hs) (fun e he=>by
  obtain ⟨j,hj⟩:=List.getElem?_of_mem he
  exact hoB_len r3 (r4 j e hj).1 (h8 e he))
 have l6:1≤(T.enc s.es.length).length:=by
  unfold T.enc
  split<;>simp
 refine ⟨hr,?_,?_⟩<;>unfold putB<;>simp only [List.length_append]<;>omega
theorem right_400 {s:St} (hr:rightP s):s.hs.length≤400:=by have:=hs_192 hr; omega
end Go.Proofs.YtflfdglnelbbiaaGreat.Di
namespace Go.Proofs.YtflfdglnelbbiaaGreat.Di
open Go Go.VM
theorem seqK_norm {R:Type} {B:Regs→Heap→(Ex→Regs→Heap→Option R)→Option R} {k:Ex→Regs→Heap→Option R} {r:Regs} {h:Heap} {Q:R→Prop} (hx:Has (B r h k) Q):Has (seqK B k .normal r h) Q:=hx
theorem getS_small {b:List UInt8} (hb:b.length≤1000000):smallS (getS b).1:=by
 have h0:smallS s0:=⟨Nat.zero_le _,Nat.zero_le _,fun e h=>(by cases h),fun e h=>(by cases h)⟩
 unfold getS
 split
 ·exact h0
 split
 ·have hE:=gEs_small (gN 16 (gN 1099511627776 (b,0)).2).2 (by have:(gN 1099511627776 (b,0)).2.1.length≤b.length:=gN_short 1099511627776 (b,0); have:=gN_short 16 (gN 1099511627776 (b,0)).2; omega) (gN 16 (gN 1099511627776 (b,0)).2).1
  have hl:=gEs_len (gN 16 (gN 1099511627776 (b,0)).2).2 (gN 16 (gN 1099511627776 (b,0)).2).1
  have hle:=gN_le 16 (gN 1099511627776 (b,0)).2
  have hH:=gHs_eight (gN 192 (gEs (gN 16 (gN 1099511627776 (b,0)).2).2 (gN 16 (gN 1099511627776 (b,0)).2).1).2).2 (gN 192 (gEs (gN 16 (gN 1099511627776 (b,0)).2).2 (gN 16 (gN 1099511627776 (b,0)).2).1).2).1
  have hl2:=gHs_len (gN 192 (gEs (gN 16 (gN 1099511627776 (b,0)).2).2 (gN 16 (gN 1099511627776 (b,0)).2).1).2).2 (gN 192 (gEs (gN 16 (gN 1099511627776 (b,0)).2).2 (gN 16 (gN 1099511627776 (b,0)).2).1).2).1
  have hle2:=gN_le 192 (gEs (gN 16 (gN 1099511627776 (b,0)).2).2 (gN 16 (gN 1099511627776 (b,0)).2).1).2
  exact ⟨ml (show (gEs _ _).1.length≤_ by omega),ml (show (gHs _ _).1.length≤_ by omega),hE,hH⟩
 ·exact h0
theorem stOf_small {g:Nat} {b:List UInt8} (hb:b.length≤1000000):smallS (stOf g b):=by
 unfold stOf
 split
 ·exact ⟨Nat.zero_le _,Nat.zero_le _,fun e h=>(by cases h),fun e h=>(by cases h)⟩
 ·exact getS_small hb
end Go.Proofs.YtflfdglnelbbiaaGreat.Di
namespace Go.Proofs.YtflfdglnelbbiaaGreat.Di
open Go Go.VM
structure Rd where
 S:Nat→List UInt8
 left:Int
 off:Bool
 wr:Int
 w:PV
def rdc (d:Rd):List PV:=[sv (d.S 0),sv (d.S 1),.int .i64 d.left,.bool d.off,.int .i64 d.wr,d.w]
def okW (w:PV) (k:Nat):Prop:=∃ e cs,w = .sl e k cs∧cs.length=k
theorem rnew_gen (n:Nat) (hn:n≤262144):EP (EE env) 10 [.int .i64 n]=some (.agg (rdc ⟨fun _=>List.replicate n 0,-1,false,0,.sl .nil 0 []⟩)):=by
 refine Has.eq (aE ?_)
 refine aa (by simp; omega) ?_
 refine a9 (bc (List.replicate n 0)) (by rw [Int.toNat_natCast]; exact bc_zeros n) ?_
 refine aa (by simp) ?_
 refine aa (by rw [be]; simp) ?_
 refine bj (W.strOf_bc (List.replicate n 0)) ?_
 refine a8 _ rfl ?_
 refine aa rfl ?_
 refine ao ?_
 refine a8 _ rfl ?_
 refine ae (v:=rdc ⟨fun _=>List.replicate n 0,-1,false,0,.sl .nil 0 []⟩) rfl (of_decide_eq_true rfl) ?_
 exact Has.intro (Has.intro rfl)
theorem both_new:∃ Z:List UInt8,Z.length=65556∧Z.take 4=[0,0,0,0]∧EP (EE env) 10 [.int .i64 65556]=some (.agg (rdc ⟨fun _=>Z,-1,false,0,.sl .nil 0 []⟩)) ∧
 ∀ H,∃ H' a,EE env (.fn 7) [.pv (.int .i64 65556)] H=some (.tup [.ptr (H.length+2) 0,.pv (.int .i64 0)],H')∧DkOK H' (H.length+2) ⟨a,65556,-1,false,0,.pv (.sl .nil 0 []),0⟩ (fun _=>Z)∧Kp [] H H':=by
 have key:∀ n:Nat,n=65556→∃ Z:List UInt8,Z.length=n∧Z.take 4=[0,0,0,0]∧EP (EE env) 10 [.int .i64 n]=some (.agg (rdc ⟨fun _=>Z,-1,false,0,.sl .nil 0 []⟩)) ∧
  ∀ H,∃ H' a,EE env (.fn 7) [.pv (.int .i64 n)] H=some (.tup [.ptr (H.length+2) 0,.pv (.int .i64 0)],H')∧DkOK H' (H.length+2) ⟨a,n,-1,false,0,.pv (.sl .nil 0 []),0⟩ (fun _=>Z)∧Kp [] H H':=by
  intro n hn
  refine ⟨List.replicate n 0,by simp,?_,rnew_gen n (by omega),fun H=>?_⟩
  ·rw [List.take_replicate,show min 4 n=4 by omega]
   rfl
  ·obtain ⟨H',h1,h2,h3⟩:=new_disk n (by omega) (by omega) H
   exact ⟨H',_,h1,h2,h3⟩
 exact key 65556 rfl
theorem rarm_ok (d:Rd) (n:Int):EP (EE env) 12 [.agg (rdc d),.int .i64 n]=some (.agg (rdc { d with left:=max n (-1) })):=by
 refine Has.eq (aE ?_)
 refine a8 _ rfl ?_
 refine aa rfl ?_
 refine ao ?_
 refine ah (fun h=>?_) (fun h=>?_)
 ·refine a8 _ rfl ?_
  refine aa rfl ?_
  refine ao ?_
  refine a8 _ rfl ?_
  refine ae (v:=rdc { d with left := -1 }) rfl (of_decide_eq_true rfl) ?_
  refine a8 _ rfl ?_
  refine aa rfl ?_
  refine ao ?_
  refine a8 _ rfl ?_
  refine ae (v:=rdc { d with left := -1 }) rfl (of_decide_eq_true rfl) ?_
  rw [show max n (-1) = -1 by omega]
  exact Has.intro (Has.intro rfl)
 ·refine a8 _ rfl ?_
  refine ae (v:=rdc { d with left:=n }) rfl (of_decide_eq_true rfl) ?_
  refine a8 _ rfl ?_
  refine aa rfl ?_
  refine ao ?_
  refine a8 _ rfl ?_
  refine ae (v:=rdc { d with left:=n }) rfl (of_decide_eq_true rfl) ?_
  rw [show max n (-1)=n by omega]
  exact Has.intro (Has.intro rfl)
theorem rup_ok (d:Rd):EP (EE env) 14 [.agg (rdc d)]=some (.agg (rdc { d with off:=false,left := -1 })):=by
 refine Has.eq (aE ?_)
 refine a8 _ rfl ?_
 refine aa rfl ?_
 refine ao ?_
 refine a8 _ rfl ?_
 refine aa rfl ?_
 refine ao ?_
 refine a8 _ rfl ?_
 refine ae (v:=rdc { d with off:=false,left := -1 }) rfl (of_decide_eq_true rfl) ?_
 refine a8 _ rfl ?_
 refine aa rfl ?_
 refine ao ?_
 refine a8 _ rfl ?_
 refine ae (v:=rdc { d with off:=false,left := -1 }) rfl (of_decide_eq_true rfl) ?_
 exact Has.intro (Has.intro rfl)
end Go.Proofs.YtflfdglnelbbiaaGreat.Di
namespace Go.Proofs.YtflfdglnelbbiaaGreat.Di
open Go Go.VM
theorem rwrite_off (d:Rd) (h:d.off=true) (i:Nat) (b:List UInt8):EP (EE env) 16 [.agg (rdc d),.int .i64 i,sv b]=some (.tup [.agg (rdc d),.int .i64 26]):=by
 obtain ⟨S,left,off,wr,w⟩:=d
 simp only at h
 subst h
 refine Has.eq (aE ?_)
 refine a8 _ rfl ?_
 refine ab (v:=.bool true) rfl ?_
 refine a8 _ rfl ?_
 refine ae (v:=rdc ⟨S,left,true,wr,w⟩) rfl (of_decide_eq_true rfl) ?_
 refine a8 _ rfl ?_
 refine aa rfl ?_
 refine ao ?_
 refine a8 _ rfl ?_
 refine ae (v:=rdc ⟨S,left,true,wr,w⟩) rfl (of_decide_eq_true rfl) ?_
 exact Has.intro (Has.intro rfl)
theorem rwrite_long (d:Rd) (h:d.off=false) (i:Nat) (hi:i=0∨i=1) (b:List UInt8) (hb:(d.S 0).length<b.length):EP (EE env) 16 [.agg (rdc d),.int .i64 i,sv b]=some (.tup [.agg (rdc d),.int .i64 2]):=by
 obtain ⟨S,left,off,wr,w⟩:=d
 simp only at h hb
 subst h
 refine Has.eq (aE (fn_has rfl ?_))
 refine aM [(1,.pv (.int .i64 i)),(2,.pv (sv b)),(3,.ptr 0 0),(6,.ptr 1 0)] [.pcells (rdc ⟨S,left,false,wr,w⟩),(HObj.pcells [.str ⟨#[]⟩,.str ⟨#[]⟩,.int .i64 0,.bool false,.int .i64 0,.sl .nil 0 []])] (by (refine Has.intro ⟨rfl,?_,rfl⟩; (repeat (first | exact trivial | refine ⟨rfl,?_⟩)))) (fun r=>?_)
 refine aM [(1,.pv (.int .i64 i)),(2,.pv (sv b)),(3,.ptr 0 0),(6,.ptr 1 0)] [.pcells (rdc ⟨S,left,false,wr,w⟩),(HObj.pcells [.str ⟨#[]⟩,.str ⟨#[]⟩,.int .i64 0,.bool false,.int .i64 0,.sl .nil 0 []])] ?_ (fun r=>?_)
 ·refine a8 _ rfl ?_
  refine ab (v:=.bool false) rfl ?_
  (refine Has.intro ⟨rfl,?_,rfl⟩; (repeat (first | exact trivial | refine ⟨rfl,?_⟩)))
 rcases hi with rfl | rfl
 ·refine bg rfl ?_
  ((refine aa (by decide) ?_; refine a8 _ rfl ?_; refine ab (v:=sv (S 0)) rfl ?_; refine aY (by rw [ay,ay]; omega) ?_; refine a8 _ rfl ?_; refine ae (v:=rdc ⟨S,left,false,wr,w⟩) rfl (of_decide_eq_true rfl) ?_; refine a8 _ rfl ?_; refine aa rfl ?_; refine ao ?_; refine a8 _ rfl ?_; refine ae (v:=rdc ⟨S,left,false,wr,w⟩) rfl (of_decide_eq_true rfl) ?_; exact Has.intro (Has.intro rfl)))
 ·refine boolK_bne_t (by decide) ?_
  refine bg rfl ?_
  ((refine aa (by decide) ?_; refine a8 _ rfl ?_; refine ab (v:=sv (S 0)) rfl ?_; refine aY (by rw [ay,ay]; omega) ?_; refine a8 _ rfl ?_; refine ae (v:=rdc ⟨S,left,false,wr,w⟩) rfl (of_decide_eq_true rfl) ?_; refine a8 _ rfl ?_; refine aa rfl ?_; refine ao ?_; refine a8 _ rfl ?_; refine ae (v:=rdc ⟨S,left,false,wr,w⟩) rfl (of_decide_eq_true rfl) ?_; exact Has.intro (Has.intro rfl)))
theorem app_tok {R:Type} {Q:R→Prop} {F:AV→Heap→Option R} {H:Heap} {t n m bytes:Nat} {cs new:List PV} {e':Ext} (ht:hget H t = .tok n 1) (hc:cs.length=n) (hl:new.length=m) (hb:(n+m)*bytes≤mostBytes) (k:Has (F (.tsl t (n+m) (cs++new)) (hset H t (.tok (n+m) 1))) Q) :
 Has (appS false 1 bytes (.tsl t n cs) (.pv (.sl e' m new)) H F) Q:=by
 have hx:srcLen (.pv (.sl e' m new))=some m:=rfl
 have hsrc:∀ G:List PV→Option R,srcK H (.pv (.sl e' m new)) G=G new:=fun _=>rfl
 rw [appS_def]
 unfold appendK
 simp only [hx,hsrc]
 refine a8 _ ht ?_
 dsimp only
 refine aa (by rw [Nat.beq_refl,Nat.beq_refl]; rfl) ?_
 refine aa ?_ ?_
 ·simp only [Bool.and_eq_true]
  refine ⟨⟨Nat.ble_eq_true_of_le hb,?_⟩,?_⟩
  ·rw [aG,Nat.mul_one,hc]; exact Nat.beq_refl _
  ·rw [aG,Nat.mul_one,hl]; exact Nat.beq_refl _
 ·refine ao ?_
  refine ao ?_
  exact k
def lf (left:Int) (j:Nat):Int:=if 0<left then left-j else left
def rdo (S:Nat→List UInt8) (left:Int) (off:Bool) (wr:Int) (k:Nat) (cs:List PV):HObj:=.cells [.pv (sv (S 0)),.pv (sv (S 1)),.pv (.int .i64 left),.pv (.bool off),.pv (.int .i64 wr),.tsl 2 (k+1) cs]
set_option maxHeartbeats 8000000 in
theorem rwrite_ok (d:Rd) (h:d.off=false) (hS:(d.S 0).length=65556∧(d.S 1).length=65556) (i:Nat) (hi:i=0∨i=1) (b:List UInt8) (hb:b.length≤65556) (k:Nat) (hw:okW d.w k) (hk:k≤100) (hl:d.left≤9223372036854775807)
 (m:Nat) (dn:Bool) (hm:(0≤d.left∧d.left≤b.length∧(m:Int)=d.left∧dn=true)∨((d.left<0∨(b.length:Int)<d.left)∧m=b.length∧dn=false)) :
 ∃ wr' w',okW w' (k+1)∧EP (EE env) 16 [.agg (rdc d),.int .i64 i,sv b]=some (.tup [.agg (rdc ⟨upS d.S i (b.take m++(d.S i).drop m),lf d.left m,dn,wr',w'⟩),.int .i64 (bif dn then 26 else 0)]):=by
 obtain ⟨S,left,off,wr,w⟩:=d
 obtain ⟨ew,ws,hw,hwl⟩:=hw
 simp only at h hS hl hm hw ⊢
 subst h
 subst hw
 have hmb:m≤b.length:=by rcases hm with ⟨_,q,e,_⟩ | ⟨_,e,_⟩<;>omega
 have hsb:=ay b
 have main:Has (EP (EE env) 16 [.agg (rdc ⟨S,left,false,wr,.sl ew k ws⟩),.int .i64 i,sv b]) fun u=>∃ wr' w',okW w' (k+1)∧u = .tup [.agg (rdc ⟨upS S i (b.take m++(S i).drop m),lf left m,dn,wr',w'⟩),.int .i64 (bif dn then 26 else 0)]:=by
  refine aE (fn_has rfl ?_)
  refine aM [(1,.pv (.int .i64 i)),(2,.pv (sv b)),(3,.ptr 0 0),(6,.ptr 1 0)] [.pcells (rdc ⟨S,left,false,wr,.sl ew k ws⟩),(HObj.pcells [.str ⟨#[]⟩,.str ⟨#[]⟩,.int .i64 0,.bool false,.int .i64 0,.sl .nil 0 []])] (by (refine Has.intro ⟨rfl,?_,rfl⟩; (repeat (first | exact trivial | refine ⟨rfl,?_⟩)))) (fun r=>?_)
  refine aM [(1,.pv (.int .i64 i)),(2,.pv (sv b)),(3,.ptr 0 0),(6,.ptr 1 0)] [.pcells (rdc ⟨S,left,false,wr,.sl ew k ws⟩),(HObj.pcells [.str ⟨#[]⟩,.str ⟨#[]⟩,.int .i64 0,.bool false,.int .i64 0,.sl .nil 0 []])] ?_ (fun r=>?_)
  ·refine a8 _ rfl ?_
   refine ab (v:=.bool false) rfl ?_
   (refine Has.intro ⟨rfl,?_,rfl⟩; (repeat (first | exact trivial | refine ⟨rfl,?_⟩)))
  refine aM [(1,.pv (.int .i64 i)),(2,.pv (sv b)),(3,.ptr 0 0),(6,.ptr 1 0)] [.pcells (rdc ⟨S,left,false,wr,.sl ew k ws⟩),(HObj.pcells [.str ⟨#[]⟩,.str ⟨#[]⟩,.int .i64 0,.bool false,.int .i64 0,.sl .nil 0 []])] ?_ (fun r=>?_)
  ·rcases hi with rfl | rfl
   ·refine bg rfl ?_
    refine aa (by decide) ?_
    refine a8 _ rfl ?_
    refine ab (v:=sv (S 0)) rfl ?_
    refine aF (by rw [ay,ay]; omega) ?_
    (refine Has.intro ⟨rfl,?_,rfl⟩; (repeat (first | exact trivial | refine ⟨rfl,?_⟩)))
   ·refine boolK_bne_t (by decide) ?_
    refine bg rfl ?_
    refine aa (by decide) ?_
    refine a8 _ rfl ?_
    refine ab (v:=sv (S 0)) rfl ?_
    refine aF (by rw [ay,ay]; omega) ?_
    (refine Has.intro ⟨rfl,?_,rfl⟩; (repeat (first | exact trivial | refine ⟨rfl,?_⟩)))
  refine aM [(1,.pv (.int .i64 i)),(2,.pv (sv b)),(3,.ptr 0 0),(6,.ptr 1 0)] [rdo S left false wr k (ws++[sv b]),(HObj.pcells [.str ⟨#[]⟩,.str ⟨#[]⟩,.int .i64 0,.bool false,.int .i64 0,.sl .nil 0 []]),.tok (k+1) 1] ?_ (fun r=>?_)
  ·refine a8 _ rfl ?_
   refine ab (v:=.sl ew k ws) rfl ?_
   by_cases hk0:k=0
   ·subst hk0
    have:ws=[]:=List.eq_nil_of_length_eq_zero hwl
    subst this
    refine app_none ?_
    refine app_plain rfl rfl (by rfl) (by decide) (by decide) ?_
    refine a8 _ rfl ?_
    exact Has.intro ⟨rfl,⟨rfl,rfl,rfl,rfl,trivial⟩,rfl⟩
   ·refine app_plain rfl rfl (by rw [hwl,Nat.mul_one]) hk0 (by show (0+k)*16≤140737488355328; omega) ?_
    rw [Nat.zero_add,List.nil_append]
    refine app_tok rfl hwl rfl (by show (k+1)*16≤140737488355328; omega) ?_
    refine a8 _ rfl ?_
    exact Has.intro ⟨rfl,⟨rfl,rfl,rfl,rfl,trivial⟩,rfl⟩
  refine aM [(1,.pv (.int .i64 i)),(2,.pv (sv b)),(3,.ptr 0 0),(6,.ptr 1 0),(8,.pv (.int .i64 0))] [rdo S left false wr k (ws++[sv b]),(HObj.pcells [.str ⟨#[]⟩,.str ⟨#[]⟩,.int .i64 0,.bool false,.int .i64 0,.sl .nil 0 []]),.tok (k+1) 1] (by (refine Has.intro ⟨rfl,?_,rfl⟩; (repeat (first | exact trivial | refine ⟨rfl,?_⟩)))) (fun r=>?_)
  refine aM [(1,.pv (.int .i64 i)),(2,.pv (sv b)),(3,.ptr 0 0),(6,.ptr 1 0),(8,.pv (.int .i64 m))] [rdo S (lf left m) false wr k (ws++[sv b]),(HObj.pcells [.str ⟨#[]⟩,.str ⟨#[]⟩,.int .i64 0,.bool false,.int .i64 0,.sl .nil 0 []]),.tok (k+1) 1] ?_ (fun r=>?_)
  ·refine aw ?_
   refine aC (σ:=Nat) (fun j=>b.length-j) (fun j=>[(1,.pv (.int .i64 i)),(2,.pv (sv b)),(3,.ptr 0 0),(6,.ptr 1 0),(8,.pv (.int .i64 j))]) (fun j=>[rdo S (lf left j) false wr k (ws++[sv b]),(HObj.pcells [.str ⟨#[]⟩,.str ⟨#[]⟩,.int .i64 0,.bool false,.int .i64 0,.sl .nil 0 []]),.tok (k+1) 1])
    (fun j=>j≤b.length∧(0≤left→(j:Int)≤left)) (fun j ⟨hj,hjl⟩ r=>?_) 0 ⟨Nat.zero_le _,fun h=>h⟩ ⟨rfl,rfl,rfl,rfl,rfl,trivial⟩ (by
      have:lf left 0=left:=by unfold lf; split<;>omega
      rw [this])
   have stop:j=b.length∨lf left j=0→j=m:=by
    intro hh
    unfold lf at hh
    rcases hm with ⟨q1,q2,q3,_⟩ | ⟨q1,q2,_⟩
    ·rcases hh with hh | hh
     ·have:=hjl q1; omega
     ·split at hh<;>omega
    ·rcases hh with hh | hh
     ·omega
     ·split at hh<;>omega
   refine ah (fun hc=>?_) (fun hc=>?_)
   ·rw [hsb] at hc
    refine a8 _ rfl ?_
    refine aO (fun h0=>?_) (fun h0=>?_)
    ·have h0':lf left j≠0:=h0
     refine a9 ((j+1:Nat):Int) (aq (by omega)) ?_
     refine a8 _ rfl ?_
     refine ah (fun hp=>?_) (fun hp=>?_)
     ·have hp':0<lf left j:=hp
      have hl1:0<left:=by unfold lf at hp'; split at hp'<;>omega
      have hlj:lf left j=left-j:=if_pos hl1
      refine a8 _ rfl ?_
      refine a9 (lf left (j+1)) ((wrap_i64 (by rw [hlj] at hp' ⊢; omega) (by rw [hlj]; omega)).trans (by rw [hlj]; unfold lf; rw [if_pos hl1]; omega)) ?_
      refine a8 _ rfl ?_
      exact Has.intro ⟨j+1,⟨by omega,fun _=>by rw [hlj] at hp'; omega⟩,by omega,⟨rfl,rfl,rfl,rfl,rfl,trivial⟩,rfl⟩
     ·have hp':¬ 0<lf left j:=hp
      have hl1:left<0:=by unfold lf at hp' h0'; split at hp'<;>split at h0'<;>first | omega | (have:=hjl (by omega); omega)
      have e1:lf left (j+1)=lf left j:=by unfold lf; rw [if_neg (by omega),if_neg (by omega)]
      refine Has.intro ⟨j+1,⟨by omega,fun h=>by omega⟩,by omega,⟨rfl,rfl,rfl,rfl,rfl,trivial⟩,?_⟩
      rw [e1]
    ·have h0':lf left j=0:=h0
     have:=stop (.inr h0')
     subst this
     exact Has.intro (Has.intro ⟨rfl,⟨rfl,rfl,rfl,rfl,rfl,trivial⟩,rfl⟩)
   ·rw [hsb] at hc
    have:=stop (.inl (by omega))
    subst this
    exact Has.intro (Has.intro ⟨rfl,⟨rfl,rfl,rfl,rfl,rfl,trivial⟩,rfl⟩)
  obtain ⟨S',hS'⟩:∃ S',S'=upS S i (b.take m++(S i).drop m):=⟨_,rfl⟩
  rw [←hS']
  refine aM [(3,.ptr 0 0),(6,.ptr 1 0),(8,.pv (.int .i64 m))] [rdo S' (lf left m) false wr k (ws++[sv b]),(HObj.pcells [.str ⟨#[]⟩,.str ⟨#[]⟩,.int .i64 0,.bool false,.int .i64 0,.sl .nil 0 []]),.tok (k+1) 1] ?_ (fun r=>?_)
  ·have tk:∀ s:List UInt8,(⟨b.toArray⟩:ByteArray).extract 0 m=⟨(b.take m).toArray⟩:=fun s=>by rw [sv_extract,List.drop_zero]
   have dr:∀ s:List UInt8,s.length=65556→(⟨s.toArray⟩:ByteArray).extract m (⟨s.toArray⟩:ByteArray).size=⟨(s.drop m).toArray⟩:=fun s hs=>by rw [sv_extract,ay,List.take_length]
   rcases hi with rfl | rfl
   ·refine aa (by rw [ay]; simp; omega) ?_
    refine a9 (⟨(b.take m).toArray⟩:ByteArray) (tk b) ?_
    refine aa (by decide) ?_
    refine a8 _ rfl ?_
    refine aa (by rw [ay]; simp; omega) ?_
    refine a9 (⟨((S 0).drop m).toArray⟩:ByteArray) (dr (S 0) hS.1) ?_
    refine aa (W.add_room (b.take m) ((S 0).drop m) (by simp; omega)) ?_
    refine a9 _ (W.mk_append (b.take m) ((S 0).drop m)) ?_
    refine aa (by decide) ?_
    refine a8 _ rfl ?_
    rw [hS']
    exact Has.intro ⟨rfl,⟨rfl,rfl,rfl,trivial⟩,rfl⟩
   ·refine aa (by rw [ay]; simp; omega) ?_
    refine a9 (⟨(b.take m).toArray⟩:ByteArray) (tk b) ?_
    refine aa (by decide) ?_
    refine a8 _ rfl ?_
    refine aa (by rw [ay]; simp; omega) ?_
    refine a9 (⟨((S 1).drop m).toArray⟩:ByteArray) (dr (S 1) hS.2) ?_
    refine aa (W.add_room (b.take m) ((S 1).drop m) (by simp; omega)) ?_
    refine a9 _ (W.mk_append (b.take m) ((S 1).drop m)) ?_
    refine aa (by decide) ?_
    refine a8 _ rfl ?_
    rw [hS']
    exact Has.intro ⟨rfl,⟨rfl,rfl,rfl,trivial⟩,rfl⟩
  obtain ⟨wr',hwr'⟩:∃ wr',wr'=IntKind.i64.wrap (wr+m):=⟨_,rfl⟩
  refine aM [(3,.ptr 0 0),(6,.ptr 1 0)] [rdo S' (lf left m) false wr' k (ws++[sv b]),(HObj.pcells [.str ⟨#[]⟩,.str ⟨#[]⟩,.int .i64 0,.bool false,.int .i64 0,.sl .nil 0 []]),.tok (k+1) 1] ?_ (fun r=>?_)
  ·refine a8 _ rfl ?_
   refine a9 wr' hwr'.symm ?_
   refine a8 _ rfl ?_
   exact Has.intro ⟨rfl,⟨rfl,rfl,trivial⟩,rfl⟩
  have hlast:(dn=true∧lf left m=0)∨(dn=false∧lf left m≠0):=by
   unfold lf
   rcases hm with ⟨q1,q2,q3,q4⟩ | ⟨q1,q2,q3⟩
   ·left; exact ⟨q4,by split<;>omega⟩
   ·right; exact ⟨q3,by split<;>omega⟩
  refine a8 _ rfl ?_
  rcases hlast with ⟨rfl,h0⟩ | ⟨rfl,h0⟩
  ·refine aT h0 ?_
   refine a8 _ rfl ?_
   refine a8 _ rfl ?_
   refine a8 _ rfl ?_
   refine a8 _ rfl ?_
   exact Has.intro (Has.of_eq (x:=.tup [.agg (rdc ⟨S',lf left m,true,wr',.sl .nn (k+1) (ws++[sv b])⟩),.int .i64 26]) rfl ⟨wr',.sl .nn (k+1) (ws++[sv b]),⟨_,_,rfl,by simp [hwl]⟩,rfl⟩)
  ·refine boolK_beq_f h0 ?_
   refine a8 _ rfl ?_
   refine a8 _ rfl ?_
   refine a8 _ rfl ?_
   exact Has.intro (Has.of_eq (x:=.tup [.agg (rdc ⟨S',lf left m,false,wr',.sl .nn (k+1) (ws++[sv b])⟩),.int .i64 0]) rfl ⟨wr',.sl .nn (k+1) (ws++[sv b]),⟨_,_,rfl,by simp [hwl]⟩,rfl⟩)
 obtain ⟨u,h1,wr',w',h2,h3⟩:=main
 exact ⟨wr',w',h2,by rw [h1,h3]⟩
end Go.Proofs.YtflfdglnelbbiaaGreat.Di
namespace Go.Proofs.YtflfdglnelbbiaaGreat.Di
open Go Go.VM
def rvc (d:Rd) (g:Nat) (st:St) (x y:Ext):List PV:=rdc d++(.int .i64 g::stc st x y)
theorem acc_ge (S:Nat→List UInt8) (i:Nat):acc S (i+1)=if (cnt (S i)).1>(acc S i).1 then cnt (S i) else acc S i:=rfl
set_option maxHeartbeats 8000000 in
theorem ropen_ok (d:Rd) (hS:(d.S 0).length=65556∧(d.S 1).length=65556):∃ x y,EP (EE env) 9 [.agg (rdc d)]=some (.agg (rvc d (acc d.S 2).1 (stOf (acc d.S 2).1 (acc d.S 2).2) x y)):=by
 have main:Has (EP (EE env) 9 [.agg (rdc d)]) fun u=>∃ x y,u = .agg (rvc d (acc d.S 2).1 (stOf (acc d.S 2).1 (acc d.S 2).2) x y):=by
  refine aE (fn_has rfl ?_)
  refine aM [(1,.ptr 0 0),(2,.ptr 1 0)] [.pcells (rdc d),(HObj.pcells [.str ⟨#[]⟩,.str ⟨#[]⟩,.int .i64 0,.bool false,.int .i64 0,.sl .nil 0 [],.int .i64 0,.int .i64 0,.sl .nil 0 [],.sl .nil 0 []])] (by (refine Has.intro ⟨rfl,?_,rfl⟩; (repeat (first | exact trivial | refine ⟨rfl,?_⟩)))) (fun r=>?_)
  refine aM [(1,.ptr 0 0),(2,.ptr 1 0),(3,.ptr 2 0)] [.pcells (rdc d),(HObj.pcells [.str ⟨#[]⟩,.str ⟨#[]⟩,.int .i64 0,.bool false,.int .i64 0,.sl .nil 0 [],.int .i64 0,.int .i64 0,.sl .nil 0 [],.sl .nil 0 []]),.pcells (rvc d 0 s0 .nil .nil)] ?_ (fun r=>?_)
  ·refine a8 _ rfl ?_
   refine ae (v:=rdc d) rfl (of_decide_eq_true rfl) ?_
   refine a8 _ rfl ?_
   refine aa rfl ?_
   refine ao ?_
   exact Has.intro ⟨rfl,⟨rfl,rfl,rfl,trivial⟩,rfl⟩
  refine aV (σ:=Heap × Ext × Ext) (fun _=>[(2,.ptr 1 0),(3,.ptr 2 0)]) (fun s=>[.pcells (rdc d),(HObj.pcells [.str ⟨#[]⟩,.str ⟨#[]⟩,.int .i64 0,.bool false,.int .i64 0,.sl .nil 0 [],.int .i64 0,.int .i64 0,.sl .nil 0 [],.sl .nil 0 []]),.pcells (rvc d (acc d.S 2).1 (stOf (acc d.S 2).1 (acc d.S 2).2) s.2.1 s.2.2)]++s.1) (fun _=>True) ?_ (fun s _ r=>?_)
  ·refine aw ?_
   refine aW (σ:=Nat × Ext × Ext) (fun s=>2-s.1) (fun s=>[(1,.ptr 0 0),(2,.ptr 1 0),(3,.ptr 2 0),(4,.pv (.int .i64 s.1))]) (fun s=>[.pcells (rdc d),(HObj.pcells [.str ⟨#[]⟩,.str ⟨#[]⟩,.int .i64 0,.bool false,.int .i64 0,.sl .nil 0 [],.int .i64 0,.int .i64 0,.sl .nil 0 [],.sl .nil 0 []]),.pcells (rvc d (acc d.S s.1).1 (stOf (acc d.S s.1).1 (acc d.S s.1).2) s.2.1 s.2.2)])
    (fun s=>s.1≤2) (fun ⟨i,x,y⟩ hi r J=>?_) (0,.nil,.nil) (Nat.zero_le _) [] ⟨rfl,rfl,rfl,rfl,trivial⟩ rfl
   dsimp only at hi ⊢
   refine ah (fun hc=>?_) (fun hc=>?_)
   ·have hlen:(d.S i).length=65556:=by
     have:i=0∨i=1:=by omega
     rcases this with rfl | rfl
     ·exact hS.1
     ·exact hS.2
    have hsl:(rdc d)[addO (addO 0 0) (mulE ((i:Nat):Int).toNat 1)]? = some (sv (d.S i)):=by
     have:i=0∨i=1:=by omega
     rcases this with rfl | rfl<;>rfl
    refine aa (by simp; omega) ?_
    refine a8 (.pcells (rdc d)) rfl ?_
    refine ab hsl ?_
    refine aj (W.rget_ok (d.S i) (by omega)) ?_
    have hbl:=body_len (s:=d.S i)
    refine aO (fun he=>?_) (fun he=>?_)
    ·have ha:acc d.S (i+1)=acc d.S i:=by rw [acc_ge]; unfold cnt; rw [if_pos he,if_neg (Nat.not_lt_zero _)]
     refine a9 ((i+1:Nat):Int) (aq (by omega)) ?_
     refine Has.intro ⟨(i+1,x,y),by dsimp only; omega,by dsimp only; omega,⟨rfl,rfl,rfl,rfl,trivial⟩,J,?_⟩
     dsimp only
     rw [ha]
    refine a8 (.pcells (rvc d (acc d.S i).1 (stOf (acc d.S i).1 (acc d.S i).2) x y)) rfl ?_
    refine ab (v:=.int .i64 (acc d.S i).1) rfl ?_
    refine ah (fun hg=>?_) (fun hg=>?_)
    ·have ha:acc d.S (i+1)=acc d.S i:=by
      rw [acc_ge,if_neg]
      unfold cnt
      rw [if_neg (fun h=>h he)]
      split
      ·exact Nat.not_lt_zero _
      ·dsimp only; omega
     refine a9 ((i+1:Nat):Int) (aq (by omega)) ?_
     refine Has.intro ⟨(i+1,x,y),by dsimp only; omega,by dsimp only; omega,⟨rfl,rfl,rfl,rfl,trivial⟩,J,?_⟩
     dsimp only
     rw [ha]
    obtain ⟨y1,y2,hr⟩:=rget_ok' (W.getM (d.S i)).2.1 (by omega)
    refine aj hr ?_
    refine af ?_
    refine aa rfl ?_
    refine ao ?_
    rw [aH]
    refine aP (fun hf=>?_) (fun hf=>?_)
    ·have ha:acc d.S (i+1)=((W.getM (d.S i)).1,(W.getM (d.S i)).2.1):=by
      have hcn:cnt (d.S i)=((W.getM (d.S i)).1,(W.getM (d.S i)).2.1):=by unfold cnt; rw [if_neg (fun h=>h he),if_neg (fun h=>h hf)]
      rw [acc_ge,hcn,if_pos (by dsimp only; omega)]
     have hso:stOf (W.getM (d.S i)).1 (W.getM (d.S i)).2.1=(getS (W.getM (d.S i)).2.1).1:=by unfold stOf; rw [if_neg (by omega)]
     refine a8 (.pcells (rvc d (acc d.S i).1 (stOf (acc d.S i).1 (acc d.S i).2) x y)) rfl ?_
     refine aa rfl ?_
     refine ao ?_
     show Has (hgetK (([.pcells (rdc d),(HObj.pcells [.str ⟨#[]⟩,.str ⟨#[]⟩,.int .i64 0,.bool false,.int .i64 0,.sl .nil 0 [],.int .i64 0,.int .i64 0,.sl .nil 0 [],.sl .nil 0 []]),.pcells (rdc d++(.int .i64 (W.getM (d.S i)).1::stc (stOf (acc d.S i).1 (acc d.S i).2) x y))]++J)++[HObj.pcells (stc (getS (W.getM (d.S i)).2.1).1 y1 y2)]) ([HObj.pcells (rdc d),(HObj.pcells [.str ⟨#[]⟩,.str ⟨#[]⟩,.int .i64 0,.bool false,.int .i64 0,.sl .nil 0 [],.int .i64 0,.int .i64 0,.sl .nil 0 [],.sl .nil 0 []]),.pcells (rvc d (acc d.S i).1 (stOf (acc d.S i).1 (acc d.S i).2) x y)]++J).length _) _
     refine a8 (.pcells (stc (getS (W.getM (d.S i)).2.1).1 y1 y2)) ?_ ?_
     ·have e1:([HObj.pcells (rdc d),(HObj.pcells [.str ⟨#[]⟩,.str ⟨#[]⟩,.int .i64 0,.bool false,.int .i64 0,.sl .nil 0 [],.int .i64 0,.int .i64 0,.sl .nil 0 [],.sl .nil 0 []]),.pcells (rvc d (acc d.S i).1 (stOf (acc d.S i).1 (acc d.S i).2) x y)]++J).length=([HObj.pcells (rdc d),(HObj.pcells [.str ⟨#[]⟩,.str ⟨#[]⟩,.int .i64 0,.bool false,.int .i64 0,.sl .nil 0 [],.int .i64 0,.int .i64 0,.sl .nil 0 [],.sl .nil 0 []]),.pcells (rdc d++(.int .i64 (W.getM (d.S i)).1::stc (stOf (acc d.S i).1 (acc d.S i).2) x y))]++J).length:=rfl
      rw [e1]
      exact ak _ _
     refine ae (v:=stc (getS (W.getM (d.S i)).2.1).1 y1 y2) rfl (of_decide_eq_true rfl) ?_
     refine a8 (.pcells (rdc d++(.int .i64 (W.getM (d.S i)).1::stc (stOf (acc d.S i).1 (acc d.S i).2) x y))) rfl ?_
     refine aa rfl ?_
     refine ao ?_
     refine a9 ((i+1:Nat):Int) (aq (by omega)) ?_
     refine Has.intro ⟨(i+1,y1,y2),by dsimp only; omega,by dsimp only; omega,⟨rfl,rfl,rfl,rfl,trivial⟩,J++[HObj.pcells (stc (getS (W.getM (d.S i)).2.1).1 y1 y2)],?_⟩
     dsimp only
     rw [ha]
     dsimp only
     rw [hso]
     rfl
    ·have ha:acc d.S (i+1)=acc d.S i:=by
      rw [acc_ge,if_neg]
      unfold cnt
      rw [if_neg (fun h=>h he),if_pos hf]
      exact Nat.not_lt_zero _
     refine a9 ((i+1:Nat):Int) (aq (by omega)) ?_
     refine Has.intro ⟨(i+1,x,y),by dsimp only; omega,by dsimp only; omega,⟨rfl,rfl,rfl,rfl,trivial⟩,J++[.pcells (stc (getS (W.getM (d.S i)).2.1).1 y1 y2)],?_⟩
     dsimp only
     rw [ha]
     rfl
   ·have:i=2:=by omega
    subst this
    exact Has.intro (Has.intro ⟨rfl,(J,x,y),trivial,⟨rfl,rfl,trivial⟩,rfl⟩)
  obtain ⟨J,x,y⟩:=s
  refine a8 (.pcells (rvc d (acc d.S 2).1 (stOf (acc d.S 2).1 (acc d.S 2).2) x y)) rfl ?_
  refine ae (v:=rvc d (acc d.S 2).1 (stOf (acc d.S 2).1 (acc d.S 2).2) x y) rfl (of_decide_eq_true rfl) ?_
  refine a8 (HObj.pcells [.str ⟨#[]⟩,.str ⟨#[]⟩,.int .i64 0,.bool false,.int .i64 0,.sl .nil 0 [],.int .i64 0,.int .i64 0,.sl .nil 0 [],.sl .nil 0 []]) rfl ?_
  refine aa rfl ?_
  refine ao ?_
  refine a8 (.pcells (rvc d (acc d.S 2).1 (stOf (acc d.S 2).1 (acc d.S 2).2) x y)) rfl ?_
  refine ae (v:=rvc d (acc d.S 2).1 (stOf (acc d.S 2).1 (acc d.S 2).2) x y) rfl (of_decide_eq_true rfl) ?_
  exact Has.intro (Has.intro ⟨x,y,rfl⟩)
 obtain ⟨u,h1,x,y,h2⟩:=main
 exact ⟨x,y,by rw [h1,h2]⟩
end Go.Proofs.YtflfdglnelbbiaaGreat.Di
namespace Go.Proofs.YtflfdglnelbbiaaGreat.Di
open Go Go.VM
variable {d:Rd} {g:Nat} {st:St} {x y:Ext} {s:St} {x' y':Ext}
theorem rsave_no (hs:smallS s) (hr:¬ rightP s):EP (EE env) 17 [.agg (rvc d g st x y),.agg (stc s x' y')]=some (.tup [.agg (rvc d g st x y),.int .i64 2]):=by
 refine Has.eq (aE ?_)
 refine a8 (.pcells (stc s x' y')) rfl ?_
 refine ae (v:=stc s x' y') rfl (of_decide_eq_true rfl) ?_
 refine aj ((rright_ok' s x' y' hs).trans (by rw [decide_eq_false hr])) ?_
 ((refine a8 (.pcells (rvc d g st x y)) rfl ?_; refine ae (v:=rvc d g st x y) rfl (of_decide_eq_true rfl) ?_; refine a8 (HObj.pcells [.str ⟨#[]⟩,.str ⟨#[]⟩,.int .i64 0,.bool false,.int .i64 0,.sl .nil 0 [],.int .i64 0,.int .i64 0,.sl .nil 0 [],.sl .nil 0 []]) rfl ?_; refine aa rfl ?_; refine ao ?_; refine a8 (.pcells (rvc d g st x y)) rfl ?_; refine ae (v:=rvc d g st x y) rfl (of_decide_eq_true rfl) ?_; exact Has.intro (Has.intro rfl)))
theorem rsave_over (hs:smallS s) (hr:rightP s) (hg:1152921504606846976≤g):EP (EE env) 17 [.agg (rvc d g st x y),.agg (stc s x' y')]=some (.tup [.agg (rvc d g st x y),.int .i64 15]):=by
 have hsv:=saves_right hs hr
 refine Has.eq (aE ?_)
 refine a8 (.pcells (stc s x' y')) rfl ?_
 refine ae (v:=stc s x' y') rfl (of_decide_eq_true rfl) ?_
 refine aj ((rright_ok' s x' y' hs).trans (by rw [decide_eq_true hr])) ?_
 refine a8 (.pcells (stc s x' y')) rfl ?_
 refine ae (v:=stc s x' y') rfl (of_decide_eq_true rfl) ?_
 refine aj (rput_ok s x' y' hs hr (right_400 hr)) ?_
 refine aF (by rw [ay]; have:=hsv.2.2; omega) ?_
 refine a8 (.pcells (rvc d g st x y)) rfl ?_
 refine ab (v:=.int .i64 g) rfl ?_
 refine aY (by omega) ?_
 ((refine a8 (.pcells (rvc d g st x y)) rfl ?_; refine ae (v:=rvc d g st x y) rfl (of_decide_eq_true rfl) ?_; refine a8 (HObj.pcells [.str ⟨#[]⟩,.str ⟨#[]⟩,.int .i64 0,.bool false,.int .i64 0,.sl .nil 0 [],.int .i64 0,.int .i64 0,.sl .nil 0 [],.sl .nil 0 []]) rfl ?_; refine aa rfl ?_; refine ao ?_; refine a8 (.pcells (rvc d g st x y)) rfl ?_; refine ae (v:=rvc d g st x y) rfl (of_decide_eq_true rfl) ?_; exact Has.intro (Has.intro rfl)))
theorem rsave_write (hs:smallS s) (hr:rightP s) (hg:g<1152921504606846976) {d':Rd} {er:Int} (hW:EP (EE env) 16 [.agg (rdc d),.int .i64 ((g+1) % 2:Nat),sv (W.frame (g+1) (putB s))]=some (.tup [.agg (rdc d'),.int .i64 er])) :
 EP (EE env) 17 [.agg (rvc d g st x y),.agg (stc s x' y')]=some (.tup [.agg (if er=0 then rvc d' (g+1) s x' y' else rvc d' g st x y),.int .i64 er]):=by
 have hsv:=saves_right hs hr
 refine Has.eq (aE (fn_has rfl ?_))
 refine aM [(2,.ptr 0 0),(3,.ptr 1 0),(4,.ptr 2 0)] [.pcells (rvc d g st x y),.pcells (stc s x' y'),(HObj.pcells [.str ⟨#[]⟩,.str ⟨#[]⟩,.int .i64 0,.bool false,.int .i64 0,.sl .nil 0 [],.int .i64 0,.int .i64 0,.sl .nil 0 [],.sl .nil 0 []])] (by (refine Has.intro ⟨rfl,?_,rfl⟩; (repeat (first | exact trivial | refine ⟨rfl,?_⟩)))) (fun r=>?_)
 refine aM [(2,.ptr 0 0),(3,.ptr 1 0),(4,.ptr 2 0)] [.pcells (rvc d g st x y),.pcells (stc s x' y'),(HObj.pcells [.str ⟨#[]⟩,.str ⟨#[]⟩,.int .i64 0,.bool false,.int .i64 0,.sl .nil 0 [],.int .i64 0,.int .i64 0,.sl .nil 0 [],.sl .nil 0 []])] ?_ (fun r=>?_)
 ·refine a8 (.pcells (stc s x' y')) rfl ?_
  refine ae (v:=stc s x' y') rfl (of_decide_eq_true rfl) ?_
  refine aj ((rright_ok' s x' y' hs).trans (by rw [decide_eq_true hr])) ?_
  refine a8 (.pcells (stc s x' y')) rfl ?_
  refine ae (v:=stc s x' y') rfl (of_decide_eq_true rfl) ?_
  refine aj (rput_ok s x' y' hs hr (right_400 hr)) ?_
  refine aF (by rw [ay]; have:=hsv.2.2; omega) ?_
  (refine Has.intro ⟨rfl,?_,rfl⟩; (repeat (first | exact trivial | refine ⟨rfl,?_⟩)))
 refine aM [(2,.ptr 0 0),(3,.ptr 1 0),(4,.ptr 2 0)] [.pcells (rvc d g st x y),.pcells (stc s x' y'),(HObj.pcells [.str ⟨#[]⟩,.str ⟨#[]⟩,.int .i64 0,.bool false,.int .i64 0,.sl .nil 0 [],.int .i64 0,.int .i64 0,.sl .nil 0 [],.sl .nil 0 []])] ?_ (fun r=>?_)
 ·refine a8 (.pcells (rvc d g st x y)) rfl ?_
  refine ab (v:=.int .i64 g) rfl ?_
  refine aF (by omega) ?_
  (refine Has.intro ⟨rfl,?_,rfl⟩; (repeat (first | exact trivial | refine ⟨rfl,?_⟩)))
 refine aM [(2,.ptr 0 0),(3,.ptr 1 0),(4,.ptr 2 0),(6,.ptr 3 0),(7,.pv (.int .i64 er))] [.pcells (rvc d g st x y),.pcells (stc s x' y'),(HObj.pcells [.str ⟨#[]⟩,.str ⟨#[]⟩,.int .i64 0,.bool false,.int .i64 0,.sl .nil 0 [],.int .i64 0,.int .i64 0,.sl .nil 0 [],.sl .nil 0 []]),.pcells (rdc d')] ?_ (fun r=>?_)
 ·refine a8 (.pcells (rvc d g st x y)) rfl ?_
  refine ae (v:=rdc d) rfl (of_decide_eq_true rfl) ?_
  refine a8 (.pcells (rvc d g st x y)) rfl ?_
  refine ab (v:=.int .i64 g) rfl ?_
  refine a9 ((g+1:Nat):Int) (aq (by omega)) ?_
  refine aa (by decide) ?_
  refine a9 (((g+1) % 2:Nat):Int) (by rw [Int.tmod_eq_emod_of_nonneg (by omega)]; omega) ?_
  refine a8 (.pcells (rvc d g st x y)) rfl ?_
  refine ab (v:=.int .i64 g) rfl ?_
  refine a9 ((g+1:Nat):Int) (aq (by omega)) ?_
  refine a8 (.pcells (stc s x' y')) rfl ?_
  refine ae (v:=stc s x' y') rfl (of_decide_eq_true rfl) ?_
  refine aj (rput_ok s x' y' hs hr (right_400 hr)) ?_
  refine aj (W.rput_ok (g+1) (by omega) (putB s) (by have:=hsv.2.2; omega)) ?_
  refine aj hW ?_
  refine a8 (HObj.pcells [.str ⟨#[]⟩,.str ⟨#[]⟩,.int .i64 0,.bool false,.int .i64 0,.sl .nil 0 []]) rfl ?_
  refine aa rfl ?_
  refine ao ?_
  exact Has.intro ⟨rfl,⟨rfl,rfl,rfl,rfl,rfl,trivial⟩,rfl⟩
 refine aM [(2,.ptr 0 0),(3,.ptr 1 0),(4,.ptr 2 0),(7,.pv (.int .i64 er))] [.pcells (rvc d' g st x y),.pcells (stc s x' y'),(HObj.pcells [.str ⟨#[]⟩,.str ⟨#[]⟩,.int .i64 0,.bool false,.int .i64 0,.sl .nil 0 [],.int .i64 0,.int .i64 0,.sl .nil 0 [],.sl .nil 0 []]),.pcells (rdc d')] ?_ (fun r=>?_)
 ·refine a8 (.pcells (rdc d')) rfl ?_
  refine ae (v:=rdc d') rfl (of_decide_eq_true rfl) ?_
  refine a8 (.pcells (rvc d g st x y)) rfl ?_
  refine aa rfl ?_
  refine ao ?_
  exact Has.intro ⟨rfl,⟨rfl,rfl,rfl,rfl,trivial⟩,rfl⟩
 by_cases h0:er=0
 ·subst h0
  refine aM [(2,.ptr 0 0),(4,.ptr 2 0),(7,.pv (.int .i64 0))] [.pcells (rvc d' (g+1) s x' y'),.pcells (stc s x' y'),(HObj.pcells [.str ⟨#[]⟩,.str ⟨#[]⟩,.int .i64 0,.bool false,.int .i64 0,.sl .nil 0 [],.int .i64 0,.int .i64 0,.sl .nil 0 [],.sl .nil 0 []]),.pcells (rdc d')] ?_ (fun r=>?_)
  ·refine aT rfl ?_
   refine a8 (.pcells (rvc d' g st x y)) rfl ?_
   refine ab (v:=.int .i64 g) rfl ?_
   refine a9 ((g+1:Nat):Int) (aq (by omega)) ?_
   refine a8 (.pcells (rvc d' g st x y)) rfl ?_
   refine aa rfl ?_
   refine ao ?_
   refine a8 (.pcells (stc s x' y')) rfl ?_
   refine ae (v:=stc s x' y') rfl (of_decide_eq_true rfl) ?_
   refine a8 (.pcells (rvc d' (g+1) st x y)) rfl ?_
   refine aa rfl ?_
   refine ao ?_
   exact Has.intro ⟨rfl,⟨rfl,rfl,rfl,trivial⟩,rfl⟩
  rw [if_pos rfl]
  refine a8 (.pcells (rvc d' (g+1) s x' y')) rfl ?_
  refine ae (v:=rvc d' (g+1) s x' y') rfl (of_decide_eq_true rfl) ?_
  refine a8 (HObj.pcells [.str ⟨#[]⟩,.str ⟨#[]⟩,.int .i64 0,.bool false,.int .i64 0,.sl .nil 0 [],.int .i64 0,.int .i64 0,.sl .nil 0 [],.sl .nil 0 []]) rfl ?_
  refine aa rfl ?_
  refine ao ?_
  refine a8 (.pcells (rvc d' (g+1) s x' y')) rfl ?_
  refine ae (v:=rvc d' (g+1) s x' y') rfl (of_decide_eq_true rfl) ?_
  exact Has.intro (Has.intro rfl)
 ·refine aM [(2,.ptr 0 0),(4,.ptr 2 0),(7,.pv (.int .i64 er))] [.pcells (rvc d' g st x y),.pcells (stc s x' y'),(HObj.pcells [.str ⟨#[]⟩,.str ⟨#[]⟩,.int .i64 0,.bool false,.int .i64 0,.sl .nil 0 [],.int .i64 0,.int .i64 0,.sl .nil 0 [],.sl .nil 0 []]),.pcells (rdc d')] ?_ (fun r=>?_)
  ·refine boolK_beq_f h0 ?_
   (refine Has.intro ⟨rfl,?_,rfl⟩; (repeat (first | exact trivial | refine ⟨rfl,?_⟩)))
  rw [if_neg h0]
  refine a8 (.pcells (rvc d' g st x y)) rfl ?_
  refine ae (v:=rvc d' g st x y) rfl (of_decide_eq_true rfl) ?_
  refine a8 (HObj.pcells [.str ⟨#[]⟩,.str ⟨#[]⟩,.int .i64 0,.bool false,.int .i64 0,.sl .nil 0 [],.int .i64 0,.int .i64 0,.sl .nil 0 [],.sl .nil 0 []]) rfl ?_
  refine aa rfl ?_
  refine ao ?_
  refine a8 (.pcells (rvc d' g st x y)) rfl ?_
  refine ae (v:=rvc d' g st x y) rfl (of_decide_eq_true rfl) ?_
  exact Has.intro (Has.intro rfl)
end Go.Proofs.YtflfdglnelbbiaaGreat.Di
namespace Go.Proofs.YtflfdglnelbbiaaGreat.Di
open Go Go.VM
variable {H:Heap} {D:Nat} {d:Dk} {S:Nat→List UInt8}
theorem able_down (h:DkOK H D d S) (hd:d.down=true) (i:Nat):EE env (.fn 36) [.ptr D 0,.pv (.int .i64 i)] H=some (.pv (.int .i64 26),H):=by
 obtain ⟨a,n,left,down,wr,Wv,k⟩:=d
 simp only at hd
 subst hd
 refine Has.eq (aK ?_)
 refine a8 _ h.obj ?_
 exact Has.intro rfl
theorem write_down (h:DkOK H D d S) (hd:d.down=true) (i:Nat) (x:Ext) (b:List UInt8):EE env (.fn 15) [.ptr D 0,.pv (.int .i64 i),.pv (.sl x b.length (bc b))] H=some (.pv (.int .i64 26),H):=by
 refine Has.eq (aK ?_)
 refine au (able_down h hd i) ?_
 refine boolK_bne_t (by decide) ?_
 exact Has.intro rfl
theorem write_long (h:DkOK H D d S) (hd:d.down=false) (i:Nat) (hi:i=0∨i=1) (x:Ext) (b:List UInt8) (hb:d.n<b.length):EE env (.fn 15) [.ptr D 0,.pv (.int .i64 i),.pv (.sl x b.length (bc b))] H=some (.pv (.int .i64 2),H):=by
 refine Has.eq (aK ?_)
 refine au (able_ok h hd i hi) ?_
 refine bg rfl ?_
 refine au (size_disk h) ?_
 refine aY (by omega) ?_
 exact Has.intro rfl
theorem open_down (h:DkOK H D d S) (hn:d.n=65556) (hd:d.down=true):EE env (.fn 8) [.ptr D 0] H=some (.pv (.tup [.nilp,.int .i64 26]),H):=by
 have hdd:=down_disk h
 rw [hd] at hdd
 refine Has.eq (aK ?_)
 refine au (size_disk h) ?_
 refine aj room_ok ?_
 refine aF (by omega) ?_
 refine au hdd ?_
 exact Has.intro rfl
theorem open_small (h:DkOK H D d S) (hn:d.n<65556):EE env (.fn 8) [.ptr D 0] H=some (.pv (.tup [.nilp,.int .i64 2]),H):=by
 refine Has.eq (aK ?_)
 refine au (size_disk h) ?_
 refine aj room_ok ?_
 refine aY (by omega) ?_
 exact Has.intro rfl
variable {V g:Nat} {e:Ext} {b:List UInt8} {s:St} {x y:Ext}
theorem save_no (hs:smallS s) (hr:¬ rightP s):EE env (.fn 18) [.ptr V 0,.pv (.agg (stc s x y))] H=some (.pv (.int .i64 2),H++[.pcells (stc s x y)]):=by
 refine Has.eq (aK ?_)
 refine af ?_
 refine ae (v:=stc s x y) rfl (of_decide_eq_true rfl) ?_
 refine aj (put_no s x y hs hr) ?_
 refine aT rfl ?_
 exact Has.intro rfl
theorem save_over (hv:hget H V=vobj D g e b) (hg:1152921504606846976≤g) (hs:smallS s) (hr:rightP s):EE env (.fn 18) [.ptr V 0,.pv (.agg (stc s x y))] H=some (.pv (.int .i64 15),H++[.pcells (stc s x y)]):=by
 have hsv:=saves_right hs hr
 obtain ⟨ex,hp,_⟩:=put_ok' s x y hs hr (right_400 hr)
 have hV:=ap hv ((by intro h; cases h))
 refine Has.eq (aK ?_)
 refine af ?_
 refine ae (v:=stc s x y) rfl (of_decide_eq_true rfl) ?_
 refine aj hp ?_
 refine boolK_beq_f (by have:=hsv.2.1; omega) ?_
 refine aF (by have:=hsv.2.2; omega) ?_
 refine a8 _ ((aA _ hV).trans hv) ?_
 refine aY (by omega) ?_
 exact Has.intro rfl
theorem save_down (h:DkOK H D d S) (hd:d.down=true) (hv:hget H V=vobj D g e b) (hg:g<1152921504606846976) (hs:smallS s) (hr:rightP s):EE env (.fn 18) [.ptr V 0,.pv (.agg (stc s x y))] H=some (.pv (.int .i64 26),H++[.pcells (stc s x y)]):=by
 have hsv:=saves_right hs hr
 obtain ⟨ex,hp,_⟩:=put_ok' s x y hs hr (right_400 hr)
 have hV:=ap hv ((by intro h; cases h))
 have hv1:=(aA [HObj.pcells (stc s x y)] hV).trans hv
 have hpf:=W.put_ok ((g+1:Nat):Int) ⟨by omega,by omega⟩ ex (putB s) (by have:=hsv.2.2; omega)
 refine Has.eq (aK ?_)
 refine af ?_
 refine ae (v:=stc s x y) rfl (of_decide_eq_true rfl) ?_
 refine aj hp ?_
 refine boolK_beq_f (by have:=hsv.2.1; omega) ?_
 refine aF (by have:=hsv.2.2; omega) ?_
 refine a8 _ hv1 ?_
 refine aF (by omega) ?_
 refine a8 _ hv1 ?_
 refine a8 _ hv1 ?_
 refine a9 ((g+1:Nat):Int) (aq (by omega)) ?_
 refine aj (slot_fn (g+1)) ?_
 refine a8 _ hv1 ?_
 refine a9 ((g+1:Nat):Int) (aq (by omega)) ?_
 refine aj hpf ?_
 refine au (write_down (h.more _) hd ((g+1) % 2) _ _) ?_
 refine boolK_bne_t (by decide) ?_
 exact Has.intro rfl
theorem save_none (H:Heap):EE env (.fn 18) [.pv .nilp,.pv (.agg (stc s x y))] H=some (.pv (.int .i64 1),H++[.pcells (stc s x y)]):=by
 refine Has.eq (aK ?_)
 exact Has.intro rfl
theorem gen_none (H:Heap):EE env (.fn 19) [.pv .nilp] H=some (.pv (.int .i64 0),H):=by
 refine Has.eq (aK ?_)
 exact Has.intro rfl
theorem disk_none (H:Heap):EE env (.fn 25) [.pv .nilp] H=some (.pv .nilp,H):=by
 refine Has.eq (aK ?_)
 exact Has.intro rfl
theorem state_none (H:Heap):∃ L,EE env (.fn 21) [.pv .nilp] H=some (.pv (.agg (stc s0 .nil .nil)),H++L):=by
 have main:Has (EE env (.fn 21) [.pv .nilp] H) fun u=>∃ L,u=(.pv (.agg (stc s0 .nil .nil)),H++L):=by
  refine aK ?_
  refine af ?_
  refine aa rfl ?_
  refine ao ?_
  rw [aH]
  refine af ?_
  refine ae (v:=stc s0 .nil .nil) rfl (of_decide_eq_true rfl) ?_
  exact Has.intro ⟨_,rfl⟩
 obtain ⟨u,h1,L,h2⟩:=main
 exact ⟨L,by rw [h1,h2]⟩
theorem slot_gen (n:Int):EP (EE env) 24 [.int .i64 n]=some (.int .i64 (if n>0 then n % 2 else 0)):=by
 refine Has.eq (aE ?_)
 refine ah (fun h=>?_) (fun h=>?_)
 ·rw [if_neg (by omega)]
  exact Has.intro (Has.intro rfl)
 ·refine aa (by decide) ?_
  refine a9 (if n>0 then n % 2 else 0) (by rw [Int.tmod_eq_emod_of_nonneg (by omega)]; split<;>omega) ?_
  exact Has.intro (Has.intro rfl)
end Go.Proofs.YtflfdglnelbbiaaGreat.Di
