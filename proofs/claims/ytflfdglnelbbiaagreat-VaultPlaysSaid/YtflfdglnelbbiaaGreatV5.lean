/-
  Part 5 of an abstract machine that answers as the model does.
  Every operation that calls nothing: the others, and all of them.
  Every operation that calls nothing: indices, slices, functions, built-in calls; and all of them.
  All operations that call nothing, at once.
-/
import Derived.Test.YtflfdglnelbbiaaGreatV4
set_option linter.all false
set_option linter.unusedVariables false
set_option linter.unusedSimpArgs false
set_option linter.unusedSectionVars false
namespace Go.VM
open Go
section
variable {Γ:Ctx} {base:Nat} {κ:K} {H H':Heap} {w:World} {o:Oper} {a:Act} {v:AV} {r:Regs}
theorem op_load1 (hs:SRel Γ base κ H w) (hr:RRel κ r a) {t:TypeId} {x:Operand} {y:Opd} (hy:compOpd x=some y) (ht:aggT Γ.P t=some false) (hop:o.op = .load t x)
 (he:opK (.load1 y) r H (fun v h=>some (v,h))=some (v,H')):OpOK Γ base κ H w o a v H':=by
 simp only [opK] at he
 refine RunOK.op (s:=Instr.loadAt t (a.eval x)) (by simp only [execOp,hop]) (RunOK.keep hs (x:=load1K (y.ev r) H some) ?_ fun h=>load1_rel hs (aJ hr hy) h ht)
 rw [load1K_bind]; exact he
theorem op_loadN (hs:SRel Γ base κ H w) (hr:RRel κ r a) {t:TypeId} {x:Operand} {y:Opd} (hy:compOpd x=some y) (ht:aggT Γ.P t=some true) {n:Nat} (hn:sizeT Γ.P t=some n) (hop:o.op = .load t x)
 (he:opK (.loadN n y) r H (fun v h=>some (v,h))=some (v,H')):OpOK Γ base κ H w o a v H':=by
 simp only [opK] at he
 refine RunOK.op (s:=Instr.loadAt t (a.eval x)) (by simp only [execOp,hop]) (RunOK.keep hs (x:=loadNK n (y.ev r) H some) ?_ fun h=>loadN_rel hs (aJ hr hy) h ht hn)
 rw [loadNK_bind]; exact he
theorem op_stored {t:TypeId} {x z:Operand} (hop:o.op = .store t x z) (h:∃ w',(Instr.storeAt t (a.eval x) (a.eval z)).run Γ.P w = .ok () w'∧SRel Γ base κ H' w'∧Grow κ H w κ H' w'):OpOK Γ base κ H w o a undefV H':=by
 obtain ⟨w',h1,h2,h3⟩:=h
 refine ⟨.skip,undef,κ,w',?_,.inr ⟨rfl,rfl⟩,undefV_rel _,h2,h3⟩
 simp [execOp,hop,h1]
theorem op_store1 (hs:SRel Γ base κ H w) (hr:RRel κ r a) {t:TypeId} {x z:Operand} {y u:Opd} (hy:compOpd x=some y) (hu:compOpd z=some u) (hn:sizeT Γ.P t=some 1) (hop:o.op = .store t x z)
 (he:opK (.store1 y u) r H (fun v h=>some (v,h))=some (v,H')):OpOK Γ base κ H w o a v H':=by
 simp only [opK] at he
 have e:(store1K (y.ev r) (u.ev r) H some).bind (fun h=>some (undefV,h))=some (v,H'):=by rw [store1K_bind]; exact he
 obtain ⟨p,h1,h2⟩:=bind_pair e
 injection h2 with h2 h3; subst h2; subst h3
 exact op_stored hop (store1_rel hs (aJ hr hy) (aJ hr hu) h1 hn)
theorem op_storeN (hs:SRel Γ base κ H w) (hr:RRel κ r a) {t:TypeId} {x z:Operand} {y u:Opd} {n:Nat} (hy:compOpd x=some y) (hu:compOpd z=some u) (hn:sizeT Γ.P t=some n) (hop:o.op = .store t x z)
 (he:opK (.storeN n y u) r H (fun v h=>some (v,h))=some (v,H')):OpOK Γ base κ H w o a v H':=by
 simp only [opK] at he
 have e:(storeNK n (y.ev r) (u.ev r) H some).bind (fun h=>some (undefV,h))=some (v,H'):=by rw [storeNK_bind]; exact he
 obtain ⟨p,h1,h2⟩:=bind_pair e
 injection h2 with h2 h3; subst h2; subst h3
 exact op_stored hop (storeN_rel hs (aJ hr hy) (aJ hr hu) h1 hn)
theorem op_nilCheck (hs:SRel Γ base κ H w) (hr:RRel κ r a) {x:Operand} {y:Opd} (hy:compOpd x=some y) (hop:o.op = .nilCheck x)
 (he:opK (.nilCheck y) r H (fun v h=>some (v,h))=some (v,H')):OpOK Γ base κ H w o a v H':=by
 simp only [opK] at he
 have hv:=aJ hr hy
 split at he
 ·rename_i id off hy2
  rw [hy2] at hv
  injection he with he; injection he with e1 e2; subst e1; subst e2
  obtain ⟨p,hp⟩:=ptr_val hv
  exact OpOK.same hs (v':=a.eval x) (by simp [execOp,hop,hp]) hv
 ·rename_i cs off hy2
  rw [hy2] at hv
  injection he with he; injection he with e1 e2; subst e1; subst e2
  obtain ⟨p,hp⟩:=rptr_val hv
  exact OpOK.same hs (v':=a.eval x) (by simp [execOp,hop,hp]) hv
 ·cases he
theorem op_binOf (hs:SRel Γ base κ H w) (hr:RRel κ r a) {op:BinOp} {t u:TypeId} {x z:Operand} {y q:Opd} {k:BK} (hop:o.op = .binOp op t x z u)
 (he:opK (.bin k op y q) r H (fun v h=>some (v,h))=some (v,H'))
 (h:∀ p,binK k op (y.ev r) (q.ev r) (fun p=>some (AV.pv p))=some p→∃ v',(do eqGuard op t x z (a.eval x) (a.eval z); binOp op t (a.eval x) (a.eval z):Sem Value).run Γ.P w = .ok v' w∧VRel κ p v'):OpOK Γ base κ H w o a v H':=by
 simp only [opK] at he
 refine RunOK.op (s:=do eqGuard op t x z (a.eval x) (a.eval z); binOp op t (a.eval x) (a.eval z)) (by simp only [execOp,hop]) (RunOK.keep hs (x:=binK k op (y.ev r) (q.ev r) fun p=>some (AV.pv p)) ?_ fun h'=>h v h')
 rw [binK_bind]; exact he
theorem op_binNum (hs:SRel Γ base κ H w) (hr:RRel κ r a) {op:BinOp} {t u:TypeId} {x z:Operand} {y q:Opd} (hy:compOpd x=some y) (hq:compOpd z=some q) (hop:o.op = .binOp op t x z u)
 (he:opK (.bin .num op y q) r H (fun v h=>some (v,h))=some (v,H')):OpOK Γ base κ H w o a v H':=by
 refine op_binOf hs hr hop he fun p hp=>?_
 have h1:=aJ hr hy
 have h2:=aJ hr hq
 simp only [binK] at hp
 split at hp
 ·rename_i k m hm
  split at hp
  ·rename_i k' n hn
   rw [hm] at h1; rw [hn] at h2
   rw [bm h1,bm h2]
   have hg:=eqGuard_plain (Γ:=Γ) (w:=w) (va:=.int k m) (vb:=.int k' n) (by simp) (by simp) op t x z
   cases hsh:isShift op with
   | true=>
     rw [hsh] at hp; simp only [cond_true] at hp
     obtain ⟨v',g1,g2⟩:=shift_rel (Γ:=Γ) (w:=w) (κ:=κ) (k':=k') hp t
     exact ⟨v',by simp [hg,g1],g2⟩
   | false=>
     rw [hsh] at hp; simp only [cond_false] at hp
     cases hk:kindEq k k' with
     | false=>rw [hk] at hp; cases hp
     | true=>
       rw [hk] at hp; simp only [cond_true] at hp
       have:=kindEq_eq hk
       subst this
       obtain ⟨v',g1,g2⟩:=intBin_rel (Γ:=Γ) (w:=w) (κ:=κ) hsh hp t
       exact ⟨v',by simp [hg,g1],g2⟩
  ·cases hp
 ·rename_i s hm
  split at hp
  ·rename_i s2 hn
   rw [hm] at h1; rw [hn] at h2
   rw [str_rel h1,str_rel h2]
   have hg:=eqGuard_plain (Γ:=Γ) (w:=w) (va:=.string s) (vb:=.string s2) (by simp) (by simp) op t x z
   obtain ⟨v',g1,g2⟩:=strBin_rel (Γ:=Γ) (w:=w) (κ:=κ) hp t
   exact ⟨v',by simp [hg,g1],g2⟩
  ·cases hp
 ·cases hp
theorem op_binBool (hs:SRel Γ base κ H w) (hr:RRel κ r a) {op:BinOp} {t u:TypeId} {x z:Operand} {y q:Opd} (hy:compOpd x=some y) (hq:compOpd z=some q) (ht:Γ.P.underlying t=some .bool) (hop:o.op = .binOp op t x z u)
 (he:opK (.bin .bool op y q) r H (fun v h=>some (v,h))=some (v,H')):OpOK Γ base κ H w o a v H':=by
 refine op_binOf hs hr hop he fun p hp=>?_
 have h1:=aJ hr hy
 have h2:=aJ hr hq
 simp only [binK] at hp
 split at hp
 ·rename_i m hm
  split at hp
  ·rename_i n hn
   rw [hm] at h1; rw [hn] at h2
   rw [bool_rel h1,bool_rel h2]
   have hg:=eqGuard_plain (Γ:=Γ) (w:=w) (va:=.bool m) (vb:=.bool n) (by simp) (by simp) op t x z
   obtain ⟨v',g1,g2⟩:=boolBin_rel (Γ:=Γ) (w:=w) (κ:=κ) hp ht
   exact ⟨v',by simp [hg,g1],g2⟩
  ·cases hp
 ·cases hp
theorem op_binAgg (hs:SRel Γ base κ H w) (hr:RRel κ r a) {op:BinOp} {t u:TypeId} {x z:Operand} {y q:Opd} (hy:compOpd x=some y) (hq:compOpd z=some q) {sh:List SK} (hsh:shapeT Γ.P 20 t=some sh) (ha:aggT Γ.P t=some true)
 (hgd:Γ.P.eqGuardType Γ.P.depth t=false) (hop:o.op = .binOp op t x z u)
 (he:opK (.bin (.agg sh) op y q) r H (fun v h=>some (v,h))=some (v,H')):OpOK Γ base κ H w o a v H':=by
 refine op_binOf hs hr hop he fun p hp=>?_
 have h1:=aJ hr hy
 have h2:=aJ hr hq
 simp only [binK] at hp
 split at hp
 ·rename_i as hm
  split at hp
  ·rename_i bs hn
   rw [hm] at h1; rw [hn] at h2
   have key:∀ c,aggEq sh as bs=some c→(Op.equal t (a.eval x) (a.eval z)).run Γ.P w = .ok c w ∧ ∃ xs ys,a.eval x = .agg xs∧a.eval z = .agg ys:=by
    intro c hc
    generalize a.eval x=vx at h1
    generalize a.eval z=vy at h2
    cases h1 with
    | pv _ _ h1=>cases h1 with
      | agg _ us g1 g2=>cases h2 with
        | pv _ _ h2=>cases h2 with
          | agg _ us2 g3 g4=>
            have:=(shapeT_ok (I:=κ.imm) 20 t sh hsh (9999+1) (by omega)).1 w as bs us us2 (.agg us.toArray) (.agg us2.toArray) c g1 g3 hc (.inl ⟨ha,rfl⟩) (.inl ⟨ha,rfl⟩)
            exact ⟨by rw [equal_once]; exact this,_,_,rfl,rfl⟩
   cases hc:aggEq sh as bs with
   | none=>
     split at hp
     ·rw [bindK_def,hc] at hp; cases hp
     ·rw [bindK_def,hc] at hp; cases hp
     ·cases hp
   | some c=>
     obtain ⟨k1,xs,ys,k2,k3⟩:=key c hc
     have hg:(eqGuard op t x z (a.eval x) (a.eval z)).run Γ.P w = .ok () w:=by
      rw [k2,k3]
      simp only [eqGuard]
      split<;>simp [hgd]
     rw [k2,k3] at k1 hg ⊢
     split at hp
     ·rw [bindK_def,hc] at hp
      simp only [Option.bind_some,boolK_def] at hp
      injection hp with hp; subst hp
      exact ⟨.bool c,by simp only [Sem.run_bind,hg,Result.andThen_ok]; simp [binOp,k1],.pv _ _ (.bool _)⟩
     ·rw [bindK_def,hc] at hp
      simp only [Option.bind_some,boolK_def] at hp
      injection hp with hp; subst hp
      exact ⟨.bool !c,by simp only [Sem.run_bind,hg,Result.andThen_ok]; simp [binOp,k1],.pv _ _ (.bool _)⟩
     ·cases hp
  ·cases hp
 ·cases hp
theorem op_binNil (hs:SRel Γ base κ H w) (hr:RRel κ r a) {op:BinOp} {t u:TypeId} {x z:Operand} {y q:Opd} (hy:compOpd x=some y) (hq:compOpd z=some q) {k:BK}
 (ht:(k = .ptr→∃ e j,Γ.P.underlying t=some (.pointer e)∧Γ.P.info? e=some j)∧(k = .sl→∃ e,Γ.P.underlying t=some (.slice e))∧(k = .map→∃ e f,Γ.P.underlying t=some (.map e f))∧(k = .fn→∃ e f g,Γ.P.underlying t=some (.func e f g)))
 (hk:k = .ptr∨k = .sl∨k = .map∨k = .fn) (hop:o.op = .binOp op t x z u)
 (he:opK (.bin k op y q) r H (fun v h=>some (v,h))=some (v,H')):OpOK Γ base κ H w o a v H':=by
 refine op_binOf hs hr hop he fun p hp=>?_
 have h1:=aJ hr hy
 have h2:=aJ hr hq
 have hp:nilBinK k op (y.ev r) (q.ev r) (fun p=>some (AV.pv p))=some p:=by rcases hk with rfl | rfl | rfl | rfl<;>exact hp
 unfold nilBinK at hp
 split at hp
 ·cases hc:nilEq k (y.ev r) (q.ev r) with
  | none=>rw [hc] at hp; cases hp
  | some c=>
    rw [hc] at hp; simp only at hp
    injection hp with hp; subst hp
    obtain ⟨g1,g2,g3⟩:=nilEq_rel (Γ:=Γ) (w:=w) h1 h2 hc ht
    exact ⟨.bool c,by simp only [Sem.run_bind,g2,Result.andThen_ok,g3 .eql (.inl rfl)]; simp [g1],.pv _ _ (.bool _)⟩
 ·cases hc:nilEq k (y.ev r) (q.ev r) with
  | none=>rw [hc] at hp; cases hp
  | some c=>
    rw [hc] at hp; simp only at hp
    injection hp with hp; subst hp
    obtain ⟨g1,g2,g3⟩:=nilEq_rel (Γ:=Γ) (w:=w) h1 h2 hc ht
    exact ⟨.bool !c,by simp only [Sem.run_bind,g2,Result.andThen_ok,g3 .neq (.inr rfl)]; simp [g1],.pv _ _ (.bool _)⟩
 ·cases hp
theorem op_un (hs:SRel Γ base κ H w) (hr:RRel κ r a) {op:UnOp} {t:TypeId} {x:Operand} {y:Opd} (hy:compOpd x=some y) (hop:o.op = .unOp op t x)
 (he:opK (.un op y) r H (fun v h=>some (v,h))=some (v,H')):OpOK Γ base κ H w o a v H':=by
 simp only [opK] at he
 have h1:=aJ hr hy
 refine RunOK.op (s:=Op.unary op (a.eval x)) (by simp only [execOp,hop]) (RunOK.keep hs (x:=unK op (y.ev r) fun p=>some (AV.pv p)) ?_ fun h=>?_)
 ·rw [unK_bind]; exact he
 ·unfold unK at h
  split at h
  ·rename_i hm
   rw [hm] at h1; rw [bm h1]
   rw [bh] at h
   injection h with h; subst h
   exact ⟨_,by simp [Op.unary,Op.intArith],.pv _ _ (.int _ _)⟩
  ·rename_i hm
   rw [hm] at h1; rw [bm h1]
   rw [bh] at h
   injection h with h; subst h
   exact ⟨_,by simp [Op.unary,Op.intBits],.pv _ _ (.int _ _)⟩
  ·rename_i hm
   rw [hm] at h1; rw [bool_rel h1]
   injection h with h; subst h
   exact ⟨_,by simp [Op.unary],.pv _ _ (.bool _)⟩
  ·cases h
theorem op_conv (hs:SRel Γ base κ H w) (hr:RRel κ r a) {s d:TypeId} {x:Operand} {y:Opd} (hy:compOpd x=some y) {ks k:IntKind} (hsrc:Γ.P.underlying s=some (.int ks)) (hd:Γ.P.underlying d=some (.int k)) (hop:o.op = .convert s d x)
 (he:opK (.conv k y) r H (fun v h=>some (v,h))=some (v,H')):OpOK Γ base κ H w o a v H':=by
 simp only [opK] at he
 have h1:=aJ hr hy
 split at he
 ·rename_i k' n hm
  rw [hm] at h1
  rw [bh] at he
  injection he with he; injection he with e1 e2; subst e1; subst e2
  refine RunOK.op (s:=convert s d (a.eval x)) (by simp only [execOp,hop]) (RunOK.same hs ⟨.int k (k.wrap n),?_,.pv _ _ (.int _ _)⟩)
  rw [bm h1]
  simp [convert,run_underlying hsrc,run_underlying hd,Conv.intToInt]
 ·cases he
theorem op_ident (hs:SRel Γ base κ H w) (hr:RRel κ r a) {s d:TypeId} {x:Operand} {y:Opd} (hy:compOpd x=some y) (hsrc:Γ.P.underlying s=some .string) (hd:Γ.P.underlying d=some .string) (hop:o.op = .convert s d x)
 (he:opK (.ident y) r H (fun v h=>some (v,h))=some (v,H')):OpOK Γ base κ H w o a v H':=by
 simp only [opK] at he
 have h1:=aJ hr hy
 split at he
 ·rename_i b hm
  rw [hm] at h1
  injection he with he; injection he with e1 e2; subst e1; subst e2
  refine RunOK.op (s:=convert s d (a.eval x)) (by simp only [execOp,hop]) (RunOK.same hs ⟨.string b,?_,.pv _ _ (.str _)⟩)
  rw [str_rel h1]
  simp [convert,run_underlying hsrc,run_underlying hd]
 ·cases he
theorem op_bytesOf (hs:SRel Γ base κ H w) (hr:RRel κ r a) {s d e:TypeId} {x:Operand} {y:Opd} (hy:compOpd x=some y) (hsrc:Γ.P.underlying s=some .string) (hd:Γ.P.underlying d=some (.slice e)) (hde:Γ.P.underlying e=some (.int .u8)) (hop:o.op = .convert s d x)
 (he:opK (.bytesOf y) r H (fun v h=>some (v,h))=some (v,H')):OpOK Γ base κ H w o a v H':=by
 simp only [opK] at he
 have h1:=aJ hr hy
 split at he
 ·rename_i b hm
  rw [hm] at h1
  rw [bh] at he
  injection he with he; injection he with e1 e2; subst e1; subst e2
  refine RunOK.op (s:=convert s d (a.eval x)) (by simp only [execOp,hop]) ?_
  rw [str_rel h1]
  obtain ⟨v',κ',w',g1,g2,g3,g4⟩:=bytesOf_rel hs e b
  exact ⟨v',κ',w',by simp [convert,run_underlying hsrc,run_underlying hd,run_underlying hde,g1],g2,g3,g4⟩
 ·cases he
theorem op_settle (hs:SRel Γ base κ H w) (hr:RRel κ r a) {x:Operand} {y:Opd} (hy:compOpd x=some y) (hop:execOp a.eval o=pure (.value (a.eval x))) (he:opK (.settle y) r H (fun v h=>some (v,h))=some (v,H')) :
 OpOK Γ base κ H w o a v H':=by
 simp only [opK] at he
 have h1:=aJ hr hy
 split at he
 ·rename_i p hm
  injection he with he; injection he with e1 e2; subst e1; subst e2
  exact OpOK.same hs (by rw [hop]; rfl) (by rw [←hm]; exact h1)
 ·rename_i n t cs hm
  injection he with he; injection he with e1 e2; subst e1; subst e2
  exact OpOK.same hs (by rw [hop]; rfl) (.pv _ _ (tsl_plain (by rw [hm] at h1; exact h1)))
 ·rename_i es id off n cap hm
  rw [hm] at h1
  generalize hev:a.eval x=vx at h1
  cases h1 with
  | hs _ _ _ _ _ k cap' hl h2 h3=>
    rw [bf] at he
    split at he
    ·rename_i cs hg
     rw [secK_def] at he
     cases hc:Nat.ble (off+mulE n es) cs.length with
     | false=>rw [hc] at he; cases he
     | true=>
       rw [hc] at he; simp only [cond_true] at he
       injection he with he; injection he with e1 e2; subst e1; subst e2
       obtain ⟨c,rest,e0,hw,hrel,hones,g1,g2,g3⟩:=hs.retire' hl hg
       refine RunOK.op (s:=pure (a.eval x)) (by rw [hop]; rfl) ⟨.slice (some ⟨k,off,none⟩) n cap',_,_,by rw [hev]; rfl,
        .pv _ _ (.sl .nn n _ ⟨k,off,none⟩ cap' ((c.drop off).take (mulE n es)) (by simp) (by simp) (by omega) (((hrel.drop off).take _).mono (κ.le_keep _ _ _).imm) (fun j v hj=>?_) ((hones.drop _).take _)),g1,g2⟩
       rw [bb]
       rw [List.getElem?_take] at hj
       split at hj
       ·rw [List.getElem?_drop] at hj
        exact g3 _ _ hj
       ·cases hj
    ·cases he
 ·cases he
theorem op_freeze (hs:SRel Γ base κ H w) (hr:RRel κ r a) {s d e' e:TypeId} {x:Operand} {y:Opd} (hy:compOpd x=some y) (hsrc:Γ.P.underlying s=some (.slice e')) (hd:Γ.P.underlying d=some (.slice e)) (hde:Γ.P.underlying e=some (.int .u8)) (hsd:s=d) (hop:o.op = .convert s d x)
 (he:opK (.freeze y) r H (fun v h=>some (v,h))=some (v,H')):OpOK Γ base κ H w o a v H':=by
 simp only [opK] at he
 have h1:=aJ hr hy
 split at he
 ·rename_i es id off n cap hm
  rw [hm] at h1
  generalize hev:a.eval x=vx at h1
  cases h1 with
  | hs _ _ _ _ _ k cap' hl h2 h3=>
    rw [bf] at he
    split at he
    ·rename_i cs hg
     have hq:=aZ he
     clear he
     obtain ⟨hc,he⟩:=hq
     rw [Bool.and_eq_true] at hc
     have h0:=Nat.eq_of_beq_eq_true hc.1
     subst h0
     injection he with he; injection he with e1 e2; subst e1; subst e2
     obtain ⟨c,rest,e0,hw,hrel,hones,g1,g2,g3⟩:=hs.retire hl hg
     refine RunOK.op (s:=convert s d (a.eval x)) (by simp only [execOp,hop]) ?_
     rw [hev]
     have hsh:w.shape? (⟨k,0,none⟩:Addr).block=some (e0,(c++rest).length):=by
      unfold World.shape?
      rw [hw]
      simp
     have hrun:=run_markStringish Γ.P w ⟨k,0,none⟩ hsh
     refine ⟨.slice (some ⟨k,0,none⟩) n cap',_,_,?_,.pv _ _ (.sl .nn n cs ⟨k,0,none⟩ cap' c (by simp) (by simp) (by omega) (hrel.mono (κ.le_keep _ _ _).imm) (fun j v hj=>?_) hones),g1,g2⟩
     ·subst hsd
      have hee:e'=e:=by rw [hsrc] at hd; injection hd with hd; injection hd
      subst hee
      simp [-bind_pure_comp,convert,run_underlying hsrc,run_underlying hde,hrun]
     ·rw [addr_add_lit]; exact g3 j v hj
    ·cases he
 ·cases he
theorem op_strOf (hs:SRel Γ base κ H w) (hr:RRel κ r a) {s d e:TypeId} {x:Operand} {y:Opd} (hy:compOpd x=some y) (hsrc:Γ.P.underlying s=some (.slice e)) (hd:Γ.P.underlying d=some .string) (hde:Γ.P.underlying e=some (.int .u8)) (hop:o.op = .convert s d x)
 (he:opK (.strOf y) r H (fun v h=>some (v,h))=some (v,H')):OpOK Γ base κ H w o a v H':=by
 simp only [opK] at he
 have h1:=aJ hr hy
 split at he
 ·cases he
 ·rename_i hns
  cases hn:srcLen (y.ev r) with
  | none=>rw [hn] at he; cases he
  | some n=>
    rw [hn] at he; simp only at he
    refine RunOK.op (s:=convert s d (a.eval x)) (by simp only [execOp,hop]) (RunOK.keep hs (x:=srcK H (y.ev r) fun cs=>needK (Nat.beq cs.length n) (bindK (strOfCells cs) fun l=>some (AV.pv (.str ⟨l.toArray⟩)))) ?_ fun h=>?_)
    ·rw [srcK_bind]; simp only [aN,bindK_bind]; exact he
    ·have hq:=srcK_inv hs h1 hn h
     obtain ⟨new,news,_,hsrc',_⟩:=hq
     obtain ⟨v',g1,g2⟩:=strOf_rel hs h1 (fun s hs'=>hns s hs') hn h
     refine ⟨v',?_,g2⟩
     rcases hsrc'.form with ⟨b,hb,_,_⟩ | ⟨hb,_,_⟩ | ⟨p,c,hb,_⟩
     ·exfalso
      rw [hb] at h1
      generalize y.ev r=u at h1 hns
      cases h1 with | pv p _ hp=>cases hp with | str s=>exact hns _ rfl
     ·rw [hb] at g1 ⊢
      simpa [convert,run_underlying hsrc,run_underlying hd,run_underlying hde] using g1
     ·rw [hb] at g1 ⊢
      simpa [convert,run_underlying hsrc,run_underlying hd,run_underlying hde] using g1
theorem op_strOfP (hs:SRel Γ base κ H w) (hr:RRel κ r a) {s d e:TypeId} {x:Operand} {y:Opd} (hy:compOpd x=some y) (hsrc:Γ.P.underlying s=some (.slice e)) (hd:Γ.P.underlying d=some .string) (hde:Γ.P.underlying e=some (.int .u8)) (hop:o.op = .convert s d x)
 (he:opK (.strOfP y) r H (fun v h=>some (v,h))=some (v,H')):OpOK Γ base κ H w o a v H':=by
 refine op_strOf hs hr hy hsrc hd hde hop ?_
 simp only [opK] at he ⊢
 split at he
 ·rename_i h; rw [h]; exact he
 ·rename_i h; rw [h]; exact he
 ·cases he
theorem op_fieldAddr (hs:SRel Γ base κ H w) (hr:RRel κ r a) {t:TypeId} {x:Operand} {y:Opd} (hy:compOpd x=some y) {fs:Array Field} (ht:Γ.P.underlying t=some (.struct fs)) {i:Nat} {f:Field} (hf:fs.toList[i]? = some f)
 {n:Nat} (hn:sizeT Γ.P f.type=some n) (hn0:Nat.beq n 0=false) (hop:o.op = .fieldAddr t x i)
 (he:opK (.fieldAddr f.offset y) r H (fun v h=>some (v,h))=some (v,H')):OpOK Γ base κ H w o a v H':=by
 simp only [opK,addO_eq] at he
 have h1:=aJ hr hy
 have hf':fs[i]? = some f:=by rw [←Array.getElem?_toList]; exact hf
 have hz:n≠0:=fun e=>by subst e; simp at hn0
 have hrun:∀ ad:Addr,a.eval x = .pointer (some ad)→(Instr.fieldAt t (a.eval x) i).run Γ.P w = .ok (.pointer (some (ad.add f.offset))) w:=by
  intro ad e
  rw [e]
  simp [Instr.fieldAt,run_underlying ht,hf',Instr.sureAddr,fieldPlace,bd hn,hz]
 split at he
 ·rename_i id off hm
  rw [hm] at h1
  injection he with he; injection he with e1 e2; subst e1; subst e2
  refine RunOK.op (s:=Instr.fieldAt t (a.eval x) i) (by simp only [execOp,hop]) (RunOK.same hs ?_)
  generalize a.eval x=vx at h1 hrun
  cases h1 with
  | ptr _ _ k hl=>exact ⟨_,hrun _ rfl,by rw [bb]; exact .ptr _ _ _ hl⟩
 ·rename_i cs off hm
  rw [hm] at h1
  injection he with he; injection he with e1 e2; subst e1; subst e2
  refine RunOK.op (s:=Instr.fieldAt t (a.eval x) i) (by simp only [execOp,hop]) (RunOK.same hs ?_)
  generalize a.eval x=vx at h1 hrun
  cases h1 with
  | rptr _ _ ad vs g1 g2 g3=>exact ⟨_,hrun _ rfl,by rw [addr_add_add]; exact .rptr _ _ _ vs g1 g2 g3⟩
 ·cases he
theorem run_part1 {t:TypeId} (ht:aggT Γ.P t=some false) {cs:List Value} {off:Nat} {u:Value} (h:cs[off]? = some u):(part t cs.toArray off).run Γ.P w = .ok u w:=by
 simp [part,run_isAgg' ht,h]
theorem run_partN {t:TypeId} (ht:aggT Γ.P t=some true) {cs:List Value} {off n:Nat} (hn:sizeT Γ.P t=some n):(part t cs.toArray off).run Γ.P w = .ok (.agg ((cs.drop off).take n).toArray) w:=by
 simp [part,run_isAgg' ht,bd hn]
theorem op_field1 (hs:SRel Γ base κ H w) (hr:RRel κ r a) {t:TypeId} {x:Operand} {y:Opd} (hy:compOpd x=some y) {fs:Array Field} (ht:Γ.P.underlying t=some (.struct fs)) {i:Nat} {f:Field} (hf:fs.toList[i]? = some f)
 (hg:aggT Γ.P f.type=some false) (hop:o.op = .field t x i)
 (he:opK (.field1 f.offset y) r H (fun v h=>some (v,h))=some (v,H')):OpOK Γ base κ H w o a v H':=by
 simp only [opK] at he
 have h1:=aJ hr hy
 have hf':fs[i]? = some f:=by rw [←Array.getElem?_toList]; exact hf
 have hrun:∀ (cs:List Value) u,a.eval x = .agg cs.toArray→cs[f.offset]? = some u→(Instr.field t (a.eval x) i).run Γ.P w = .ok u w:=by
  intro cs u e hu
  rw [e]
  simp only [Instr.field,Sem.run_bind,run_underlying ht,Result.andThen_ok,hf',asAgg,Sem.run_pure]
  exact run_part1 hg hu
 refine RunOK.op (s:=Instr.field t (a.eval x) i) (by simp only [execOp,hop]) ?_
 generalize a.eval x=vx at h1 hrun
 split at he
 ·rename_i cs hm
  rw [hm] at h1
  rw [getK_def] at he
  obtain ⟨p,hp,he⟩:=as_some he
  injection he with he; injection he with e1 e2; subst e1; subst e2
  cases h1 with
  | pv _ _ h1=>cases h1 with
    | agg _ us g1 g2=>
      obtain ⟨u,hu,hr'⟩:=g1.get hp
      exact RunOK.same hs ⟨u,hrun us u rfl hu,.pv _ _ hr'⟩
 ·rename_i cs hm
  rw [hm] at h1
  cases hp:lget cs f.offset with
  | none=>rw [hp] at he; cases he
  | some p=>
    rw [hp] at he; simp only at he
    injection he with he; injection he with e1 e2; subst e1; subst e2
    cases h1 with
    | agg _ us g1 g2=>
      obtain ⟨u,hu,hr'⟩:=g1.get hp
      exact RunOK.same hs ⟨u,hrun us u rfl hu,hr'⟩
 ·cases he
theorem op_fieldN (hs:SRel Γ base κ H w) (hr:RRel κ r a) {t:TypeId} {x:Operand} {y:Opd} (hy:compOpd x=some y) {fs:Array Field} (ht:Γ.P.underlying t=some (.struct fs)) {i:Nat} {f:Field} (hf:fs.toList[i]? = some f)
 {n:Nat} (hn:sizeT Γ.P f.type=some n) (hg:aggT Γ.P f.type=some true) (hop:o.op = .field t x i)
 (he:opK (.fieldN f.offset n y) r H (fun v h=>some (v,h))=some (v,H')):OpOK Γ base κ H w o a v H':=by
 simp only [opK] at he
 have h1:=aJ hr hy
 have hf':fs[i]? = some f:=by rw [←Array.getElem?_toList]; exact hf
 have hrun:∀ (cs:List Value),a.eval x = .agg cs.toArray→(Instr.field t (a.eval x) i).run Γ.P w = .ok (.agg ((cs.drop f.offset).take n).toArray) w:=by
  intro cs e
  rw [e]
  simp only [Instr.field,Sem.run_bind,run_underlying ht,Result.andThen_ok,hf',asAgg,Sem.run_pure]
  exact run_partN hg hn
 refine RunOK.op (s:=Instr.field t (a.eval x) i) (by simp only [execOp,hop]) ?_
 generalize a.eval x=vx at h1 hrun
 split at he
 ·rename_i cs hm
  rw [hm] at h1
  rw [secK_def] at he
  cases hb:Nat.ble (f.offset+n) cs.length with
  | false=>rw [hb] at he; cases he
  | true=>
    rw [hb] at he; simp only [cond_true] at he
    injection he with he; injection he with e1 e2; subst e1; subst e2
    cases h1 with
    | pv _ _ h1=>cases h1 with
      | agg _ us g1 g2=>exact RunOK.same hs ⟨_,hrun us rfl,.pv _ _ (.agg _ _ ((g1.drop _).take _) ((g2.drop _).take _))⟩
 ·rename_i cs hm
  rw [hm] at h1
  cases hb:Nat.ble (f.offset+n) cs.length with
  | false=>rw [hb] at he; cases he
  | true=>
    rw [hb] at he; simp only [cond_true] at he
    injection he with he; injection he with e1 e2; subst e1; subst e2
    cases h1 with
    | agg _ us g1 g2=>exact RunOK.same hs ⟨_,hrun us rfl,mkAgg_rel ((g1.drop _).take _) ((g2.drop _).take _)⟩
 ·cases he
end
end Go.VM
namespace Go.VM
open Go
section
variable {Γ:Ctx} {base:Nat} {κ:K} {H H':Heap} {w:World} {o:Oper} {a:Act} {v:AV} {r:Regs}
theorem run_indexAt_arr {t e:TypeId} {len n:Nat} (ht:Γ.P.underlying t=some (.array len e)) (hn:sizeT Γ.P e=some n) {p:Addr} {k:IntKind} {j:Int} (h0:0≤j) (h1:j<(len:Int)) :
 (Instr.indexAt t (.pointer (some p)) (.int k j)).run Γ.P w = .ok (.pointer (some (p.add (j.toNat*n)))) w:=by
 simp [Instr.indexAt,asIntOf,run_underlying ht,Instr.sureAddr,h0,h1,bd hn]
theorem run_indexAt_sl {t e:TypeId} {len cap n:Nat} (ht:Γ.P.underlying t=some (.slice e)) (hn:sizeT Γ.P e=some n) {p:Addr} {k:IntKind} {j:Int} (h0:0≤j) (h1:j<(len:Int)) :
 (Instr.indexAt t (.slice (some p) len cap) (.int k j)).run Γ.P w = .ok (.pointer (some (p.add (j.toNat*n)))) w:=by
 simp [Instr.indexAt,asIntOf,run_underlying ht,h0,h1,bd hn]
theorem op_idxAddrA (hs:SRel Γ base κ H w) (hr:RRel κ r a) {t e:TypeId} {x z:Operand} {y q:Opd} (hy:compOpd x=some y) (hq:compOpd z=some q) {len n:Nat} (ht:Γ.P.underlying t=some (.array len e)) (hn:sizeT Γ.P e=some n) (hop:o.op = .indexAddr t x z)
 (he:opK (.idxAddrA len n y q) r H (fun v h=>some (v,h))=some (v,H')):OpOK Γ base κ H w o a v H':=by
 simp only [opK] at he
 have h1:=aJ hr hy
 have h2:=aJ hr hq
 refine RunOK.op (s:=Instr.indexAt t (a.eval x) (a.eval z)) (by simp only [execOp,hop]) ?_
 generalize a.eval x=vx at h1
 split at he
 ·rename_i id off hm
  rw [hm] at h1
  obtain ⟨k,j,hj,g0,g1,he⟩:=idxK_inv he
  rw [hj] at h2; rw [bm h2]
  simp only [addO_eq,aG] at he
  injection he with he; injection he with e1 e2; subst e1; subst e2
  cases h1 with
  | ptr _ _ b hl=>exact RunOK.same hs ⟨_,run_indexAt_arr ht hn g0 g1,by rw [bb]; exact .ptr _ _ _ hl⟩
 ·rename_i cs off hm
  rw [hm] at h1
  obtain ⟨k,j,hj,g0,g1,he⟩:=idxK_inv he
  rw [hj] at h2; rw [bm h2]
  simp only [addO_eq,aG] at he
  injection he with he; injection he with e1 e2; subst e1; subst e2
  cases h1 with
  | rptr _ _ ad vs k1 k2 k3=>exact RunOK.same hs ⟨_,run_indexAt_arr ht hn g0 g1,by rw [addr_add_add]; exact .rptr _ _ _ vs k1 k2 k3⟩
 ·cases he
theorem op_idxAddrS (hs:SRel Γ base κ H w) (hr:RRel κ r a) {t e:TypeId} {x z:Operand} {y q:Opd} (hy:compOpd x=some y) (hq:compOpd z=some q) {n:Nat} (ht:Γ.P.underlying t=some (.slice e)) (hn:sizeT Γ.P e=some n) (hop:o.op = .indexAddr t x z)
 (he:opK (.idxAddrS n y q) r H (fun v h=>some (v,h))=some (v,H')):OpOK Γ base κ H w o a v H':=by
 simp only [opK] at he
 have h1:=aJ hr hy
 have h2:=aJ hr hq
 refine RunOK.op (s:=Instr.indexAt t (a.eval x) (a.eval z)) (by simp only [execOp,hop]) ?_
 generalize a.eval x=vx at h1
 unfold idxAddrSK at he
 split at he
 ·rename_i ex m cs hm
  rw [hm] at h1
  obtain ⟨k,j,hj,g0,g1,he⟩:=idxK_inv he
  rw [hj] at h2; rw [bm h2]
  simp only [aG] at he
  injection he with he; injection he with e1 e2; subst e1; subst e2
  cases h1 with
  | pv _ _ h1=>cases h1 with
    | slNil=>omega
    | sl _ _ _ ad cap vs k1 k2 k3 k4 k5 k6=>exact RunOK.same hs ⟨_,run_indexAt_sl ht hn g0 g1,.rptr _ _ _ vs k4 k5 k6⟩
 ·rename_i tk m cs hm
  rw [hm] at h1
  obtain ⟨k,j,hj,g0,g1,he⟩:=idxK_inv he
  rw [hj] at h2; rw [bm h2]
  simp only [aG] at he
  injection he with he; injection he with e1 e2; subst e1; subst e2
  cases h1 with
  | tsl _ _ _ b cap vs k1 k2 k3 k4 k5=>exact RunOK.same hs ⟨_,run_indexAt_sl ht hn g0 g1,.rptr _ _ ⟨b,0,none⟩ vs k3 (fun j v hj=>by rw [addr_add_lit]; exact k4 j v hj) k5⟩
 ·rename_i es id off m cap hm
  rw [hm] at h1
  obtain ⟨k,j,hj,g0,g1,he⟩:=idxK_inv he
  rw [hj] at h2; rw [bm h2]
  simp only [addO_eq,aG] at he
  injection he with he; injection he with e1 e2; subst e1; subst e2
  cases h1 with
  | hs _ _ _ _ _ b cap' k1 k2 k3=>exact RunOK.same hs ⟨_,run_indexAt_sl ht hn g0 g1,by rw [bb]; exact .ptr _ _ _ k1⟩
 ·cases he
theorem op_idxA1 (hs:SRel Γ base κ H w) (hr:RRel κ r a) {t e:TypeId} {x z:Operand} {y q:Opd} (hy:compOpd x=some y) (hq:compOpd z=some q) {len:Nat} (ht:Γ.P.underlying t=some (.array len e)) (hn:sizeT Γ.P e=some 1) (hg:aggT Γ.P e=some false) (hop:o.op = .index t x z)
 (he:opK (.idxA1 len y q) r H (fun v h=>some (v,h))=some (v,H')):OpOK Γ base κ H w o a v H':=by
 simp only [opK] at he
 have h1:=aJ hr hy
 have h2:=aJ hr hq
 refine RunOK.op (s:=Instr.index t (a.eval x) (a.eval z)) (by simp only [execOp,hop]) ?_
 generalize a.eval x=vx at h1
 have hrun:∀ (cs:List Value) (k:IntKind) (j:Int) u,0≤j→j<(len:Int)→cs[j.toNat]? = some u→(Instr.index t (.agg cs.toArray) (.int k j)).run Γ.P w = .ok u w:=by
  intro cs k j u g0 g1 hu
  simp only [Instr.index,asIntOf,Sem.run_bind,Sem.run_pure,Result.andThen_ok,run_underlying ht,g0,g1,and_self,if_true,bd hn,Nat.mul_one]
  exact run_part1 hg hu
 split at he
 ·rename_i cs hm
  rw [hm] at h1
  obtain ⟨k,j,hj,g0,g1,he⟩:=idxK_inv he
  rw [hj] at h2; rw [bm h2]
  rw [getK_def] at he
  obtain ⟨p,hp,he⟩:=as_some he
  injection he with he; injection he with e1 e2; subst e1; subst e2
  cases h1 with
  | pv _ _ h1=>cases h1 with
    | agg _ us k1 k2=>
      obtain ⟨u,hu,hr'⟩:=k1.get hp
      exact RunOK.same hs ⟨u,hrun us k j u g0 g1 hu,.pv _ _ hr'⟩
 ·rename_i cs hm
  rw [hm] at h1
  obtain ⟨k,j,hj,g0,g1,he⟩:=idxK_inv he
  rw [hj] at h2; rw [bm h2]
  cases hp:lget cs j.toNat with
  | none=>rw [hp] at he; cases he
  | some p=>
    rw [hp] at he; simp only at he
    injection he with he; injection he with e1 e2; subst e1; subst e2
    cases h1 with
    | agg _ us k1 k2=>
      obtain ⟨u,hu,hr'⟩:=k1.get hp
      exact RunOK.same hs ⟨u,hrun us k j u g0 g1 hu,hr'⟩
 ·cases he
theorem op_idxAN (hs:SRel Γ base κ H w) (hr:RRel κ r a) {t e:TypeId} {x z:Operand} {y q:Opd} (hy:compOpd x=some y) (hq:compOpd z=some q) {len n:Nat} (ht:Γ.P.underlying t=some (.array len e)) (hn:sizeT Γ.P e=some n) (hg:aggT Γ.P e=some true) (hop:o.op = .index t x z)
 (he:opK (.idxAN len n y q) r H (fun v h=>some (v,h))=some (v,H')):OpOK Γ base κ H w o a v H':=by
 simp only [opK] at he
 have h1:=aJ hr hy
 have h2:=aJ hr hq
 refine RunOK.op (s:=Instr.index t (a.eval x) (a.eval z)) (by simp only [execOp,hop]) ?_
 generalize a.eval x=vx at h1
 split at he
 ·rename_i cs hm
  rw [hm] at h1
  obtain ⟨k,j,hj,g0,g1,he⟩:=idxK_inv he
  rw [hj] at h2; rw [bm h2]
  rw [secK_def] at he
  cases hb:Nat.ble (j.toNat*n+n) cs.length with
  | false=>rw [hb] at he; cases he
  | true=>
    rw [hb] at he; simp only [cond_true] at he
    injection he with he; injection he with e1 e2; subst e1; subst e2
    cases h1 with
    | pv _ _ h1=>cases h1 with
      | agg _ us k1 k2=>
        refine RunOK.same hs ⟨.agg ((us.drop (j.toNat*n)).take n).toArray,?_,.pv _ _ (.agg _ _ ((k1.drop _).take _) ((k2.drop _).take _))⟩
        simp only [Instr.index,asIntOf,Sem.run_bind,Sem.run_pure,Result.andThen_ok,run_underlying ht,g0,g1,and_self,if_true,bd hn]
        exact run_partN hg hn
 ·cases he
theorem op_idxStr (hs:SRel Γ base κ H w) (hr:RRel κ r a) {t:TypeId} {x z:Operand} {y q:Opd} (hy:compOpd x=some y) (hq:compOpd z=some q) (ht:Γ.P.underlying t=some .string) (hop:o.op = .index t x z)
 (he:opK (.idxStr y q) r H (fun v h=>some (v,h))=some (v,H')):OpOK Γ base κ H w o a v H':=by
 simp only [opK] at he
 have h1:=aJ hr hy
 have h2:=aJ hr hq
 refine RunOK.op (s:=Instr.index t (a.eval x) (a.eval z)) (by simp only [execOp,hop]) ?_
 split at he
 ·rename_i s hm
  rw [hm] at h1; rw [str_rel h1]
  obtain ⟨k,j,hj,g0,g1,he⟩:=idxK_inv he
  rw [hj] at h2; rw [bm h2]
  rw [getK_def] at he
  obtain ⟨b,hb,he⟩:=as_some he
  injection he with he; injection he with e1 e2; subst e1; subst e2
  have hb':s[j.toNat]? = some b:=by
   rw [Array.getElem?_toList] at hb
   obtain ⟨hlt,hb⟩:=Array.getElem?_eq_some_iff.1 hb
   have hlt':j.toNat<s.size:=hlt
   rw [getElem?_pos s j.toNat hlt']
   exact congrArg some hb
  exact RunOK.same hs ⟨.int .u8 b.toNat,by simp [Instr.index,asIntOf,run_underlying ht,g0,hb'],.pv _ _ (.int _ _)⟩
 ·cases he
theorem op_slice {t:TypeId} {x:Operand} {lo hi mx:Option Operand} (hop:o.op = .slice t x lo hi mx) (h:RunOK Γ base κ H w (Instr.sliceAt t (a.eval x) (lo.map a.eval) (hi.map a.eval) (mx.map a.eval)) v H'):OpOK Γ base κ H w o a v H':=
 RunOK.op (s:=Instr.sliceAt t (a.eval x) (lo.map a.eval) (hi.map a.eval) (mx.map a.eval)) (by simp only [execOp,hop]) h
theorem op_sliceStr (hs:SRel Γ base κ H w) (hr:RRel κ r a) {t:TypeId} {x:Operand} {lo hi:Option Operand} {y:Opd} {lo' hi':Option Opd} (hy:compOpd x=some y) (hl:compOpt lo=some lo') (hh:compOpt hi=some hi') (ht:Γ.P.underlying t=some .string)
 (hop:o.op = .slice t x lo hi none) (he:opK (.sliceStr y lo' hi') r H (fun v h=>some (v,h))=some (v,H')):OpOK Γ base κ H w o a v H':=by
 simp only [opK] at he
 refine op_slice hop (RunOK.keep hs (x:=sliceStrK (y.ev r) (lo'.map (Opd.ev r)) (hi'.map (Opd.ev r)) some) ?_ fun h=>sliceStr_rel ht (aJ hr hy) (opt_ORel hr hl) (opt_ORel hr hh) h)
 rw [sliceStrK_bind]; exact he
theorem op_sliceS (hs:SRel Γ base κ H w) (hr:RRel κ r a) {t e:TypeId} {x:Operand} {lo hi mx:Option Operand} {y:Opd} {lo' hi' mx':Option Opd} (hy:compOpd x=some y) (hl:compOpt lo=some lo') (hh:compOpt hi=some hi') (hm:compOpt mx=some mx') (ht:Γ.P.underlying t=some (.slice e)) {n:Nat} (hn:sizeT Γ.P e=some n)
 (hop:o.op = .slice t x lo hi mx) (he:opK (.sliceS n y lo' hi' mx') r H (fun v h=>some (v,h))=some (v,H')):OpOK Γ base κ H w o a v H':=by
 simp only [opK] at he
 refine op_slice hop (RunOK.keep hs (x:=sliceSK n (y.ev r) (lo'.map (Opd.ev r)) (hi'.map (Opd.ev r)) (mx'.map (Opd.ev r)) some) ?_ fun h=>sliceS_rel ht hn (aJ hr hy) (opt_ORel hr hl) (opt_ORel hr hh) (opt_ORel hr hm) h)
 rw [sliceSK_bind]; exact he
theorem op_sliceA (hs:SRel Γ base κ H w) (hr:RRel κ r a) {t e:TypeId} {x:Operand} {lo hi:Option Operand} {y:Opd} {lo' hi':Option Opd} (hy:compOpd x=some y) (hl:compOpt lo=some lo') (hh:compOpt hi=some hi') {len n:Nat} (ht:Γ.P.underlying t=some (.array len e)) (hn:sizeT Γ.P e=some n)
 (hop:o.op = .slice t x lo hi none) (he:opK (.sliceA len n y lo' hi') r H (fun v h=>some (v,h))=some (v,H')):OpOK Γ base κ H w o a v H':=by
 simp only [opK] at he
 have h1:=aJ hr hy
 split at he
 ·rename_i id off hm
  rw [hm] at h1
  refine op_slice hop (RunOK.keep hs (x:=boundK (hi'.map (Opd.ev r)) len len fun hb=>boundK (lo'.map (Opd.ev r)) 0 hb fun l=>needK (Nat.blt l len||Nat.beq l 0) (some (AV.hs n id (addO off (mulE l n)) (hb-l) (len-l)))) ?_ fun h=>sliceA_rel ht hn h1 (opt_ORel hr hl) (opt_ORel hr hh) h)
  simp only [boundK_bind,aN,Option.bind_some]; exact he
 ·cases he
theorem toArrK_eq {n:Nat} {y:Opd} {F:AV→Heap→Option (AV × Heap)}:opK (.toArr n y) r H F=(toArrV n (y.ev r)).bind fun v=>F v H:=by
 simp only [opK,toArrV]
 generalize y.ev r=u
 cases u<;>(try rfl)<;>(try simp only [aN,Option.bind_some,Option.bind_none])
 rename_i p
 cases p<;>(try rfl)
 rename_i e _ _
 cases e<;>simp only [aN,Option.bind_some,Option.bind_none]
theorem op_toArr (hs:SRel Γ base κ H w) (hr:RRel κ r a) {t e:TypeId} {x:Operand} {y:Opd} (hy:compOpd x=some y) {n:Nat} (ht:Γ.P.underlying t=some (.array n e)) (hop:o.op = .sliceToArrayPointer t x)
 (he:opK (.toArr n y) r H (fun v h=>some (v,h))=some (v,H')):OpOK Γ base κ H w o a v H':=by
 have h1:=aJ hr hy
 refine RunOK.op (s:=Instr.arrayAt t (a.eval x)) (by simp only [execOp,hop]) (RunOK.keep hs (x:=toArrV n (y.ev r)) ?_ fun h=>toArr_rel ht h1 h)
 rw [toArrK_eq] at he; exact he
theorem op_mkFn (hs:SRel Γ base κ H w) (hr:RRel κ r a) {f:FuncId} {p q:Array Operand} {x y:List Opd} (hx:compOpds p.toList=some x) (hy:compOpds q.toList=some y) (hop:o.op = .makeFunc (.func f) p q)
 (he:opK (.mkFn f x y) r H (fun v h=>some (v,h))=some (v,H')):OpOK Γ base κ H w o a v H':=by
 simp only [opK] at he
 have h1:=opds_rel hr hx
 have h2:=opds_rel hr hy
 have hrun:(Instr.makeFunc (.func f) (p.map a.eval) (q.map a.eval)).run Γ.P w = .ok (.func (.func f) (p.toList.map a.eval).toArray (q.toList.map a.eval).toArray) w:=by
  simp only [Instr.makeFunc,Sem.run_pure]
  congr 2<;>apply Array.ext'<;>simp
 refine RunOK.op (s:=Instr.makeFunc (.func f) (p.map a.eval) (q.map a.eval)) (by simp only [execOp,hop]) ?_
 split at he
 ·rename_i as bs ha hb
  injection he with he; injection he with e1 e2; subst e1; subst e2
  rw [allPV_eq ha] at h1
  rw [allPV_eq hb] at h2
  exact RunOK.same hs ⟨_,hrun,.pv _ _ (.fn _ _ _ _ _ h1.to_pv h2.to_pv)⟩
 ·injection he with he; injection he with e1 e2; subst e1; subst e2
  exact RunOK.same hs ⟨_,hrun,.fn _ _ _ _ _ h1 h2⟩
theorem op_mkSlice (hs:SRel Γ base κ H w) (hr:RRel κ r a) {t e:TypeId} (ht:Γ.P.underlying t=some (.slice e)) {x z:Operand} {y q:Opd} (hy:compOpd x=some y) (hq:compOpd z=some q) {zp:List PV} (hz:zeroT Γ.P e=some zp) {i:TypeInfo} (hi:Γ.P.info? e=some i) (hby:i.bytes≤256)
 {mu:Bool} (hop:o.op = .makeSlice t x z) (he:opK (.mkSlice mu i.size zp y q) r H (fun v h=>some (v,h))=some (v,H')):OpOK Γ base κ H w o a v H':=by
 simp only [opK] at he
 have h1:=aJ hr hy
 have h2:=aJ hr hq
 refine RunOK.op (s:=Instr.makeSlice t (a.eval x) (a.eval z)) (by simp only [execOp,hop]) ?_
 split at he
 ·rename_i k l k' c hm hm2
  rw [hm] at h1; rw [bm h1]
  rw [hm2] at h2; rw [bm h2]
  obtain ⟨hc,he⟩:=aZ he
  simp only [Bool.and_eq_true,decide_eq_true_eq] at hc
  rw [bh] at he
  obtain ⟨cs,g1,g2,g3⟩:=mkSlice_rel (Γ:=Γ) (κ:=κ) (w:=w) ht hi hz hby (k:=k) (k':=k') hc.1.1 hc.1.2 hc.2
  have hlc:l.toNat≤c.toNat:=by omega
  cases mu with
  | true=>
    simp only [cond_true] at he
    injection he with he; injection he with e1 e2; subst e1; subst e2
    have:=hs.newP _ cs [] e g1 g2
    simp only [List.append_nil] at this
    exact ⟨_,_,_,g3,.hs _ _ _ _ _ _ _ (K.at_same _ _ _) hlc (Nat.le_refl _),this.1,this.2⟩
  | false=>
    simp only [cond_false] at he
    obtain ⟨hd,he⟩:=aZ he
    have hlc:l=c:=by simpa using hd
    subst hlc
    injection he with he; injection he with e1 e2; subst e1; subst e2
    obtain ⟨k1,k2,k3⟩:=hs.newRow cs e (0,0)
    exact ⟨_,_,_,g3,.pv _ _ (.sl _ _ _ _ _ cs (by simp) (fun _=>rfl) (Nat.le_refl _) (g1.mono (κ.le_keep _ _ _).imm) k3 g2),k1,k2⟩
 ·cases he
theorem lget_eq {α:Type} (l:List α) (i:Nat):lget l i=l[i]? := by
 induction l generalizing i with
 | nil=>rfl
 | cons b l ih=>cases i with
   | zero=>rfl
   | succ i=>simpa [lget] using ih i
theorem op_extract (hs:SRel Γ base κ H w) (hr:RRel κ r a) {x:Operand} {y:Opd} (hy:compOpd x=some y) {i:Nat} (hop:o.op = .extract x i)
 (he:opK (.extract i y) r H (fun v h=>some (v,h))=some (v,H')):OpOK Γ base κ H w o a v H':=by
 simp only [opK] at he
 have h1:=aJ hr hy
 refine RunOK.op (s:=Instr.extract (a.eval x) i) (by simp only [execOp,hop]) ?_
 generalize a.eval x=vx at h1
 split at he
 ·rename_i l hm
  rw [hm] at h1
  cases hp:lget l i with
  | none=>rw [hp] at he; cases he
  | some p=>
    rw [hp] at he; simp only at he
    injection he with he; injection he with e1 e2; subst e1; subst e2
    cases h1 with
    | pv _ _ h1=>cases h1 with
      | tup _ us g1=>
        have hp':l[i]? = some p:=by rw [←lget_eq]; exact hp
        obtain ⟨u,hu,hr'⟩:=g1.get hp'
        exact RunOK.same hs ⟨u,by simp [Instr.extract,hu],.pv _ _ hr'⟩
 ·rename_i l hm
  rw [hm] at h1
  cases hp:lget l i with
  | none=>rw [hp] at he; cases he
  | some p=>
    rw [hp] at he; simp only at he
    injection he with he; injection he with e1 e2; subst e1; subst e2
    cases h1 with
    | tup _ us g1=>
      obtain ⟨u,hu,hr'⟩:=g1.get hp
      exact RunOK.same hs ⟨u,by simp [Instr.extract,hu],hr'⟩
 ·cases he
theorem op_builtin {b:Builtin} {args:Array Operand} {ts:Array TypeId} {s:Sem Value} {c:Call} (hop:o.op = .call c) (hc:c=⟨.builtin b,args,ts⟩) (hb:∀ consts,builtin b ts o.type consts (args.map a.eval)=(do pure (.value (←s)))) (h:RunOK Γ base κ H w s v H'):OpOK Γ base κ H w o a v H':=by
 subst hc
 refine RunOK.op (s:=s) ?_ h
 simp only [execOp,hop,resolve,pure_bind,invoke]
 exact hb _
theorem vlist1 {κ:K} {x:AV} {vs:List Value} (h:VRels κ [x] vs):∃ v,vs=[v]∧VRel κ x v:=by
 cases h with | cons _ v _ _ h1 h2=>cases h2; exact ⟨v,rfl,h1⟩
theorem vlist2 {κ:K} {x y:AV} {vs:List Value} (h:VRels κ [x,y] vs):∃ v u,vs=[v,u]∧VRel κ x v∧VRel κ y u:=by
 cases h with | cons _ v _ _ h1 h2=>obtain ⟨u,rfl,h3⟩:=vlist1 h2; exact ⟨v,u,rfl,h1,h3⟩
theorem map_toArray {α β:Type} (f:α→β) (xs:Array α):xs.map f=(xs.toList.map f).toArray:=by apply Array.ext'; simp
theorem ofStr_true {x:AV} (h:ofStr true x=true):∃ s,x = .pv (.str s):=by
 unfold ofStr at h
 split at h
 ·exact ⟨_,rfl⟩
 ·simp_all
theorem ofStr_false {x:AV} (h:ofStr false x=true):∀ s,x ≠ .pv (.str s):=by
 intro s e
 subst e
 simp [ofStr] at h
theorem not_str {κ:K} {x:AV} {v:Value} (h:VRel κ x v) (hx:∀ s,x ≠ .pv (.str s)):¬ ∃ b,v = .string b:=by
 rintro ⟨b,rfl⟩
 cases h with | pv p _ hp=>cases hp with | str s=>exact hx _ rfl
theorem op_callB (hs:SRel Γ base κ H w) (hr:RRel κ r a) {args:Array Operand} {ts:Array TypeId} {b:Builtin} (hop:o.op = .call ⟨.builtin b,args,ts⟩) {vo:VOp} {xs:List Opd} (hx:compOpds args.toList=some xs)
 {mu:Bool} (hc:compBuiltin Γ.P mu b xs ts.toList=some vo)
 (he:opK vo r H (fun v h=>some (v,h))=some (v,H')):OpOK Γ base κ H w o a v H':=by
 have hargs:=opds_rel hr hx
 clear hx
 unfold compBuiltin at hc
 have ham:args.map a.eval=(args.toList.map a.eval).toArray:=map_toArray _ _
 have tsof:∀ l,ts.toList=l→ts=l.toArray:=fun l h=>by rw [←h]
 split at hc
 ·rename_i x t hts
  obtain ⟨vx,hvx,hrx⟩:=vlist1 hargs
  have hfin:∀ n:Nat,(Builtin.len_ #[t] o.type #[vx]).run Γ.P w = .ok (goInt n) w→v = .pv (.int .i64 n)→H'=H→OpOK Γ base κ H w o a v H':=by
   intro n hrun e1 e2
   subst e1; subst e2
   refine op_builtin (s:=Builtin.len_ #[t] o.type #[vx]) hop rfl (fun consts=>by rw [ham,hvx,tsof _ hts]; rfl) (RunOK.same hs ⟨_,hrun,?_⟩)
   exact .pv _ _ (.int _ _)
  split at hc
  ·rename_i hu
   injection hc with hc; subst hc
   simp only [opK] at he
   split at he
   ·rename_i s hm
    have hrx:VRel κ (x.ev r) vx:=hrx
    rw [hm] at hrx
    injection he with he; injection he with e1 e2
    rw [str_rel hrx] at hfin
    exact hfin s.size (by simp [Builtin.len_,run_underlying hu]) e1.symm e2.symm
   ·cases he
  ·rename_i e hu
   injection hc with hc; subst hc
   simp only [opK] at he
   cases hn:lenOfS (x.ev r) with
   | none=>rw [hn] at he; cases he
   | some n=>
     rw [hn] at he; simp only at he
     injection he with he; injection he with e1 e2
     have hrx:VRel κ (x.ev r) vx:=hrx
     have hvs:∃ ad cap,vx = .slice ad n cap:=by
      generalize x.ev r=u at hrx hn
      cases hrx with
      | pv p _ hp=>cases hp<;>simp [lenOfS] at hn
                   ·subst hn; exact ⟨_,_,rfl⟩
                   ·subst hn; exact ⟨_,_,rfl⟩
      | tsl=>simp [lenOfS] at hn; subst hn; exact ⟨_,_,rfl⟩
      | hs=>simp [lenOfS] at hn; subst hn; exact ⟨_,_,rfl⟩
      | _=>simp [lenOfS] at hn
     obtain ⟨ad,cap,hvs⟩:=hvs
     exact hfin n (by rw [hvs]; simp [Builtin.len_,run_underlying hu]) e1.symm e2.symm
  ·rename_i n e hu
   injection hc with hc; subst hc
   simp only [opK,Opd.ev] at he
   injection he with he; injection he with e1 e2
   exact hfin n (by simp [Builtin.len_,run_underlying hu]) e1.symm e2.symm
  ·rename_i p hu
   split at hc
   ·rename_i n e hu2
    injection hc with hc; subst hc
    simp only [opK,Opd.ev] at he
    injection he with he; injection he with e1 e2
    exact hfin n (by simp [Builtin.len_,run_underlying hu,run_underlying hu2]) e1.symm e2.symm
   ·cases hc
  ·cases hc
 ·rename_i s x t u hts
  obtain ⟨vs,vx,hvs,hrs,hrx⟩:=vlist2 hargs
  split at hc
  ·rename_i e ku ht hu
   split at hc
   ·rename_i i z hi hz
    cases hcond:(Nat.blt 0 i.bytes&&(Nat.blt 0 i.size&&Nat.ble i.bytes 256)) with
    | false=>rw [hcond] at hc; cases hc
    | true=>
      rw [hcond] at hc; simp only [cond_true] at hc
      injection hc with hc; subst hc
      rw [Bool.and_eq_true,Bool.and_eq_true] at hcond
      simp only [opK] at he
      split at he
      ·rename_i kx l hm
       have hrx:VRel κ (x.ev r) vx:=hrx
       rw [hm] at hrx
       have hvx:=bm hrx
       refine op_builtin (s:=Builtin.append_ #[t,u] o.type #[vs,vx]) hop rfl (fun consts=>by rw [ham,hvs,tsof _ hts]; rfl) ?_
       rw [hvx]
       cases mu with
       | false=>
         simp only at he
         obtain ⟨hc2,he⟩:=aZ he
         rw [Bool.and_eq_true] at hc2
         rw [bh,appS_def] at he
         exact append_zero_rel hs ht hu hi hz (blt_lt hcond.1) (blt_lt hcond.2.1) (Nat.le_of_ble_eq_true hcond.2.2) hrs (of_decide_eq_true hc2.1) (of_decide_eq_true hc2.2) he
       | true=>
         simp only at he
         split at he
         ·rename_i ext n cs hms
          have hq:=aZ he
          clear he
          obtain ⟨hc2,he⟩:=hq
          simp only [Bool.and_eq_true] at hc2
          obtain ⟨⟨⟨⟨⟨q1,q2⟩,q3⟩,q4⟩,q5⟩,q6⟩:=hc2
          have hrs:VRel κ (s.ev r) vs:=hrs
          rw [hms] at hrs
          have hn0:=Nat.eq_of_beq_eq_true q4
          subst hn0
          have hcs:=List.eq_nil_of_length_eq_zero (Nat.eq_of_beq_eq_true q5)
          subst hcs
          injection he with he; injection he with e1 e2
          subst e1; subst e2
          have q6':(0+l.toNat)*i.bytes≤mostBytes:=Nat.le_of_ble_eq_true q6
          exact append_room_rel hs ht hu hi hz (blt_lt hcond.1) (blt_lt hcond.2.1) (Nat.le_of_ble_eq_true hcond.2.2) hrs (of_decide_eq_true q1) (of_decide_eq_true q2) (by simpa using q3) q6'
         ·cases he
      ·cases he
   ·cases hc
  ·rename_i e d _ ht hu
   split at hc
   ·rename_i i z b hi hz hd
    cases hcond:(Nat.blt 0 i.bytes&&(!b||Nat.beq i.size 1)) with
    | false=>rw [hcond] at hc; cases hc
    | true=>
      rw [hcond] at hc; simp only [cond_true] at hc
      injection hc with hc; subst hc
      rw [Bool.and_eq_true] at hcond
      simp only [opK] at he
      cases hstr:ofStr b (x.ev r) with
      | false=>rw [hstr] at he; cases he
      | true=>
        rw [hstr] at he; simp only [cond_true] at he
        have hdd:d = .string ∨ ∃ e',d = .slice e':=by
         cases d<;>simp [strT] at hd
         ·exact .inl rfl
         ·exact .inr ⟨_,rfl⟩
        have hd1:d = .string→i.size=1:=by
         intro e; subst e
         simp [strT] at hd; subst hd
         simpa using hcond.2
        refine op_builtin (s:=Builtin.append_ #[t,u] o.type #[vs,vx]) hop rfl (fun consts=>by rw [ham,hvs,tsof _ hts]; rfl) ?_
        rw [appS_def] at he
        refine append_rel hs ht hu hdd hi hz (blt_lt hcond.1) hd1 hrs hrx ⟨?_,?_⟩ he
        ·rintro ⟨q,rfl⟩
         rcases hdd with h | ⟨e',rfl⟩
         ·exact h
         ·simp [strT] at hd; subst hd
          exact absurd ⟨q,rfl⟩ (not_str hrx (ofStr_false hstr))
        ·intro hno
         rcases hdd with rfl | h
         ·simp [strT] at hd; subst hd
          obtain ⟨q,hq⟩:=ofStr_true hstr
          have hrx:VRel κ (x.ev r) vx:=hrx
          rw [hq] at hrx
          exact absurd ⟨q,str_rel hrx⟩ hno
         ·exact h
   ·cases hc
  ·cases hc
 ·rename_i x t hts
  obtain ⟨vx,hvx,hrx⟩:=vlist1 hargs
  split at hc
  ·rename_i e hu
   injection hc with hc; subst hc
   simp only [opK] at he
   split at he
   ·rename_i ext n cs hm
    have hrx:VRel κ (x.ev r) vx:=hrx
    rw [hm] at hrx
    cases hext:ext.noApp with
    | true=>rw [hext] at he; cases he
    | false=>
      rw [hext] at he; simp only [cond_false] at he
      injection he with he; injection he with e1 e2
      subst e1; subst e2
      have hvs:∃ ad,vx = .slice ad n n:=by
       cases hrx with
       | pv p _ hp=>
         cases hp with
         | slNil=>exact ⟨none,rfl⟩
         | sl _ _ _ a cap us h1 h2 h3 h4 h5 h6=>
           have hcap:cap=n:=by
            cases ext with
            | unk=>cases hext
            | nn=>cases hext
            | exact=>exact h2 (.inl rfl)
            | nnx=>exact h2 (.inr rfl)
            | nil=>exact absurd rfl h1
           exact ⟨some a,by rw [hcap]⟩
      obtain ⟨ad,hvs⟩:=hvs
      refine op_builtin (s:=Builtin.cap_ #[t] o.type #[vx]) hop rfl (fun consts=>by rw [ham,hvx,tsof _ hts]; rfl) (RunOK.same hs ⟨.int .i64 n,by rw [hvs]; simp [Builtin.cap_,run_underlying hu,goInt],.pv _ _ (.int _ _)⟩)
   ·cases he
  ·cases hc
 ·rename_i d s t u hts
  obtain ⟨vd,vs,hvs,hrd,hrs⟩:=vlist2 hargs
  split at hc
  ·rename_i e d' ht hu
   split at hc
   ·rename_i n b hn hd
    cases hcond:(!b||Nat.beq n 1) with
    | false=>rw [hcond] at hc; cases hc
    | true=>
      rw [hcond] at hc; simp only [cond_true] at hc
      injection hc with hc; subst hc
      simp only [opK] at he
      cases hstr:ofStr b (s.ev r) with
      | false=>rw [hstr] at he; cases he
      | true=>
        rw [hstr] at he; simp only [cond_true] at he
        refine op_builtin (s:=Builtin.copy_ #[t,u] o.type #[vd,vs]) hop rfl (fun consts=>by rw [ham,hvs,tsof _ hts]; rfl) ?_
        refine copy_rel hs ht hn hrd hrs ?_ he
        rintro ⟨q,rfl⟩
        cases b with
        | true=>simpa using hcond
        | false=>exact absurd ⟨q,rfl⟩ (not_str hrs (ofStr_false hstr))
   ·cases hc
  ·cases hc
 ·rename_i l ts' hl
  split at hc
  ·rename_i y ys
   injection hc with hc; subst hc
   simp only [opK] at he
   split at he
   ·rename_i k n l hm
    rw [hm] at hargs
    cases hvs:args.toList.map a.eval with
    | nil=>rw [hvs] at hargs; cases hargs
    | cons v0 vs0=>
      rw [hvs] at hargs
      cases hargs with
      | cons _ _ _ _ g1 g2=>
        rw [bm g1] at hvs
        refine op_builtin (s:=Builtin.min_ ts o.type (Value.int k n::vs0).toArray) hop rfl (fun consts=>by rw [ham,hvs]; rfl) (RunOK.keep hs (x:=minmaxK false n k l fun p=>some (AV.pv p)) ?_ fun h=>?_)
        ·rw [minmaxK_bind]; exact he
        ·simpa [Builtin.min_] using minmax_rel (Γ:=Γ) (w:=w) false l vs0 k n v g2 h
   ·cases he
  ·cases hc
 ·rename_i l ts' hl
  split at hc
  ·rename_i y ys
   injection hc with hc; subst hc
   simp only [opK] at he
   split at he
   ·rename_i k n l hm
    rw [hm] at hargs
    cases hvs:args.toList.map a.eval with
    | nil=>rw [hvs] at hargs; cases hargs
    | cons v0 vs0=>
      rw [hvs] at hargs
      cases hargs with
      | cons _ _ _ _ g1 g2=>
        rw [bm g1] at hvs
        refine op_builtin (s:=Builtin.max_ ts o.type (Value.int k n::vs0).toArray) hop rfl (fun consts=>by rw [ham,hvs]; rfl) (RunOK.keep hs (x:=minmaxK true n k l fun p=>some (AV.pv p)) ?_ fun h=>?_)
        ·rw [minmaxK_bind]; exact he
        ·simpa [Builtin.max_] using minmax_rel (Γ:=Γ) (w:=w) true l vs0 k n v g2 h
   ·cases he
  ·cases hc
 ·cases hc
theorem op_mkMap (hs:SRel Γ base κ H w) {t:TypeId} (hop:o.op = .makeMap t none)
 (he:opK .mkMap r H (fun v h=>some (v,h))=some (v,H')):OpOK Γ base κ H w o a v H':=by
 simp only [opK] at he
 injection he with he; injection he with e1 e2; subst e1; subst e2
 have:=hs.newMap
 refine RunOK.op (s:=Instr.makeMap t none) (by simp only [execOp,hop]; rfl) ⟨.map (some w.heap.size),_,_,?_,.map _ _ (K.at_same _ _ _),this.1,this.2⟩
 simp [Instr.makeMap]
theorem op_lookM (hs:SRel Γ base κ H w) (hr:RRel κ r a) {t kt et:TypeId} (ht:Γ.P.underlying t=some (.map kt et)) {kk:SK} (hk:keyT Γ.P kt=some kk) {z:PV} (hz:zeroPV Γ.P et=some z) {ok:Bool}
 {x k:Operand} {y q:Opd} (hy:compOpd x=some y) (hq:compOpd k=some q) (hop:o.op = .lookup t x k ok)
 (he:opK (.lookM ok kk z y q) r H (fun v h=>some (v,h))=some (v,H')):OpOK Γ base κ H w o a v H':=by
 simp only [opK] at he
 refine RunOK.op (s:=Instr.lookup t (a.eval x) (a.eval k) ok) (by simp only [execOp,hop]) (RunOK.keep hs (x:=lookK ok kk z (y.ev r) (q.ev r) H fun p=>some (AV.pv p)) ?_ fun h=>look_rel hs ht hk hz (aJ hr hy) (aJ hr hq) h)
 rw [lookK_bind]; exact he
theorem op_updM (hs:SRel Γ base κ H w) (hr:RRel κ r a) {t:TypeId} {x k u:Operand} {vo:VOp} (hc:compUpd Γ.P t x k u=some vo) (hop:o.op = .mapUpdate t x k u∨o.op = .insert t x k u)
 (he:opK vo r H (fun v h=>some (v,h))=some (v,H')):OpOK Γ base κ H w o a v H':=by
 unfold compUpd at hc
 split at hc
 ·rename_i b c d kt et hy hq hu ht
  obtain ⟨kk,hk,rfl⟩:=map_some hc
  simp only [opK] at he
  have e:(updK kk (b.ev r) (c.ev r) (d.ev r) H some).bind (fun h=>some (undefV,h))=some (v,H'):=by rw [updK_bind]; exact he
  obtain ⟨p,h1,h2⟩:=bind_pair e
  injection h2 with h2 h3; subst h2; subst h3
  obtain ⟨w',g1,g2,g3⟩:=upd_rel hs ht hk (aJ hr hy) (aJ hr hq) (aJ hr hu) h1
  refine ⟨.skip,undef,κ,w',?_,.inr ⟨rfl,rfl⟩,undefV_rel _,g2,g3⟩
  rcases hop with hop | hop<;>simp [execOp,hop,g1]
 ·cases hc
end
end Go.VM
namespace Go.VM
open Go
section
variable {Γ:Ctx} {base:Nat} {κ:K} {H H':Heap} {w:World} {o:Oper} {a:Act} {v:AV} {r:Regs}
theorem op_sound {mu:Mu} {vo:VOp} (hs:SRel Γ base κ H w) (hr:RRel κ r a) (hc:compOp Γ.P mu o.op=some vo) (he:opK vo r H (fun v h=>some (v,h))=some (v,H')):OpOK Γ base κ H w o a v H':=by
 generalize hop:o.op=op at hc
 cases op with
 | move x=>
   obtain ⟨muw,mum⟩:=mu
   simp only [compOp] at hc
   cases muw
   ·obtain ⟨y,hy,rfl⟩:=map_some hc
    exact op_move hs hr hy (by simp only [execOp,hop]) he
   ·obtain ⟨y,hy,rfl⟩:=map_some hc
    exact op_settle hs hr hy (by simp only [execOp,hop]) he
 | assign x=>
   obtain ⟨muw,mum⟩:=mu
   simp only [compOp] at hc
   cases muw
   ·obtain ⟨y,hy,rfl⟩:=map_some hc
    exact op_move hs hr hy (by simp only [execOp,hop]) he
   ·obtain ⟨y,hy,rfl⟩:=map_some hc
    exact op_settle hs hr hy (by simp only [execOp,hop]) he
 | pick c x y=>
   simp only [compOp] at hc
   split at hc
   ·rename_i c' x' y' h1 h2 h3
    injection hc with hc; subst hc
    exact op_pick hs hr h1 h2 h3 hop he
   ·cases hc
 | alloc t=>
   obtain ⟨y,hy,rfl⟩:=map_some hc
   exact op_alloc hs hy hop he
 | box t x=>
   obtain ⟨y,hy,rfl⟩:=map_some hc
   exact op_box hs hr hy hop he
 | build t parts=>
   simp only [compOp] at hc
   split at hc
   ·rename_i z fs hz hu
    cases hall:fs.toList.all (fun f=>(sizeT Γ.P f.type).isSome) with
    | false=>rw [hall] at hc; cases hc
    | true=>
      rw [hall] at hc; simp only [cond_true] at hc
      obtain ⟨ps,hps,rfl⟩:=map_some hc
      exact op_build hs hr hz _ (.inl ⟨fs,hu,fun f hf=>List.all_eq_true.1 hall f hf,rfl⟩) hps hop he
   ·rename_i z len e hz hu
    split at hc
    ·rename_i n hn
     obtain ⟨ps,hps,rfl⟩:=map_some hc
     exact op_build hs hr hz _ (.inr ⟨len,e,n,hu,hn,rfl⟩) hps hop he
    ·cases hc
   ·cases hc
 | buildSlice t len parts=>
   simp only [compOp] at hc
   split at hc
   ·rename_i e hu
    split at hc
    ·rename_i z n hz hn
     cases hb:(Nat.ble (len*n) 16777216&&Nat.blt 0 n) with
     | false=>rw [hb] at hc; cases hc
     | true=>
       rw [hb] at hc; simp only [cond_true] at hc
       rw [Bool.and_eq_true] at hb
       obtain ⟨ps,hps,rfl⟩:=map_some hc
       exact op_buildSlice hs hr hu hz hn (Nat.le_of_ble_eq_true hb.1) (blt_lt hb.2) hps hop he
    ·cases hc
   ·cases hc
 | load t x=>
   simp only [compOp] at hc
   split at hc
   ·rename_i y n g hy hn hg
    injection hc with hc; subst hc
    cases g with
    | true=>exact op_loadN hs hr hy hg hn hop he
    | false=>exact op_load1 hs hr hy hg hop he
   ·cases hc
 | store t x z=>
   simp only [compOp] at hc
   split at hc
   ·rename_i y u n hy hu hn
    split at hc
    ·rename_i g hg
     cases g with
     | true=>
       simp only [cond_true] at hc
       injection hc with hc; subst hc
       exact op_storeN hs hr hy hu hn hop he
     | false=>
       simp only [cond_false] at hc
       cases hb:Nat.beq n 1 with
       | false=>rw [hb] at hc; cases hc
       | true=>
         rw [hb] at hc; simp only [cond_true] at hc
         injection hc with hc; subst hc
         have:=Nat.eq_of_beq_eq_true hb
         subst this
         exact op_store1 hs hr hy hu hn hop he
    ·cases hc
   ·cases hc
 | nilCheck x=>
   obtain ⟨y,hy,rfl⟩:=map_some hc
   exact op_nilCheck hs hr hy hop he
 | binOp op t x z u=>
   simp only [compOp] at hc
   split at hc
   ·rename_i y q hy hq
    split at hc
    ·rename_i fs hu
     split at hc
     ·rename_i sh hsh
      cases hg:Γ.P.eqGuardType Γ.P.depth t with
      | true=>rw [hg] at hc; cases hc
      | false=>
        rw [hg] at hc
        injection hc with hc; subst hc
        exact op_binAgg hs hr hy hq hsh (by simp [aggT,hu]) hg hop he
     ·cases hc
    ·rename_i len e hu
     split at hc
     ·rename_i sh hsh
      cases hg:Γ.P.eqGuardType Γ.P.depth t with
      | true=>rw [hg] at hc; cases hc
      | false=>
        rw [hg] at hc
        injection hc with hc; subst hc
        exact op_binAgg hs hr hy hq hsh (by simp [aggT,hu]) hg hop he
     ·cases hc
    ·injection hc with hc; subst hc
     exact op_binNum hs hr hy hq hop he
    ·injection hc with hc; subst hc
     exact op_binNum hs hr hy hq hop he
    ·rename_i hu
     injection hc with hc; subst hc
     exact op_binBool hs hr hy hq hu hop he
    ·rename_i e hu
     split at hc
     ·rename_i j hi
      injection hc with hc; subst hc
      exact op_binNil (k:=.ptr) hs hr hy hq ⟨fun _=>⟨e,j,hu,hi⟩,(nomatch ·),(nomatch ·),(nomatch ·)⟩ (.inl rfl) hop he
     ·cases hc
    ·rename_i e hu
     injection hc with hc; subst hc
     exact op_binNil (k:=.sl) hs hr hy hq ⟨(nomatch ·),fun _=>⟨e,hu⟩,(nomatch ·),(nomatch ·)⟩ (.inr (.inl rfl)) hop he
    ·rename_i e f hu
     injection hc with hc; subst hc
     exact op_binNil (k:=.map) hs hr hy hq ⟨(nomatch ·),(nomatch ·),fun _=>⟨e,f,hu⟩,(nomatch ·)⟩ (.inr (.inr (.inl rfl))) hop he
    ·rename_i e f g hu
     injection hc with hc; subst hc
     exact op_binNil (k:=.fn) hs hr hy hq ⟨(nomatch ·),(nomatch ·),(nomatch ·),fun _=>⟨e,f,g,hu⟩⟩ (.inr (.inr (.inr rfl))) hop he
    ·cases hc
   ·cases hc
 | unOp op t x=>
   obtain ⟨y,hy,rfl⟩:=map_some hc
   exact op_un hs hr hy hop he
 | convert s d x=>
   simp only [compOp] at hc
   split at hc
   ·rename_i y ks k hy h1 h2
    injection hc with hc; subst hc
    exact op_conv hs hr hy h1 h2 hop he
   ·rename_i y hy h1 h2
    injection hc with hc; subst hc
    exact op_ident hs hr hy h1 h2 hop he
   ·rename_i y e hy h1 h2
    split at hc
    ·rename_i h3
     rw [Bool.cond_eq_ite] at hc
     split at hc
     ·injection hc with hc; subst hc
      exact op_strOf hs hr hy h1 h2 h3 hop he
     ·injection hc with hc; subst hc
      exact op_strOfP hs hr hy h1 h2 h3 hop he
    ·cases hc
   ·rename_i y e hy h1 h2
    split at hc
    ·rename_i h3
     injection hc with hc; subst hc
     exact op_bytesOf hs hr hy h1 h2 h3 hop he
    ·cases hc
   ·rename_i y e' e hy h1 h2
    split at hc
    ·rename_i h3
     cases hb:Nat.beq s d with
     | false=>rw [hb] at hc; cases hc
     | true=>
       rw [hb] at hc; simp only [cond_true] at hc
       injection hc with hc; subst hc
       exact op_freeze hs hr hy h1 h2 h3 (Nat.eq_of_beq_eq_true hb) hop he
    ·cases hc
   ·cases hc
 | sliceToArrayPointer t x=>
   simp only [compOp] at hc
   split at hc
   ·rename_i y n e hy hu
    injection hc with hc; subst hc
    exact op_toArr hs hr hy hu hop he
   ·cases hc
 | makeFunc f p q=>
   cases f with
   | func f=>
     simp only [compOp] at hc
     split at hc
     ·rename_i x y hx hy
      injection hc with hc; subst hc
      exact op_mkFn hs hr hx hy hop he
     ·cases hc
   | _=>simp [compOp] at hc
 | makeSlice t x z=>
   simp only [compOp] at hc
   split at hc
   ·rename_i e y q hu hy hq
    split at hc
    ·rename_i zp i hz hi
     cases hb:(Nat.blt 0 i.size&&Nat.ble i.bytes 256) with
     | false=>rw [hb] at hc; cases hc
     | true=>
       rw [hb] at hc; simp only [cond_true] at hc
       rw [Bool.and_eq_true] at hb
       injection hc with hc; subst hc
       exact op_mkSlice hs hr hu hy hq hz hi (Nat.le_of_ble_eq_true hb.2) hop he
    ·cases hc
   ·cases hc
 | slice t x lo hi mx=>
   simp only [compOp] at hc
   split at hc
   ·rename_i y lo' hi' mx' hy hl hh hm
    split at hc
    ·rename_i hu
     cases mx' with
     | some _=>cases hc
     | none=>
       injection hc with hc; subst hc
       cases mx with
       | some q=>
         obtain ⟨_,_,h⟩:=map_some hm
         cases h
       | none=>exact op_sliceStr hs hr hy hl hh hu hop he
    ·rename_i e hu
     split at hc
     ·rename_i n hn
      injection hc with hc; subst hc
      exact op_sliceS hs hr hy hl hh hm hu hn hop he
     ·cases hc
    ·rename_i len e hu
     split at hc
     ·rename_i n hn
      injection hc with hc; subst hc
      cases mx with
      | some q=>
        obtain ⟨_,_,h⟩:=map_some hm
        cases h
      | none=>exact op_sliceA hs hr hy hl hh hu hn hop he
     ·cases hc
    ·cases hc
   ·cases hc
 | fieldAddr t x i=>
   simp only [compOp] at hc
   split at hc
   ·rename_i y fs hy hu
    split at hc
    ·rename_i f hf
     split at hc
     ·rename_i n hn
      cases hb:Nat.beq n 0 with
      | true=>rw [hb] at hc; cases hc
      | false=>
        rw [hb] at hc; simp only [cond_false] at hc
        injection hc with hc; subst hc
        exact op_fieldAddr hs hr hy hu hf hn hb hop he
     ·cases hc
    ·cases hc
   ·cases hc
 | field t x i=>
   simp only [compOp] at hc
   split at hc
   ·rename_i y fs hy hu
    split at hc
    ·rename_i f hf
     split at hc
     ·rename_i n g hn hg
      injection hc with hc; subst hc
      cases g with
      | true=>exact op_fieldN hs hr hy hu hf hn hg hop he
      | false=>exact op_field1 hs hr hy hu hf hg hop he
     ·cases hc
    ·cases hc
   ·cases hc
 | indexAddr t x i=>
   simp only [compOp] at hc
   split at hc
   ·rename_i y q len e hy hq hu
    obtain ⟨n,hn,rfl⟩:=map_some hc
    exact op_idxAddrA hs hr hy hq hu hn hop he
   ·rename_i y q e hy hq hu
    obtain ⟨n,hn,rfl⟩:=map_some hc
    exact op_idxAddrS hs hr hy hq hu hn hop he
   ·cases hc
 | index t x i=>
   simp only [compOp] at hc
   split at hc
   ·rename_i y q len e hy hq hu
    split at hc
    ·rename_i n hn
     split at hc
     ·rename_i g hg
      cases g with
      | true=>
        simp only [cond_true] at hc
        injection hc with hc; subst hc
        exact op_idxAN hs hr hy hq hu hn hg hop he
      | false=>
        simp only [cond_false] at hc
        cases hb:Nat.beq n 1 with
        | false=>rw [hb] at hc; cases hc
        | true=>
          rw [hb] at hc; simp only [cond_true] at hc
          injection hc with hc; subst hc
          have:=Nat.eq_of_beq_eq_true hb
          subst this
          exact op_idxA1 hs hr hy hq hu hn hg hop he
     ·cases hc
    ·cases hc
   ·rename_i y q hy hq hu
    injection hc with hc; subst hc
    exact op_idxStr hs hr hy hq hu hop he
   ·cases hc
 | extract x i=>
   obtain ⟨y,hy,rfl⟩:=map_some hc
   exact op_extract hs hr hy hop he
 | call c=>
   obtain ⟨callee,args,ts⟩:=c
   simp only [compOp] at hc
   split at hc
   ·rename_i xs hx
    split at hc
    ·rename_i f
     split at hc
     ·rename_i fn hfn
      cases hb:(fn.body.isSome&&fn.name != "runtime.NumGoroutine") with
      | false=>rw [hb] at hc; cases hc
      | true=>
        rw [hb] at hc; simp only [cond_true] at hc
        injection hc with hc; subst hc
        cases he
     ·cases hc
    ·obtain ⟨f,_,rfl⟩:=map_some hc
     cases he
    ·exact op_callB hs hr hop hx hc he
    ·cases hc
   ·cases hc
 | makeMap t x=>
   simp only [compOp] at hc
   split at hc
   ·injection hc with hc; subst hc
    exact op_mkMap hs hop he
   ·cases hc
 | lookup t x k ok=>
   simp only [compOp] at hc
   split at hc
   ·rename_i y q kt et hy hq hu
    split at hc
    ·rename_i kk z hk hz
     injection hc with hc; subst hc
     exact op_lookM hs hr hu hk hz hy hq hop he
    ·cases hc
   ·cases hc
 | mapUpdate t x k u=>
   exact op_updM hs hr hc (.inl hop) he
 | insert t x k u=>
   exact op_updM hs hr hc (.inr hop) he
 | _=>simp [compOp] at hc
end
end Go.VM
