import Derived.Test.YtnkbbpmcjopicaaDoorPk6
set_option linter.unusedVariables false
set_option linter.unusedSimpArgs false
open Nat renaming reduceEqDiff -> ZA,reduceAdd -> ZB,reduceMul -> ZC,reduceLeDiff -> ZD,reduceLT -> ZE
open Int renaming reduceEq -> ZF
open Option renaming bind_eq_some_iff->Z0,bind_some->Z1,map_eq_some_iff->Z2,map_some->Z3,getD_some->Z7
open Bool renaming false_eq_true->Z4,and_eq_true->Z5
open Nat renaming eq_zero_or_pos->Z6
open List renaming replicate->Z8,getElem?_eq_none->Z9
namespace Go.Eng
section
variable {P:Program} {keep:Bool} {nm:List Nat} {e l:PE} {h:AH} {K:Value->AH->Prop} {Kp:Value->AH->Prop}
 {dst:Option Tmp} {type:TypeId} {pos:String} {after:Array Edge} {guard:Option (Nat × Bool)}
theorem rxp_evp {g:Operand->Option Value} (hg:GG nm e l g) {place:Nat->Option (Nat × Nat)}:∀ {xs:List (Nat × Operand)} {ys:List (Nat × Nat × RX)},resParts nm place xs=some ys -> ∀ {ps:List (Nat × Nat × Value)},rxp e l ys=some ps ->
 ∃ vs,evp g xs=some vs/\vs.length=ps.length /\ ∀ (i:Nat) (p:Nat × Value) (q:Nat × Nat × Value),vs[i]?=some p->ps[i]?=some q->place p.1=some (q.1,q.2.1)/\p.2=q.2.2:=by
 intro xs
 induction xs with
 | nil=>intro ys h ps hp;cases h;cases hp;exact ⟨[],rfl,rfl,fun i p q a=>by simp at a⟩
 | cons x xs ih =>
   intro ys h ps hp;obtain ⟨i,x⟩:=x;simp only[resParts] at h
   split at h
   case h_2=>cases h
   case h_1 off n y ys' h1 h2 h3 =>
    cases h;simp only[rxp] at hp;obtain ⟨v,k1,k2⟩:=Z0.1 hp;obtain ⟨ps',k3,k4⟩:=Z2.1 k2;subst k4;obtain ⟨vs,e1,e2,e3⟩:=ih h3 k3;refine ⟨(i,v)::vs,by simp only[evp,hg h2 k1,e1],by simp [e2],fun j p q a b=>?_⟩;cases j with
    | zero=>simp at a b;subst a;subst b;exact ⟨h1,rfl⟩
    | succ j=>simp at a b;exact e3 j p q a b
theorem ok_build {g:Operand->Option Value} (hg:GG nm e l g) {t:TypeId} {parts:Array (Nat × Operand)} {k:RK} (hk:resK P nm ⟨dst,.build t parts,type,pos,after,guard⟩=some k) (hw:wpk P keep nm e l h K Kp k):OpS P keep g h ⟨dst,.build t parts,type,pos,after,guard⟩ K Kp:=by
 simp only[resK] at hk
 split at hk
 case h_3=>cases hk
 case h_1 z fields hz hu =>
  obtain ⟨pl,h1,h2⟩:=Z0.1 hk;obtain ⟨ps,h3,rfl⟩:=Z2.1 h2;obtain ⟨vs,cs,h4,h5,h6⟩:=pK_inv hw;obtain ⟨ws,e1,e2,e3⟩:=rxp_evp hg h3 h4;have hf:=fill_bldv (fun i=>pl[i]?) ws vs _ cs e2 e3 h5;refine .rd (.agg cs.toArray,none) ?_ h6;simp only[aread,e1,Z1,rbuild,hz,hu,h1];rw[show z.cells=z.cells.toList.toArray by simp,hf];rfl
 case h_2 z n e' hz hu =>
  obtain ⟨sz,h1,h2⟩:=Z0.1 hk;obtain ⟨ps,h3,rfl⟩:=Z2.1 h2;obtain ⟨vs,cs,h4,h5,h6⟩:=pK_inv hw;obtain ⟨ws,e1,e2,e3⟩:=rxp_evp hg h3 h4;have hf:=fill_bldv (fun i=>some (i*sz,sz)) ws vs _ cs e2 e3 h5;refine .rd (.agg cs.toArray,none) ?_ h6;simp only[aread,e1,Z1,rbuild,hz,hu,h1];rw[show z.cells=z.cells.toList.toArray by simp,hf];rfl
theorem ok_buildSlice {g:Operand->Option Value} (hg:GG nm e l g) {t:TypeId} {len:Nat} {parts:Array (Nat × Operand)} {k:RK} (hk:resK P nm ⟨dst,.buildSlice t len parts,type,pos,after,guard⟩=some k) (hw:wpk P keep nm e l h K Kp k):OpS P keep g h ⟨dst,.buildSlice t len parts,type,pos,after,guard⟩ K Kp:=by
 simp only[resK] at hk
 split at hk
 case h_2=>cases hk
 case h_1 e' hu =>
  split at hk
  case h_2=>cases hk
  case h_1 sz z hs hz =>
   split at hk
   case isFalse=>cases hk
   case isTrue hl =>
    split at hk
    case isFalse=>cases hk
    case isTrue ha =>
     obtain ⟨ps,h3,rfl⟩:=Z2.1 hk;obtain ⟨vs,cs,h4,h5,h6⟩:=pK_inv hw;obtain ⟨ws,e1,e2,e3⟩:=rxp_evp hg h3 h4;have hf:=fill_bldv (fun i=>some (i*sz,sz)) ws vs _ cs e2 e3 h5;refine .rd (.slice (some ⟨h.length,0,none⟩) len len,some (row e' h.length cs)) ?_ h6;simp only[aread,e1,Z1,rbuildSlice,hu,hs,hz,hl,if_true,ha];simp only[Array.toArray_toList] at hf;rw[hf];rfl
theorem bval_es {neg:Bool} {ks:List Nat} {u v:Value} {res:RRes} (hb:bval P h (.es neg ks) u v=some res):∃ xs ys,u = .agg xs/\v = .agg ys/\(ceq ks xs.toList ys.toList).map (fun r=>(Value.bool (r != neg),(none:Option Blk)))=some res:=by
 cases u<;>cases v<;>first|exact ⟨_,_,rfl,rfl,hb⟩|(cases hb)
theorem ceq_scal:∀ {ks:List Nat} {us vs:List Value} {r:Bool},ceq ks us vs=some r->us.all (scal 7)=true/\vs.all (scal 7)=true:=by
 intro ks
 induction ks with
 | nil =>
   intro us vs r h;unfold ceq at h
   split at h<;>simp_all
 | cons k ks ih =>
   intro us vs r h;obtain ⟨u,v,l,m,b,r',rfl,rfl,h1,_,h2⟩:=ceq_cons h;have:=ih h1;simp only[List.all_cons,this.1,this.2,Bool.and_true];cases h2<;>exact ⟨rfl,rfl⟩
theorem refV_refEq {t:TypeId} {d:TypeDesc} {kk:Nat} (hu:P.underlying t=some d) (hk:refK P d=some kk) {u v:Value} {r:Bool} (h:refV kk u v=some r) (hne:¬ (u = .nilIface/\v = .nilIface)):refEq P t u v=some r:=by
 unfold refK at hk
 split at hk
 ·rename_i e
  split at hk
  ·rename_i n hs
   cases hk;unfold refV at h
   split at h<;>first|(rename_i hh;cases hh;done)|skip
   ·cases h;simp only[refEq,hu]
   ·cases h;simp only[refEq,hu]
   ·simp only[refEq,hu,hs];exact h
   ·cases h
  ·cases hk
 ·cases hk
  unfold refV at h
  split at h<;>first|(rename_i hh;cases hh;done)|skip
  ·cases h;simp only[refEq,hu]
  ·cases h;simp only[refEq,hu]
  ·cases h
 ·cases hk
  unfold refV at h
  split at h<;>first|(rename_i hh;cases hh;done)|skip
  ·cases h;simp only[refEq,hu]
  ·cases h;simp only[refEq,hu]
  ·cases h
 ·cases hk
  unfold refV at h
  split at h<;>first|(rename_i hh;cases hh;done)|skip
  ·cases h;simp only[refEq,hu]
  ·cases h;simp only[refEq,hu]
  ·cases h
 ·split at hk
  ·cases hk
   unfold refV at h
   split at h<;>first|(rename_i hh;cases hh;done)|skip
   ·exact absurd ⟨rfl,rfl⟩ hne
   ·cases h;simp only[refEq,hu]
   ·cases h;simp only[refEq,hu]
   ·cases h
  ·cases hk
   unfold refV at h
   split at h<;>first|(rename_i hh;cases hh;done)|skip
   ·cases h;simp only[refEq,hu]
   ·cases h;simp only[refEq,hu]
   ·cases h
 ·cases hk
theorem refV_nil {d:TypeDesc} {kk:Nat} {t:TypeId} (hu:P.underlying t=some d) (hk:refK P d=some kk) {r:Bool} (h:refV kk .nilIface .nilIface=some r):r=true /\ ∃ ms,d = .interface ms/\ms.isEmpty=true:=by
 unfold refK at hk
 split at hk
 ·split at hk
  ·cases hk;cases h
  ·cases hk
 ·cases hk;cases h
 ·cases hk;cases h
 ·cases hk;cases h
 ·split at hk
  ·rename_i ms hm;cases hk;cases h;exact ⟨rfl,ms,rfl,hm⟩
  ·cases hk;cases h
 ·cases hk
theorem refV6 {u v:Value} {r:Bool} (h:refV 6 u v=some r):(u = .nilIface/\v = .nilIface)\/(refV 4 u v=some r/\refV 5 u v=some r):=by
 cases u<;>cases v<;>first
  | exact .inl ⟨rfl,rfl⟩
  | exact .inr ⟨h,h⟩
  | (exfalso;simp [refV] at h;done)
theorem nil_guard {op:BinOp} {t:TypeId} {x y:Operand} {ms:Array (String × TypeId)} (hu:P.underlying t=some (.interface ms)) (hm:ms.isEmpty=true):pureRun P (eqGuard op t x y .nilIface .nilIface)=some ():=by
 have h1:pureRun P (Op.eqGuardIn Op.maxDepth t .nilIface .nilIface)=some false:=by
  show pureRun P (Op.eqGuardIn (9999+1) t .nilIface .nilIface)=some false
  rw[Op.eqGuardIn];simp only[pureRun_bind,pureRun_underlying hu,Z1];simp [hm,pureRun_pure]
 unfold eqGuard;cases op<;>try rfl
 all_goals
  show pureRun P (if (x matches .const _) || (y matches .const _) then pure () else do
   if <- Op.eqGuardIn Op.maxDepth t .nilIface .nilIface then unsupported (.noEntry "binop/eql: two nil values of an interface type with methods, neither of them the literal nil")) = some ()
  by_cases hc:((x matches .const _) || (y matches .const _))=true
  ·rw[if_pos hc];rfl
  ·rw[if_neg hc]
   simp only[pureRun_bind,h1,Z1];rfl
theorem nil_eq {t:TypeId} {ms:Array (String × TypeId)} (hu:P.underlying t=some (.interface ms)):pureRun P (Op.equal t .nilIface .nilIface)=some true:=by
 show pureRun P (Op.equalIn (9999+1) t .nilIface .nilIface)=some true
 rw[Op.equalIn];simp only[pureRun_bind,pureRun_underlying hu,Z1];rfl
theorem refEq_guard {op:BinOp} {t:TypeId} {x y:Operand} {u v:Value} {r:Bool} (h:refEq P t u v=some r):pureRun P (eqGuard op t x y u v)=some ():=by
 unfold refEq at h
 split at h<;>first|(cases op<;>rfl)|cases h
theorem binOp_ref {op:BinOp} {t:TypeId} {u v:Value} {r n:Bool} (h:refEq P t u v=some r) (hn:negOf op=some n):binOp op t u v=(do pure (.bool ((<- Op.equal t u v) != n))):=by
 unfold refEq at h;cases op<;>simp [negOf] at hn<;>subst hn
 all_goals
  split at h<;>first|(simp only[binOp];congr 1;funext q;cases q<;>rfl)|cases h
theorem refEq_pure {t:TypeId} {u v:Value} {r:Bool} (h:refEq P t u v=some r) (hu:scal 8 u=true) (hv:scal 8 v=true):pureRun P (Op.equal t u v)=some r:=by
 show pureRun P (Op.equalIn (9999+1) t u v)=some r
 unfold refEq at h;rw[Op.equalIn];simp only[pureRun_bind]
 split at h
 all_goals first|(cases h;done)|skip
 all_goals first|(simp [scal] at hu;done)|(simp [scal] at hv;done)|skip
 all_goals
  split at h
  ·rename_i hh
   rw[pureRun_underlying hh];cases h
   first|rfl|(simp [scal] at hu;done)|(simp [scal] at hv;done)|(simp only[Z1];rfl)|skip
  ·cases h
theorem ok_bin {g:Operand->Option Value} (hg:GG nm e l g) {op:BinOp} {t yt:TypeId} {x y:Operand} {k:RK} (hk:resK P nm ⟨dst,.binOp op t x y yt,type,pos,after,guard⟩=some k) (hw:wpk P keep nm e l h K Kp k) (hraw:k ≠ .raw ⟨dst,.binOp op t x y yt,type,pos,after,guard⟩) :
 OpS P keep g h ⟨dst,.binOp op t x y yt,type,pos,after,guard⟩ K Kp:=by
 have ar:∀ {k:RK},res2 nm (.ar op) x y=some k->wpk P keep nm e l h K Kp k->OpS P keep g h ⟨dst,.binOp op t x y yt,type,pos,after,guard⟩ K Kp:=by
  intro k hk hw;refine b_ok hg hk hw fun u v res hu hv hb=>?_
  unfold bval at hb
  split at hb<;>(rename_i hh;first|cases hh|skip)
  ·split at hb
   ·rename_i hc
    obtain ⟨z,h1,rfl⟩:=Z2.1 hb;have:=pureRun_ibin (P:=P) (t:=t) hc h1;exact bin_ok rfl hu hv rfl rfl pureRun_eqGuard_int this.1 this.2 _
   ·cases hb
  ·obtain ⟨z,h1,rfl⟩:=Z2.1 hb
   have:=pureRun_sbin (P:=P) (t:=t) h1;exact bin_ok rfl hu hv rfl rfl pureRun_eqGuard_str this.1 this.2 _
  all_goals cases hb
 have core:∀ {n:Bool} {d:TypeDesc} {kk:Nat},P.underlying t=some d->refK P d=some kk->negOf op=some n -> ∀ {u v:Value} {res:RRes},g x=some u->g y=some v->(refV kk u v).map (fun r=>(Value.bool (r != n),(none:Option Blk)))=some res ->
  aread P g h h.length ⟨dst,.binOp op t x y yt,type,pos,after,guard⟩=some res:=by
  intro n d kk hud hkk hn u v res hx hy hb';obtain ⟨r,h1,rfl⟩:=Z2.1 hb'
  by_cases hnn:u = .nilIface/\v = .nilIface
  ·obtain ⟨rfl,rfl⟩:=hnn
   obtain ⟨rfl,ms,rfl,hms⟩:=refV_nil hud hkk h1;refine bin_ok rfl hx hy rfl rfl (nil_guard hud hms) ?_ rfl _;have hb2:binOp op t .nilIface .nilIface=(do pure (.bool ((<- Op.equal t .nilIface .nilIface) != n))):=by
    cases op<;>simp [negOf] at hn<;>subst hn
    all_goals simp only[binOp];congr 1;funext q;cases q<;>rfl
   rw[hb2,pureRun_bind,nil_eq hud];rfl
  have h1:=refV_refEq hud hkk h1 hnn
  by_cases hsc:scal 8 u=true/\scal 8 v=true
  ·refine bin_ok rfl hx hy hsc.1 hsc.2 (refEq_guard h1) ?_ rfl _
   rw[binOp_ref h1 hn,pureRun_bind,refEq_pure h1 hsc.1 hsc.2];rfl
  ·have hrs:rscal P g ⟨dst,.binOp op t x y yt,type,pos,after,guard⟩=none:=by
    unfold rscal;rw[if_neg];intro hc;simp only[Z5,List.all_eq_true] at hc;refine hsc ⟨?_,?_⟩
    ·have:=hc.2 x (by simp [Op.operands]);simpa [okScal,hx] using this
    ·have:=hc.2 y (by simp [Op.operands]);simpa [okScal,hy] using this
   simp only[aread,hrs,orElse,hx,hy];cases op<;>simp [negOf] at hn<;>subst hn
   ·simp only[rcmp,h1,Z3];cases r<;>rfl
   ·simp only[rcmp,h1,Z3];cases r<;>rfl
 have er:∀ {k:RK} {n:Bool} {d:TypeDesc} {kk:Nat},P.underlying t=some d->refK P d=some kk->negOf op=some n->res2 nm (if 3<kk then .ei n (if isC x || isC y then 6 else kk) else .er n kk) x y=some k->wpk P keep nm e l h K Kp k->OpS P keep g h ⟨dst,.binOp op t x y yt,type,pos,after,guard⟩ K Kp:=by
  intro k n d kk hud hkk hn hk hw;refine b_ok hg hk hw fun u v res hx hy hb=>?_
  split at hb
  ·rename_i h3
   have hb:(eiV P (if isC x || isC y then 6 else kk) u v).map (fun r=>(Value.bool (r != n),(none:Option Blk)))=some res:=hb;obtain ⟨ms,rfl⟩:∃ ms,d = .interface ms:=by
    unfold refK at hkk
    split at hkk<;>first|exact ⟨_,rfl⟩|(exfalso;split at hkk<;>first|(cases hkk;omega)|cases hkk)|(exfalso;cases hkk;omega)|(exfalso;cases hkk)
   unfold eiV at hb
   split at hb
   ·rename_i tx ka a ty kb b _
    obtain ⟨r,h1,rfl⟩:=Z2.1 hb;have heq:pureRun P (Op.equal t (.iface tx (.int ka a)) (.iface ty (.int kb b)))=some r:=by
     show pureRun P (Op.equalIn (9999+1) t _ _)=_
     rw[Op.equalIn];simp only[pureRun_bind,pureRun_underlying hud,Z1];unfold iiV at h1
     split at h1
     ·rename_i ht
      subst ht
      split at h1
      ·rename_i hc
       cases h1;obtain ⟨rfl,hc⟩:=hc;unfold intOk at hc
       split at hc
       ·rename_i i k2 hi hu2
        have e1:pureRun P (typeInfo tx)=some i:=by simp only[typeInfo,pureRun_bind,pureRun_program,Z1,hi,pureRun_pure]
        simp only[ne_eq,not_true_eq_false,if_false,pureRun_bind,e1,Z1,hc,Bool.not_true,Z4]
        show pureRun P (Op.equalIn (9998+1) tx _ _)=_
        rw[Op.equalIn];simp only[pureRun_bind,pureRun_underlying hu2,Z1]
        rfl
       ·cases hc
      ·cases h1
     ·rename_i ht
      cases h1;simp only[ne_eq,ht,not_false_eq_true,if_true]
      rfl
    refine bin_ok rfl hx hy rfl rfl (by cases op<;>rfl) ?_ rfl _;cases op<;>simp [negOf] at hn<;>subst hn
    ·show pureRun P (do pure (Value.bool (<- Op.equal t (.iface _ _) (.iface _ _))))=_
     rw[pureRun_bind,heq];simp [pureRun_pure]
    ·show pureRun P (do pure (Value.bool (!(<- Op.equal t (.iface _ _) (.iface _ _)))))=_
     rw[pureRun_bind,heq];simp [pureRun_pure]
   ·split at hb
    ·rename_i hcc
     by_cases hnn:u = .nilIface/\v = .nilIface
     ·obtain ⟨rfl,rfl⟩:=hnn
      cases hb;have hgd:pureRun P (eqGuard op t x y .nilIface .nilIface)=some ():=by
       simp only[Bool.or_eq_true] at hcc
       rcases hcc with hcc|hcc
       ·cases x<;>first|(rename_i q;rw[eqGuard_nil_constL];rfl)|cases hcc
       ·cases y<;>first|(rename_i q;rw[eqGuard_nil_constR];rfl)|cases hcc
      refine bin_ok rfl hx hy rfl rfl hgd ?_ rfl _;have hb2:binOp op t .nilIface .nilIface=(do pure (.bool ((<- Op.equal t .nilIface .nilIface) != n))):=by
       cases op<;>simp [negOf] at hn<;>subst hn
       all_goals simp only[binOp];congr 1;funext q;cases q<;>rfl
      rw[hb2,pureRun_bind,nil_eq hud];rfl
     ·refine core hud hkk hn hx hy ?_
      have hk45:kk=4\/kk=5:=by
       unfold refK at hkk;simp only at hkk
       split at hkk<;>cases hkk<;>simp
      obtain ⟨r,h1,h2⟩:=Z2.1 hb;have h4:refV kk u v=some r:=by
       rcases refV6 h1 with ⟨e1,e2⟩|⟨e1,e2⟩
       ·exact absurd ⟨e1,e2⟩ hnn
       ·rcases hk45 with rfl|rfl<;>assumption
      rw[h4];exact congrArg some h2
    ·exact core hud hkk hn hx hy hb
  ·exact core hud hkk hn hx hy hb
 simp only[resK] at hk
 split at hk
 case h_1=>exact ar hk hw
 case h_2=>exact ar hk hw
 case h_3 hu =>
  obtain ⟨n,h1,h2⟩:=Z0.1 hk;refine b_ok hg h2 hw fun u v res hx hy hb=>?_
  unfold bval at hb
  split at hb<;>(rename_i hh;first|cases hh|skip)
  ·cases hb
   refine bin_ok rfl hx hy rfl rfl pureRun_eqGuard_bool ?_ rfl _;cases op<;>simp [negOf] at h1<;>subst h1
   ·show pureRun P (do pure (Value.bool (<- Op.equal t (.bool _) (.bool _))))=_
    rw[pureRun_bind,pureRun_equal_bool hu];simp [pureRun_pure]
   ·show pureRun P (do pure (Value.bool (!(<- Op.equal t (.bool _) (.bool _)))))=_
    rw[pureRun_bind,pureRun_equal_bool hu];simp [pureRun_pure]
  all_goals cases hb
 case h_4 fields hu =>
  split at hk
  case h_2=>cases hk;exact absurd rfl hraw
  case h_1 ks hks =>
   split at hk
   case isFalse=>cases hk;exact absurd rfl hraw
   case isTrue hc =>
    simp only[Z5,Bool.not_eq_true'] at hc;obtain ⟨n,h1,h2⟩:=Z0.1 hk;refine b_ok hg h2 hw fun u v res hx hy hb=>?_
    obtain ⟨xs,ys,rfl,rfl,hb⟩:=bval_es hb
    ·obtain ⟨r,k1,rfl⟩:=Z2.1 hb
     have heq:pureRun P (Op.equal t (.agg xs) (.agg ys))=some r:=equal_flat 9998 hu hc.1 hks xs ys k1;have hsx:scal 8 (.agg xs)=true/\scal 8 (.agg ys)=true:=by have:=ceq_scal k1;exact ⟨this.1,this.2⟩
     refine bin_ok rfl hx hy hsx.1 hsx.2 ?_ ?_ rfl _
     ·cases op<;>first|rfl|(unfold eqGuard;simp only[Bool.not_true,Z4,if_false,pureRun_bind,pureRun_program,Z1,hc.2,Bool.not_false,if_true];rfl)
     ·cases op<;>simp [negOf] at h1<;>subst h1
      ·show pureRun P (do pure (Value.bool (<- Op.equal t (.agg xs) (.agg ys))))=_
       rw[pureRun_bind,heq];simp [pureRun_pure]
      ·show pureRun P (do pure (Value.bool (!(<- Op.equal t (.agg xs) (.agg ys)))))=_
       rw[pureRun_bind,heq];simp [pureRun_pure]
 case h_5 d _ _ _ _ hud =>
  split at hk
  ·rename_i kk hkk
   obtain ⟨n,h1,h2⟩:=Z0.1 hk;exact er hud hkk h1 h2 hw
  ·cases hk;exact absurd rfl hraw
 case h_6=>cases hk
theorem zeros_rep (z:Array Value) (n k:Nat) (hz:z.size=k) (h0:0<k\/n=0\/k=0):((Array.range (n*k)).map (z[· % z.size]!)).toList=(Z8 n z.toList).flatten:=by
 apply List.ext_getElem?
 intro i;simp only[Array.toList_map,Array.toList_range,List.getElem?_map]
 by_cases hi:i<n*k
 ·have hk:0<k:=by
   rcases Z6 k with h|h
   ·subst h;simp at hi
   ·exact h
  rw[List.getElem?_range hi];simp only[Z3];have hm:i % k<k:=Nat.mod_lt _ hk;rw[hz];rw[getElem!_pos z (i % k) (by omega)]
  induction n generalizing i with
  | zero=>simp at hi
  | succ n ih =>
    rw[List.replicate_succ,List.flatten_cons]
    by_cases hik:i<k
    ·rw[List.getElem?_append_left (by simp;omega)]
     simp [Nat.mod_eq_of_lt hik,hz,hik]
    ·rw[List.getElem?_append_right (by simp;omega)]
     have e:i % k=(i-k) % k:=by rw[Nat.mod_eq_sub_mod (by omega)]
     have hi':i-k<n*k:=by rw[Nat.succ_mul] at hi;omega
     have:=ih (by omega) (i:=i-k) hi' (Nat.mod_lt _ hk);simp only[Array.length_toList,hz];rw[<- this]
     congr 1
     simp only[e]
 ·rw[Z9 (by simp;omega),Z9 (by simp [hz];omega)]
  rfl
theorem zeroCells_rep (z:Array Value) (n:Nat):(Builtin.zeroCells z n).toList=(Z8 n z.toList).flatten:=by
 rcases Z6 z.size with h|h
 ·exact zeros_rep z n z.size rfl (.inr (.inr h))
 ·exact zeros_rep z n z.size rfl (.inl h)
theorem all_rep {z:List Value} (hz:z.all (scal 8)=true) (n:Nat):(Z8 n z).flatten.all (scal 8)=true:=by
 rw[List.all_eq_true] at hz ⊢;intro x hx;obtain ⟨y,h1,h2⟩:=List.mem_flatten.1 hx;rw[List.mem_replicate] at h1;rw[h1.2] at h2;exact hz x h2
theorem rk_u {g:Operand->Option Value} (hg:GG nm e l g) {x:Operand} {y:RX} {f:U} (hx:resX nm x=some y) (hw:wpk P keep nm e l h K Kp (.u f y)):∃ v res,g x=some v/\uval P h h.length f v=some res/\RR res h K:=by
 obtain ⟨v,hv,hw⟩:=vK_inv hw;obtain ⟨res,h2,h3⟩:=rK_inv hw;exact ⟨v,res,hg hx hv,h2,h3⟩
theorem ob_evo {g:Operand->Option Value} (hg:GG nm e l g) {lo:Option Operand} {lo':Option RX} (hl:resO nm lo=some lo') {v:Option Value} (hv:ob e l lo'=some v):evo g lo=some v:=by
 cases lo with
 | none=>cases hl;cases hv;rfl
 | some x =>
   obtain ⟨y,h1,rfl⟩:=Z2.1 hl;obtain ⟨u,h2,rfl⟩:=Z2.1 hv;simp only[evo,hg h1 h2,Z3]
theorem rsrc_srcv {sz:Nat} {tx:TypeId} {d:TypeDesc} (hd:P.underlying tx=some d) {str:Bool} (hs:(str=false /\ ∃ e,d = .slice e)\/(str=true/\d = .string)) {x:Value} {r:Nat × List Value} (he:srcv h sz str x=some r):rsrc P h sz tx x=some r:=by
 unfold srcv at he
 split at he
 ·split at he
  ·cases he
  ·rename_i hf
   cases he
   rcases hs with ⟨rfl,e',rfl⟩|⟨rfl,rfl⟩
   ·simp only[rsrc,hd]
   ·simp at hf
 ·split at he
  ·cases he
  ·rename_i hf
   rcases hs with ⟨rfl,e',rfl⟩|⟨rfl,rfl⟩
   ·simp only[rsrc,hd]
    split at he
    ·rename_i h0;cases he;simp [h0]
    ·rename_i h0
     rw[if_neg h0];obtain ⟨cs,h1,h2⟩:=Z0.1 he;simp only[h1];exact h2
   ·simp at hf
 ·split at he
  ·rename_i hf
   simp only[Z5,beq_iff_eq] at hf;cases he
   rcases hs with ⟨rfl,e',rfl⟩|⟨rfl,rfl⟩
   ·simp at hf
   ·simp only[rsrc,hd,hf.2,if_true]
  ·cases he
 ·cases he
theorem ok_call {g:Operand->Option Value} (hg:GG nm e l g) {c:Call} {k:RK} (hk:resK P nm ⟨dst,.call c,type,pos,after,guard⟩=some k) (hw:wpk P keep nm e l h K Kp k) (hraw:k ≠ .raw ⟨dst,.call c,type,pos,after,guard⟩) :
 OpS P keep g h ⟨dst,.call c,type,pos,after,guard⟩ K Kp:=by
 obtain ⟨callee,args,argTypes⟩:=c;simp only[resK,resCall] at hk
 split at hk
 case h_1 =>
  rename_i fo
  split at hk
  case h_2=>cases hk
  case h_1 f ags h1 h2 =>
   cases hk;obtain ⟨fv,hfv,hw⟩:=vK_inv hw;obtain ⟨vs,hvs,hw⟩:=vsK_inv hw;obtain ⟨g,first,cap,res,h',rfl,k1,k2,k3⟩:=hw;exact .call ⟨.value fo,args,argTypes⟩ fo g first cap vs res h' rfl rfl rfl rfl (hg h1 hfv) (evs_gof hg h2 hvs) k1 k2 k3
 case h_2 x t hargs hts =>
  split at hk
  ·rename_i hu
   obtain ⟨y,h1,rfl⟩:=res1_inv hk;obtain ⟨v,res,hv,h2,h3⟩:=rk_u hg h1 hw;refine .rd res ?_ h3;cases v<;>try cases h2
   rename_i s
   simp only[aread,rcall,hargs,hts,hv,Z1,orElse,rlen];have:args = #[x]:=by rw[<- hargs]
   subst this;have:argTypes = #[t]:=by rw[<- hts]
   subst this;exact rscal_of rfl (fun q hq=>by simp [Op.operands,Call.operands] at hq;first|(subst hq;simp [okScal,hv,scal])|(rw[hq];simp [okScal,hv,scal])) (s:=Builtin.len_ #[t] type #[.string s]) (by simp [execOp,resolve,invoke,builtin,nv,hv]) (by simp only[Builtin.len_,List.getElem?_toArray,List.getElem?_cons_zero,pureRun_bind,pureRun_underlying hu,Z1];rfl) rfl
  ·rename_i e' hu
   obtain ⟨y,h1,rfl⟩:=res1_inv hk;obtain ⟨v,res,hv,h2,h3⟩:=rk_u hg h1 hw;refine .rd res ?_ h3;cases v<;>try cases h2
   simp only[aread,rcall,hargs,hts,hv,Z1,rlen,hu,orElse]
  ·cases hk;exact absurd rfl hraw
 case h_3 s x t tx hargs hts =>
  split at hk
  case h_2=>cases hk
  case h_1 e' d hu hd =>
   split at hk
   case h_2=>cases hk
   case h_1 i s' x' hi hs hx =>
    split at hk
    case h_2=>cases hk
    case h_1 z hz =>
     split at hk
     case isFalse=>cases hk
     case isTrue hzs =>
      have main:∀ {str:Bool},((str=false /\ ∃ e,d = .slice e)\/(str=true/\d = .string))->wpk P keep nm e l h K Kp (.app str e' i.size i.bytes z.cells.toList s' x')->OpS P keep g h ⟨dst,.call ⟨.builtin .append,args,argTypes⟩,type,pos,after,guard⟩ K Kp:=by
       intro str hstr hw;obtain ⟨u,hu1,hw⟩:=vK_inv hw;obtain ⟨v,hv1,hw⟩:=vK_inv hw;obtain ⟨r,h',hr,hk2⟩:=wK_inv hw;refine .wr r h' rfl ?_ hk2;have hap:happend P keep h t tx u v=some (r,h'):=by
        unfold appv at hr;obtain ⟨⟨n,xs⟩,h1,h2⟩:=Z0.1 hr;simp only[happend,hu,hi,hz,rsrc_srcv hd hstr h1,hzs.1,hzs.2,ne_eq,not_true_eq_false,Z4,or_false,if_false];exact h2
       simp only[awrite,hargs,hts,hg hs hu1,hg hx hv1,hap]
      cases d<;>simp only at hk<;>try cases hk
      ·split at hk
       ·cases hk;exact main (.inr ⟨rfl,rfl⟩) hw
       ·cases hk
      ·exact main (.inl ⟨rfl,_,rfl⟩) hw
 case h_4 x t hargs hts =>
  split at hk
  case h_2=>cases hk
  case h_1 e' x' hu hx =>
   split at hk
   case h_2=>cases hk
   case h_1 z hz =>
    split at hk
    case isFalse=>cases hk
    case isTrue hc =>
     cases hk;simp only[Z5,decide_eq_true_eq] at hc;obtain ⟨u,hu1,hw⟩:=vK_inv hw;obtain ⟨r,h',hr,hk2⟩:=wK_inv hw;refine .wr r h' rfl ?_ hk2;obtain ⟨h'',h1,h2⟩:=Z2.1 hr;have hcl:wclear P h t u=some h'':=by
      unfold clrv at h1
      split at h1
      ·simp only[wclear,hu];exact h1
      ·simp only[wclear,hu,hz]
       rw[zeroCells_rep,all_rep hc.1]
       simpa using h1
      ·cases h1
     simp only[awrite,hargs,hts,hg hx hu1,hcl,Z3,h2]
 case h_5 dd s t tx hargs hts =>
  split at hk
  case h_2=>cases hk
  case h_1 e' k' d' s' hu hk' hd hs =>
   have main:∀ {str:Bool} {sz:Nat},sizeT P e'=some sz->((str=false /\ ∃ e,k' = .slice e)\/(str=true/\k' = .string))->wpk P keep nm e l h K Kp (.cpy sz str d' s')->OpS P keep g h ⟨dst,.call ⟨.builtin .copy,args,argTypes⟩,type,pos,after,guard⟩ K Kp:=by
    intro str sz hsz hstr hw;obtain ⟨u,hu1,hw⟩:=vK_inv hw;obtain ⟨v,hv1,hw⟩:=vK_inv hw;obtain ⟨r,h',hr,hk2⟩:=wK_inv hw;refine .wr r h' rfl ?_ hk2;have hap:wcopy P h t tx u v=some (r,h'):=by
     unfold cpyv at hr;obtain ⟨⟨n,xs⟩,h1,h2⟩:=Z0.1 hr;simp only[wcopy,hu,hsz,rsrc_srcv hk' hstr h1];exact h2
    simp only[awrite,hargs,hts,hg hd hu1,hg hs hv1,hap]
   split at hk
   ·rename_i hsz;cases hk;exact main hsz (.inl ⟨rfl,_,rfl⟩) hw
   ·rename_i hsz;cases hk;exact main hsz (.inr ⟨rfl,rfl⟩) hw
   ·cases hk
 case h_6 x hargs =>
  obtain ⟨y,h1,rfl⟩:=res1_inv hk;obtain ⟨v,res,hv,h2,h3⟩:=rk_u hg h1 hw;refine .rd res ?_ h3;have h2:rsdata v=some res:=by
   unfold uval at h2
   split at h2<;>(rename_i hh;first|cases hh|skip)
   all_goals first|exact h2|cases h2
  simp only[aread,rcall,hargs,hv,Z1,h2]
 case h_7 p n t t2 hargs hts =>
  split at hk
  case h_2=>cases hk
  case h_1 e' p' n' hu hp hn =>
   split at hk
   case isFalse=>cases hk
   case isTrue hc1 =>
    cases hk;obtain ⟨u,hu1,hw⟩:=vK_inv hw;obtain ⟨v,hv1,hw⟩:=vK_inv hw;obtain ⟨r,h',hr,hk2⟩:=wK_inv hw;refine .wr r h' rfl ?_ hk2;have hap:wustr P h t u v=some (r,h'):=by
     unfold ustv at hr
     split at hr
     ·exact hr
     ·rename_i b o m
      simp only[wustr]
      split at hr
      ·rename_i h0;rw[if_pos h0];exact hr
      ·rename_i h0
       rw[if_neg h0]
       split at hr
       ·rename_i grp del e1 cs hB
        simp only[hB,hu]
        split at hr
        ·rename_i hc
         rw[if_pos ⟨hc.1,by rw[hc.1];exact hc1,hc.2⟩];exact hr
        ·cases hr
       ·cases hr
     ·cases hr
    simp only[awrite,hargs,hts,hg hp hu1,hg hn hv1,hap]
 case h_8 t name =>
  obtain ⟨ags,h2,h3⟩:=Z2.1 hk;subst h3;obtain ⟨fv,hfv,hw⟩:=vK_inv hw;obtain ⟨vs,hvs,hw⟩:=vsK_inv hw;obtain ⟨f,first,cap,res,h',rfl,k1,k2,k3⟩:=hw;simp only[rx] at hfv;obtain ⟨u,hu,hm⟩:=Z0.1 hfv;cases u<;>try cases hm
  rename_i ty v
  obtain ⟨f',hf',hv'⟩:=Z2.1 hm;cases hv';have hgx:g (.tmp t)=some (.iface ty v):=hg (x:=.tmp t) (y:=if nm.contains t then .n t else .t t) rfl (by
   cases hc:nm.contains t with
   | true=>rw[hc] at hu;exact hu
   | false=>rw[hc] at hu;exact hu)
  have k1':Holds P f (v::vs) h res h':=by simpa using k1
  exact .inv ⟨.invoke (.tmp t) name,args,argTypes⟩ (.tmp t) name ty v f vs res h' rfl rfl rfl rfl hgx (mtab_methF hf') (evs_gof hg h2 hvs) k1' k2 k3
 case h_9=>cases hk;exact absurd rfl hraw
theorem ob_map {g:Operand->Option Value} (hg:GG nm e l g) {lo:Option Operand} {lo':Option RX} (hl:resO nm lo=some lo') {v:Option Value} (hv:ob e l lo'=some v):lo.map (fun x=>(g x).getD undef)=v:=by
 cases lo with
 | none=>cases hl;cases hv;rfl
 | some x =>
   obtain ⟨y,h1,rfl⟩:=Z2.1 hl;obtain ⟨u,h2,rfl⟩:=Z2.1 hv;simp only[Z3,hg h1 h2,Z7]
theorem ob_scal {g:Operand->Option Value} (hg:GG nm e l g) {lo:Option Operand} {lo':Option RX} (hl:resO nm lo=some lo') {v:Option Value} (hv:ob e l lo'=some v) {d m n:Nat} (hb:bnd d m v=some n):∀ x∈lo,okScal (g x)=true:=by
 intro x hx;cases lo with
 | none=>cases hx
 | some x' =>
   cases hx;obtain ⟨y,h1,rfl⟩:=Z2.1 hl;obtain ⟨u,h2,rfl⟩:=Z2.1 hv;obtain ⟨k,i,rfl,_⟩:=bnd_some hb;simp [hg h1 h2,okScal,scal]
theorem pureRun_bnd {d m n:Nat} {v:Option Value} (hb:bnd d m v=some n) (code:BoundsCode):pureRun P (match v with
 | some v=>Instr.sliceBound v m code
 | none=>pure d)=some n:=by
 cases v with
 | none=>cases hb;rfl
 | some v =>
   obtain ⟨k,i,rfl,h1,h2,h3⟩:=bnd_some hb;subst h3;simp only[Instr.sliceBound,asIntOf,pureRun_bind,pureRun_pure,Z1];rw[if_pos ⟨h1,h2⟩];rfl
theorem evo_none {g:Operand->Option Value}:evo g none=some none:=rfl
theorem wpk_okg {g:Operand->Option Value} (hg:GG nm e l g) {o:Oper} {k:RK} (hk:resK P nm o=some k) (hraw:k ≠ .raw o) (hw:wpk P keep nm e l h K Kp k):OpS P keep g h o K Kp:=by
 obtain ⟨dst,op,type,pos,after,guard⟩:=o;cases op
 case move x=>exact u_ok hg hk hw fun v res hv hu=>by cases hu;simp only[aread,plain,hv,Z3]
 case assign x=>exact u_ok hg hk hw fun v res hv hu=>by cases hu;simp only[aread,plain,hv,Z3]
 case pick c a b =>
  simp only[resK] at hk
  split at hk
  case h_2=>cases hk
  case h_1 c' a' b' hc ha hb =>
   cases hk;obtain ⟨v,hv,hw⟩:=vK_inv hw;obtain ⟨t,rfl,hw⟩:=bK_inv hw;cases t with
   | true =>
     obtain ⟨u,hu,hw⟩:=vK_inv (show vK _ _ from hw);exact .rd (u,none) (by simp only[aread,hg hc hv,hg ha hu,plain,Z3]) hw
   | false =>
     obtain ⟨u,hu,hw⟩:=vK_inv (show vK _ _ from hw);exact .rd (u,none) (by simp only[aread,hg hc hv,hg hb hu,plain,Z3]) hw
 case alloc t =>
  simp only[resK] at hk
  split at hk
  case h_2=>cases hk
  case h_1 z n hz hs =>
   cases hk;exact .rd (.pointer (some ⟨h.length,0,none⟩),some (row t h.length z.cells.toList)) (by simp only[aread,ralloc,hz,hs]) hw
 case box t x =>
  simp only[resK] at hk;obtain ⟨n,hs,hk⟩:=Z0.1 hk;exact u_ok hg hk hw fun v res hv hu=>by cases hu;simp only[aread,hv,Z1,rbox,hs]
 case build t parts=>exact ok_build hg hk hw
 case buildSlice t len parts=>exact ok_buildSlice hg hk hw
 case load t x =>
  simp only[resK] at hk
  split at hk
  ·rename_i ha
   obtain ⟨n,hs,hk⟩:=Z0.1 hk;exact u_ok hg hk hw fun v res hv hu=>by simp only[aread,hv,Z1];exact rload_ldn ha hs hu
  ·rename_i ha
   exact u_ok hg hk hw fun v res hv hu=>by simp only[aread,hv,Z1];exact rload_ld ha hu
  ·cases hk
 case nilCheck x =>
  exact u_ok hg hk hw fun v res hv hu=>by
   unfold uval at hu
   split at hu<;>(rename_i hh;first|cases hh|skip)
   ·cases hu;simp only[aread,hv]
   ·cases hu;simp only[aread,hv]
   ·simp only[aread,hv];exact hu
   all_goals cases hu
 case binOp op t x y yt=>exact ok_bin hg hk hw hraw
 case unOp op t x =>
  cases op<;>simp only[resK] at hk<;>try (cases hk;exact absurd rfl hraw)
  ·exact u_ok hg hk hw fun v res hv hu=>by
    cases v<;>try cases hu
    exact rscal_of rfl (fun q hq=>by simp [Op.operands] at hq;subst hq;simp [okScal,hv,scal]) (s:=Op.unary .neg (.int _ _)) (by simp [execOp,hv,nv]) rfl rfl
  ·exact u_ok hg hk hw fun v res hv hu=>by
    cases v<;>try cases hu
    exact rscal_of rfl (fun q hq=>by simp [Op.operands] at hq;subst hq;simp [okScal,hv,scal]) (s:=Op.unary .not (.bool _)) (by simp [execOp,hv,nv]) rfl rfl
 case convert src dst' x =>
  simp only[resK] at hk
  split at hk
  case h_1 k1 k2 hs hd =>
   exact u_ok hg hk hw fun v res hv hu=>by
    cases v<;>try cases hu
    rename_i k3 n
    have:rconvert P h h.length src dst' (.int k3 n)=none:=rfl;simp only[aread,hv,Z1,this,orElse];exact rscal_of rfl (fun q hq=>by simp [Op.operands] at hq;subst hq;simp [okScal,hv,scal]) (s:=convert src dst' (.int k3 n)) (by simp [execOp,hv,nv])
     (by simp only[convert,pureRun_bind,pureRun_underlying hs,pureRun_underlying hd,Z1];rfl) rfl
  case h_2 hs hd =>
   cases hk;exact absurd rfl hraw
  case h_3 e' hs hd =>
   split at hk
   case h_2=>cases hk
   case h_1 he =>
    exact u_ok hg hk hw fun v res hv hu=>by
     simp only[aread,hv,Z1];cases v<;>try cases hu
     rename_i ad n c
     cases ad with
     | none =>
       cases n<;>cases c<;>try cases hu
       have:rconvert P h h.length src dst' (.slice none 0 0)=none:=rfl;simp only[this,orElse];exact rscal_of rfl (fun q hq=>by simp [Op.operands] at hq;subst hq;simp [okScal,hv,scal]) (s:=convert src dst' (.slice none 0 0)) (by simp [execOp,hv,nv])
        (by simp only[convert,pureRun_bind,pureRun_underlying hs,pureRun_underlying hd,pureRun_underlying he,Z1];rfl) rfl
     | some ad =>
       obtain ⟨b,o,sp⟩:=ad;cases sp with
       | some sp=>cases hu
       | none =>
         simp only[uval] at hu;simp only[rconvert,hs,hd,he]
         by_cases h0:n=0
         ·simp only[h0,if_true] at hu ⊢;cases hu;rfl
         ·simp only[h0,if_false] at hu ⊢
          obtain ⟨cs,h1,h2⟩:=Z0.1 hu;simp only[h1]
          split at h2
          ·rename_i hl
           rw[if_pos hl];obtain ⟨ns,h3,h4⟩:=Z2.1 h2;simp only[h3,Z3,orElse,h4]
          ·cases h2
  case h_4 e' hs hd =>
   split at hk
   case h_2=>cases hk
   case h_1 he hz =>
    exact u_ok hg hk hw fun v res hv hu=>by
     cases v<;>try cases hu
     simp only[aread,hv,Z1,rconvert,hs,hd,he,hz,orElse]
  case h_5 t0 hs hd =>
   split at hk
   ·rename_i n hn
    exact u_ok hg hk hw fun v res hv hu=>by
     cases v<;>try cases hu
     rename_i p
     have hr:ruc P h src dst' p=some res:=by
      rcases p with _|⟨b,o,_|sp⟩
      ·cases hu;simp only[ruc,hs,hd]
      ·simp only[uval] at hu
       obtain ⟨cs,h1,h2⟩:=Z0.1 hu;simp only[ruc,hs,hd,hn,h1];exact h2
      ·cases hu
     simp only[aread,hv,Z1,rconvert,hr,orElse]
   ·cases hk
  case h_6 u0 hs hd =>
   split at hk
   ·rename_i n hn
    split at hk
    ·rename_i hb
     exact u_ok hg hk hw fun v res hv hu=>by
      cases v<;>try cases hu
      rename_i p
      have hr:ruc P h src dst' p=some res:=by
       rcases p with _|⟨b,o,_|sp⟩
       ·cases hu;simp only[ruc,hs,hd]
       ·simp only[uval] at hu
        split at hu
        ·rename_i e1 cs1 hB
         split at hu
         ·rename_i hc
          simp only[ruc,hs,hd,hn,hB];rw[if_pos ⟨hc.1,hc.2.1,by rw[hc.2.1];exact hb,hc.2.2⟩];exact hu
         ·cases hu
        ·cases hu
       ·cases hu
      simp only[aread,hv,Z1,rconvert,hr,orElse]
    ·cases hk
   ·cases hk
  case h_7=>cases hk;exact absurd rfl hraw
 case makeInterface t x =>
  simp only[resK] at hk
  split at hk
  ·cases hk
  ·rename_i d hni hu
   exact u_ok hg hk hw fun v res hv hu'=>by
    cases hu';simp only[aread,hv,Z1,rmakeInterface,hu]
    try (cases d<;>first|rfl|exact absurd rfl (hni _))
  ·cases hk
 case makeFunc fn first cap =>
  simp only[resK] at hk
  split at hk
  case h_2=>cases hk
  case h_1 f c hf hc =>
   cases hk;obtain ⟨fs,h1,hw⟩:=vsK_inv hw;obtain ⟨cs,h2,hw⟩:=vsK_inv hw;exact .rd (.func fn fs.toArray cs.toArray,none) (by simp only[aread,evs_gof hg hf h1,evs_gof hg hc h2]) hw
 case makeMap t r =>
  cases r with
  | some r=>simp only[resK] at hk;cases hk;exact absurd rfl hraw
  | none=>simp only[resK] at hk;cases hk;exact .rd (rmakeMap h.length) rfl hw
 case makeSlice t x y =>
  simp only[resK] at hk
  split at hk
  case h_2=>cases hk
  case h_1 e' hu =>
   split at hk
   case h_2=>cases hk
   case h_1 i z x' y' hi hz hx hy =>
    split at hk
    case isFalse=>cases hk
    case isTrue hc =>
     cases hk;simp only[Z5,decide_eq_true_eq] at hc;obtain ⟨u,hu1,hw⟩:=vK_inv hw;obtain ⟨v,hv1,hw⟩:=vK_inv hw;obtain ⟨res,h1,h2⟩:=rK_inv hw;refine .rd res ?_ h2;simp only[aread,hg hx hu1,hg hy hv1];cases u<;>cases v<;>try cases h1
     rename_i k1 a k2 b
     simp only[mslv] at h1
     ·split at h1
      case isFalse=>cases h1
      case isTrue hcond =>
       cases h1;simp only[rmakeSlice,hu,hi,hz,hcond,and_self,if_true];have hr:=zeros_rep z.cells b.toNat i.size hc.1 (by
        rcases Z6 i.size with h|h
        ·exact .inr (.inr h)
        ·exact .inl h)
       rw[hr,all_rep hc.2]
       rfl
 case slice t x lo hi mx =>
  cases mx with
  | some mx=>simp only[resK] at hk;cases hk;exact absurd rfl hraw
  | none =>
    simp only[resK] at hk
    split at hk
    case h_1 x' lo' hi' hu hx hlo hhi =>
     cases hk;obtain ⟨u,hu1,hw⟩:=vK_inv hw;obtain ⟨res,h1,h2⟩:=rK_inv hw;refine .rd res ?_ h2;obtain ⟨vlo,h3,h1⟩:=Z0.1 h1;obtain ⟨vhi,h4,h1⟩:=Z0.1 h1;obtain ⟨s,rfl⟩:∃ s,u = .string s:=by cases u<;>first|exact ⟨_,rfl⟩|cases h1
     obtain ⟨a,h5,h1⟩:=Z0.1 h1;obtain ⟨b,h6,rfl⟩:=Z2.1 h1;have hrs:rslice P h t (.string s) vlo vhi none=none:=by simp only[rslice,hu]
     simp only[aread,hg hx hu1,ob_evo hg hlo h3,ob_evo hg hhi h4,evo_none,hrs,orElse];refine rscal_of rfl (fun q hq=>?_) (s:=Instr.sliceAt t (.string s) vlo vhi none) ?_ (v:=.string (s.extract b a)) ?_ rfl
     ·simp [Op.operands] at hq
      rcases hq with rfl|hq|hq
      ·simp [okScal,hg hx hu1,scal]
      ·exact ob_scal hg hlo h3 h6 q hq
      ·exact ob_scal hg hhi h4 h5 q hq
     ·simp only[execOp,hg hx hu1,Z7,ob_map hg hlo h3,ob_map hg hhi h4];rfl
     ·have hb2:=pureRun_bnd (P:=P) h5 .sliceAlen
      have hb3:=pureRun_bnd (P:=P) h6 .sliceB;simp only[Instr.sliceAt,Instr.slice,pureRun_bind,pureRun_underlying hu,Z1];cases vlo<;>cases vhi
      all_goals
       simp only at hb2 hb3;simp only[Option.isSome_none,Z4,if_false,Instr.sliceBounds,pureRun_bind,pureRun_pure,Z1,hb2,hb3]
       try (cases hb2)
       try (cases hb3)
       try rfl
    case h_2 e' x' lo' hi' hu hx hlo hhi =>
     obtain ⟨sz,hsz,rfl⟩:=Z2.1 hk;obtain ⟨u,hu1,hw⟩:=vK_inv hw;obtain ⟨res,h1,h2⟩:=rK_inv hw;refine .rd res ?_ h2;obtain ⟨vlo,h3,h1⟩:=Z0.1 h1;obtain ⟨vhi,h4,h1⟩:=Z0.1 h1;simp only[aread,hg hx hu1,ob_evo hg hlo h3,ob_evo hg hhi h4,evo_none];have:rslice P h t u vlo vhi none=some res:=by
      unfold sllv at h1
      split at h1
      ·split at h1
       ·rename_i hh
        obtain ⟨a,h5,h1⟩:=Z0.1 h1;obtain ⟨b,h6,rfl⟩:=Z2.1 h1;simp only[rslice,hu,hh,if_true,hsz,h5,h6]
       ·cases h1
      ·obtain ⟨a,h5,h1⟩:=Z0.1 h1
       obtain ⟨b,h6,rfl⟩:=Z2.1 h1;simp only[rslice,hu,hsz,h5,h6]
      ·cases h1
     simp only[this,orElse]
    case h_3=>cases hk;exact absurd rfl hraw
 case fieldAddr s x f =>
  simp only[resK] at hk
  split at hk
  case h_2=>cases hk
  case h_1 fields hu =>
   split at hk
   case h_2=>cases hk
   case h_1 fd hf =>
    split at hk
    case h_2=>cases hk
    case h_1 n hs =>
     exact u_ok hg hk hw fun v res hv hu'=>by
      unfold uval at hu'
      split at hu'<;>(rename_i hh;first|cases hh|skip)
      ·cases hu';simp only[aread,hv,Z1,rfieldAddr,hu,hf,hs]
      all_goals cases hu'
 case field t x f =>
  simp only[resK] at hk
  split at hk
  case h_2=>cases hk
  case h_1 fields hu =>
   split at hk
   case h_2=>cases hk
   case h_1 fd hf =>
    split at hk
    ·rename_i ha
     obtain ⟨n,hs,hk⟩:=Z0.1 hk;exact u_ok hg hk hw fun v res hv hu'=>by
      cases v<;>try cases hu'
      simp only[aread,hv,Z1,rfield,hu,hf,rpart,ha,hs,Z3]
    ·rename_i ha
     exact u_ok hg hk hw fun v res hv hu'=>by
      cases v<;>try cases hu'
      simp only[aread,hv,Z1,rfield,hu,hf,rpart,ha];exact hu'
    ·cases hk
 case indexAddr t x i =>
  simp only[resK] at hk
  split at hk
  ·rename_i e' hu
   obtain ⟨n,hs,hk⟩:=Z0.1 hk;exact b_ok hg hk hw fun u v res hx hy hb=>by
    unfold bval at hb
    split at hb<;>(rename_i hh;first|cases hh|skip)
    ·simp only[aread,hx,hy,rindexAddr,hu,hs];exact hb
    all_goals cases hb
  ·rename_i len e' hu
   obtain ⟨n,hs,hk⟩:=Z0.1 hk;exact b_ok hg hk hw fun u v res hx hy hb=>by
    unfold bval at hb
    split at hb<;>(rename_i hh;first|cases hh|skip)
    ·simp only[aread,hx,hy,rindexAddr,hu,hs];exact hb
    ·simp only[aread,hx,hy,rindexAddr,hu,hs];exact hb
    all_goals cases hb
  ·cases hk
 case index t x i =>
  simp only[resK] at hk
  split at hk
  ·rename_i hu
   exact b_ok hg hk hw fun u v res hx hy hb=>by
    cases u<;>try cases hb
    cases v<;>try cases hb
    rename_i s k1 i1
    simp only[bval] at hb
    split at hb
    ·rename_i h0
     obtain ⟨c,h1,rfl⟩:=Z2.1 hb;have hra:rindexAgg P t (.string s) (.int k1 i1)=none:=rfl;simp only[aread,hx,hy,hra,orElse];refine rscal_of rfl (fun q hq=>?_) (s:=Instr.index t (.string s) (.int k1 i1)) (by simp only[execOp,hx,hy,Z7];rfl) ?_ rfl
     ·simp [Op.operands] at hq
      rcases hq with rfl|rfl
      ·simp [okScal,hx,scal]
      ·simp [okScal,hy,scal]
     ·simp only[Instr.index,asIntOf,pureRun_bind,pureRun_pure,Z1,pureRun_underlying hu,h0,if_true,h1]
    ·cases hb
  ·cases hk;exact absurd rfl hraw
 case lookup t x k' ok =>
  simp only[resK] at hk
  split at hk
  case h_2=>cases hk
  case h_1 kt e' hu =>
   obtain ⟨z,hz,hk⟩:=Z0.1 hk;exact b_ok hg hk hw fun u v res hx hy hb=>by
    have fin:∀ {es:List (Value × Value)},(match rfind P kt v es with
     | some (some j)=>(es[j]?).map fun kv=>((if ok then Value.tuple #[kv.2,.bool true] else kv.2),(none:Option Blk))
     | some none=>some ((if ok then Value.tuple #[z,.bool false] else z),none)
     | none=>none)=some res->(match rfind P kt v es with
     | some (some j)=>(es[j]?).map fun kv=>((if ok then Value.tuple #[kv.2,.bool true] else kv.2),(none:Option Blk))
     | some none=>(zeroT P e').map fun z=>((if ok then Value.tuple #[z,.bool false] else z),none)
     | none=>none)=some res:=by
     intro es h1;rw[hz];exact h1
    cases u<;>try cases hb
    rename_i r
    cases r with
    | none=>simp only[aread,hx,hy,rlookup,hu];exact fin hb
    | some b =>
      simp only[aread,hx,hy,rlookup,hu];simp only[bval] at hb;cases hm:hmap h b with
      | none=>simp only[hm] at hb;cases hb
      | some es=>simp only[hm] at hb ⊢;exact fin hb
 case typeAssert x xt t ok =>
  simp only[resK] at hk
  split at hk
  ·cases hk;exact absurd rfl hraw
  ·rename_i d hni hu
   have main:∀ {z:Value} {k:RK},(ok=true->zeroT P t=some z)->res1 nm (.asn t ok z) x=some k->wpk P keep nm e l h K Kp k->OpS P keep g h ⟨dst,.typeAssert x xt t ok,type,pos,after,guard⟩ K Kp:=by
    intro z k hz hk hw;refine u_ok hg hk hw fun v res hv hu'=>?_
    simp only[aread,hv,Z1];unfold uval at hu'
    split at hu'<;>(rename_i hh;first|cases hh|skip)
    ·rename_i t' v' _
     unfold rtypeAssert;rw[hu];cases ok with
     | true =>
       have:=hz rfl;cases d<;>first|exact absurd rfl (hni _)|(simp only[this,Z3,if_true] at hu' ⊢;exact hu')
     | false=>cases d<;>first|exact absurd rfl (hni _)|(simp only[Z4,if_false] at hu' ⊢;exact hu')
    ·unfold rtypeAssert
     rw[hu];cases ok with
     | true =>
       have:=hz rfl;cases d<;>first|exact absurd rfl (hni _)|(simp only[this,Z3,if_true] at hu' ⊢;exact hu')
     | false=>simp at hu'
    all_goals cases hu'
   split at hk
   ·obtain ⟨z,hz,hk⟩:=Z0.1 hk
    exact main (fun _=>hz) hk hw
   ·rename_i hok;exact main (fun h=>absurd h hok) hk hw
  ·cases hk
 case extract x i =>
  exact u_ok hg hk hw fun v res hv hu=>by
   cases v<;>try cases hu
   simp only[aread,hv,Z1,rextract];exact hu
 case store t a x =>
  simp only[resK] at hk
  split at hk
  case h_2=>cases hk
  case h_1 n a' x' hs ha hx =>
   cases hk;obtain ⟨u,hu1,hw⟩:=vK_inv hw;obtain ⟨v,hv1,hw⟩:=vK_inv hw;obtain ⟨h',h1,h2⟩:=hK_inv hw;refine .wr undef h' rfl ?_ h2;have:wstore P h t u v=some h':=by
    unfold stv at h1
    split at h1
    ·split at h1
     ·rename_i hn;subst hn;simp only[wstore,hs,if_true];exact h1
     ·cases h1
    ·cases h1
   simp only[awrite,hg ha hu1,hg hx hv1,this,Z3]
 case mapUpdate t m k' x =>
  simp only[resK] at hk
  split at hk
  case h_2=>cases hk
  case h_1 m' k1 x' hm hk' hx =>
   cases hk;obtain ⟨u,hu1,hw⟩:=vK_inv hw;obtain ⟨kv,hk1,hw⟩:=vK_inv hw;obtain ⟨v,hv1,hw⟩:=vK_inv hw;obtain ⟨h',h1,h2⟩:=hK_inv hw;exact .wr undef h' rfl (by simp only[awrite,hg hm hu1,hg hk' hk1,hg hx hv1,h1,Z3]) h2
 case call c=>exact ok_call hg hk hw hraw
 case defer c =>
  simp only[resK] at hk
  split at hk
  ·split at hk
   ·cases hk;exact hw.elim
   ·cases hk
  ·cases hk
 case panic x =>
  obtain ⟨y,h1,rfl⟩:=Z2.1 hk;obtain ⟨v,hv,hw⟩:=vK_inv hw;cases v<;>first|exact hw.elim|exact .pan x _ _ rfl rfl rfl (hg h1 hv) hw
 all_goals (simp only[resK] at hk;cases hk;exact absurd rfl hraw)
theorem wpk_ok {o:Oper} {k:RK} (hk:resK P nm o=some k) (hw:wpk P keep nm e l h K Kp k):OpS P keep (gof nm e l) h o K Kp:=by
 by_cases hraw:k = .raw o
 ·subst hraw
  obtain ⟨res,h1,h2⟩:=rK_inv hw;exact .rd res h1 h2
 ·exact wpk_okg GG.gof hk hraw hw
end
end Go.Eng

namespace Go.Eng
def resDst (nm:List Nat) (N:Nat):Option Tmp->Option D
 | none=>some .z
 | some d=>if d<N then some (if nm.contains d then .n d else .t d) else none
def resG (nm:List Nat) (ops:Array Oper):Option (Nat × Bool)->Option (Option (RX × Bool))
 | none=>some none
 | some (j,want)=>match (ops[j]?).bind (·.dst) with
   | some d=>some (some (if nm.contains d then .n d else .t d,want))
   | none=>none
def resOp (P:Program) (nm:List Nat) (N:Nat) (ops:Array Oper) (o:Oper):Option RO :=
 match resDst nm N o.dst,resG nm ops o.guard,resK P nm o with
 | some d,some g,some k=>some ⟨d,g,k⟩
 | _,_,_=>none
def resOps (P:Program) (nm:List Nat) (N:Nat) (ops:Array Oper):List Oper->Option (List RO)
 | []=>some []
 | o::l=>match resOp P nm N ops o,resOps P nm N ops l with
   | some x,some xs=>some (x::xs)
   | _,_=>none
def pe (d:D) (e:PE) (v:Value):PE:=match d with
 | .n i=>upd e i v
 | _=>e
def pl (d:D) (l:PE) (v:Value):PE:=match d with
 | .t i=>(i,v)::l
 | _=>l
structure PS where
 e:PE
 l:PE
 h:AH
 ds:List Dfr
def gB (v:Value) (w:Bool) (A B:Prop):Prop:=match v with
 | .bool b=>br (b == w) A B
 | .tuple _=>B
 | _=>False
theorem gB_inv {v:Value} {w:Bool} {A B:Prop} (h:gB v w A B):(∃ b,v = .bool b/\br (b == w) A B)\/((∃ c,v = .tuple c)/\B):=by
 unfold gB at h
 split at h
 ·exact .inl ⟨_,rfl,h⟩
 ·exact .inr ⟨⟨_,rfl⟩,h⟩
 ·exact h.elim
def gK (g:Option (RX × Bool)) (e l:PE) (A B:Prop):Prop:=match g with
 | none=>A
 | some (x,want)=>vK (rx e l x) fun v=>gB v want A B
def dK (f:Value) (args:List Value) (K:Dfr->Prop):Prop:=match f with
 | .func fn first cap=>K ⟨fn,cap.toList,first.toList++args⟩
 | _=>False
def wpo (P:Program) (keep:Bool) (nm:List Nat) (e l:PE) (h:AH) (ds:List Dfr) (Kd:Dfr->Prop) (K:Value->AH->Prop) (Kp:Value->AH->Prop):RK->Prop
 | .dfr f args=>vK (rx e l f) fun fv=>vsK (rxs e l args) fun ags=>dK fv ags Kd
 | k=>wpk P keep nm e l h K Kp k
def wpr (P:Program) (keep:Bool) (nm:List Nat) (Φ:Out->PS->Prop):List RO->PE->PE->AH->List Dfr->Prop
 | [],e,l,h,ds=>Φ .norm ⟨e,l.take 1,h,ds⟩
 | o::os,e,l,h,ds =>
   gK o.g e l
    (wpo P keep nm e l h ds (fun d=>wpr P keep nm Φ os (pe o.d e undef) (pl o.d l undef) h (d::ds)) (fun v h'=>wpr P keep nm Φ os (pe o.d e v) (pl o.d l v) h' ds) (fun v h'=>Φ (.pan v) ⟨e,[],h',ds⟩) o.k)
    (wpr P keep nm Φ os (pe o.d e undef) (pl o.d l undef) h ds)
abbrev Rd:=Nat × U × Value × Value
def isLd:U->Bool
 | .ld=>true
 | .ldn _=>true
 | .b2s=>true
 | _=>false
def rdOf (e l:PE) (i:Nat) (k:RK) (v:Value) (rs:List Rd):List Rd:=match k with
 | .u f x=>if isLd f then match rx e l x with
  | some p=>(i,f,p,v)::rs
  | none=>rs
   else rs
 | _=>rs
def chkK (P:Program) (h:AH) (rs:List Rd) (is:List Nat) (K:Prop):Prop:=match rs with
 | []=>K
 | (i,f,p,v)::rs=>if is.contains i then uval P h h.length f p=some (v,none)/\chkK P h rs is K else chkK P h rs is K
def oldK (P:Program) (hs:List (Nat × AH)) (js:List Nat) (r:List Rd) (K:Prop):Prop:=match hs with
 | []=>K
 | (j,h)::hs=>if js.contains j then chkK P h r (r.map (·.1)) (oldK P hs js r K) else oldK P hs js r K
def wpd (P:Program) (keep:Bool) (nm:List Nat) (Φ:Out->PS->Prop):List DO->List (Nat × AH)->List Rd->PE->PE->AH->List Dfr->Prop
 | [],_,_,e,l,h,ds=>Φ .norm ⟨e,l.take 1,h,ds⟩
 | o::os,hs,rs,e,l,h,ds =>
   gK o.o.g e l
    (wpk P keep nm e l h (fun v h'=>chkK P h' rs o.chk (oldK P hs o.old (rdOf e l o.i o.o.k v []) (wpd P keep nm Φ os (if o.w then (o.i,h)::hs else hs) (rdOf e l o.i o.o.k v rs) (pe o.o.d e v) (pl o.o.d l v) h' ds)))
     (fun v h'=>Φ (.pan v) ⟨[],[],h',ds⟩) o.o.k)
    (wpd P keep nm Φ os hs rs (pe o.o.d e undef) (pl o.o.d l undef) h ds)
def npK (Φ:Out->PS->Prop):Out->PS->Prop
 | .pan _,_=>False
 | out,s=>Φ out s
def wrN:List DO->List Nat
 | []=>[]
 | o::l=>match o.o.d with
   | .n i=>i::wrN l
   | _=>wrN l
def keepN (ws:List Nat):PE->PE
 | []=>[]
 | (t,v)::e=>if ws.contains t then keepN ws e else (t,v)::keepN ws e
def drK (ep:PE) (Φ:Out->PS->Prop):Out->PS->Prop
 | .pan v,s=>Φ (.pan v) ⟨ep,[],s.h,s.ds⟩
 | out,s=>Φ out s
theorem look_keepN {ws:List Nat}:∀ {e:PE} {t:Nat} {v:Value},look (keepN ws e) t=some v->look e t=some v\/ws.contains t=true:=by
 intro e
 induction e with
 | nil=>intro t v h;cases h
 | cons p e ih =>
   obtain ⟨t0,v0⟩:=p;intro t v h
   by_cases hc:ws.contains t=true
   ·exact .inr hc
   left
   simp only[keepN] at h;simp only[look]
   split at h
   ·rename_i h0
    by_cases e0:t0=t
    ·subst e0;exact absurd h0 hc
    ·rw[if_neg e0];exact (ih h).resolve_right hc
   ·simp only[look] at h
    split at h
    ·rename_i e0;rw[if_pos e0];exact h
    ·rename_i e0;rw[if_neg e0];exact (ih h).resolve_right hc
theorem look_keepN_not {ws:List Nat}:∀ {e:PE} {t:Nat} {v:Value},look (keepN ws e) t=some v->ws.contains t=false:=by
 intro e
 induction e with
 | nil=>intro t v h;cases h
 | cons p e ih =>
   obtain ⟨t0,v0⟩:=p;intro t v h;simp only[keepN] at h
   split at h
   ·exact ih h
   ·rename_i h0
    simp only[look] at h
    split at h
    ·rename_i e0;subst e0;cases hh:ws.contains t0<;>simp_all
    ·exact ih h
structure Lss (s0 s:PS):Prop where
 e:∀ t v,look s0.e t=some v->look s.e t=some v
 l:∀ t v,look s0.l t=some v->look s.l t=some v
 h:s0.h=s.h
 ds:s0.ds=s.ds
def loopN (body:(Out->PS->Prop)->PS->Prop) (Φ:Out->PS->Prop):Nat->PS->Prop
 | 0,_=>False
 | n+1,s=>∃ s0,Lss s0 s/\body (fun out s'=>match out with
   | .norm=>loopN body Φ n s'
   | out=>Φ out s') s0
def seqK (k:PS->Prop) (Φ:Out->PS->Prop):Out->PS->Prop
 | .norm,s=>k s
 | out,s=>Φ out s
def blkK (id:Nat) (Φ:Out->PS->Prop):Out->PS->Prop
 | .exit i,s=>if i=id then Φ .norm s else Φ (.exit i) s
 | out,s=>Φ out s
def goesOn:Out->Bool
 | .norm=>true
 | _=>false
abbrev YT:=Nat->List Value->AH->(Out->AH->Prop)->Prop
def yK (P:Program) (Y:YT) (p:Out) (fv:Value) (ags:List Value) (h:AH) (K:Value->AH->Out->Prop):Prop:=match fv with
 | .func (.yield l) first cap=>first.toList=[]/\cap.toList=[]/\p = .norm/\Y l ags h fun j h'=>K (.bool (goesOn j)) h' j
 | fv=>cK P fv ags h (fun v h'=>K v h' p) (fun _ _=>False)
def wpkY (P:Program) (keep:Bool) (nm:List Nat) (Y:YT) (p:Out) (e l:PE) (h:AH) (K:Value->AH->Out->Prop):RK->Prop
 | .call f args=>vK (rx e l f) fun fv=>vsK (rxs e l args) fun ags=>yK P Y p fv ags h K
 | .dfr _ _=>False
 | k=>wpk P keep nm e l h (fun v h'=>K v h' p) (fun _ _=>False) k
def wprY (P:Program) (keep:Bool) (nm:List Nat) (Y:YT) (Φ:Out->PS->Out->Prop):List RO->PE->PE->AH->Out->Prop
 | [],e,l,h,p=>Φ .norm ⟨e,l.take 1,h,[]⟩ p
 | o::os,e,l,h,p =>
   gK o.g e l (wpkY P keep nm Y p e l h (fun v h' p'=>wprY P keep nm Y Φ os (pe o.d e v) (pl o.d l v) h' p') o.k) (wprY P keep nm Y Φ os (pe o.d e undef) (pl o.d l undef) h p)
def seqY (k:PS->Out->Prop) (Φ:Out->PS->Out->Prop):Out->PS->Out->Prop
 | .norm,s,p=>k s p
 | out,s,p=>Φ out s p
def blkY (id:Nat) (Φ:Out->PS->Out->Prop):Out->PS->Out->Prop
 | .exit i,s,p=>if i=id then Φ .norm s p else Φ (.exit i) s p
 | out,s,p=>Φ out s p
def loopY (body:(Out->PS->Out->Prop)->PS->Out->Prop) (Φ:Out->PS->Out->Prop):Nat->PS->Out->Prop
 | 0,_,_=>False
 | n+1,s,p=>∃ s0,Lss s0 s/\body (fun out s' p'=>match out with
   | .norm=>loopY body Φ n s' p'
   | out=>Φ out s' p') s0 p
def wpcY (P:Program) (keep:Bool) (nm:List Nat) (Y:YT):RC->(Out->PS->Out->Prop)->PS->Out->Prop
 | .skip,Φ,s,p=>Φ .norm s p
 | .ret,Φ,s,p=>Φ .ret s p
 | .exit id,Φ,s,p=>Φ (.exit id) s p
 | .rg l,Φ,s,p=>wprY P keep nm Y Φ l s.e s.l s.h p
 | .sq a b,Φ,s,p=>wpcY P keep nm Y a (seqY (wpcY P keep nm Y b Φ) Φ) s p
 | .ite x a b,Φ,s,p=>vK (rx s.e s.l x) fun v=>bK v fun t=>br t (wpcY P keep nm Y a Φ s p) (wpcY P keep nm Y b Φ s p)
 | .blk id b,Φ,s,p=>wpcY P keep nm Y b (blkY id Φ) s p
 | .loop b,Φ,s,p=>∃ n,loopY (wpcY P keep nm Y b) Φ n s p
 | _,_,_,_=>False
def resC0 (P:Program) (nm:List Nat) (N:Nat):Code->Option RC
 | .skip=>some .skip
 | .ret=>some .ret
 | .exit id=>some (.exit id)
 | .region _ ops false=>(resOps P nm N ops ops.toList).map .rg
 | .seq a b=>match resC0 P nm N a,resC0 P nm N b with
   | some x,some y=>some (.sq x y)
   | _,_=>none
 | .cond c t e=>match resX nm c,resC0 P nm N t,resC0 P nm N e with
   | some c,some x,some y=>some (.ite c x y)
   | _,_,_=>none
 | .block id b=>(resC0 P nm N b).map (.blk id)
 | .loop b=>(resC0 P nm N b).map .loop
 | .scope b=>resC0 P nm N b
 | _=>some .bad
def notD (o:Oper):Bool:=match o.op with
 | .defer _=>false
 | _=>true
def noDf:Code->Bool
 | .region _ ops _=>ops.all notD
 | .seq a b=>noDf a && noDf b
 | .cond _ a b=>noDf a && noDf b
 | .block _ b=>noDf b
 | .loop b=>noDf b
 | .scope b=>noDf b
 | _=>true
def it0 (P:Program) (f:FuncId) (nm:List Nat):Option RC :=
 match P.funcs[f]? with
 | some fn=>match fn.body with
   | some c=>if fn.results.toList.isEmpty && noDf c then resC0 P nm fn.ntmps c else none
   | none=>none
 | none=>none
def mkD:Dfr:=⟨.func 0,[],[]⟩
def updps (e:PE):List Nat->List Value->PE
 | t::ts,v::vs=>updps (upd e t v) ts vs
 | _,_=>e
def RndH (nm:List Nat) (wa wb:(Out->PS->Prop)->PS->Prop) (e:PE) (ps:List Nat) (ags:List Value) (h:AH) (j:Out) (h':AH):Prop :=
 ags.length=ps.length/\(∀ t∈ps,nm.contains t=true)/\wa (fun o s1=>o = .norm/\wb (fun o s2=>o=j/\s2.h=h' /\ ∀ v,o ≠ .pan v) s1) ⟨updps e ps ags,[],h,[]⟩
def RngH (P:Program) (RD:List Value->AH->Out->AH->Prop) (f:FuncId) (cap:List Value) (h:AH) (out:Out) (h':AH):Prop :=
 ∃ nmi rci,it0 P f nmi=some rci/\((List.range (cap.length+1)).all nmi.contains)=true /\ ∀ l:Nat,
   wpcY P false nmi (fun l' ags hh K=>l'=l /\ ∃ j h2,RD ags hh j h2/\hh.length<=h2.length/\K j h2) rci (fun o s2 p=>(o = .norm\/o = .ret)/\p=out/\s2.h=h')
    ⟨argE 0 (.func (.yield l) #[] #[]::cap),[],h,[]⟩ .norm
def wpc (P:Program) (keep:Bool) (nm:List Nat):RC->(Out->PS->Prop)->PS->Prop
 | .skip,Φ,s=>Φ .norm s
 | .bad,_,_=>False
 | .ret,Φ,s=>Φ .ret s
 | .exit id,Φ,s=>Φ (.exit id) s
 | .rg l,Φ,s=>wpr P keep nm Φ l s.e s.l s.h s.ds
 | .dr need np l,Φ,s=>vsK (rxs s.e s.l need) fun _=>wpd P keep nm (drK (keepN (wrN l) s.e) (if np then npK Φ else Φ)) l [] [] s.e s.l s.h s.ds
 | .sq a b,Φ,s=>wpc P keep nm a (seqK (wpc P keep nm b Φ) Φ) s
 | .ite x a b,Φ,s=>vK (rx s.e s.l x) fun v=>bK v fun t=>br t (wpc P keep nm a Φ s) (wpc P keep nm b Φ s)
 | .blk id b,Φ,s=>wpc P keep nm b (blkK id Φ) s
 | .loop b,Φ,s=>∃ n,loopN (wpc P keep nm b) Φ n s
 | .rf g ps asg body,Φ,s=>s.ds=[] /\ ∃ f cap out h',rx s.e s.l g=some (.func (.func f) #[] cap)/\RngH P (RndH nm (wpc P keep nm asg) (wpc P keep nm body) s.e ps) f cap.toList s.h out h'/\s.h.length<=h'.length/\Φ out ⟨s.e,[],h',[mkD]⟩
structure SP (P:Program) (nm:List Nat) (N:Nat) (r:Rho) (s:PS) (a:Act) (w:World):Prop where
 e:∀ t v,look s.e t=some v -> ∃ v',a.tmps[t]?=some v'/\VR r v v'
 l:∀ t v,look s.l t=some v -> ∃ v',a.tmps[t]?=some v'/\VR r v v'
 en:∀ t v,look s.e t=some v->nm.contains t=true
 ln:∀ t v,look s.l t=some v->nm.contains t=false
 sz:N<=a.tmps.size
 hr:HR P r s.h w.heap
 ds:DR r s.ds a.defers
section
variable {P:Program} {keep:Bool} {nm:List Nat} {N:Nat} {r r':Rho} {s:PS} {a:Act} {w w':World}
theorem SP.rx (hs:SP P nm N r s a w) {x:Operand} {y:RX} (hx:resX nm x=some y) {v:Value} (hv:rx s.e s.l y=some v):VR r v (a.eval x):=by
 cases x with
 | tmp t =>
   simp only[resX] at hx
   split at hx
   ·cases hx;obtain ⟨v',h1,h2⟩:=hs.e t v hv;simpa [Act.eval,h1] using h2
   ·cases hx;obtain ⟨v',h1,h2⟩:=hs.l t v hv;simpa [Act.eval,h1] using h2
 | const u =>
   simp only[resX] at hx
   split at hx
   ·cases hx;cases hv;exact scal_refl 8 _ ‹_›
   ·cases hx
 | global g=>cases hx;cases hv;exact .gptr _ _ _
 | func f=>cases hx;cases hv;exact VR.func_l (.nil r) (.nil r)
theorem SP.gr (hs:SP P nm N r s a w):GR r (gof nm s.e s.l) a:=fun x v h=>by
 obtain ⟨y,h1,h2⟩:=Z0.1 h;exact hs.rx h1 h2
theorem put_get (a:Act) (d t:Nat) (v:Value) (hd:d<a.tmps.size):(a.put (some d) v).tmps[t]?=if d=t then some v else a.tmps[t]?:=by
 simp only[Act.put];rw[Array.getElem?_setIfInBounds]
 by_cases h:d=t
 ·subst h;simp [hd]
 ·simp [h]
theorem SP.put (hs:SP P nm N r s a w) {dst:Option Tmp} {d:D} (hd:resDst nm N dst=some d) {h':AH} (st:Stp P r s.h w r' h' w') {v v':Value} (hv:VR r' v v') :
 SP P nm N r' ⟨pe d s.e v,pl d s.l v,h',s.ds⟩ (a.put dst v') w':=by
 have mono:∀ {t:Nat} {u:Value},(∃ u',a.tmps[t]?=some u'/\VR r u u') -> ∃ u',a.tmps[t]?=some u'/\VR r' u u':=fun ⟨u',h1,h2⟩=>⟨u',h1,h2.mono st.le⟩
 cases dst with
 | none =>
   cases hd;exact ⟨fun t u h=>mono (hs.e t u h),fun t u h=>mono (hs.l t u h),hs.en,hs.ln,hs.sz,st.hr,by rw[put_defers];exact hs.ds.mono st.le⟩
 | some i =>
   simp only[resDst] at hd
   split at hd
   case isFalse=>cases hd
   case isTrue hi =>
    have hsz:i<a.tmps.size:=Nat.lt_of_lt_of_le hi hs.sz;have hsize:N<=(a.put (some i) v').tmps.size:=by simp only[Act.put,Array.size_setIfInBounds];exact hs.sz
    by_cases hn:nm.contains i=true
    ·rw[if_pos hn] at hd;cases hd
     refine ⟨fun t u h=>?_,fun t u h=>?_,fun t u h=>?_,hs.ln,hsize,st.hr,by rw[put_defers];exact hs.ds.mono st.le⟩
     ·simp only[pe,look_upd] at h
      rw[put_get _ _ _ _ hsz]
      split at h
      ·rename_i e;cases h;rw[if_pos e];exact ⟨v',rfl,hv⟩
      ·rename_i e;rw[if_neg e];exact mono (hs.e t u h)
     ·rw[put_get _ _ _ _ hsz]
      by_cases e:i=t
      ·subst e;have:=hs.ln i u h;rw[hn] at this;cases this
      ·rw[if_neg e];exact mono (hs.l t u h)
     ·simp only[pe,look_upd] at h
      split at h
      ·rename_i e;subst e;exact hn
      ·exact hs.en t u h
    ·rw[if_neg hn] at hd;cases hd
     have hn':nm.contains i=false:=by cases h:nm.contains i<;>simp_all
     refine ⟨fun t u h=>?_,fun t u h=>?_,hs.en,fun t u h=>?_,hsize,st.hr,by rw[put_defers];exact hs.ds.mono st.le⟩
     ·rw[put_get _ _ _ _ hsz]
      by_cases e:i=t
      ·subst e;have:=hs.en i u h;rw[hn'] at this;cases this
      ·rw[if_neg e];exact mono (hs.e t u h)
     ·simp only[pl,look] at h
      rw[put_get _ _ _ _ hsz]
      split at h
      ·rename_i e;cases h;rw[if_pos e];exact ⟨v',rfl,hv⟩
      ·rename_i e;rw[if_neg e];exact mono (hs.l t u h)
     ·simp only[pl,look] at h
      split at h
      ·rename_i e;subst e;exact hn'
      ·exact hs.ln t u h
def PP (P:Program) (nm:List Nat) (N:Nat) (r:Rho) (h:AH) (w:World) (Φ:Out->PS->Prop) (Q:Exit->Act->World->Prop):Prop :=
 ∀ out s',Φ out s' -> ∀ ex a' w' r',OE r' out ex->Stp P r h w r' s'.h w'->SP P nm N r' s' a' w'->Q ex a' w'
theorem PP.trans {h h1:AH} {Φ:Out->PS->Prop} {Q:Exit->Act->World->Prop} (st:Stp P r h w r' h1 w') (hQ:PP P nm N r h w Φ Q):PP P nm N r' h1 w' Φ Q :=
 fun out s' hp ex a' w'' r'' ho st' sr=>hQ out s' hp ex a' w'' r'' ho (st.trans st') sr
theorem br_inv {b:Bool} {A B:Prop} (h:br b A B):(b=true/\A)\/(b=false/\B):=by
 cases b
 ·exact .inr ⟨rfl,h⟩
 ·exact .inl ⟨rfl,h⟩
theorem look_take1 {l:PE} {t:Nat} {v:Value} (h:look (l.take 1) t=some v):look l t=some v:=by
 cases l with
 | nil=>exact h
 | cons p l =>
   obtain ⟨t',u⟩:=p;simp only[List.take_succ_cons,List.take_zero,look] at h ⊢
   split at h
   ·rename_i e;rw[if_pos e];exact h
   ·cases h
theorem resG_want {ops:Array Oper} {o:Oper} {g:Option (RX × Bool)} (hg:resG nm ops o.guard=some g) (hs:SP P nm N r s a w) {A B:Prop} (h:gK g s.e s.l A B) :
 (Region.wanted o (yielded ops a.tmps)=true/\A)\/(Region.wanted o (yielded ops a.tmps)=false/\B):=by
 unfold resG at hg;unfold Region.wanted
 split at hg
 ·rename_i hgd
  cases hg;rw[hgd];exact .inl ⟨rfl,h⟩
 ·rename_i j want hgd
  rw[hgd]
  dsimp only
  unfold yielded
  split at hg
  case h_2=>cases hg
  case h_1 d hd =>
   cases hg;rw[hd];obtain ⟨v,hv,h⟩:=vK_inv h
   rcases gB_inv h with ⟨b,rfl,h⟩|⟨⟨c,rfl⟩,h⟩
   case inr =>
    refine .inr ⟨?_,h⟩;have hval:∃ c',a.tmps[d]?=some (.tuple c'):=by
     by_cases hn:nm.contains d=true
     ·rw[if_pos hn] at hv
      obtain ⟨v',h1,h2⟩:=hs.e d _ hv;obtain ⟨c',rfl,_⟩:=h2.tuple_inv;exact ⟨c',h1⟩
     ·rw[if_neg hn] at hv
      obtain ⟨v',h1,h2⟩:=hs.l d _ hv;obtain ⟨c',rfl,_⟩:=h2.tuple_inv;exact ⟨c',h1⟩
    obtain ⟨c',hval⟩:=hval;simp only[hval,Z1];rfl
   have hval:a.tmps[d]?=some (.bool b):=by
    by_cases hn:nm.contains d=true
    ·rw[if_pos hn] at hv
     obtain ⟨v',h1,h2⟩:=hs.e d _ hv;rw[h1,h2.bool_inv]
    ·rw[if_neg hn] at hv
     obtain ⟨v',h1,h2⟩:=hs.l d _ hv;rw[h1,h2.bool_inv]
   rcases br_inv h with ⟨h1,h2⟩|⟨h1,h2⟩
   ·exact .inl ⟨by simp [hval,beq_iff_eq.1 h1],h2⟩
   ·refine .inr ⟨?_,h2⟩
    simp only[hval,Z1];exact h1
end
end Go.Eng
