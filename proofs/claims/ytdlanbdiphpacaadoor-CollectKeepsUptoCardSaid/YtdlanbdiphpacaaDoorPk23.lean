import Derived.Test.YtdlanbdiphpacaaDoorPk22
import Derived.Test.YtdlanbdiphpacaaDoorPk13
set_option linter.unusedVariables false
set_option linter.unusedSimpArgs false
open Nat renaming reduceEqDiff -> ZA,reduceAdd -> ZB,reduceMul -> ZC,reduceLeDiff -> ZD,reduceLT -> ZE
open Int renaming reduceEq -> ZF
open List renaming getElem?_eq_some_iff->Z0,mem_cons_of_mem->Z1,mem_of_getElem?->Z2,length_cons->Z3,mem_cons->Z4,mem_cons_self->Z7,getElem?_eq_getElem->Z8,drop_eq_getElem_cons->Za,getElem?_append_left->Zb,mem_map->Zd,take_length->Ze,length_map->Zf,drop_eq_nil_of_le->Zg,map_cons->Zh,length_append->Zi,take_add_one->Zj
open Nat renaming le_refl->Z5,zero_le->Zk
open Option renaming isSome_iff_exists->Z6,getD_some->Zc
open Int renaming add_zero->Z9
namespace Go.S19
open Go Go.Eng Go.Proofs Go.Chk
inductive MvL:HS->List (Int × Int)->List (Int × Int)->HS->Prop where
 | nil {S}:MvL S [] [] S
 | cons {S w r ws xs S'} (h:Mv S w r) (t:MvL r.2.2 ws xs S'):MvL S (w::ws) (r.1::xs) S'
theorem MvL.len {S S':HS} {ws xs:List (Int × Int)} (m:MvL S ws xs S'):xs.length=ws.length:=by
 induction m with
 | nil=>rfl
 | cons _ _ ih=>simp [ih]
theorem MvL.inv {S S':HS} {ws xs:List (Int × Int)} (m:MvL S ws xs S') (v:Inv S):Inv S':=by
 induction m with
 | nil=>exact v
 | cons h _ ih=>exact ih (v.mv h)
theorem box_ld {h:AH} {q:Nat} {t:TypeId} {x:Int × Int} (o:Own h q t [iv x.1,iv x.2]):ldcs h q 0 2=some [iv x.1,iv x.2]:=o.cells.lds 0 2 (by simp)
section
variable {h:AH} {b:Nat} {L:Lay} {S:HS}
theorem xMove_ok (s:Hp h b L S) (v:Inv S) (w:Int × Int):∃ r,Mv S w r/\Gets Tryd.prog 25 [.pointer (some ⟨b,0,none⟩),wv w] h (fun res h'=>Keep (Mine L) h h'/\res = .ret (.tuple #[wv r.1,iv r.2.1]) /\ ∃ L',Hp h' b L' r.2.2/\Same h.length L L'):=by
 obtain ⟨m,r,hr⟩:=v.tq w;exact ⟨r,mov_mv v hr,Move_ok s v.ok.fresh v.oo w hr⟩
theorem same_keep {h h1 h2:AH} {L L1:Lay} (k1:Keep (Mine L) h h1) (sm:Same h.length L L1) (k2:Keep (Mine L1) h1 h2):Keep (Mine L) h h2 :=
 k1.trans' k2 (fun c hc e=>fun e0=>e ((sm c hc).2 e0))
theorem move_ok2 (s:Hp h b L S) (v:Inv S) {qb t:Nat} (ob:Own h qb t [.pointer (some ⟨b,0,none⟩)]) (nb:L.cls qb=0) {u:Value} {ws:List (Int × Int)} (hu:Rds h 2 u ws.length (ww ws)) (hm:ws.length<=2000000) :
 Gets Tryd.prog 35 [u,.pointer (some ⟨qb,0,none⟩)] h (fun res h'=>Keep (Mine L) h h' /\ ∃ v' xs S' L',res = .ret v'/\MvL S ws xs S'/\Hp h' b L' S'/\Same h.length L L'/\Ows h' 44 2 v' xs.length (ww xs)/\(∀ q,bk v' q->h.length<=q/\q<h'.length/\L'.cls q=0)/\(u ≠ .slice none 0 0->Nn v')):=by
 refine Gets.of (keep:=false) hP (draw_ok hM) k35 (by rfl) (fun Ψ hΨ=>?_);simp only[ZG,↓reduceIte,ZA,ZB,ZC,r35,YE,YC,YO,YA,YL,YX,YS,Ya,Yb,Yl,Yf,Yg,Yi,Ym,Yk,Yt,Yn,Yz,Yp,Yq,Yd,mbl,ZD,ZE,ZF];refine XX_of (cloneWords_ok2 hu (rowsOf_one _) (by omega)) (fun res h1 hle1 hn=>?_);obtain ⟨k1,vc,rfl,oc,fc,nn⟩:=hn;refine .ret ?_;have s1:=s.keepF k1;have ob1:=ob.keep k1 (fun e=>e);obtain ⟨ca,cc,hvc⟩:=row_shape oc.rds;simp only[ZG,↓reduceIte,ZA,ZB,ZC,mbl,ZD,ZE,ZF,hvc];rw[<- hvc];have c0:∀ q,bk vc q->L.cls q=0:=fun q e=>s.c0 q (fc q e).1
 refine XLo_rule (α:=List (Int × Int) × HS × Lay) (fun a=>[(0,vc),(1,.pointer (some ⟨qb,0,none⟩)),(8,vc),(9,iv ws.length),(10,iv a.1.length)])
  (fun a h'=>a.1.length<=ws.length/\Hp h' b a.2.2 a.2.1/\Inv a.2.1/\Same h1.length L a.2.2/\Keep (fun q=>Mine L q\/bk vc q) h1 h'/\Ows h' 44 2 vc ws.length (ww (a.1++ws.drop a.1.length)) /\
   (∀ xs' S',MvL a.2.1 (ws.drop a.1.length) xs' S'->MvL S ws (a.1++xs') S')) (fun a=>ws.length-a.1.length) ([],S,L)
  ⟨Zk _,s1,v,Same.refl _ _,.refl _ _,oc,fun xs' S' m=>m⟩ ⟨by rw[hvc];rfl,rfl,by rw[hvc];rfl,rfl,rfl,trivial⟩ ?_
 rintro ⟨xs,S1,L1⟩ h2 Ψ2 ⟨hi,s2,v2,sm,k2,o2,hmv⟩ next out
 simp only at hi s2 v2 sm o2 hmv;have k02:Keep (fun q=>Mine L q\/bk vc q) h h2:=(k1.mono (fun _ e=>e.elim)).trans k2;have l01:=k1.len;have l12:=k2.len;have ob2:Own h2 qb t [.pointer (some ⟨b,0,none⟩)]:=ob.keep k02 (fun e=>e.elim (fun e=>e nb) (fun e=>by have:=(fc _ e).1;have:=ob.lt;omega))
 by_cases hlt:xs.length<ws.length
 case neg =>
  have d1:((xs.length:Int)<((ws.length:Nat):Int))=False:=by simp;omega
  simp only[ZG,↓reduceIte,ZA,ZB,ZC,d1];refine out (.exit 0) _ _ _ _ (by intro e;cases e) ?_;simp only[ZG,↓reduceIte,ZA,ZB,ZC];have hd:ws.drop xs.length=[]:=Zg (by omega);rw[hd] at hmv o2;have hx:xs.length=ws.length:=by omega
  refine hΨ _ _ (fin_ret (rv1 rfl ⟨k02.trans' (Keep.refl (fun _=>False) h2) (fun _ _ e=>e.elim) |> fun kk=>⟨kk.len,fun q hq hs=>kk.same q hq (fun e=>e.elim hs (fun e=>by have:=(fc q e).1;omega))⟩,vc,xs,S1,L1,rfl,?_,s2,?_,?_,?_,nn⟩))
  ·have:=hmv [] S1 .nil;simpa using this
  ·exact fun q hq=>sm q (by omega)
  ·rw[hx];simpa using o2
  ·intro q e
   exact ⟨(fc q e).1,by have:=(fc q e).2;omega,(sm q (fc q e).2).2 (c0 q e)⟩
 case pos =>
 have d1:((xs.length:Int)<((ws.length:Nat):Int))=True:=by simp;omega
 have d0:(0<=(xs.length:Int))=True:=by simp
 have hdrop:ws.drop xs.length=ws[xs.length]::ws.drop (xs.length+1):=Za hlt;generalize hw:ws[xs.length]=w at hdrop;have hat:(xs++ws.drop xs.length)[xs.length]?=some w:=by rw[hdrop];simp
 have hlen:(xs++ws.drop xs.length).length=ws.length:=by simp;omega
 have o2':Ows h2 44 2 vc (xs++ws.drop xs.length).length ((xs++ws.drop xs.length).flatMap fun x=>ns (wc x)):=by rw[hlen];exact o2
 obtain ⟨bc,o',cc',hvc2,hld⟩:=o2'.rds.cellsAt (f:=fun x=>ns (wc x)) (k:=2) (fun _=>rfl) hat (j:=0) (m:=2) (by omega);obtain ⟨b3,c3,_,e3,_⟩:=ows_openw o2 (by omega);have o'0:o'=0:=by rw[e3] at hvc2;injection hvc2 with e _ _;injection e with e;injection e with _ e _;exact e.symm
 subst o'0;rw[hlen] at hvc2;have hld2:ldcs h2 bc (xs.length*2) 2=some [iv w.1,iv w.2]:=by simpa [ns,wc] using hld
 have tn:Int.toNat (xs.length:Int)=xs.length:=by simp
 have oW:=Own.new h2 44 h2.length [iv 0,iv 0];have k3:Keep (fun _=>False) h2 (h2++[row 44 h2.length [iv 0,iv 0]]):=Keep.push _ _ _;have l3:(h2++[row 44 h2.length [iv 0,iv 0]]).length=h2.length+1:=by simp
 simp only[ZG,↓reduceIte,ZA,ZB,ZC,d1,hvc2,d0,and_self,tn,hld2,mbl,ZD,ZE,ZF];generalize h2++[row 44 h2.length [iv 0,iv 0]]=h3 at oW k3 l3 ⊢;refine XH_own oW rfl (by simp [Value.cells]) rfl (fun h4 q1 q2 q3=>?_);have oW4:Own h4 h2.length 44 [iv w.1,iv w.2]:=by simpa [Value.cells] using q1
 have k24:Keep (fun _=>False) h2 h4:=k3.trans' q2 (fun c hc e=>by omega);have s4:=s2.keepF k24;obtain ⟨r,hr,hg⟩:=xMove_ok s4 v2 w;simp only[ZG,↓reduceIte,ZA,ZB,ZC,(ob2.keep k24 (fun e=>e)).cells.ld,box_ld oW4,mbl,ZD,ZE,ZF];refine XX_of hg (fun res h5 hle5 hn5=>?_);obtain ⟨k5,rfl,L5,s5,sm5⟩:=hn5;refine .ret ?_;have l24:=k24.len;have l5:=k5.len;have c1:∀ q,bk vc q->L1.cls q=0:=fun q e=>(sm q (fc q e).2).2 (c0 q e)
 have o5:Ows h5 44 2 vc (xs++ws.drop xs.length).length ((xs++ws.drop xs.length).flatMap fun x=>ns (wc x)):=(o2'.keep k24 (fun _ _ e=>e)).keep k5 (fun q e hq=>hq (c1 q e));simp only[ZG,↓reduceIte,ZA,ZB,ZC,wv,d0,d1,and_self,tn,mbl,ZD,ZE,ZF];have wi:IntKind.i64.wrap ((xs.length:Int)+1)=((xs.length+1:Nat):Int):=by rw[i64w (by omega) (by omega)];omega
 refine XH_row (f:=fun x=>ns (wc x)) (k:=2) (x:=w) (x':=r.1) (j:=0) (i:=xs.length) (fun _=>rfl) o5 (by rw[hlen];exact hvc2) hat rfl rfl (by simp [Value.cells]) (by simp [ns,wc,Value.cells]) rfl (fun h6 p1 p2 p3=>?_);have k46:Keep (fun q=>Mine L q\/bk vc q) h1 h6:=((k2.trans (k24.mono (fun _ e=>e.elim))).trans' (k5.mono (T:=fun q=>Mine L1 q) (fun _ e=>e)) (fun c hc e=>.inl (fun e0=>e ((sm c hc).2 e0)))).trans (p2.mono fun q e=>.inr e);simp only[ZG,↓reduceIte,ZA,ZB,ZC,wi];refine next (xs++[r.1],r.2.2,L5) _ _ h6 ⟨by simp;omega,?_,v2.mv hr,?_,k46,?_,?_⟩ ⟨by rw[hvc2];rfl,rfl,by rw[hvc2];rfl,rfl,by simp;rfl,trivial⟩ (by simp;omega)
 ·exact s5.keep p2 (fun q hq e=>hq ((sm5 q (by have:=(fc q e).2;omega)).2 (c1 q e)))
 ·exact fun q hq=>((sm5 q (by omega)).trans (sm q hq))
 ·have:(xs++ws.drop xs.length).set xs.length r.1=(xs++[r.1])++ws.drop (xs++[r.1]).length:=by
   rw[hdrop];simp [List.set_append]
  rw[<- this];rw[hlen] at p1;exact p1
 ·intro xs' S' m
  have:=hmv (r.1::xs') S' (by rw[hdrop];exact .cons hr (by simpa using m))
  simpa using this
theorem move_ok (s:Hp h b L S) (v:Inv S) {qb t:Nat} (ob:Own h qb t [.pointer (some ⟨b,0,none⟩)]) (nb:L.cls qb=0) {u:Value} {ws:List (Int × Int)} (hu:Rds h 2 u ws.length (ww ws)) (hm:ws.length<=2000000) :
 Gets Tryd.prog 35 [u,.pointer (some ⟨qb,0,none⟩)] h (fun res h'=>Keep (Mine L) h h' /\ ∃ v' xs S' L',res = .ret v'/\MvL S ws xs S'/\Hp h' b L' S'/\Same h.length L L'/\Ows h' 44 2 v' xs.length (ww xs) /\ ∀ q,bk v' q->h.length<=q/\q<h'.length/\L'.cls q=0) :=
 (move_ok2 s v ob nb hu hm).mono fun _ _ _ ⟨a,v',xs,S',L',b,c,d,e,f,g,_⟩=>⟨a,v',xs,S',L',b,c,d,e,f,g⟩
end
end Go.S19

namespace Go.S19
open Go Go.Eng Go.Proofs Go.Chk
def HS.setl (S:HS) (w:Int × Int):Nat->List (Int × Int)->HS
 | _,[]=>S
 | k,x::xs=>(S.sete w k x).2.setl w (k+1) xs
theorem sete_same (S:HS) (w:Int × Int) (k:Int) (x:Int × Int):(S.sete w k x).2.begins=S.begins/\(S.sete w k x).2.now.length=S.now.length/\(S.sete w k x).2.globals=S.globals/\(S.sete w k x).2.infos=S.infos/\(S.sete w k x).2.cons=S.cons/\(S.sete w k x).2.old=S.old/\(S.sete w k x).2.oldm=S.oldm /\
 (S.sete w k x).2.size=S.size/\(S.sete w k x).2.texts=S.texts:=by
 unfold HS.sete
 split
 ·split
  ·exact ⟨rfl,rfl,rfl,rfl,rfl,rfl,rfl,rfl,rfl⟩
  ·unfold HS.setp
   split
   ·exact ⟨rfl,by simp [HS.setw],rfl,rfl,rfl,rfl,rfl,rfl,rfl⟩
   ·exact ⟨rfl,rfl,rfl,rfl,rfl,rfl,rfl,rfl,rfl⟩
 ·exact ⟨rfl,rfl,rfl,rfl,rfl,rfl,rfl,rfl,rfl⟩
theorem setl_same (w:Int × Int):∀ (xs:List (Int × Int)) (k:Nat) (S:HS),(S.setl w k xs).begins=S.begins/\(S.setl w k xs).now.length=S.now.length/\(S.setl w k xs).globals=S.globals/\(S.setl w k xs).infos=S.infos/\(S.setl w k xs).cons=S.cons/\(S.setl w k xs).old=S.old/\(S.setl w k xs).oldm=S.oldm /\
 (S.setl w k xs).size=S.size/\(S.setl w k xs).texts=S.texts:=by
 intro xs
 induction xs with
 | nil=>intro k S;exact ⟨rfl,rfl,rfl,rfl,rfl,rfl,rfl,rfl,rfl⟩
 | cons x xs ih =>
   intro k S;obtain ⟨a1,a2,a3,a4,a5,a6,a7,a8,a9⟩:=ih (k+1) (S.sete w k x).2;obtain ⟨b1,b2,b3,b4,b5,b6,b7,b8,b9⟩:=sete_same S w k x;rw[HS.setl];exact ⟨a1.trans b1,a2.trans b2,a3.trans b3,a4.trans b4,a5.trans b5,a6.trans b6,a7.trans b7,a8.trans b8,a9.trans b9⟩
theorem Inv.setl (w:Int × Int):∀ (xs:List (Int × Int)) (k:Nat) {S:HS},Inv S->Inv (S.setl w k xs):=by
 intro xs
 induction xs with
 | nil=>intro k S v;exact v
 | cons x xs ih=>intro k S v;exact ih _ (v.sete w k x)
theorem tiles_next:∀ {l:List (Int × Int)} {a e:Int},tiles a l e -> ∀ {p:Int × Int},p∈l->p.1+p.2=e \/ ∃ m,(p.1+p.2,m)∈l:=by
 intro l
 induction l with
 | nil=>intro a e _ p hp;cases hp
 | cons q l ih =>
   intro a e h p hp;simp only[tiles] at h;obtain ⟨h1,h2,h3⟩:=h
   rcases Z4.1 hp with rfl|hp
   ·cases l with
    | nil=>simp only[tiles] at h3;exact .inl (by omega)
    | cons r l =>
      simp only[tiles] at h3;obtain ⟨c1,c2⟩:=r
      exact .inr ⟨c2,by have:c1=p.1+p.2:=by simpa [h1] using h3.1
                        rw[<- this];simp⟩
   ·exact (ih h3 hp).imp id fun ⟨m,hm⟩=>⟨m,Z1 _ hm⟩
def Bdy (S:HS) (i:Int):Prop:=i=S.now.length\/(mget i S.begins).isSome=true
theorem Bdy.next {S:HS} (v:Inv S) {i n:Int} (h:mget i S.begins=some n):Bdy S (i+n):=by
 rcases tiles_next v.tn (mget_in h) with e|⟨m,hm⟩
 ·exact .inl e
 ·exact .inr (by rw[show mget (i+n) S.begins=some m from mem_mget v.tn hm];rfl)
theorem Bdy.zero {S:HS} (v:Inv S):Bdy S 0:=by
 have:=v.tn;cases hb:S.begins with
 | nil=>rw[hb] at this;simp only[tiles] at this;exact .inl this
 | cons p l =>
   have t:=this;rw[hb] at this;simp only[tiles] at this;refine .inr ?_;have hm:p∈S.begins:=by rw[hb];simp
   rw[show (0:Int)=p.1 by omega,mem_mget t hm];rfl
theorem Bdy.lt {S:HS} {i:Int} (h:Bdy S i) (hl:i<S.now.length):∃ n,mget i S.begins=some n:=by
 rcases h with e|e
 ·omega
 ·exact Z6.1 e
structure Mvs (S S':HS):Prop where
 bg:∃ l,S'.begins=S.begins++l
 ln:S.now.length<=S'.now.length
 gl:S'.globals=S.globals
 inf:S'.infos=S.infos
 cn:S'.cons=S.cons
 sz:S'.size=S.size
 tx:S'.texts=S.texts
 om:S'.oldm=S.oldm
theorem Mvs.refl (S:HS):Mvs S S:=⟨⟨[],by simp⟩,Z5 _,rfl,rfl,rfl,rfl,rfl,rfl⟩
theorem Mvs.trans {S S1 S2:HS} (a:Mvs S S1) (c:Mvs S1 S2):Mvs S S2:=by
 obtain ⟨l,hl⟩:=a.bg;obtain ⟨m,hm⟩:=c.bg;exact ⟨⟨l++m,by rw[hm,hl];simp⟩,Nat.le_trans a.ln c.ln,c.gl.trans a.gl,c.inf.trans a.inf,c.cn.trans a.cn,c.sz.trans a.sz,c.tx.trans a.tx,c.om.trans a.om⟩
theorem Mvs.mv {S:HS} {w:Int × Int} {r:(Int × Int) × Int × HS} (h:Mv S w r):Mvs S r.2.2:=by
 induction h with
 | plain=>exact .refl _
 | none=>exact .refl _
 | was=>exact .refl _
 | ind _ _ _ _ _ ih=>exact ih
 | full=>exact .refl _
 | new=>exact ⟨⟨_,rfl⟩,by simp [HS.setold,HS.laid],rfl,rfl,rfl,rfl,rfl,rfl⟩
theorem MvL.mvs {S S':HS} {ws xs:List (Int × Int)} (m:MvL S ws xs S'):Mvs S S':=by
 induction m with
 | nil=>exact .refl _
 | cons h _ ih=>exact (Mvs.mv h).trans ih
theorem Mvs.get {S S':HS} (m:Mvs S S') {i n:Int} (h:mget i S.begins=some n):mget i S'.begins=some n:=by
 obtain ⟨l,hl⟩:=m.bg;rw[hl];exact mget_app_some h
inductive Scan:HS->Int->HS->Prop where
 | done {S i} (h:¬ i<S.now.length):Scan S i S
 | step {S i xs S1 S'} (h:i<S.now.length) (m:MvL S (S.flds (4,i)) xs S1) (n:Scan (S1.setl (4,i) 0 xs) ((S1.setl (4,i) 0 xs).next i).1 S'):Scan S i S'
def CollR (S:HS) (roots news:List (Int × Int)) (S':HS):Prop :=
 ∃ S2 gs S3 S4,MvL S.flip roots news S2/\MvL S2 S.globals gs S3/\Scan S3 0 S4/\S'=(S4.setg gs).2
end Go.S19

namespace Go.S19
open Go Go.Eng Go.Proofs Go.Chk
structure Cw (h0:AH) (L0:Lay) (qb b:Nat) (h:AH) (L:Lay) (S:HS):Prop where
 hp:Hp h b L S
 iv:Inv S
 kp:Keep (Mine L0) h0 h
 sm:Same h0.length L0 L
 ob:Own h qb 30 [.pointer (some ⟨b,0,none⟩)]
 nb:L.cls qb=0
theorem Cw.keepF {h0 h h':AH} {L0 L:Lay} {qb b:Nat} {S:HS} (c:Cw h0 L0 qb b h L S) (k:Keep (fun _=>False) h h'):Cw h0 L0 qb b h' L S :=
 ⟨c.hp.keepF k,c.iv,c.kp.trans (k.mono fun _ e=>e.elim),c.sm,c.ob.keep k (fun e=>e),c.nb⟩
theorem Cw.step {h0 h h':AH} {L0 L L':Lay} {qb b:Nat} {S S':HS} (c:Cw h0 L0 qb b h L S) (k:Keep (Mine L) h h') (hp:Hp h' b L' S') (sm:Same h.length L L') (iv:Inv S'):Cw h0 L0 qb b h' L' S' :=
 ⟨hp,iv,same_keep c.kp c.sm k,fun q hq=>(sm q (by have:=c.kp.len;omega)).trans (c.sm q hq),c.ob.keep k (fun e=>e c.nb),(sm _ c.ob.lt).2 c.nb⟩
structure Rw (h:AH) (L:Lay) (n:Nat) (v:Value) (xs:List (Int × Int)):Prop where
 o:Ows h 44 2 v xs.length (ww xs)
 c:∀ q,bk v q->n<=q/\L.cls q=0
theorem Rw.keepF {h h':AH} {L:Lay} {n:Nat} {v:Value} {xs:List (Int × Int)} (r:Rw h L n v xs) (k:Keep (fun _=>False) h h'):Rw h' L n v xs:=⟨r.o.keep k (fun _ _ e=>e),r.c⟩
theorem Rw.step {h h':AH} {L L':Lay} {n:Nat} {v:Value} {xs:List (Int × Int)} (r:Rw h L n v xs) (k:Keep (Mine L) h h') (sm:Same h.length L L'):Rw h' L' n v xs :=
 ⟨r.o.keep k (fun q e c=>c (r.c q e).2),fun q e=>⟨(r.c q e).1,(sm q (r.o.lt q e)).2 (r.c q e).2⟩⟩
section
variable {h:AH} {b:Nat} {L:Lay} {S:HS}
set_option maxHeartbeats 4000000 in
theorem Collect_ok2 (s:Hp h b L S) (v:Inv S) (hg:S.globals.length<=2000000) {u:Value} {roots:List (Int × Int)} (hu:Rds h 2 u roots.length (ww roots)) (hm:roots.length<=2000000) (hd:∀ q,rb u q->L.cls q=0) :
 Gets Tryd.prog 12 [.pointer (some ⟨b,0,none⟩),u] h (fun res h'=>Keep (Mine L) h h' /\
  if (S.graph roots).2=true then ∃ v' news S' L',res = .ret (.tuple #[v',iv 0])/\CollR S roots news S'/\Hp h' b L' S'/\Inv S'/\Same h.length L L'/\Rw h' L' h.length v' news/\(u ≠ .slice none 0 0->Nn v')
  else Keep (fun _=>False) h h'/\res = .ret (.tuple #[.slice none 0 0,iv 1])):=by
 refine Gets.of (keep:=false) hP (draw_ok hM) k12 (by rfl) (fun Ψ hΨ=>?_);have oH:=Own.new h 30 h.length [.pointer (some ⟨b,0,none⟩)];have k1:Keep (fun _=>False) h (h++[row 30 h.length [.pointer (some ⟨b,0,none⟩)]]):=Keep.push _ _ _;have l1:(h++[row 30 h.length [.pointer (some ⟨b,0,none⟩)]]).length=h.length+1:=by simp
 simp only[ZG,↓reduceIte,ZA,ZB,ZC,r12,YE,YC,YO,YA,YL,YX,YS,Ya,Yb,Yl,Yf,Yg,Yi,Ym,Yk,Yt,Yn,Yz,Yp,Yq,Yd,mbl,ZD,ZE,ZF];generalize h++[row 30 h.length [.pointer (some ⟨b,0,none⟩)]]=h1 at oH k1 l1 ⊢;simp only[ZG,↓reduceIte,ZA,ZB,ZC,mbl,ZD,ZE,ZF,oH.cells.ld];refine XX_of (graphOf_ok (s.keepF k1) v hg (hu.keep k1 (fun _ _ e=>e)) (by omega)) (fun res h2 hle hn=>?_);obtain ⟨k2,bg,bi,bm,v2,rfl,g2⟩:=hn;refine .ret ?_;clear g2
 by_cases hok:(S.graph roots).2=true
 case neg =>
  have hok':(S.graph roots).2=false:=by simpa using hok
  rw[hok'];simp only[ZG,↓reduceIte,ZA,ZB,ZC,mbl,ZD,ZE,ZF];refine hΨ _ _ (fin_ret (rv2 rfl rfl ⟨(k1.trans k2).mono (fun _ e=>e.elim),?_⟩));rw[if_neg hok];exact ⟨k1.trans k2,rfl⟩
 rw[hok];have c2:Cw h L h.length b h2 L S:=⟨s.keepF (k1.trans k2),v,(k1.trans k2).mono (fun _ e=>e.elim),Same.refl _ _,oH.keep k2 (fun e=>e),s.c0 _ (Z5 _)⟩
 simp only[ZG,↓reduceIte,ZA,ZB,ZC,mbl,ZD,ZE,ZF,c2.ob.cells.ld];refine XX_of (Globals_ok c2.hp (by omega)) (fun res h3 hle3 hn=>?_);obtain ⟨k3,vg,rfl,og,fg⟩:=hn;refine .ret ?_;have c3:=c2.keepF k3;have l2:=(k1.trans k2).len;have rg:Rw h3 L h.length vg S.globals:=⟨og,fun q e=>⟨by have:=(fg q e).1;omega,s.c0 q (by have:=(fg q e).1;omega)⟩⟩
 simp only[ZG,↓reduceIte,ZA,ZB,ZC,mbl,ZD,ZE,ZF,c3.ob.cells.ld];refine XX_of (Flip_ok c3.hp) (fun res h4 hle4 hn=>?_);obtain ⟨rfl,k4,L4,hp4,sm4⟩:=hn;refine .ret ?_;have c4:=c3.step k4 hp4 sm4 v.flip;have rg4:=rg.step k4 sm4;have hu4:Rds h4 2 u roots.length (ww roots):=((hu.keep (k1.trans k2) (fun _ _ e=>e)).keep k3 (fun _ _ e=>e)).keep k4 (fun q e c=>c (hd q e));simp only[ZG,↓reduceIte,ZA,ZB,ZC,mbl,ZD,ZE,ZF];refine XX_of (move_ok2 c4.hp c4.iv c4.ob c4.nb hu4 hm) (fun res h5 hle5 hn=>?_);obtain ⟨k5,vn,news,S5,L5,rfl,m5,hp5,sm5,on5,fn5,nn5⟩:=hn;refine .ret ?_;have c5:=c4.step k5 hp5 sm5 (m5.inv c4.iv);have rg5:=rg4.step k5 sm5;have l4:=c4.kp.len;have rn5:Rw h5 L5 h.length vn news:=⟨on5,fun q e=>⟨by have:=(fn5 q e).1;omega,(fn5 q e).2.2⟩⟩
 simp only[ZG,↓reduceIte,ZA,ZB,ZC,mbl,ZD,ZE,ZF];refine XX_of (move_ok c5.hp c5.iv c5.ob c5.nb rg5.o.rds hg) (fun res h6 hle6 hn=>?_);obtain ⟨k6,vs,gs,S6,L6,rfl,m6,hp6,sm6,on6,fn6⟩:=hn;refine .ret ?_;have c6:=c5.step k6 hp6 sm6 (m6.inv c5.iv);have rn6:=rn5.step k6 sm6;have l5:=c5.kp.len;have rs6:Rw h6 L6 h.length vs gs:=⟨on6,fun q e=>⟨by have:=(fn6 q e).1;omega,(fn6 q e).2.2⟩⟩
 have hgl6:S6.globals=S.globals:=m6.mvs.gl.trans (m5.mvs.gl);simp only[ZG,↓reduceIte,ZA,ZB,ZC,mbl,ZD,ZE,ZF];refine XLo_rule (α:=Int × HS × Lay) (fun a=>[(2,.pointer (some ⟨h.length,0,none⟩)),(8,vs),(9,.func (.func 35) #[] #[.pointer (some ⟨h.length,0,none⟩)]),(10,vn),(11,iv a.1)])
  (fun a h'=>Cw h L h.length b h' a.2.2 a.2.1/\Rw h' a.2.2 h.length vn news/\Rw h' a.2.2 h.length vs gs/\0<=a.1/\a.1<=1048576/\Bdy a.2.1 a.1/\a.2.1.globals=S.globals /\ ∀ S',Scan a.2.1 a.1 S'->Scan S6 0 S') (fun a=>(1048577-a.1).toNat) (0,S6,L6)
  ⟨c6,rn6,rs6,by omega,by omega,Bdy.zero c6.iv,hgl6,fun _ h=>h⟩ ⟨rfl,rfl,rfl,rfl,rfl,trivial⟩ ?_
 rintro ⟨at_,S7,L7⟩ h7 Ψ2 ⟨c7,rn7,rs7,h0,h0',bd7,gl7,sc7⟩ next out
 simp only at c7 rn7 rs7 h0 h0' bd7 gl7 sc7;simp only[ZG,↓reduceIte,ZA,ZB,ZC,mbl,ZD,ZE,ZF,c7.ob.cells.ld];refine XX_val (Used_ok c7.hp) ?_
 by_cases hlt:at_<(S7.now.length:Int)
 case neg =>
  simp only[ZG,↓reduceIte,ZA,ZB,ZC,hlt];refine out (.exit 0) _ _ _ _ (by intro e;cases e) ?_;simp only[ZG,↓reduceIte,ZA,ZB,ZC,mbl,ZD,ZE,ZF,c7.ob.cells.ld];refine XX_of (SetGlobals_ok c7.hp rs7.o.rds (by have:=m6.len;omega) (by rw[gl7];omega)) (fun res h8 hle8 hn=>?_);obtain ⟨k8,rfl,L8,hp8,sm8⟩:=hn;refine .ret ?_;have c8:=c7.step k8 hp8 sm8 (c7.iv.setg gs);have rn8:=rn7.step k8 sm8;simp only[ZG,↓reduceIte,ZA,ZB,ZC,mbl,ZD,ZE,ZF];refine hΨ _ _ (fin_ret (rv2 rfl rfl ⟨c8.kp,?_⟩));rw[if_pos hok];exact ⟨vn,news,_,L8,rfl,⟨S5,gs,S6,S7,m5,m6,sc7 S7 (.done hlt),rfl⟩,c8.hp,c8.iv,c8.sm,rn8,nn5⟩
 case pos =>
 obtain ⟨n,hn7⟩:=bd7.lt hlt;have hm7:=mget_in hn7;have t7:=tiles_in c7.iv.tn hm7;have hl7:S7.lies (4,at_):=⟨rfl,by show (mget at_ S7.begins).isSome=true;rw[hn7];rfl⟩
 simp only[ZG,↓reduceIte,ZA,ZB,ZC,hlt];have oW:=Own.new h7 44 h7.length [iv 0,iv 0];have kw:Keep (fun _=>False) h7 (h7++[row 44 h7.length [iv 0,iv 0]]):=Keep.push _ _ _;have lw:(h7++[row 44 h7.length [iv 0,iv 0]]).length=h7.length+1:=by simp
 simp only[ZG,↓reduceIte,ZA,ZB,ZC,mbl,ZD,ZE,ZF];generalize h7++[row 44 h7.length [iv 0,iv 0]]=h8 at oW kw lw ⊢;refine XH_own oW rfl (by simp [Value.cells]) rfl (fun h9 q1 q2 q3=>?_);have oW9:Own h9 h7.length 44 [iv 4,iv at_]:=by simpa [Value.cells] using q1
 have k79:Keep (fun _=>False) h7 h9:=kw.trans' q2 (fun c hc e=>by omega);have c9:=c7.keepF k79;have hz9:L7.cls h7.length=0:=c7.hp.c0 _ (Z5 _);simp only[ZG,↓reduceIte,ZA,ZB,ZC,c9.ob.cells.ld,oW9.cells.lds 0 2 (by simp),mbl,ZD,ZE,ZF];refine XX_of (Fields_ok c9.hp c9.iv.ok (4,at_)) (fun res h10 hle10 hn=>?_);obtain ⟨k10,hn⟩:=hn;rw[if_pos hl7] at hn;obtain ⟨vf,rfl,of,ff⟩:=hn;refine .ret ?_;have c10:=c9.keepF k10;have oW10:=oW9.keep k10 (fun e=>e);have hfl:(S7.flds (4,at_)).length<=2000000:=by
  have:=c7.iv.ok.fc hl7 (by have:=c7.iv.ln;have:=c7.iv.sz;omega);simp [HS.flds];omega
 simp only[ZG,↓reduceIte,ZA,ZB,ZC,mbl,ZD,ZE,ZF];refine XX_of (move_ok c10.hp c10.iv c10.ob c10.nb of.rds hfl) (fun res h11 hle11 hn=>?_);obtain ⟨k11,vx,xs,S11,L11,rfl,m11,hp11,sm11,on11,fn11⟩:=hn;refine .ret ?_;have c11:=c10.step k11 hp11 sm11 (m11.inv c10.iv);have rn11:=((rn7.keepF k79).keepF k10).step k11 sm11;have rs11:=((rs7.keepF k79).keepF k10).step k11 sm11;have oW11:=oW10.keep k11 (fun e=>e hz9);have hz11:L11.cls h7.length=0:=(sm11 _ oW10.lt).2 hz9;have rx11:Rw h11 L11 h.length vx xs:=⟨on11,fun q e=>⟨by have:=(fn11 q e).1;have:=c10.kp.len;omega,(fn11 q e).2.2⟩⟩
 obtain ⟨xa,xc,hvx⟩:=row_shape rx11.o.rds;simp only[ZG,↓reduceIte,ZA,ZB,ZC,mbl,ZD,ZE,ZF,hvx];rw[<- hvx];have hxl:xs.length<=2000000:=by rw[m11.len];exact hfl
 refine XLo_rule (α:=Nat × HS) (fun a=>[(2,.pointer (some ⟨h.length,0,none⟩)),(8,vs),(9,.func (.func 35) #[] #[.pointer (some ⟨h.length,0,none⟩)]),(10,vn),(11,iv at_),(12,.pointer (some ⟨h7.length,0,none⟩)),(50,vx),(51,iv xs.length),(52,iv a.1)])
  (fun a h'=>a.1<=xs.length/\Cw h L h.length b h' L11 a.2/\Rw h' L11 h.length vn news/\Rw h' L11 h.length vs gs/\Rw h' L11 h.length vx xs/\Own h' h7.length 44 [iv 4,iv at_]/\a.2.setl (4,at_) a.1 (xs.drop a.1)=S11.setl (4,at_) 0 xs) (fun a=>xs.length-a.1) (0,S11)
  ⟨Zk _,c11,rn11,rs11,rx11,oW11,rfl⟩ ⟨rfl,rfl,rfl,rfl,rfl,rfl,by rw[hvx];rfl,rfl,rfl,trivial⟩ ?_
 rintro ⟨k,S12⟩ h12 Ψ3 ⟨hk,c12,rn12,rs12,rx12,oW12,hset⟩ next2 out2;simp only at hk c12 rn12 rs12 rx12 oW12 hset
 by_cases hkl:k<xs.length
 case neg =>
  have d1:((k:Int)<((xs.length:Nat):Int))=False:=by simp;omega
  simp only[ZG,↓reduceIte,ZA,ZB,ZC,d1];refine out2 (.exit 2) _ _ _ _ (by intro e;cases e) ?_;have hdr:xs.drop k=[]:=Zg (by omega);rw[hdr,HS.setl] at hset;have hb12:mget at_ S12.begins=some n:=by
   rw[hset,(setl_same _ _ _ _).1];exact m11.mvs.get hn7
  simp only[ZG,↓reduceIte,ZA,ZB,ZC,c12.ob.cells.ld,mbl,ZD,ZE,ZF];have hm12:=mget_in hb12;have t12:=tiles_in c12.iv.tn hm12;simp only at t12;have ln12:=c12.iv.ln;have sz12:=c12.iv.sz;refine XX_of (Next_ok c12.hp at_ (fun m hm'=>by rw[hb12] at hm';cases hm';omega)) (fun res h13 hle13 hn13=>?_);obtain ⟨rfl,rfl⟩:=hn13;refine .ret ?_;have hnx:(S12.next at_).1=at_+n:=by rw[HS.next,hb12]
  simp only[ZG,↓reduceIte,ZA,ZB,ZC];refine next ((S12.next at_).1,S12,L11) _ _ _ ⟨c12,rn12,rs12,by rw[hnx];omega,by rw[hnx];omega,by rw[hnx];exact Bdy.next c12.iv hb12,?_,fun S' hS'=>sc7 S' (.step hlt m11 ?_)⟩ ⟨rfl,rfl,rfl,rfl,rfl,trivial⟩ (by simp only;rw[hnx];omega)
  ·show S12.globals=S.globals
   rw[hset,(setl_same _ _ _ _).2.2.1,m11.mvs.gl,gl7]
  ·rw[<- hset];exact hS'
 case pos =>
  have d1:((k:Int)<((xs.length:Nat):Int))=True:=by simp;omega
  have d0:(0<=(k:Int))=True:=by simp
  have tn:Int.toNat (k:Int)=k:=by simp
  obtain ⟨bx,o,c,hxe,hnx,hld⟩:=rds_w rx12.o.rds (i:=(k:Int)) (by omega) (by omega);rw[tn] at hld;have hdr:xs.drop k=wat xs (k:Int)::xs.drop (k+1):=by
   rw[Za hkl];congr 1;simp [wat,hkl]
  generalize wat xs (k:Int)=x at hdr hld;rw[hdr,HS.setl] at hset;have oX:=Own.new h12 44 h12.length [iv 0,iv 0];have kx:Keep (fun _=>False) h12 (h12++[row 44 h12.length [iv 0,iv 0]]):=Keep.push _ _ _;simp only[ZG,↓reduceIte,ZA,ZB,ZC,d1,hxe,d0,and_self,tn,hld,mbl,ZD,ZE,ZF];rw[<- hxe];generalize h12++[row 44 h12.length [iv 0,iv 0]]=h13 at oX kx ⊢;refine XH_own oX rfl (by simp [Value.cells]) rfl (fun h14 p1 p2 p3=>?_);have oX14:Own h14 h12.length 44 [iv x.1,iv x.2]:=by simpa [Value.cells] using p1
  have k1214:Keep (fun _=>False) h12 h14:=kx.trans' p2 (fun c hc e=>by omega);have c14:=c12.keepF k1214;have oW14:=oW12.keep k1214 (fun e=>e);simp only[ZG,↓reduceIte,ZA,ZB,ZC,c14.ob.cells.ld,box_ld (x:=(4,at_)) oW14,box_ld oX14,mbl,ZD,ZE,ZF];refine XX_of (Set_ok c14.hp c14.iv.ok (4,at_) k x) (fun res h15 hle15 hn15=>?_);obtain ⟨k15,rfl,hp15⟩:=hn15;refine .ret ?_;have c15:=c14.step k15 hp15 (Same.refl _ _) (c14.iv.sete (4,at_) k x);have wi:IntKind.i64.wrap ((k:Int)+1)=((k+1:Nat):Int):=by rw[i64w (by omega) (by omega)];omega
  simp only[ZG,↓reduceIte,ZA,ZB,ZC,wi];refine next2 (k+1,(S12.sete (4,at_) k x).2) _ _ h15 ⟨by omega,c15,(rn12.keepF k1214).step k15 (Same.refl _ _),(rs12.keepF k1214).step k15 (Same.refl _ _),(rx12.keepF k1214).step k15 (Same.refl _ _),oW14.keep k15 (fun e=>e hz11),hset⟩ ⟨rfl,rfl,rfl,rfl,rfl,rfl,rfl,rfl,rfl,trivial⟩ (by simp;omega)
theorem Collect_ok (s:Hp h b L S) (v:Inv S) (hg:S.globals.length<=2000000) {u:Value} {roots:List (Int × Int)} (hu:Rds h 2 u roots.length (ww roots)) (hm:roots.length<=2000000) (hd:∀ q,rb u q->L.cls q=0) :
 Gets Tryd.prog 12 [.pointer (some ⟨b,0,none⟩),u] h (fun res h'=>Keep (Mine L) h h' /\
  if (S.graph roots).2=true then ∃ v' news S' L',res = .ret (.tuple #[v',iv 0])/\CollR S roots news S'/\Hp h' b L' S'/\Inv S'/\Same h.length L L'/\Rw h' L' h.length v' news
  else Keep (fun _=>False) h h'/\res = .ret (.tuple #[.slice none 0 0,iv 1])):=by
 refine (Collect_ok2 s v hg hu hm hd).mono fun res h' _ ⟨a,b⟩=>⟨a,?_⟩
 by_cases hx:(S.graph roots).2=true
 ·rw[if_pos hx] at b ⊢
  obtain ⟨v',news,S',L',c,d,e,f,g,i,_⟩:=b;exact ⟨v',news,S',L',c,d,e,f,g,i⟩
 ·rw[if_neg hx] at b ⊢;exact b
end
end Go.S19

namespace Go.S19
open Go Go.Eng Go.Proofs Go.Chk
def HS.wn (S:HS) (x:Int × Int):Int:=(mget x.2 S.begins).getD 0
def isum:List Int->Int
 | []=>0
 | x::l=>x+isum l
theorem isum_app (a c:List Int):isum (a++c)=isum a+isum c:=by
 induction a with
 | nil=>simp [isum]
 | cons x a ih=>simp [isum,ih];omega
def HS.reach (S:HS) (ts:List (Int × Int)):Int:=isum (ts.map S.wn)
theorem Gd.wn {S:HS} (v:Inv S) {ts:List (Int × Int)} (g:Gd S ts) {x:Int × Int} (hx:x∈ts):1<=S.wn x/\S.wn x<=1048576/\0<=x.2/\x.2+S.wn x<=1048576/\mget x.2 S.begins=some (S.wn x):=by
 obtain ⟨n,hn⟩:=Z6.1 (g.1 x hx).1.2;have t:=tiles_in v.tn (mget_in hn);have:=v.ln;have:=v.sz;simp only at t;rw[HS.wn,hn,Zc];exact ⟨by omega,by omega,by omega,by omega,rfl⟩
theorem isum_le {c:Int} (hc:0<=c):∀ {l:List Int},(∀ x∈l,0<=x/\x<=c)->0<=isum l/\isum l<=c*l.length:=by
 intro l
 induction l with
 | nil=>intro _;simp [isum]
 | cons x l ih =>
   intro h;have h1:=ih (fun y hy=>h y (Z1 _ hy));have h2:=h x Z7;simp only[isum,Z3];have:c*((l.length+1:Nat):Int)=c*l.length+c:=by rw[Int.natCast_add,Int.mul_add];simp
   omega
theorem Gr.keepX {h h':AH} {b:Nat} {L:Lay} {S:HS} {bg bi bm:Nat} {v:Value} {ts:List (Int × Int)} {sd:Bool} {X:Nat->Prop} (g:Gr h b L S bg bi bm v ts sd) (k:Keep X h h') (h1:∀ q,L.cls q≠0 -> ¬ X q) (h2:∀ q,GOwns bg bi bm v q -> ¬ X q):Gr h' b L S bg bi bm v ts sd :=
 ⟨g.hp.keep k h1,g.iv,g.og.keep k (h2 _ (.inl rfl)),g.ix.keep k (fun q e=>h2 q (.inr e)),g.ng,g.fr,g.gd⟩
section
variable {h:AH} {b:Nat} {L:Lay} {S:HS}
set_option maxHeartbeats 2000000 in
theorem Reach_ok (s:Hp h b L S) (v:Inv S) (hg:S.globals.length<=2000000) {u:Value} {roots:List (Int × Int)} (hu:Rds h 2 u roots.length (ww roots)) (hm:roots.length<=2000000) :
 Gets Tryd.prog 10 [.pointer (some ⟨b,0,none⟩),u] h (fun res h'=>Keep (fun _=>False) h h'/\res = .ret (if (S.graph roots).2=true then .tuple #[iv (S.reach (S.graph roots).1),iv 0] else .tuple #[iv 0,iv 1])):=by
 refine Gets.ofI (keep:=false) hP hM k10 (by rfl) (fun Ψ hΨ=>?_);have oH:=Own.new h 30 h.length [.pointer (some ⟨b,0,none⟩)];have k1:Keep (fun _=>False) h (h++[row 30 h.length [.pointer (some ⟨b,0,none⟩)]]):=Keep.push _ _ _;have l1:(h++[row 30 h.length [.pointer (some ⟨b,0,none⟩)]]).length=h.length+1:=by simp
 simp only[ZG,↓reduceIte,ZA,ZB,ZC,r10,YE,YC,YO,YA,YL,YX,YS,Ya,Yb,Yl,Yf,Yg,Yi,Ym,Yk,Yt,Yn,Yz,Yp,Yq,Yd,mbl,ZD,ZE,ZF];generalize h++[row 30 h.length [.pointer (some ⟨b,0,none⟩)]]=h1 at oH k1 l1 ⊢;simp only[ZG,↓reduceIte,ZA,ZB,ZC,mbl,ZD,ZE,ZF,oH.cells.ld];refine XX_of (graphOf_ok (s.keepF k1) v hg (hu.keep k1 (fun _ _ e=>e)) (by omega)) (fun res h2 hle hn=>?_);obtain ⟨k2,bg,bi,bm,v2,rfl,g2⟩:=hn;refine .ret ?_;have k02:=k1.trans k2
 by_cases hok:(S.graph roots).2=true
 case neg =>
  have hok':(S.graph roots).2=false:=by simpa using hok
  rw[hok'];simp only[ZG,↓reduceIte,ZA,ZB,ZC,mbl,ZD,ZE,ZF];exact hΨ _ _ (finI_ret (.inl rfl) (rv2 rfl rfl ⟨k02,by rw[if_neg hok];rfl⟩))
 rw[hok] at g2 ⊢;generalize hts:(S.graph roots).1=ts at g2;have o8:=Own.new h2 3 h2.length [iv 0];have k3:Keep (fun _=>False) h2 (h2++[row 3 h2.length [iv 0]]):=Keep.push _ _ _;have l3:(h2++[row 3 h2.length [iv 0]]).length=h2.length+1:=by simp
 simp only[ZG,↓reduceIte,ZA,ZB,ZC,mbl,ZD,ZE,ZF];generalize h2++[row 3 h2.length [iv 0]]=h3 at o8 k3 l3 ⊢;refine XH_own o8 rfl (by simp [Value.cells]) rfl (fun h4 q1 q2 q3=>?_);have o84:Own h4 h2.length 3 [iv 0]:=by simpa [Value.cells] using q1
 have k24:Keep (fun _=>False) h2 h4:=k3.trans' q2 (fun c hc e=>by omega);have g4:=g2.keepF k24;simp only[ZG,↓reduceIte,ZA,ZB,ZC,mbl,ZD,ZE,ZF];refine XX_of (each_ok g4.og.lt) (fun res h5 hle5 hn5=>?_);obtain ⟨k5,bx,tx,rfl,ox,fx⟩:=hn5;refine .ret ?_;simp only[ZG,↓reduceIte,ZA,ZB,ZC,XC_rf,rx_n,look_cons];have g5:=g4.keepF k5;have o85:=o84.keep k5 (fun e=>e);have hnb:∀ q,L.cls q≠0->q≠h2.length:=fun q hq e=>hq (by rw[e];exact g2.hp.c0 _ (Z5 _))
 have hng:∀ q,GOwns bg bi bm v2 q->q≠h2.length:=fun q hq e=>by have:=g2.lt q hq;omega
 have hbx:bx≠h2.length:=fun e=>by omega
 have hlen:=g2.gd.len v;have hbg:=v.bg;have hwn:∀ x∈ts.map S.wn,0<=x/\x<=1048576:=fun y hy=>by
  obtain ⟨x,hx,rfl⟩:=Zd.1 hy;have:=g2.gd.wn v hx;omega
 refine XRf_each (M:=1048577) (St:=fun i h'=>i<=ts.length/\Gr h' b L S bg bi bm v2 ts true/\Own h' bx tx [.pointer (some ⟨bg,0,none⟩)]/\Own h' h.length 30 [.pointer (some ⟨b,0,none⟩)]/\Own h' h2.length 3 [iv (isum ((ts.take i).map S.wn))]/\Keep (fun _=>False) h h')
  (Fin:=fun out h'=>out = .norm/\Own h' h2.length 3 [iv (S.reach ts)]/\Keep (fun _=>False) h h') (by omega)
  ⟨Zk _,g5,ox,(oH.keep k2 (fun e=>e)).keep (k24.trans k5) (fun e=>e),o85,k02.trans (k24.trans k5)⟩ ?_ ?_
 ·rintro i hh ⟨hi,g,oxh,oHh,o8h,kk⟩
  refine ⟨by omega,tx,bg,_,_,bi,bm,v2,ts,oxh,g.og,g.ix,hi,fun he=>?_,fun w hw hx kx=>?_⟩
  ·refine ⟨rfl,?_,kk⟩
   rw[he,Ze] at o8h;exact o8h
  ·have hlt:i<ts.length:=(Z0.1 hw).1
   have hmem:=Z2 hw;obtain ⟨w1,w2,w3,w4,w5⟩:=g.gd.wn v hmem;have htk:ts.take (i+1)=ts.take i++[w]:=by
    rw[Zj,hw];rfl
   have hs1:isum ((ts.take (i+1)).map S.wn)=isum ((ts.take i).map S.wn)+S.wn w:=by
    rw[htk,List.map_append,isum_app];simp [isum]
   have hb1:=isum_le (c:=1048576) (by omega) (l:=(ts.take i).map S.wn) (fun x hx=>hwn x (by
    obtain ⟨y,hy,rfl⟩:=Zd.1 hx;exact Zd.2 ⟨y,List.mem_of_mem_take hy,rfl⟩))
   have hl1:((ts.take i).map S.wn).length<=1048576:=by rw[Zf,List.length_take];omega
   refine RndH.go (fun o hz=>o = .norm/\Own hz h2.length 3 [iv (isum ((ts.take (i+1)).map S.wn))]/\Keep (fun q=>q=h2.length) hx hz)
    rfl (by decide) (by intro o ho;simp only[Z4,List.not_mem_nil,or_false] at ho;rcases ho with rfl|rfl<;>(intro f vs e;cases e)) (by rintro v h ⟨e,_⟩;cases e) (fun Ψ hΨ=>?_) (fun hz hlz hQ=>?_) (fun j hz hlz hj hQ=>absurd hQ.1 hj)
   ·simp only[ZG,↓reduceIte,ZA,ZB,ZC,updps]
    have oW:=Own.new hx 44 hx.length [iv 0,iv 0];have kp1:Keep (fun _=>False) hx (hx++[row 44 hx.length [iv 0,iv 0]]):=Keep.push _ _ _;generalize hx++[row 44 hx.length [iv 0,iv 0]]=hy at oW kp1 ⊢;refine XH_own oW rfl (by simp [Value.cells,wv]) rfl (fun hy2 p1 p2 p3=>?_);have oW2:Own hy2 hx.length 44 [iv w.1,iv w.2]:=by simpa [Value.cells,wv] using p1
    have kp2:Keep (fun _=>False) hx hy2:=kp1.trans' p2 (fun c hc e=>by omega);have gy:=(g.keepF kx).keepF kp2;have oH2:=(oHh.keep kx (fun e=>e)).keep kp2 (fun e=>e);have o82:=(o8h.keep kx (fun e=>e)).keep kp2 (fun e=>e);simp only[ZG,↓reduceIte,ZA,ZB,ZC,oH2.cells.ld,oW2.cells.ld,mbl,ZD,ZE,ZF];refine XX_of (Next_ok gy.hp w.2 (fun m hm'=>by rw[w5] at hm';cases hm';omega)) (fun res h13 hle13 hn13=>?_);obtain ⟨rfl,rfl⟩:=hn13;refine .ret ?_;have hnx:(S.next w.2).1=w.2+S.wn w:=by rw[HS.next,w5]
    have e1:IntKind.i64.wrap (w.2+S.wn w-w.2)=S.wn w:=by rw[i64w (by omega) (by omega)];omega
    have e2:IntKind.i64.wrap (isum ((ts.take i).map S.wn)+S.wn w)=isum ((ts.take (i+1)).map S.wn):=by rw[hs1,i64w (by omega) (by omega)]
    simp only[ZG,↓reduceIte,ZA,ZB,ZC,o82.cells.ld,oW2.cells.ld,mbl,ZD,ZE,ZF,hnx,e1,e2];refine XH_own o82 rfl (by simp [Value.cells]) rfl (fun hy3 r1 r2 r3=>?_);have o83:Own hy3 h2.length 3 [iv (isum ((ts.take (i+1)).map S.wn))]:=by simpa [Value.cells] using r1
    simp only[ZG,↓reduceIte,ZA,ZB,ZC];exact hΨ _ _ _ _ _ ⟨rfl,o83,(kp2.mono (fun _ e=>e.elim)).trans r2⟩
   ·obtain ⟨_,o8z,kz⟩:=hQ
    have lx:=(kk.trans kx).len;have:=k02.len;exact ⟨by omega,(g.keepF kx).keepX kz (fun q hq e=>hnb q hq e) (fun q hq e=>hng q hq e),(oxh.keep kx (fun e=>e)).keep kz hbx,(oHh.keep kx (fun e=>e)).keep kz (by have:=oH.lt;have:=k2.len;omega),o8z,(kk.trans kx).trans' kz (fun c hc e=>by omega)⟩
 ·rintro out h' ⟨rfl,o8,kk⟩ hle
  simp only[ZG,↓reduceIte,ZA,ZB,ZC,o8.cells.ld,mbl,ZD,ZE,ZF];exact hΨ _ _ (finI_ret (.inr rfl) (rv2 rfl rfl ⟨kk,by rw[if_pos hok,hts];rfl⟩))
end
end Go.S19

namespace Go.S19
open Go Go.Eng Go.Proofs Go.Chk
section
variable {S:HS}
def HS.adr (S:HS) (ms:List (Int × Int)) (i:Nat):Int:=isum ((ms.take i).map S.wn)
noncomputable def HS.ren (S:HS) (ms:List (Int × Int)) (w:Int × Int):Int × Int:=if (S.folX w).1.1=4 then (4,S.adr ms ((pos (S.folX w).1 ms).getD 0)) else (S.folX w).1
theorem adr_pre {ms ms':List (Int × Int)} (h:ms <+: ms') {i:Nat} (hi:i<=ms.length):S.adr ms' i=S.adr ms i:=by
 obtain ⟨l,rfl⟩:=h;rw[HS.adr,HS.adr,List.take_append_of_le_length hi]
theorem adr_succ {ms:List (Int × Int)} {i:Nat} {x:Int × Int} (h:ms[i]?=some x):S.adr ms (i+1)=S.adr ms i+S.wn x:=by
 rw[HS.adr,HS.adr,Zj,h,List.map_append,isum_app];simp [isum]
theorem adr_zero (ms:List (Int × Int)):S.adr ms 0=0:=rfl
theorem pos_get {x:Int × Int} {ms:List (Int × Int)} {j:Nat} (h:pos x ms=some j):ms[j]?=some x:=by
 unfold pos at h;rw[List.findIdx?_eq_some_iff_getElem] at h;obtain ⟨h1,h2,_⟩:=h;rw[Z8 h1];simpa using h2
theorem pos_pre {x:Int × Int} {ms ms':List (Int × Int)} (hx:x∈ms) (h:ms <+: ms'):pos x ms'=pos x ms:=by
 obtain ⟨l,rfl⟩:=h;obtain ⟨j,hj⟩:=pos_some hx;unfold pos at hj ⊢;rw[List.findIdx?_append,hj];rfl
theorem nodup_ix {ms:List (Int × Int)} (hn:ms.Nodup) {i j:Nat} {x:Int × Int} (hi:ms[i]?=some x) (hj:ms[j]?=some x):i=j:=by
 obtain ⟨h1,e1⟩:=Z0.1 hi;obtain ⟨h2,e2⟩:=Z0.1 hj;have hp:=List.pairwise_iff_getElem.1 hn
 rcases Nat.lt_trichotomy i j with h|h|h
 ·exact absurd (e1.trans e2.symm) (hp i j h1 h2 h)
 ·exact h
 ·exact absurd (e2.trans e1.symm) (hp j i h2 h1 h)
theorem pos_ix {ms:List (Int × Int)} (hn:ms.Nodup) {i:Nat} {x:Int × Int} (hi:ms[i]?=some x):pos x ms=some i:=by
 obtain ⟨j,hj⟩:=pos_some (Z2 hi);rw[hj,nodup_ix hn (pos_get hj) hi]
theorem ren_pre {ms ms':List (Int × Int)} {w:Int × Int} (hx:(S.folX w).1.1=4->(S.folX w).1∈ms) (h:ms <+: ms'):S.ren ms' w=S.ren ms w:=by
 unfold HS.ren
 split
 ·rename_i h4
  rw[pos_pre (hx h4) h];obtain ⟨j,hj⟩:=pos_some (hx h4);have:=(Z0.1 (pos_get hj)).1;rw[hj,Zc,adr_pre h (by omega)]
 ·rfl
def HS.bgF (S:HS) (a:Int):List (Int × Int)->List (Int × Int)
 | []=>[]
 | x::l=>(a,S.wn x)::S.bgF (a+S.wn x) l
theorem bgF_app (a:Int) (l:List (Int × Int)) (x:Int × Int):S.bgF a (l++[x])=S.bgF a l++[(a+isum (l.map S.wn),S.wn x)]:=by
 induction l generalizing a with
 | nil=>simp [HS.bgF,isum]
 | cons y l ih=>simp only[List.cons_append,HS.bgF,ih,Zh,isum];rw[Int.add_assoc]
theorem bgF_mem:∀ (l:List (Int × Int)) (a:Int) {i:Nat} {x:Int × Int},l[i]?=some x->(a+S.adr l i,S.wn x)∈S.bgF a l:=by
 intro l
 induction l with
 | nil=>intro a i x h;simp at h
 | cons y l ih =>
   intro a i x h;cases i with
   | zero=>simp at h;subst h;simp [HS.bgF,adr_zero]
   | succ i =>
     have:=ih (a+S.wn y) (i:=i) (x:=x) (by simpa using h);simp only[HS.bgF];refine Z1 _ ?_;rw[show a+S.adr (y::l) (i+1)=a+S.wn y+S.adr l i by simp [HS.adr,isum];omega];exact this
structure Cm (S:HS) (ms:List (Int × Int)) (k:Nat) (T:HS):Prop where
 gd:Gd S ms
 kl:k<=ms.length
 inf:T.infos=S.infos
 cn:T.cons=S.cons
 sz:T.size=S.size
 om:T.oldm=S.begins
 old1:∀ (i:Nat) (x:Int × Int),ms[i]?=some x->gx T.old x.2=(13,S.adr ms i)
 old2:∀ (p n:Int),mget p S.begins=some n->((4:Int),p) ∉ ms -> ∀ j,0<=j->j<n->gx T.old (p+j)=gx S.now (p+j)
 bg:T.begins=S.bgF 0 ms
 ln:(T.now.length:Int)=S.adr ms ms.length
 cw:∀ (i:Nat) (x:Int × Int),ms[i]?=some x -> ∀ j:Int,0<=j->j<S.wn x ->
  gx T.now (S.adr ms i+j)=if i<k/\1<=j/\j<=S.fcn (gx S.now x.2) (S.wn x) then S.ren ms (gx S.now (x.2+j)) else gx S.now (x.2+j)
 cl:∀ (i:Nat) (x:Int × Int),ms[i]?=some x->i<k -> ∀ j:Int,1<=j->j<=S.fcn (gx S.now x.2) (S.wn x)->S.sound (gx S.now (x.2+j))/\((S.folX (gx S.now (x.2+j))).1.1=4->(S.folX (gx S.now (x.2+j))).1∈ms)
theorem isum_erase {f:Int × Int->Int}:∀ {l:List (Int × Int)} {x:Int × Int},x∈l->isum (l.map f)=f x+isum ((l.erase x).map f):=by
 intro l
 induction l with
 | nil=>intro x h;cases h
 | cons y l ih =>
   intro x h
   by_cases e:y=x
   ·subst e;simp [isum]
   ·have hx:x∈l:=(Z4.1 h).resolve_left (fun h=>e h.symm)
    rw[List.erase_cons_tail (by simpa using e)];simp only[Zh,isum,ih hx];omega
theorem tiles_sum {f:Int × Int->Int}:∀ {l:List (Int × Int)} {a e:Int},tiles a l e->(∀ q∈l,f (4,q.1)=q.2) -> ∀ {ks:List (Int × Int)},ks.Nodup->(∀ x∈ks,∃ q∈l,x=(4,q.1))->isum (ks.map f)<=e-a:=by
 intro l
 induction l with
 | nil =>
   intro a e t hf ks hn hs;simp only[tiles] at t;cases ks with
   | nil=>simp [isum];omega
   | cons x ks=>obtain ⟨q,hq,_⟩:=hs x Z7;cases hq
 | cons q l ih =>
   intro a e t hf ks hn hs;simp only[tiles] at t;obtain ⟨t1,t2,t3⟩:=t
   by_cases hq:((4:Int),q.1)∈ks
   ·rw[isum_erase hq,hf q Z7]
    have:=ih t3 (fun r hr=>hf r (Z1 _ hr)) (hn.erase ((4:Int),q.1)) (fun x hx=>by
     obtain ⟨r,hr,e⟩:=hs x (List.mem_of_mem_erase hx)
     rcases Z4.1 hr with rfl|hr
     ·exact absurd hx (by rw[e];exact List.Nodup.not_mem_erase hn)
     ·exact ⟨r,hr,e⟩)
    omega
   ·have:=ih t3 (fun r hr=>hf r (Z1 _ hr)) hn (fun x hx=>by
     obtain ⟨r,hr,e⟩:=hs x hx
     rcases Z4.1 hr with rfl|hr
     ·exact absurd (e ▸ hx) hq
     ·exact ⟨r,hr,e⟩)
    omega
theorem Gd.sum (v:Inv S) {ms:List (Int × Int)} (g:Gd S ms):S.adr ms ms.length<=S.now.length:=by
 have:=tiles_sum (f:=S.wn) v.tn (fun q hq=>by
  show (mget q.1 S.begins).getD 0=q.2
  rw[mem_mget v.tn hq];rfl) g.2 (fun x hx=>by
  obtain ⟨h4,hs⟩:=(g.1 x hx).1;obtain ⟨n,hn⟩:=Z6.1 hs;exact ⟨_,mget_in hn,Prod.ext h4 rfl⟩)
 rw[HS.adr,Ze];omega
end
end Go.S19

namespace Go.S19
open Go Go.Eng Go.Proofs Go.Chk
section
variable {S T:HS} {ms:List (Int × Int)} {k:Nat}
theorem plain_no4 {w:Int × Int} (h:S.plain w):w.1≠4:=by
 rcases h with e|e|e<;>omega
theorem Cm.start (S:HS):Cm S [] 0 S.flip :=
 ⟨.nil S,Z5 _,rfl,rfl,rfl,rfl,fun i x h=>by simp at h,fun p n _ _ j _ _=>rfl,rfl,rfl,fun i x h=>by simp at h,fun i x h=>by simp at h⟩
theorem Cm.get (c:Cm S ms k T) (vt:Inv T) {i:Nat} {x:Int × Int} (hx:ms[i]?=some x):mget (S.adr ms i) T.begins=some (S.wn x):=by
 have:=bgF_mem (S:=S) ms 0 hx;rw[Int.zero_add] at this;exact mem_mget vt.tn (c.bg ▸ this)
theorem Cm.in_ (c:Cm S ms k T) (vt:Inv T) {i:Nat} {x:Int × Int} (hx:ms[i]?=some x):0<=S.adr ms i/\1<=S.wn x/\S.adr ms i+S.wn x<=T.now.length:=by
 have:=tiles_in vt.tn (mget_in (c.get vt hx));simpa using this
theorem Cm.push (c:Cm S ms k T) (v:Inv S) (vt:Inv T) {w:Int × Int} {n0:Int} (hl:S.lies w) (h12:(gx S.now w.2).1≠12) (hin:w ∉ ms) (hn:mget w.2 S.begins=some n0) :
 Cm S (ms++[w]) k ((T.laid (T.owords w)).setold w.2 (13,(T.now.length:Int)))/\S.adr (ms++[w]) ms.length=T.now.length:=by
 have hwn:S.wn w=n0:=by rw[HS.wn,hn];rfl
 have hno:mget w.2 T.oldm=some n0:=by rw[c.om];exact hn
 have to:=tiles_in vt.to (mget_in hno);simp only at to;have hpre:ms <+: ms++[w]:=List.prefix_append _ _;have ha:S.adr (ms++[w]) ms.length=T.now.length:=by rw[adr_pre hpre (Z5 _),c.ln]
 have ol:=owords_len hno (by omega);have h4w:(4,w.2)=w:=Prod.ext hl.1.symm rfl;have hlen:(ms++[w]).length=ms.length+1:=by simp
 have gd2:=c.gd.num (x:=w) ⟨hl,h12⟩;rw[num,if_neg hin] at gd2;have old:∀ j,gx (T.old.set w.2.toNat (13,(T.now.length:Int))) j=if j=w.2 then (13,(T.now.length:Int)) else gx T.old j:=fun j=>gx_set (by omega)
 have cases_:∀ {i:Nat} {x:Int × Int},(ms++[w])[i]?=some x->(i<ms.length/\ms[i]?=some x)\/(i=ms.length/\x=w):=by
  intro i x hx
  rcases Nat.lt_or_ge i ms.length with h|h
  ·rw[Zb h] at hx;exact .inl ⟨h,hx⟩
  ·rw[List.getElem?_append_right h] at hx
   have:i-ms.length=0:=by
    rcases Nat.eq_zero_or_pos (i-ms.length) with e|e
    ·exact e
    ·rw[List.getElem?_eq_none (by simp;omega)] at hx;cases hx
   rw[this] at hx;simp at hx;exact .inr ⟨by omega,hx.symm⟩
 refine ⟨⟨gd2,by rw[hlen];have:=c.kl;omega,c.inf,c.cn,c.sz,c.om,?_,?_,?_,?_,?_,?_⟩,ha⟩
 ·intro i x hx
  show gx (T.old.set w.2.toNat (13,(T.now.length:Int))) x.2=_
  rw[old]
  rcases cases_ hx with ⟨h1,h2⟩|⟨h1,h2⟩
  ·have hm:=Z2 h2
   have hne:x.2≠w.2:=fun e=>hin (by rw[<- h4w,<- e,<- show x=(4,x.2) from Prod.ext (c.gd.1 x hm).1.1 rfl];exact hm)
   rw[if_neg hne,adr_pre hpre (by omega)];exact c.old1 i x h2
  ·rw[h2,if_pos rfl,h1,ha]
 ·intro p n hp hnot j h0 h1
  show gx (T.old.set w.2.toNat (13,(T.now.length:Int))) (p+j)=_
  rw[old];have hne:p≠w.2:=fun e=>hnot (by rw[e,h4w];simp)
  have:=tiles_apart v.tn (mget_in hp) (mget_in hn);simp only[Prod.mk.injEq] at this;have hw1:1<=n0:=to.2.1;rw[if_neg (by omega)];exact c.old2 p n hp (fun e=>hnot (List.mem_append.2 (.inl e))) j h0 h1
 ·show T.begins++[((T.now.length:Int),((T.owords w).length:Int))]=_
  rw[bgF_app,c.bg,ol,hwn,c.ln,HS.adr,Ze,Int.zero_add]
 ·show ((T.now++T.owords w).length:Int)=_
  rw[hlen,adr_succ (x:=w) (by simp),ha,hwn,Zi,Int.natCast_add,ol]
 ·intro i x hx j h0 h1
  show gx (T.now++T.owords w) _=_
  rcases cases_ hx with ⟨h2,h3⟩|⟨h2,h3⟩
  ·have t:=c.in_ vt h3
   rw[adr_pre hpre (by omega),gx_app (by omega) (by omega),c.cw i x h3 j h0 h1]
   split
   ·rename_i hc
    rw[ren_pre (c.cl i x h3 hc.1 j hc.2.1 hc.2.2).2 hpre]
   ·rfl
  ·subst h3;subst h2
   have hk:=c.kl;rw[ha,if_neg (by omega),gx_laid h0 (by omega),owords_at hno h0 (by omega)];exact c.old2 x.2 n0 hn (by rw[h4w];exact hin) j h0 (by omega)
 ·intro i x hx hik j h1 h2
  rcases cases_ hx with ⟨h3,h4⟩|⟨h3,h4⟩
  ·obtain ⟨a1,a2⟩:=c.cl i x h4 hik j h1 h2
   exact ⟨a1,fun e=>List.mem_append.2 (.inl (a2 e))⟩
  ·have:=c.kl;omega
theorem Cm.move (c:Cm S ms k T) (v:Inv S) (vt:Inv T):∀ {n:Nat} {w x:Int × Int} {r:(Int × Int) × Int × HS},S.sound w->S.fol n w=some x->Mv T w r ->
 r.1=(if x.1=4 then (4,S.adr (num ms x) ((pos x (num ms x)).getD 0)) else x)/\Cm S (if x.1=4 then num ms x else ms) k r.2.2:=by
 intro n
 induction n with
 | zero=>intro w x r _ h;cases h
 | succ n ih =>
   intro w x r hs hx h;rw[HS.fol] at hx
   by_cases h4:w.1=4
   case neg =>
    rw[if_neg h4] at hx;cases hx;have hp:S.plain w:=hs.resolve_right (fun e=>h4 e.1);have hpt:T.plain w:=(plain_congr c.inf c.cn w).2 hp;rw[if_neg h4,if_neg h4];cases h with
    | plain=>exact ⟨rfl,c⟩
    | none h=>exact absurd hpt h
    | was h=>exact absurd hpt h
    | ind h=>exact absurd hpt h
    | full h=>exact absurd hpt h
    | new h=>exact absurd hpt h
   rw[if_pos h4] at hx;have hl:S.lies w:=hs.resolve_left (fun e=>plain_no4 e h4);obtain ⟨n0,hn,hm⟩:=lies_mem hl;have kd:=v.kn _ hm;have t:=tiles_in v.tn hm;simp only at kd t;have hno:mget w.2 T.oldm=some n0:=by rw[c.om];exact hn
   have hnp:¬ T.plain w:=fun e=>plain_no4 e h4
   have hsome:w.1=4/\(mget w.2 T.oldm).isSome=true:=⟨h4,by rw[hno];rfl⟩
   have h4w:(4,w.2)=w:=Prod.ext h4.symm rfl
   by_cases h12:(gx S.now w.2).1=12
   ·rw[if_pos h12] at hx
    have hnot:((4:Int),w.2) ∉ ms:=by rw[h4w];exact fun e=>(c.gd.1 w e).2 h12
    have k12:=kd.k12 h12;have o0:=c.old2 w.2 n0 hn hnot 0 (by omega) (by omega);have o1:=c.old2 w.2 n0 hn hnot 1 (by omega) (by omega);rw[Z9] at o0;cases h with
    | plain h=>exact absurd h hnp
    | none _ h2=>exact absurd hsome h2
    | was _ _ _ h13=>rw[o0,h12] at h13;exact absurd h13 (by omega)
    | ind _ _ _ _ hm'=>rw[o1] at hm';exact ih (v.chain hl h12) hx hm'
    | full _ _ _ _ h12'=>rw[o0] at h12';exact absurd h12 h12'
    | new _ _ _ _ h12'=>rw[o0] at h12';exact absurd h12 h12'
   ·rw[if_neg h12] at hx
    cases hx;rw[if_pos h4,if_pos h4]
    by_cases hin:w∈ms
    ·obtain ⟨j,hj⟩:=pos_some hin
     have o1:=c.old1 j w (pos_get hj);have hnum:num ms w=ms:=by rw[num,if_pos hin]
     rw[hnum,hj];cases h with
     | plain h=>exact absurd h hnp
     | none _ h2=>exact absurd hsome h2
     | was=>rw[o1];exact ⟨rfl,c⟩
     | ind _ _ _ h12'=>rw[o1] at h12';exact absurd h12' (by omega)
     | full _ _ _ h13=>rw[o1] at h13;exact absurd rfl h13
     | new _ _ _ h13=>rw[o1] at h13;exact absurd rfl h13
    ·have o0:=c.old2 w.2 n0 hn (by rw[h4w];exact hin) 0 (by omega) (by omega)
     rw[Z9] at o0;have kk:=kd.k;have hnum:num ms w=ms++[w]:=by rw[num,if_neg hin]
     obtain ⟨c2,ha⟩:=c.push v vt hl h12 hin hn;rw[hnum];have hpos:pos w (ms++[w])=some ms.length:=pos_ix c2.gd.2 (by simp);rw[hpos,Zc,ha];cases h with
     | plain h=>exact absurd h hnp
     | none _ h2=>exact absurd hsome h2
     | was _ _ _ h13=>rw[o0] at h13;exact absurd h13 (by omega)
     | ind _ _ _ h12'=>rw[o0] at h12';exact absurd h12' h12
     | full _ _ hn' _ _ hf =>
       rw[hno] at hn';cases hn';have hsum:=c2.gd.sum v;have:S.adr (ms++[w]) (ms++[w]).length=T.now.length+n0:=by
        rw[Zi,List.length_singleton,adr_succ (x:=w) (by simp),ha,HS.wn,hn];rfl
       have:=v.ln;have:=c.sz;omega
     | new=>exact ⟨rfl,c2⟩
theorem Cm.moves (v:Inv S):∀ (ws:List (Int × Int)) {ms:List (Int × Int)} {T:HS} {xs:List (Int × Int)} {T':HS},Cm S ms k T->Inv T->(S.meetT ws ms).2=true->MvL T ws xs T' ->
 Cm S (S.meetT ws ms).1 k T'/\xs=ws.map (S.ren (S.meetT ws ms).1) /\ ∀ w∈ws,S.sound w/\((S.folX w).1.1=4->(S.folX w).1∈(S.meetT ws ms).1):=by
 intro ws
 induction ws with
 | nil=>intro ms T xs T' c vt hb m;cases m;exact ⟨c,rfl,fun w h=>by cases h⟩
 | cons w ws ih =>
   intro ms T xs T' c vt hb m;rw[HS.meetT] at hb ⊢
   split at hb
   case isFalse=>cases hb
   case isTrue hs =>
   rw[if_pos hs];cases m with
   | @cons _ _ r _ xs' _ h t =>
   obtain ⟨n,x,hx⟩:=v.tm w hs;have hfx:=folX_eq hs hx;obtain ⟨h1,h2⟩:=c.move v vt hs hx h;rw[hfx] at hb ⊢;simp only at hb ⊢;obtain ⟨k1,k2,k3⟩:=ih h2 (vt.mv h) hb t;have hpre:=meet_pre (S:=S) ws (if x.1=4 then num ms x else ms);have hin:x.1=4->x∈(if x.1=4 then num ms x else ms):=fun e=>by
    rw[if_pos e];unfold num;split
    ·assumption
    ·simp
   refine ⟨k1,?_,?_⟩
   ·rw[Zh,<- k2,ren_pre (by rw[hfx];exact hin) hpre,h1]
    congr 1
    unfold HS.ren;rw[hfx];simp only
    split
    ·rfl
    ·rfl
   ·intro y hy
    rcases Z4.1 hy with rfl|hy
    ·refine ⟨hs,fun e=>?_⟩
     rw[hfx] at e ⊢;exact hpre.subset (hin e)
    ·exact k3 y hy
end
end Go.S19

namespace Go.S19
open Go Go.Eng Go.Proofs Go.Chk
def Tx (S:HS):Prop:=∀ q∈S.begins,(gx S.now q.1).1=9->(gx S.now (q.1+1)).1=1
theorem fcn_congr {S T:HS} (h:T.infos=S.infos) (hd:Int × Int) (n:Int):T.fcn hd n=S.fcn hd n:=by
 unfold HS.fcn HS.fr;rw[h]
theorem setl_text {U:HS} {w:Int × Int} (h9:(gx U.now w.2).1=9):∀ (xs:List (Int × Int)) (k:Nat),U.setl w k xs=U:=by
 intro xs
 induction xs with
 | nil=>intro k;rfl
 | cons x xs ih =>
   intro k;rw[HS.setl];have:(U.sete w k x).2=U:=by
    unfold HS.sete
    split
    ·rw[if_pos (.inr (.inl h9))]
    ·rfl
   rw[this];exact ih _
theorem setl_at {p n:Int}:∀ (xs:List (Int × Int)) {U:HS} (k:Nat),Inv U->mget p U.begins=some n->(∀ x∈xs,U.sound x)->(k:Int)+xs.length<=U.fcn (gx U.now p) n->(gx U.now p).1≠9->(gx U.now p).1≠12 ->
 ∀ j,gx (U.setl (4,p) k xs).now j=if p+1+k<=j/\j<p+1+k+xs.length then wat xs (j-(p+1+k)) else gx U.now j:=by
 intro xs
 induction xs with
 | nil=>intro U k v hn hs hk h9 h12 j;rw[HS.setl,if_neg (by simp only[List.length_nil];omega)]
 | cons x xs ih =>
   intro U k v hn hs hk h9 h12 j;have hl:U.lies (4,p):=⟨rfl,by show (mget p U.begins).isSome=true;rw[hn];rfl⟩
   have hx:=hs x Z7;simp only[Z3] at hk
   rcases sete_cases v (4,p) (k:Int) x with ⟨e,_,h⟩|⟨m,_,_,hm,_,_,_,_,_,h5,h6,h7,he⟩
   ·exfalso
    rcases h with ⟨_,h⟩|⟨_,_,_,h⟩
    ·exact h ⟨hl,hx⟩
    ·rcases h with h|h|h|⟨m,hm,h⟩
     ·omega
     ·exact h9 h
     ·exact h12 h
     ·simp only at hm;rw[hn] at hm;cases hm;simp only at h;omega
   simp only at hm h5 h6 h7 he;rw[hn] at hm;cases hm;rw[HS.setl,he];have g1:∀ j,gx (U.setw (p+1+k) x).now j=if j=p+1+k then x else gx U.now j:=fun j=>gx_set (by omega)
   have hp:gx (U.setw (p+1+k) x).now p=gx U.now p:=by rw[g1,if_neg (by omega)]
   have hi:Inv (U.setw (p+1+k) x):=by have:=v.sete (4,p) (k:Int) x;rw[he] at this;exact this
   have:=ih (U:=U.setw (p+1+k) x) (k+1) hi hn (fun y hy=>sound_mono rfl rfl (fun _ h=>h) (hs y (Z1 _ hy))) (by rw[hp,fcn_congr (S:=U) (T:=U.setw (p+1+k) x) rfl];omega) (by rw[hp];exact h9) (by rw[hp];exact h12) j;rw[this,g1]
   by_cases c1:p+1+((k+1:Nat):Int)<=j/\j<p+1+((k+1:Nat):Int)+xs.length
   ·rw[if_pos c1,if_pos (by simp only[Z3];omega)]
    unfold wat;rw[show (j-(p+1+(k:Int))).toNat=(j-(p+1+((k+1:Nat):Int))).toNat+1 by omega,List.getElem?_cons_succ]
   ·rw[if_neg c1]
    by_cases c2:j=p+1+k
    ·rw[if_pos c2,if_pos (by simp only[Z3];omega),c2]
     simp [wat]
    ·rw[if_neg c2,if_neg (by simp only[Z3];omega)]
section
variable {S T:HS} {ms:List (Int × Int)} {k:Nat}
theorem obj_flds (v:Inv S) {x:Int × Int} (hl:S.lies x):S.flds x=fld S.now x.2 (S.fcn (gx S.now x.2) (S.wn x))/\mget x.2 S.begins=some (S.wn x)/\0<=S.fcn (gx S.now x.2) (S.wn x)/\S.fcn (gx S.now x.2) (S.wn x)<S.wn x:=by
 obtain ⟨n,hn,hm⟩:=lies_mem hl;have hw:S.wn x=n:=by rw[HS.wn,hn];rfl
 have h4:x=(4,x.2):=Prod.ext hl.1 rfl;have kd:=v.kn _ hm;have t:=tiles_in v.tn hm;have:=kd.fc t.2.1;rw[hw];exact ⟨by rw[h4];exact flds_eq hn,hn,this.1,this.2⟩
theorem Cm.flds (c:Cm S ms k T) (v:Inv S) (vt:Inv T) {i:Nat} {x:Int × Int} (hx:ms[i]?=some x) (hi:k<=i):T.flds (4,S.adr ms i)=S.flds x:=by
 obtain ⟨h1,h2,h3,h4⟩:=obj_flds v (c.gd.1 x (Z2 hx)).1;have h0:=c.cw i x hx 0 (by omega) (by omega);rw[if_neg (by omega),Z9,Z9] at h0;rw[flds_eq (c.get vt hx),h1,h0,fcn_congr c.inf];refine fld_ext fun j hj=>?_
 have:=c.cw i x hx (1+j) (by omega) (by omega);rw[if_neg (by omega)] at this;rw[show S.adr ms i+1+(j:Int)=S.adr ms i+(1+j) by omega,this]
 congr 1;omega
theorem ren_plain {w:Int × Int} (v:Inv S) (h:S.plain w) (ms:List (Int × Int)):S.ren ms w=w:=by
 have h4:=plain_no4 h;have hf:S.fol 1 w=some w:=by rw[HS.fol,if_neg h4]
 unfold HS.ren;rw[folX_eq (.inl h) hf];simp only;rw[if_neg h4]
theorem Cm.rsound (c:Cm S ms k T) (v:Inv S) (vt:Inv T) {w:Int × Int} (hs:S.sound w) (hin:(S.folX w).1.1=4->(S.folX w).1∈ms):T.sound (S.ren ms w):=by
 obtain ⟨x,e,h1,h2⟩:=folX_sound v hs;unfold HS.ren;rw[e] at hin ⊢;simp only at hin ⊢
 split
 ·rename_i h4
  obtain ⟨j,hj⟩:=pos_some (hin h4);rw[hj];refine .inr ⟨rfl,?_⟩
  show (mget (S.adr ms j) T.begins).isSome=true
  rw[c.get vt (pos_get hj)];rfl
 ·rename_i h4
  exact .inl ((plain_congr c.inf c.cn x).2 (h1.resolve_right (fun e=>h4 e.1)))
theorem Cm.set (c:Cm S ms k T) (v:Inv S) (vt:Inv T) (tx:Tx S) {x:Int × Int} (hx:ms[k]?=some x) (hall:∀ w∈S.flds x,S.sound w/\((S.folX w).1.1=4->(S.folX w).1∈ms)) :
 Cm S ms (k+1) (T.setl (4,S.adr ms k) 0 ((S.flds x).map (S.ren ms))):=by
 obtain ⟨a1,a2,a3,a4,a5,a6,a7,a8,a9⟩:=setl_same (4,S.adr ms k) ((S.flds x).map (S.ren ms)) 0 T;have hmem:=Z2 hx;obtain ⟨hl,h12⟩:=c.gd.1 x hmem;obtain ⟨h1,h2,h3,h4⟩:=obj_flds v hl;have hk:=(Z0.1 hx).1;have hget:=c.get vt hx;have h0:=c.cw k x hx 0 (by omega) (by omega);rw[if_neg (by omega),Z9,Z9] at h0;have hfl:((S.flds x).length:Int)=S.fcn (gx S.now x.2) (S.wn x):=by rw[h1,fld_len];omega
 have hw:∀ j:Int,1<=j->j<=S.fcn (gx S.now x.2) (S.wn x)->gx S.now (x.2+j)∈S.flds x/\wat ((S.flds x).map (S.ren ms)) (j-1)=S.ren ms (gx S.now (x.2+j)):=by
  intro j j1 j2;have hg:(S.flds x)[(j-1).toNat]?=some (gx S.now (x.2+j)):=by
   rw[h1,fld_get,if_pos (by omega)];congr 2;omega
  exact ⟨Z2 hg,by unfold wat;rw[List.getElem?_map,hg];rfl⟩
 have hcw:∀ (i:Nat) (y:Int × Int),ms[i]?=some y -> ∀ j:Int,0<=j->j<S.wn y ->
  gx (T.setl (4,S.adr ms k) 0 ((S.flds x).map (S.ren ms))).now (S.adr ms i+j)=if i<k+1/\1<=j/\j<=S.fcn (gx S.now y.2) (S.wn y) then S.ren ms (gx S.now (y.2+j)) else gx S.now (y.2+j):=by
  intro i y hy j j0 j1
  by_cases h9:(gx S.now x.2).1=9
  ·rw[setl_text (by show (gx T.now (S.adr ms k)).1=9;rw[h0];exact h9),c.cw i y hy j j0 j1]
   by_cases hik:i=k
   ·subst hik
    rw[hx] at hy;cases hy;rw[if_neg (by omega)]
    split
    ·rename_i hc
     have kd:=v.kn _ (mget_in h2);have k9:=kd.k9 h9;simp only at k9;have hj1:j=1:=by omega
     have:=tx _ (mget_in h2) h9;rw[ren_plain v (.inl (by rw[hj1];exact this))]
    ·rfl
   ·by_cases hc:1<=j/\j<=S.fcn (gx S.now y.2) (S.wn y)
    ·by_cases hlt:i<k
     ·rw[if_pos ⟨hlt,hc⟩,if_pos ⟨by omega,hc⟩]
     ·rw[if_neg (by omega),if_neg (by omega)]
    ·rw[if_neg (fun e=>hc e.2),if_neg (fun e=>hc e.2)]
  ·have hs:=setl_at (p:=S.adr ms k) (n:=S.wn x) ((S.flds x).map (S.ren ms)) (U:=T) 0 vt hget (fun z hz=>by
    obtain ⟨w,hw',rfl⟩:=Zd.1 hz;exact c.rsound v vt (hall w hw').1 (hall w hw').2) (by rw[Zf,h0,fcn_congr c.inf];omega) (by rw[h0];exact h9) (by rw[h0];exact h12) (S.adr ms i+j)
   rw[hs,Zf,hfl]
   by_cases hik:i=k
   ·subst hik
    rw[hx] at hy;cases hy
    by_cases hc:1<=j/\j<=S.fcn (gx S.now x.2) (S.wn x)
    ·rw[if_pos (by omega),if_pos ⟨by omega,hc⟩]
     rw[show S.adr ms i+j-(S.adr ms i+1+((0:Nat):Int))=j-1 by omega];exact (hw j hc.1 hc.2).2
    ·rw[if_neg (by omega),if_neg (fun e=>hc e.2),c.cw i x hx j j0 j1,if_neg (by omega)]
   ·have ti:=tiles_apart vt.tn (mget_in (c.get vt hy)) (mget_in hget)
    have tp:=c.in_ vt hx;have ty:=c.in_ vt hy;have hne:S.adr ms i≠S.adr ms k:=by
     intro e;have o1:=c.old1 i y hy;have b1:=bgF_mem (S:=S) ms 0 hy
     rcases Nat.lt_or_ge i k with hlt|hge
     ·have:=adr_pre (S:=S) (ms:=ms.take (i+1)) (ms':=ms) (List.take_prefix _ _) (i:=i+1) (by rw[List.length_take];omega)
      have s1:=adr_succ (S:=S) hy;have mono:∀ d,i+1+d<=ms.length->S.adr ms (i+1)<=S.adr ms (i+1+d):=by
       intro d
       induction d with
       | zero=>intro _;exact Int.le_refl _
       | succ d ih =>
         intro hd;have hg:=Z8 (l:=ms) (i:=i+1+d) (by omega);have:=adr_succ (S:=S) hg;have:=(c.in_ vt hg).2.1;have:=ih (by omega);rw[show i+1+(d+1)=i+1+d+1 by omega];omega
      have:=mono (k-(i+1)) (by omega);rw[show i+1+(k-(i+1))=k by omega] at this;omega
     ·have s1:=adr_succ (S:=S) hx
      have hil:=(Z0.1 hy).1;have mono:∀ d,k+1+d<=ms.length->S.adr ms (k+1)<=S.adr ms (k+1+d):=by
       intro d
       induction d with
       | zero=>intro _;exact Int.le_refl _
       | succ d ih =>
         intro hd;have hg:=Z8 (l:=ms) (i:=k+1+d) (by omega);have:=adr_succ (S:=S) hg;have:=(c.in_ vt hg).2.1;have:=ih (by omega);rw[show k+1+(d+1)=k+1+d+1 by omega];omega
      have:=mono (i-(k+1)) (by omega);rw[show k+1+(i-(k+1))=i by omega] at this;omega
    simp only[Prod.mk.injEq] at ti;rw[if_neg (by omega),c.cw i y hy j j0 j1]
    by_cases hc:1<=j/\j<=S.fcn (gx S.now y.2) (S.wn y)
    ·by_cases hlt:i<k
     ·rw[if_pos ⟨hlt,hc⟩,if_pos ⟨by omega,hc⟩]
     ·rw[if_neg (by omega),if_neg (by omega)]
    ·rw[if_neg (fun e=>hc e.2),if_neg (fun e=>hc e.2)]
 refine ⟨c.gd,by omega,a4.trans c.inf,a5.trans c.cn,a8.trans c.sz,a7.trans c.om,by rw[a6];exact c.old1,by rw[a6];exact c.old2,a1.trans c.bg,by rw[a2];exact c.ln,hcw,?_⟩;intro i y hy hik j j1 j2
 by_cases hik2:i=k
 ·subst hik2
  rw[hx] at hy;cases hy;exact hall _ (hw j j1 j2).1
 ·exact c.cl i y hy (by omega) j j1 j2
theorem Cm.scan (v:Inv S) (tx:Tx S):∀ (n:Nat) {k:Nat} {ms ts:List (Int × Int)} {T T':HS},Cm S ms k T->Inv T->S.bfsT n k ms true=(ts,true)->S.begins.length<n+k->Scan T (S.adr ms k) T'->Cm S ts ts.length T'/\ms <+: ts:=by
 intro n
 induction n with
 | zero=>intro k ms ts T T' c vt hb hn h;have:=c.gd.len v;have:=c.kl;omega
 | succ n ih =>
   intro k ms ts T T' c vt hb hn h;cases hx:ms[k]? with
   | none =>
     have hk:ms.length<=k:=List.getElem?_eq_none_iff.1 hx;have hkl:=c.kl;have hke:k=ms.length:=by omega
     rw[bfs_end hk] at hb;cases hb;subst hke;have hl:=c.ln;cases h with
     | done=>exact ⟨c,List.prefix_refl _⟩
     | step h=>omega
   | some x =>
     rw[bfs_step hx] at hb;have ht:=c.in_ vt hx;cases hb2:(S.meetT (S.flds x) ms).2 with
     | false=>rw[hb2] at hb;simp at hb
     | true =>
     rw[hb2] at hb;simp only[Bool.and_self,if_true] at hb;cases h with
     | done h=>omega
     | @step _ _ xs S1 _ h m hs =>
       rw[c.flds v vt hx (Z5 _)] at m;obtain ⟨c1,hxs,hall⟩:=c.moves v (S.flds x) vt hb2 m;have hpre:=meet_pre (S:=S) (S.flds x) ms;have hkl:=(Z0.1 hx).1;have hx1:(S.meetT (S.flds x) ms).1[k]?=some x:=by
        obtain ⟨l,hl⟩:=hpre;rw[<- hl,Zb hkl];exact hx
       have ha:S.adr (S.meetT (S.flds x) ms).1 k=S.adr ms k:=adr_pre hpre (by omega);have v1:=m.inv vt;have c2:=c1.set v v1 tx hx1 hall;rw[hxs,<- ha] at hs;have v2:=v1.setl (4,S.adr (S.meetT (S.flds x) ms).1 k) ((S.flds x).map (S.ren (S.meetT (S.flds x) ms).1)) 0;have hnx:((S1.setl (4,S.adr (S.meetT (S.flds x) ms).1 k) 0 ((S.flds x).map (S.ren (S.meetT (S.flds x) ms).1))).next (S.adr (S.meetT (S.flds x) ms).1 k)).1=S.adr (S.meetT (S.flds x) ms).1 (k+1):=by
        rw[HS.next,c2.get v2 hx1,adr_succ hx1]
       rw[hnx] at hs;obtain ⟨r1,r2⟩:=ih c2 v2 hb (by omega) hs;exact ⟨r1,hpre.trans r2⟩
end
end Go.S19
