import Derived.Test.YtdlanbdiphpacaaDoorPk21
import Derived.Test.YtdlanbdiphpacaaDoorPk14
import Derived.Test.YtdlanbdiphpacaaDoorPk25
import Derived.Test.YtdlanbdiphpacaaDoorRows
import Derived.Test.YtdlanbdiphpacaaDoorPk12
import Derived.LaidMore
import Derived.OpenShut
import Derived.MakeChecks
set_option linter.unusedVariables false
set_option linter.unusedSimpArgs false
open Nat renaming reduceEqDiff -> ZA,reduceAdd -> ZB,reduceMul -> ZC,reduceLeDiff -> ZD,reduceLT -> ZE
open Int renaming reduceEq -> ZF
open List renaming getElem?_eq_some_iff->Z0,getElem?_eq_getElem->Z1,take_of_length_le->Z2,getElem?_append_left->Z3,getElem?_map->Z4,getElem?_append_right->Z9,getElem?_range->Zc,drop_zero->Zd,getElem?_set_ne->Zg,range->Zi,mem_of_find?_eq_some->Zj,not_mem_nil->Zk,getElem?_set_self->Zm,mem_cons->Zo,length_append->Zp,append_assoc->Zr
open Int renaming toNat_natCast->Z5,cast_ofNat_Int->Z6,natCast_add->Z8
open Nat renaming zero_add->Z7,zero_le->Za,mul_one->Zb,add_zero->Zq,le_refl->Zs
open Option renaming bind_some->Ze,some->Zf,map_some->Zl,map_eq_some_iff->Zn
open Bool renaming false_eq_true->Zh
namespace Go.S19
open Go Go.Eng Go.Proofs Go.Chk
structure Fl where
 b:Nat
 g:Nat
 n:Nat
def Fl.v (f:Fl):Value:=.slice (some ⟨f.b,0,none⟩) f.n f.n
def offs (fs:List Fl) (t:Nat):Nat:=((fs.take t).map Fl.n).sum
theorem offs_succ {fs:List Fl} {t:Nat} {f:Fl} (h:fs[t]?=some f):offs fs (t+1)=offs fs t+f.n:=by
 unfold offs;rw[List.take_add_one,h];simp
def og (fs:List Fl) (t n:Nat):List (Int × Int):=(Zi n).map fun j=>(99,((offs fs t+j:Nat):Int))
def nw (fs:List Fl) (t m:Nat):List (Int × Int):=(Zi m).map fun s=>(98,((offs fs fs.length+12*t+s:Nat):Int))
theorem og_len (fs:List Fl) (t n:Nat):(og fs t n).length=n:=by simp [og]
theorem nw_len (fs:List Fl) (t n:Nat):(nw fs t n).length=n:=by simp [nw]
theorem og_succ (fs:List Fl) (t n:Nat):og fs t (n+1)=og fs t n++[(99,((offs fs t+n:Nat):Int))]:=by simp [og,List.range_succ]
theorem nw_succ (fs:List Fl) (t n:Nat):nw fs t (n+1)=nw fs t n++[(98,((offs fs fs.length+12*t+n:Nat):Int))]:=by simp [nw,List.range_succ]
def sb (g:Nat) (cs:List Value):Blk:=.cells true true g 0 44 cs
def nb (g:Nat) (cs:List Value):Blk:=.cells true false g 0 44 cs
theorem cells_of {h:AH} {b:Nat} {s:Bool} {g:Nat} {cs:List Value} (hb:h[b]?=some (.cells true s g 0 44 cs)):Cells h b cs:=by simp [Cells,hcell,hb]
section
variable {P:Program} {keep:Bool} {nm:List Nat} {Φ:Out->PS->Prop} {c:Cn} {k:List Fm} {e l:PE} {h:AH} {ds:List Dfr} {d:D}
theorem XH_at {b o g:Nat} {cs:List Value} {x y:Int} (hb:h[b]?=some (sb g cs)) (hl:o+2<=cs.length) (hk:XV P keep nm Φ undef d c k e l (h.set b (sb g (cs.take o++[iv x,iv y]++cs.drop (o+2)))) ds) :
 XH P keep nm Φ (stv h 2 (.pointer (some ⟨b,o,none⟩)) (.agg #[iv x,iv y])) d c k e l ds:=by
 have hs:stv h 2 (.pointer (some ⟨b,o,none⟩)) (.agg #[iv x,iv y])=some (h.set b (sb g (cs.take o++[iv x,iv y]++cs.drop (o+2)))):=by
  have e1:(Value.agg #[iv x,iv y]).cells.toList=[iv x,iv y]:=rfl;have e2:(Value.agg #[iv x,iv y]).cells.size=2:=rfl;simp only[stv,e1,e2,if_true,hstore,hb,sb];rw[if_pos (by simp [Value.oneCell'];omega)]
  rfl
 rw[hs];exact hk
end
theorem grow {h:AH} {c g n e sz bytes:Nat} {s:Bool} {cs xs:List Value} (hc:h[c]?=some (.cells true s g 0 e cs)) (hl:cs.length=n*sz) (hx:xs.length=sz) (h1:xs.all Value.oneCell'=true) (hb:n<=4000000) (hby:bytes<=1000) :
 ∃ hR,appv true (h++[row e h.length xs]) false e sz bytes (.slice (some ⟨c,0,none⟩) n n) (.slice (some ⟨h.length,0,none⟩) 1 1)=some (.slice (some ⟨h.length+1,0,none⟩) (n+1) (n+1),hR) /\
   hR.length=h.length+2/\hR[h.length+1]?=some (.cells true false g 0 e (cs++xs))/\hR[c]?=some (.cells true false g 0 e cs) /\ ∀ q B,q≠c->h[q]?=some B->hcut g (n*sz) B=B->hR[q]?=some B:=by
 have hlt:c<h.length:=(Z0.1 hc).1;have hcell1:hcell (h++[row e h.length xs]) h.length=some xs:=by simp [hcell,row]
 have hsrc:srcv (h++[row e h.length xs]) sz false (.slice (some ⟨h.length,0,none⟩) 1 1)=some (1,xs):=by
  simp only[srcv,Zh,if_false,hcell1,Ze];rw[if_neg (by omega),if_pos (by rw[Zd,Z2 (by omega),h1];simp;omega),Zd,Z2 (by omega)]
 have hc1:(h++[row e h.length xs])[c]?=some (.cells true s g 0 e cs):=by rw[Z3 hlt];exact hc
 have htake:cs.take (n*sz)=cs:=Z2 (by omega);have hbb:(n+1)*bytes<=140737488355328:=by
  have:(n+1)*bytes<=4000001*1000:=Nat.mul_le_mul (by omega) hby;omega
 refine ⟨hprep true (h++[row e h.length xs]) c s g 0 e cs (n*sz)++[.cells true false g 0 e (cs++xs)],?_,?_,?_,?_,?_⟩
 ·simp only[appv,hsrc,Ze,hc1]
  rw[if_neg (by omega),if_pos (by simp [hl]),if_neg (by omega),if_pos (by simp;omega)];cases s<;>simp [htake,hprep_len]
 ·simp [hprep_len]
 ·rw[Z9 (by simp [hprep_len])]
  simp [hprep_len]
 ·rw[Z3 (by simp [hprep_len];omega)]
  simp only[hprep,if_true,htake];rw[Zm (by cases s<;>simp<;>omega)]
 ·intro q B hq hB hcutB
  have hql:q<h.length:=(Z0.1 hB).1;rw[Z3 (by simp [hprep_len];omega)];simp only[hprep,if_true,htake];rw[Zg (fun e=>hq e.symm)];cases s with
  | true=>simp only[if_true];rw[Z3 hql];exact hB
  | false =>
    simp only[Zh,if_false];rw[Z4,Z3 hql,hB,Zl,Z7,hcutB]
theorem grow0 {h:AH} {e sz bytes:Nat} {xs:List Value} (hx:xs.length=sz) (h1:xs.all Value.oneCell'=true) (hby:bytes<=1000) :
 appv true (h++[row e h.length xs]) false e sz bytes (.slice none 0 0) (.slice (some ⟨h.length,0,none⟩) 1 1)=some (.slice (some ⟨h.length+1,0,none⟩) 1 1,h++[row e h.length xs]++[row e (h.length+1) xs]):=by
 have hcell1:hcell (h++[row e h.length xs]) h.length=some xs:=by simp [hcell,row]
 have hsrc:srcv (h++[row e h.length xs]) sz false (.slice (some ⟨h.length,0,none⟩) 1 1)=some (1,xs):=by
  simp only[srcv,Zh,if_false,hcell1,Ze];rw[if_neg (by omega),if_pos (by rw[Zd,Z2 (by omega),h1];simp;omega),Zd,Z2 (by omega)]
 simp only[appv,hsrc,Ze];rw[if_neg (by omega),if_pos (by simp;omega)];simp
theorem cut_n {g k g' e:Nat} {s:Bool} {cs:List Value} (h:g'≠g\/cs.length<=k):hcut g k (.cells true s g' 0 e cs) = .cells true s g' 0 e cs:=by
 cases s with
 | true=>rfl
 | false =>
   unfold hcut;simp only
   split
   ·rename_i e
    rcases h with h|h
    ·exact absurd e h
    ·rw[Nat.sub_zero,Z2 h]
   ·rfl
structure Apt (h:AH) (bu:Nat) (fs:List Fl):Prop where
 hk:fs.length<=100
 hn:∀ (t:Nat) (f:Fl),fs[t]?=some f->0<=f.n/\f.n<=2000000
 hb:∀ (t:Nat) (f:Fl),fs[t]?=some f -> ∃ cs,h[f.b]?=some (sb f.g cs)/\cs.length=f.n*2
 hu:Cells h bu (fs.map Fl.v)
 hub:∀ (t:Nat) (f:Fl),fs[t]?=some f->f.b≠bu
 db:∀ (s t:Nat) (f f':Fl),fs[s]?=some f->fs[t]?=some f'->s≠t->f.b≠f'.b/\f.g≠f'.g
 hg:∀ (t:Nat) (f:Fl),fs[t]?=some f->f.g<h.length/\f.b<h.length
 ng:∀ q B,(∀ (t:Nat) (f:Fl),fs[t]?=some f->q≠f.b)->h[q]?=some B -> ∀ g k,hcut g k B=B
theorem offs_le {fs:List Fl} (hn:∀ (t:Nat) (f:Fl),fs[t]?=some f->0<=f.n/\f.n<=2000000):∀ (t:Nat),t<=fs.length->offs fs t<=2000000*t:=by
 intro t
 induction t with
 | zero=>intro _;simp [offs]
 | succ t ih =>
   intro ht;have h1:fs[t]?=some fs[t]:=Z1 (by omega);rw[offs_succ h1];have:=(hn t _ h1).2;have:=ih (by omega);omega
structure PA (h h':AH) (fs:List Fl) (i j:Nat):Prop where
 len:h'.length=h.length
 row:∀ (t:Nat) (f:Fl),fs[t]?=some f -> ∃ cs,h'[f.b]?=some (sb f.g cs)/\cs.length=f.n*2/\(t<i->cs=ww (og fs t f.n))/\(t=i->cs.take (j*2)=ww (og fs t j))
 fr:∀ q,(∀ (t:Nat) (f:Fl),fs[t]?=some f->q≠f.b)->h'[q]?=h[q]?
def V6 (h h':AH) (v6:Value) (gs:List Value):Prop :=
 (gs=[]/\v6 = .slice none 0 0)\/(∃ c s g6,v6 = .slice (some ⟨c,0,none⟩) gs.length gs.length/\h'[c]?=some (.cells true s g6 0 28 gs)/\h.length<=g6/\h.length<=c)
structure PB (h h':AH) (fs:List Fl) (i m:Nat) (x:Value) (gs:List Value) (v6:Value):Prop where
 len:h'.length=h.length+26*i+2*m
 gl:gs.length=i
 don:∀ (t:Nat) (f:Fl),fs[t]?=some f->t<i->h'[f.b]?=some (nb f.g (ww (og fs t f.n))) /\ ∃ c,h.length<=c/\gs[t]?=some (.slice (some ⟨c,0,none⟩) (f.n+12) (f.n+12))/\h'[c]?=some (nb f.g (ww (og fs t f.n++nw fs t 12)))
 cur:∀ (t:Nat) (f:Fl),fs[t]?=some f->t=i -> ∃ c s,x = .slice (some ⟨c,0,none⟩) (f.n+m) (f.n+m)/\h'[c]?=some (.cells true s f.g 0 44 (ww (og fs t f.n++nw fs t m)))/\(m=0->c=f.b/\s=true)/\(0<m->s=false/\h.length<=c/\h'[f.b]?=some (nb f.g (ww (og fs t f.n))))
 yet:∀ (t:Nat) (f:Fl),fs[t]?=some f->i<t->h'[f.b]?=some (sb f.g (ww (og fs t f.n)))
 r6:V6 h h' v6 gs
 fr:∀ q B,(∀ (t:Nat) (f:Fl),fs[t]?=some f->q≠f.b)->h[q]?=some B->h'[q]?=some B
theorem PB.step {h h' hR:AH} {bu:Nat} {fs:List Fl} {i m:Nat} {x:Value} {gs:List Value} {v6:Value} (ap:Apt h bu fs) (p:PB h h' fs i m x gs v6) {f:Fl} (hf:fs[i]?=some f) (x1:Int × Int) (hx1:x1=(98,((offs fs fs.length+12*i+m:Nat):Int))) {c:Nat} {s:Bool}
 (e:x = .slice (some ⟨c,0,none⟩) (f.n+m) (f.n+m)) (hc:h'[c]?=some (.cells true s f.g 0 44 (ww (og fs i f.n++nw fs i m)))) (m0:m=0->c=f.b/\s=true) (m1:0<m->s=false/\h.length<=c/\h'[f.b]?=some (nb f.g (ww (og fs i f.n))))
 (lR:hR.length=h'.length+2) (nR:hR[h'.length+1]?=some (.cells true false f.g 0 44 (ww (og fs i f.n++nw fs i m)++[iv x1.1,iv x1.2]))) (cR:hR[c]?=some (.cells true false f.g 0 44 (ww (og fs i f.n++nw fs i m))))
 (oR:∀ q B,q≠c->h'[q]?=some B->hcut f.g ((f.n+m)*2) B=B->hR[q]?=some B):PB h hR fs i (m+1) (.slice (some ⟨h'.length+1,0,none⟩) (f.n+m+1) (f.n+m+1)) gs v6:=by
 have hlen:=p.len;have cne:∀ (t:Nat) (f':Fl),fs[t]?=some f'->t≠i->f'.b≠c:=by
  intro t f' ht hti e2
  by_cases hm:m=0
  ·rw[(m0 hm).1] at e2;exact (ap.db t i f' f ht hf hti).1 e2
  ·have:=(m1 (by omega)).2.1
   have:=(ap.hg t f' ht).2;omega
 have gne:∀ (t:Nat) (f':Fl),fs[t]?=some f'->t≠i->f'.g≠f.g:=fun t f' ht hti=>(ap.db t i f' f ht hf hti).2
 refine ⟨by omega,p.gl,fun t f' ht hti=>?_,fun t f' ht hti=>?_,fun t f' ht hti=>?_,?_,fun q B hq hB=>?_⟩
 ·obtain ⟨d1,c',d2,d3,d4⟩:=p.don t f' ht hti
  refine ⟨oR _ _ (cne t f' ht (by omega)) d1 (cut_n (.inl (gne t f' ht (by omega)))),c',d2,d3,oR _ _ (fun e2=>?_) d4 (cut_n (.inl (gne t f' ht (by omega))))⟩;rw[e2,hc] at d4;simp only[nb,Zf.injEq,Blk.cells.injEq] at d4;exact gne t f' ht (by omega) d4.2.2.1.symm
 ·subst hti
  rw[hf] at ht;cases ht;refine ⟨_,_,by rw[Nat.add_assoc],?_,fun e=>by omega,fun _=>⟨rfl,by omega,?_⟩⟩
  ·rw[nR,nw_succ,<- Zr,ww_app _ [_],hx1];rfl
  ·by_cases hm:m=0
   ·have:=(m0 hm).1
    subst hm;rw[<- this,cR];simp [nb,nw]
   ·obtain ⟨a1,a2,a3⟩:=m1 (by omega)
    refine oR _ _ (fun e2=>by have:=(ap.hg t f hf).2;omega) a3 (cut_n (.inr ?_));rw[ww_len,og_len];exact Nat.mul_le_mul_right 2 (by omega)
 ·exact oR _ _ (cne t f' ht (by omega)) (p.yet t f' ht hti) rfl
 ·rcases p.r6 with r|⟨c6,s6,g6,r1,r2,r3,r4⟩
  ·exact .inl r
  ·refine .inr ⟨c6,s6,g6,r1,oR _ _ (fun e2=>?_) r2 (cut_n (.inl (by have:=(ap.hg i f hf).1;omega))),r3,r4⟩
   rw[e2,hc] at r2;simp only[Zf.injEq,Blk.cells.injEq] at r2;exact absurd r2.2.2.2.2.1 (by decide)
 ·have hcq:q≠c:=by
   intro e2
   by_cases hm:m=0
   ·rw[(m0 hm).1] at e2;exact hq i f hf e2
   ·have:=(m1 (by omega)).2.1
    have:=(Z0.1 hB).1;omega
  exact oR _ _ hcq (p.fr q B hq hB) (ap.ng q B hq hB _ _)
theorem cell2 {h:AH} {b:Nat} {A:List (Int × Int)} (hb:Cells h b (ww A)) {j:Nat} {x:Int × Int} (hx:A[j]?=some x):ldcs h b (j*2) 2=some [iv x.1,iv x.2]:=by
 have hj:=(Z0.1 hx).1;have r:Rds h 2 (.slice (some ⟨b,0,none⟩) A.length A.length) A.length (ww A):=.mk hb (by rw[ww_len];omega) (by rw[Zd,Z2 (by rw[ww_len];omega)]);obtain ⟨b',o,c,e,_,hl⟩:=rds_w r (i:=(j:Int)) (by omega) (by omega);cases e;rw[Z5,Z7] at hl;rw[hl];have:wat A (j:Int)=x:=by rw[wat,Z5,hx];rfl
 rw[this]
def xv (fs:List Fl) (i:Nat):Value:=((fs[i]?).map Fl.v).getD (.slice none 0 0)
theorem PB.next {h h' hR:AH} {bu:Nat} {fs:List Fl} {i:Nat} {x:Value} {gs:List Value} {v6 v6':Value} (ap:Apt h bu fs) (p:PB h h' fs i 12 x gs v6) {f:Fl} (hf:fs[i]?=some f) (lR:hR.length=h'.length+2) {c6:Option Nat} (h6:∀ c,c6=some c -> ∃ s g cs,h'[c]?=some (.cells true s g 0 28 cs)/\h.length<=c) {g6 k:Nat} (hg6:h.length<=g6)
 (oR:∀ q B,c6≠some q->h'[q]?=some B->hcut g6 k B=B->hR[q]?=some B) (r6:V6 h hR v6' (gs++[x])):PB h hR fs (i+1) 0 (xv fs (i+1)) (gs++[x]) v6':=by
 have ne6:∀ (q:Nat) (s:Bool) (g:Nat) (cs:List Value),h'[q]?=some (.cells true s g 0 44 cs)->c6≠some q:=by
  intro q s g cs hq e;obtain ⟨s',g',cs',a,_⟩:=h6 q e;rw[hq] at a;simp only[Zf.injEq,Blk.cells.injEq] at a;exact absurd a.2.2.2.2.1 (by decide)
 have tr:∀ (q:Nat) (s:Bool) (t:Nat) (f':Fl) (cs:List Value),fs[t]?=some f'->h'[q]?=some (.cells true s f'.g 0 44 cs)->hR[q]?=some (.cells true s f'.g 0 44 cs):=by
  intro q s t f' cs ht hq;exact oR _ _ (ne6 q s _ cs hq) hq (cut_n (.inl (by have:=(ap.hg t f' ht).1;omega)))
 refine ⟨by have:=p.len;omega,by simp [p.gl],fun t f' ht hti=>?_,fun t f' ht hti=>?_,fun t f' ht hti=>?_,r6,fun q B hq hB=>?_⟩
 ·by_cases h2:t<i
  ·obtain ⟨d1,c',d2,d3,d4⟩:=p.don t f' ht h2
   refine ⟨tr _ _ t f' _ ht d1,c',d2,?_,tr _ _ t f' _ ht d4⟩;rw[Z3 (by rw[p.gl];omega)];exact d3
  ·have:t=i:=by omega
   subst this;obtain ⟨c',s,d1,d2,d3,d4⟩:=p.cur t f' ht rfl;obtain ⟨d5,d6,d7⟩:=d4 (by omega);subst d5;refine ⟨tr _ _ t f' _ ht d7,c',d6,?_,tr _ _ t f' _ ht d2⟩;rw[Z9 (by rw[p.gl];omega),p.gl,Nat.sub_self];simp [d1]
 ·subst hti
  refine ⟨f'.b,true,?_,tr _ _ _ f' _ ht ?_,fun _=>⟨rfl,rfl⟩,fun e=>by omega⟩
  ·simp [xv,ht,Fl.v]
  ·have:=p.yet _ f' ht (by omega)
   simpa [nw,sb] using this
 ·exact tr _ _ t f' _ ht (p.yet t f' ht (by omega))
 ·refine oR q B (fun e=>?_) (p.fr q B hq hB) (ap.ng q B hq hB _ _)
  obtain ⟨_,_,_,_,a⟩:=h6 q e;have:=(Z0.1 hB).1;omega
theorem PB.push {h h':AH} {bu:Nat} {fs:List Fl} {i:Nat} {x:Value} {gs:List Value} {v6:Value} (ap:Apt h bu fs) (p:PB h h' fs i 12 x gs v6) {f:Fl} (hf:fs[i]?=some f) (hx:x.oneCell'=true) (hi:i<=100) :
 ∃ v6' hR,appv true (h'++[row 28 h'.length [x]]) false 28 1 24 v6 (.slice (some ⟨h'.length,0,none⟩) 1 1)=some (v6',hR)/\PB h hR fs (i+1) 0 (xv fs (i+1)) (gs++[x]) v6':=by
 have hlen:=p.len
 rcases p.r6 with ⟨r1,r2⟩|⟨c6,s6,g6,r1,r2,r3,r4⟩
 ·subst r1;subst r2
  refine ⟨_,_,grow0 rfl (by simp [hx]) (by omega),p.next ap hf (by simp) (c6:=none) (fun c e=>by cases e) (g6:=h'.length) (k:=0) (by omega) (fun q B _ hB _=>?_) (.inr ⟨h'.length+1,true,h'.length+1,rfl,?_,by omega,by omega⟩)⟩
  ·have:=(Z0.1 hB).1
   rw[Zr,Z3 this];exact hB
  ·rw[Z9 (by simp)];simp [row]
 ·subst r1
  obtain ⟨hR,e1,e2,e3,e4,e5⟩:=grow (n:=gs.length) (bytes:=24) (sz:=1) (xs:=[x]) r2 (by simp) rfl (by simp [hx]) (by rw[p.gl];omega) (by omega);refine ⟨_,_,e1,p.next ap hf (by omega) (c6:=some c6) (fun c e=>by cases e;exact ⟨_,_,_,r2,r4⟩) r3 (fun q B hq hB hcut=>e5 q B (fun e=>hq (by rw[e])) hB hcut) (.inr ⟨h'.length+1,false,g6,by simp,e3,r3,by omega⟩)⟩
set_option maxHeartbeats 4000000 in
theorem Apart_ok {h:AH} {bu:Nat} {fs:List Fl} (ap:Apt h bu fs):Gets Tryd.prog 21 [.slice (some ⟨bu,0,none⟩) fs.length fs.length] h (fun res h'=>res = .ret (.bool true)/\h'.length=h.length+26*fs.length /\ ∀ q B,(∀ (t:Nat) (f:Fl),fs[t]?=some f->q≠f.b)->h[q]?=some B->h'[q]?=some B):=by
 refine Gets.of (keep:=true) hP (draw_ok hM) k21 (by rfl) (fun Ψ hΨ=>?_);have hk:=ap.hk;have hT:=offs_le ap.hn fs.length (Zs _);simp only[ZG,↓reduceIte,ZA,ZB,ZC,r21,YE,YC,YO,YA,YL,YX,YS,Ya,Yb,Yl,Yf,Yg,Yi,Ym,Yk,Yt,Yn,Yz,Yp,Yq,Yd];have cu:∀ {h':AH},(∀ q,(∀ (t:Nat) (f:Fl),fs[t]?=some f->q≠f.b)->h'[q]?=h[q]?) -> ∀ (i:Nat) (f:Fl),fs[i]?=some f->ldc h' bu i=some (.slice (some ⟨f.b,0,none⟩) f.n f.n):=by
  intro h' hf i f hi;have hc:Cells h' bu (fs.map Fl.v):=by
   have:=ap.hu;unfold Cells hcell at this ⊢;rw[hf bu (fun t f ht e=>ap.hub t f ht e.symm)];exact this
  rw[hc.ld,Z4,hi];rfl
 refine XLo_rule (α:=Nat) (fun i=>[(0,.slice (some ⟨bu,0,none⟩) fs.length fs.length),(2,.bool false),(3,iv (offs fs i:Nat)),(4,iv i)]) (fun i h'=>i<=fs.length/\PA h h' fs i 0) (fun i=>fs.length-i) 0
  ⟨Za _,rfl,fun t f ht=>by obtain ⟨cs,a,b⟩:=ap.hb t f ht;exact ⟨cs,a,b,fun e=>by omega,fun e=>by simp [og,ww,rowsOf]⟩,fun q _=>rfl⟩ ⟨rfl,rfl,rfl,rfl,trivial⟩ ?_
 rintro i h1 Ψ1 ⟨i1,pa⟩ next1 out1;have hwi:IntKind.i64.wrap ((i:Int)+1)=i+1:=i64w (by omega) (by omega)
 by_cases hi:(i:Int)<(fs.length:Int)
 ·have h0:0<=(i:Int):=by omega
  obtain ⟨f,hf⟩:∃ f,fs[i]?=some f:=⟨_,Z1 (show i<fs.length by omega)⟩
  obtain ⟨hn1,hn2⟩:=ap.hn i f hf;have hoi:=offs_le ap.hn i i1;simp only[ZG,↓reduceIte,ZA,ZB,ZC,hi];refine XLo_rule (α:=Nat) (fun j=>[(0,.slice (some ⟨bu,0,none⟩) fs.length fs.length),(2,.bool false),(3,iv ((offs fs i+j:Nat):Int)),(4,iv i),(5,iv j)]) (fun j h'=>j<=f.n/\PA h h' fs i j) (fun j=>f.n-j) 0 ⟨Za _,pa⟩ ⟨rfl,rfl,rfl,rfl,rfl,trivial⟩ ?_;rintro j h2 Ψ2 ⟨j1,pj⟩ next2 out2;have hu2:=cu pj.fr i f hf
  by_cases hj:(j:Int)<(f.n:Int)
  ·have g0:0<=(j:Int):=by omega
   have hwj:IntKind.i64.wrap ((j:Int)+1)=j+1:=i64w (by omega) (by omega);have hwn:IntKind.i64.wrap (((offs fs i+j:Nat):Int)+1)=((offs fs i+(j+1):Nat):Int):=by rw[i64w (by omega) (by omega)];omega
   obtain ⟨cs,r1,r2,r3,r4⟩:=pj.row i f hf;simp only[ZG,↓reduceIte,ZA,ZB,ZC,hi,h0,and_self,Z5,Zb,hu2,hj,g0,mbl,ZD,ZE,ZF];refine XH_at r1 (by omega) ?_;simp only[ZG,↓reduceIte,ZA,ZB,ZC,hwj,hwn];refine next2 (j+1) _ _ _ ⟨by omega,?_⟩ ⟨rfl,rfl,rfl,rfl,by simp only[Z8,Z6];rfl,trivial⟩ (by omega);have hlt:f.b<h2.length:=(Z0.1 r1).1;refine ⟨by rw[List.length_set];exact pj.len,fun t f' ht=>?_,fun q hq=>by rw[Zg (fun e=>hq i f hf e.symm)];exact pj.fr q hq⟩
   by_cases hti:t=i
   ·subst hti
    rw[hf] at ht;cases ht;refine ⟨_,Zm hlt,by simp;omega,fun e=>by omega,fun _=>?_⟩;have hA:(cs.take (j*2)++[iv 99,iv ((offs fs t+j:Nat):Int)]).length=(j+1)*2:=by simp;omega
    rw[<- hA,List.take_left,og_succ,ww_app,<- r4 rfl];rfl
   ·obtain ⟨cs',s1,s2,s3,s4⟩:=pj.row t f' ht
    exact ⟨cs',by rw[Zg (fun e=>(ap.db i t f f' hf ht (fun e=>hti e.symm)).1 e)];exact s1,s2,s3,fun e=>absurd e hti⟩
  ·have hje:j=f.n:=by omega
   simp only[ZG,↓reduceIte,ZA,ZB,ZC,hi,h0,and_self,Z5,Zb,hu2,hj];refine out2 (.exit 2) _ _ _ _ (by intro e;cases e) ?_;simp only[ZG,↓reduceIte,ZA,ZB,ZC,hwi];refine next1 (i+1) _ _ _ ⟨by omega,pj.len,fun t f' ht=>?_,pj.fr⟩ ⟨rfl,rfl,by rw[offs_succ hf,hje];rfl,by simp only[Z8,Z6];rfl,trivial⟩ (by omega);obtain ⟨cs',s1,s2,s3,s4⟩:=pj.row t f' ht;refine ⟨cs',s1,s2,fun e=>?_,fun e=>by simp [og,ww,rowsOf]⟩
   by_cases hti:t=i
   ·subst hti
    rw[hf] at ht;cases ht;rw[<- hje,<- s4 rfl,Z2 (by omega)]
   ·exact s3 (by omega)
 ·have hie:i=fs.length:=by omega
  subst hie;simp only[ZG,↓reduceIte,ZA,ZB,ZC,hi];refine out1 (.exit 0) _ _ _ _ (by intro e;cases e) ?_;simp only[ZG,↓reduceIte,ZA,ZB,ZC];have pb0:PB h h1 fs 0 0 (xv fs 0) [] (.slice none 0 0):=by
   refine ⟨by rw[pa.len];omega,rfl,fun t f ht e=>by omega,fun t f ht e=>?_,fun t f ht e=>?_,.inl ⟨rfl,rfl⟩,fun q B hq hB=>by rw[pa.fr q hq];exact hB⟩
   ·subst e
    obtain ⟨cs,s1,s2,s3,s4⟩:=pa.row 0 f ht;refine ⟨f.b,true,by simp [xv,ht,Fl.v],?_,fun _=>⟨rfl,rfl⟩,fun e=>by omega⟩;rw[s1,s3 (by have:=(Z0.1 ht).1;omega)];simp [nw,sb]
   ·obtain ⟨cs,s1,s2,s3,s4⟩:=pa.row t f ht
    rw[s1,s3 (by have:=(Z0.1 ht).1;omega)]
  refine XLo_rule (α:=Nat × List Value × Value) (fun a=>[(0,.slice (some ⟨bu,0,none⟩) fs.length fs.length),(2,.bool false),(3,iv ((offs fs fs.length+12*a.1:Nat):Int)),(6,a.2.2),(7,iv a.1)]) (fun a h'=>a.1<=fs.length/\PB h h' fs a.1 0 (xv fs a.1) a.2.1 a.2.2) (fun a=>fs.length-a.1) (0,[],.slice none 0 0) ⟨Za _,pb0⟩ ⟨rfl,rfl,rfl,rfl,rfl,trivial⟩ ?_;rintro ⟨i,gs,v6⟩ h2 Ψ2 ⟨j1,pb⟩ next2 out2;simp only at j1 pb;have cuB:∀ {h':AH},(∀ q B,(∀ (t:Nat) (f:Fl),fs[t]?=some f->q≠f.b)->h[q]?=some B->h'[q]?=some B) -> ∀ (i:Nat) (f:Fl),fs[i]?=some f->ldc h' bu i=some (.slice (some ⟨f.b,0,none⟩) f.n f.n):=by
   intro h' hfr i f hi;have hc:Cells h' bu (fs.map Fl.v):=by
    have h1:=ap.hu;have hl:=h1.lt;unfold Cells hcell at h1 ⊢;rw[hfr bu h[bu] (fun t f ht e=>ap.hub t f ht e.symm) (Z1 hl)];rw[Z1 hl] at h1;exact h1
   rw[hc.ld,Z4,hi];rfl
  have hwi:IntKind.i64.wrap ((i:Int)+1)=i+1:=i64w (by omega) (by omega)
  by_cases hi:(i:Int)<(fs.length:Int)
  ·have h0:0<=(i:Int):=by omega
   obtain ⟨f,hf⟩:∃ f,fs[i]?=some f:=⟨_,Z1 (show i<fs.length by omega)⟩
   obtain ⟨hn1,hn2⟩:=ap.hn i f hf;have hxv:xv fs i = .slice (some ⟨f.b,0,none⟩) f.n f.n:=by rw[xv,hf];rfl
   simp only[ZG,↓reduceIte,ZA,ZB,ZC,hi,h0,and_self,Z5,Zb,Z7,cuB pb.fr i f hf];rw[hxv] at pb;refine XLo_rule (α:=Nat × Value) (fun a=>[(0,.slice (some ⟨bu,0,none⟩) fs.length fs.length),(2,.bool false),(3,iv ((offs fs fs.length+12*i+a.1:Nat):Int)),(6,v6),(7,iv i),(8,a.2),(9,iv a.1)]) (fun a h'=>a.1<=12/\PB h h' fs i a.1 a.2 gs v6) (fun a=>12-a.1) (0,.slice (some ⟨f.b,0,none⟩) f.n f.n) ⟨Za _,pb⟩ ⟨rfl,rfl,rfl,rfl,rfl,rfl,rfl,trivial⟩ ?_;rintro ⟨m,x⟩ h3 Ψ3 ⟨k1,pm⟩ next3 out3;simp only at k1 pm;have hwm:IntKind.i64.wrap ((m:Int)+1)=m+1:=i64w (by omega) (by omega);have hwn:IntKind.i64.wrap (((offs fs fs.length+12*i+m:Nat):Int)+1)=((offs fs fs.length+12*i+(m+1):Nat):Int):=by rw[i64w (by omega) (by omega)];omega
   by_cases hm:(m:Int)<12
   ·obtain ⟨c,s,e1,e2,e3,e4⟩:=pm.cur i f hf rfl
    obtain ⟨hR,g1,g2,g3,g4,g5⟩:=grow (n:=f.n+m) (bytes:=16) (sz:=2) (xs:=[iv 98,iv ((offs fs fs.length+12*i+m:Nat):Int)]) e2 (by rw[ww_len,Zp,og_len,nw_len]) rfl rfl (by omega) (by omega);subst e1;simp only[ZG,↓reduceIte,ZA,ZB,ZC,hm,mbl,ZD,ZE,ZF,g1,hwm,hwn];exact next3 (m+1,_) _ _ _ ⟨by simp only;omega,pm.step ap hf (98,((offs fs fs.length+12*i+m:Nat):Int)) rfl rfl e2 e3 e4 g2 g3 g4 g5⟩ ⟨rfl,rfl,rfl,rfl,rfl,rfl,by simp only[Z8,Z6];rfl,trivial⟩ (by simp only;omega)
   ·have hm12:m=12:=by omega
    subst hm12;obtain ⟨c,s,e1,e2,e3,e4⟩:=pm.cur i f hf rfl;obtain ⟨v6',hR,g1,g2⟩:=pm.push ap hf (by rw[e1];rfl) (by omega);have hcs:x.cells.size=1:=by rw[e1];rfl
    have hct:x.cells.toList=[x]:=by rw[e1];rfl
    simp only[ZG,↓reduceIte,ZA,ZB,ZC,hm];refine out3 (.exit 6) _ _ _ _ (by intro e;cases e) ?_;simp only[ZG,↓reduceIte,ZA,ZB,ZC,mbl,ZD,ZE,ZF,hcs,hct,g1,hwi];exact next2 (i+1,gs++[x],v6') _ _ _ ⟨by simp only;omega,g2⟩ ⟨rfl,rfl,by simp only;congr 2,rfl,by simp only[Z8,Z6];rfl,trivial⟩ (by simp only;omega)
  ·have hie:i=fs.length:=by omega
   simp only[ZG,↓reduceIte,ZA,ZB,ZC,hi];refine out2 (.exit 4) _ _ _ _ (by intro e;cases e) ?_;simp only[ZG,↓reduceIte,ZA,ZB,ZC];have hN:offs fs fs.length<=2000000*fs.length:=hT;rw[hie] at pb;have don:=fun t f (ht:fs[t]?=some f)=>pb.don t f ht ((Z0.1 ht).1)
   refine XLo_rule (α:=Nat) (fun i=>[(0,.slice (some ⟨bu,0,none⟩) fs.length fs.length),(2,.bool false),(3,iv (offs fs i:Nat)),(6,v6),(10,iv i)]) (fun i h'=>i<=fs.length/\h'=h2) (fun i=>fs.length-i) 0 ⟨Za _,rfl⟩ ⟨rfl,rfl,rfl,rfl,rfl,trivial⟩ ?_;rintro p h3 Ψ3 ⟨p1,rfl⟩ next3 out3;have hwp:IntKind.i64.wrap ((p:Int)+1)=p+1:=i64w (by omega) (by omega)
   by_cases hp:(p:Int)<(fs.length:Int)
   ·have h0:0<=(p:Int):=by omega
    obtain ⟨f,hf⟩:∃ f,fs[p]?=some f:=⟨_,Z1 (show p<fs.length by omega)⟩
    obtain ⟨hn1,hn2⟩:=ap.hn p f hf;have hop:=offs_le ap.hn p p1;simp only[ZG,↓reduceIte,ZA,ZB,ZC,hp];refine XLo_rule (α:=Nat) (fun j=>[(0,.slice (some ⟨bu,0,none⟩) fs.length fs.length),(2,.bool false),(3,iv ((offs fs p+j:Nat):Int)),(6,v6),(10,iv p),(11,iv j)]) (fun j h'=>j<=f.n/\h'=h3) (fun j=>f.n-j) 0 ⟨Za _,rfl⟩ ⟨rfl,rfl,rfl,rfl,rfl,rfl,trivial⟩ ?_;rintro j h4 Ψ4 ⟨q1,rfl⟩ next4 out4;have hu2:=cuB pb.fr p f hf
    by_cases hj:(j:Int)<(f.n:Int)
    ·have g0:0<=(j:Int):=by omega
     have hwj:IntKind.i64.wrap ((j:Int)+1)=j+1:=i64w (by omega) (by omega);have hwn:IntKind.i64.wrap (((offs fs p+j:Nat):Int)+1)=((offs fs p+(j+1):Nat):Int):=by rw[i64w (by omega) (by omega)];omega
     have hcl:=cell2 (cells_of (s:=false) (don p f hf).1) (j:=j) (x:=(99,((offs fs p+j:Nat):Int))) (by rw[og,Z4,Zc (by omega)];rfl);simp only[ZG,↓reduceIte,ZA,ZB,ZC,hp,h0,and_self,Z5,Zb,Z7,hu2,hj,g0,mbl,ZD,ZE,ZF,hcl,ceq_w,hwj,hwn];exact next4 (j+1) _ _ _ ⟨by omega,rfl⟩ ⟨rfl,rfl,rfl,rfl,rfl,by simp only[Z8,Z6];rfl,trivial⟩ (by omega)
    ·have hje:j=f.n:=by omega
     simp only[ZG,↓reduceIte,ZA,ZB,ZC,hp,h0,and_self,Z5,Zb,Z7,hu2,hj];refine out4 (.exit 10) _ _ _ _ (by intro e;cases e) ?_;simp only[ZG,↓reduceIte,ZA,ZB,ZC,hwp];exact next3 (p+1) _ _ _ ⟨by omega,rfl⟩ ⟨rfl,rfl,by rw[offs_succ hf,hje];rfl,rfl,by simp only[Z8,Z6];rfl,trivial⟩ (by omega)
   ·have hpe:p=fs.length:=by omega
    subst hpe;simp only[ZG,↓reduceIte,ZA,ZB,ZC,hp];refine out3 (.exit 8) _ _ _ _ (by intro e;cases e) ?_;simp only[ZG,↓reduceIte,ZA,ZB,ZC];have hgl:=pb.gl;have hv6:∃ a c,v6 = .slice a gs.length c:=by
     rcases pb.r6 with ⟨r1,r2⟩|⟨c6,s6,g6,r1,r2,r3,r4⟩
     ·rw[r1];exact ⟨none,0,r2⟩
     ·exact ⟨_,_,r1⟩
    have hv6at:∀ (t:Nat) (f:Fl),fs[t]?=some f -> ∃ b6 c,v6 = .slice (some ⟨b6,0,none⟩) gs.length gs.length/\ldc h3 b6 t=some (.slice (some ⟨c,0,none⟩) (f.n+12) (f.n+12))/\h3[c]?=some (nb f.g (ww (og fs t f.n++nw fs t 12))):=by
     intro t f ht;obtain ⟨_,c,_,d3,d4⟩:=don t f ht
     rcases pb.r6 with ⟨r1,r2⟩|⟨c6,s6,g6,r1,r2,r3,r4⟩
     ·rw[r1] at d3;cases d3
     ·have hc6:Cells h3 c6 gs:=by simp [Cells,hcell,r2]
      exact ⟨c6,c,r1,by rw[hc6.ld];exact d3,d4⟩
    have hglI:((gs.length:Nat):Int)=(fs.length:Int):=by rw[hgl]
    refine XLo_rule (α:=Nat) (fun i=>[(0,.slice (some ⟨bu,0,none⟩) fs.length fs.length),(2,.bool false),(3,iv ((offs fs fs.length+12*i:Nat):Int)),(6,v6),(12,iv i)]) (fun i h'=>i<=fs.length/\h'=h3) (fun i=>fs.length-i) 0 ⟨Za _,rfl⟩ ⟨rfl,rfl,rfl,rfl,rfl,trivial⟩ ?_;rintro p h4 Ψ4 ⟨p1,rfl⟩ next4 out4;have hwp:IntKind.i64.wrap ((p:Int)+1)=p+1:=i64w (by omega) (by omega);obtain ⟨a6,c6,e6⟩:=hv6
    by_cases hp:(p:Int)<(fs.length:Int)
    ·have h0:0<=(p:Int):=by omega
     obtain ⟨f,hf⟩:∃ f,fs[p]?=some f:=⟨_,Z1 (show p<fs.length by omega)⟩
     obtain ⟨hn1,hn2⟩:=ap.hn p f hf;obtain ⟨b6,c,k6,l6,m6⟩:=hv6at p f hf;have hu2:=cuB pb.fr p f hf;rw[k6] at e6;cases e6;rw[k6];simp only[ZG,↓reduceIte,ZA,ZB,ZC,hglI,hp,h0,and_self,Z5,Zb,Z7,hu2];refine XLo_rule (α:=Nat) (fun s=>[(0,.slice (some ⟨bu,0,none⟩) fs.length fs.length),(2,.bool false),(3,iv ((offs fs fs.length+12*p+s:Nat):Int)),(6,.slice (some ⟨b6,0,none⟩) gs.length gs.length),(12,iv p),(13,iv ((f.n+s:Nat):Int))]) (fun s h'=>s<=12/\h'=h4) (fun s=>12-s) 0 ⟨Za _,rfl⟩ ⟨rfl,rfl,rfl,rfl,rfl,rfl,trivial⟩ ?_;rintro s h5 Ψ5 ⟨q1,rfl⟩ next5 out5
     by_cases hs:((f.n+s:Nat):Int)<((f.n+12:Nat):Int)
     ·have g0:0<=((f.n+s:Nat):Int):=by omega
      have hwj:IntKind.i64.wrap (((f.n+s:Nat):Int)+1)=((f.n+(s+1):Nat):Int):=by rw[i64w (by omega) (by omega)];omega
      have hwn:IntKind.i64.wrap (((offs fs fs.length+12*p+s:Nat):Int)+1)=((offs fs fs.length+12*p+(s+1):Nat):Int):=by rw[i64w (by omega) (by omega)];omega
      have hcl:=cell2 (cells_of (s:=false) m6) (j:=f.n+s) (x:=(98,((offs fs fs.length+12*p+s:Nat):Int))) (by
       rw[Z9 (by rw[og_len];omega),og_len,nw,Z4,Zc (by omega)];simp)
      simp only[ZG,↓reduceIte,ZA,ZB,ZC,hglI,hp,h0,and_self,Z5,Zb,Z7,l6,hs,g0,mbl,ZD,ZE,ZF,hcl,ceq_w,hwj,hwn];exact next5 (s+1) _ _ _ ⟨by omega,rfl⟩ ⟨rfl,rfl,rfl,rfl,rfl,rfl,trivial⟩ (by omega)
     ·have hse:s=12:=by omega
      subst hse;simp only[ZG,↓reduceIte,ZA,ZB,ZC,hglI,hp,h0,and_self,Z5,Zb,Z7,l6,hs];refine out5 (.exit 14) _ _ _ _ (by intro e;cases e) ?_;simp only[ZG,↓reduceIte,ZA,ZB,ZC,hwp];exact next4 (p+1) _ _ _ ⟨by omega,rfl⟩ ⟨rfl,rfl,by rw[show offs fs fs.length+12*(p+1)=offs fs fs.length+12*p+12 by omega];rfl,by rw[k6];rfl,by simp only[Z8,Z6];rfl,trivial⟩ (by omega)
    ·rw[e6]
     simp only[ZG,↓reduceIte,ZA,ZB,ZC,hglI,hp];refine out4 (.exit 12) _ _ _ _ (by intro e;cases e) ?_;simp only[ZG,↓reduceIte,ZA,ZB,ZC];exact hΨ _ _ (fin_ret (rv1 rfl ⟨rfl,by have:=pb.len;omega,pb.fr⟩))
end Go.S19

namespace Go.S19
open Go Go.Eng Go.Proofs Go.Chk
def apX (h:AH) (bu:Nat) (fs:List (Nat × Nat)) (q:Nat):Blk:=match h[q]? with
 | some (.cells true true g 0 e cs)=>if q=bu then .cells true true g 0 e (fs.map fun f=>.slice (some ⟨f.1,0,none⟩) f.2 f.2) else
   match fs.find? (fun f=>f.1 == q) with
   | some f=>.cells true true q 0 e (cs.take (f.2*2))
   | none=>.gone
 | _=>.gone
def apH (h:AH) (bu:Nat) (fs:List (Nat × Nat)):AH:=(Zi h.length).map (apX h bu fs)
theorem apH_len (h:AH) (bu:Nat) (fs:List (Nat × Nat)):(apH h bu fs).length=h.length:=by simp [apH]
theorem apH_at {h:AH} {bu:Nat} {fs:List (Nat × Nat)} {q:Nat} (hq:q<h.length):(apH h bu fs)[q]?=some (apX h bu fs q):=by
 unfold apH;rw[Z4,Zc hq];rfl
theorem apH_inv {h:AH} {bu:Nat} {fs:List (Nat × Nat)} {q:Nat} {X:Blk} (e:(apH h bu fs)[q]?=some X):q<h.length/\X=apX h bu fs q:=by
 have hq:=(Z0.1 e).1;rw[apH_len] at hq;rw[apH_at hq] at e;cases e;exact ⟨hq,rfl⟩
structure Aps (h:AH) (bu:Nat) (vs:List Value) (fs:List (Nat × Nat)):Prop where
 hv:vs.length=fs.length
 hk:fs.length<=100
 hl:∀ (t:Nat) (f:Nat × Nat),fs[t]?=some f->f.2<=2000000/\f.1≠bu /\ ∃ c all,vs[t]?=some (.slice (some ⟨f.1,0,none⟩) f.2 c)/\f.2<=c/\all.length=c*2/\Own h f.1 44 all
 ha:∀ (s t:Nat) (f g:Nat × Nat),fs[s]?=some f->fs[t]?=some g->s≠t->f.1≠g.1
theorem Aps.find {h:AH} {bu:Nat} {vs:List Value} {fs:List (Nat × Nat)} (a:Aps h bu vs fs) {t:Nat} {f:Nat × Nat} (ht:fs[t]?=some f):fs.find? (fun g=>g.1 == f.1)=some f:=by
 cases e:fs.find? (fun g=>g.1 == f.1) with
 | none =>
   have:=List.find?_eq_none.1 e f (List.mem_of_getElem? ht);simp at this
 | some g =>
   have h1:=List.find?_some e;obtain ⟨s,hs⟩:=List.getElem?_of_mem (Zj e)
   by_cases hst:s=t
   ·subst hst;rw[ht] at hs;exact hs.symm
   ·exact absurd (by simpa using h1) (a.ha s t g f hs ht hst)
theorem Apart2_ok {h:AH} {bu e:Nat} {vs:List Value} {fs:List (Nat × Nat)} (ou:Own h bu e vs) (a:Aps h bu vs fs) :
 Gets Tryd.prog 21 [.slice (some ⟨bu,0,none⟩) fs.length fs.length] h (fun res h'=>res = .ret (.bool true)/\Keep (fun q=>q=bu \/ ∃ f∈fs,q=f.1) h h'):=by
 have hfl:∀ {t:Nat} {f:Fl},(fs.map fun f=>(⟨f.1,f.1,f.2⟩:Fl))[t]?=some f->fs[t]?=some (f.b,f.n)/\f.g=f.b:=by
  intro t f ht;rw[Z4] at ht;obtain ⟨g,h1,h2⟩:=Zn.1 ht;cases h2;exact ⟨h1,rfl⟩
 have fb:∀ {t:Nat} {f:Nat × Nat},fs[t]?=some f -> ∃ cs,(apH h bu fs)[f.1]?=some (sb f.1 cs)/\cs.length=f.2*2:=by
  intro t f ht;obtain ⟨_,h2,c,all,_,h4,h5,g,h6⟩:=a.hl t f ht;refine ⟨all.take (f.2*2),?_,by simp;omega⟩;rw[apH_at (Z0.1 h6).1];unfold apX;rw[h6];simp only;rw[if_neg h2,a.find ht];rfl
 have bl:bu<h.length:=ou.lt;have ub:(apH h bu fs)[bu]?=some (apX h bu fs bu):=apH_at bl;have ux:∃ g,apX h bu fs bu = .cells true true g 0 e (fs.map fun f=>.slice (some ⟨f.1,0,none⟩) f.2 f.2):=by
  obtain ⟨g,hg⟩:=ou;refine ⟨g,?_⟩;unfold apX;rw[hg];simp
 have ap:Apt (apH h bu fs) bu (fs.map fun f=>(⟨f.1,f.1,f.2⟩:Fl)):=by
  refine ⟨by simpa using a.hk,fun t f ht=>?_,fun t f ht=>?_,?_,fun t f ht=>?_,fun s t f f' hs ht hne=>?_,fun t f ht=>?_,fun q B hn hB g k=>?_⟩
  ·obtain ⟨h1,_⟩:=hfl ht
   exact ⟨Za _,(a.hl t _ h1).1⟩
  ·obtain ⟨h1,h2⟩:=hfl ht
   obtain ⟨cs,h3,h4⟩:=fb h1;exact ⟨cs,by rw[h2];exact h3,h4⟩
  ·obtain ⟨g,hg⟩:=ux
   unfold Cells hcell;rw[ub,hg];simp [List.map_map,Function.comp_def,Fl.v]
  ·obtain ⟨h1,_⟩:=hfl ht
   exact (a.hl t _ h1).2.1
  ·obtain ⟨h1,h2⟩:=hfl hs
   obtain ⟨h3,h4⟩:=hfl ht;have:=a.ha s t _ _ h1 h3 hne;exact ⟨this,by rw[h2,h4];exact this⟩
  ·obtain ⟨h1,h2⟩:=hfl ht
   obtain ⟨cs,h3,_⟩:=fb h1;have:=(Z0.1 h3).1;exact ⟨by rw[h2];exact this,this⟩
  ·obtain ⟨hq,rfl⟩:=apH_inv hB
   unfold apX
   split
   ·split
    ·rfl
    ·split<;>rfl
   ·rfl
 have w:∀ (q:Nat) (B X:Blk),h[q]?=some B->(apH h bu fs)[q]?=some X->Wkb B X:=by
  intro q B X hB hX;obtain ⟨hq,rfl⟩:=apH_inv hX;unfold apX;rw[hB]
  split
  ·rename_i g ty cs e1
   cases e1
   split
   ·rename_i e2
    subst e2;refine .inr ⟨_,_,_,_,_,_,_,rfl,rfl,?_⟩;obtain ⟨g',hg'⟩:=ou;rw[hB] at hg';cases hg';refine ⟨by simp [a.hv],fun i x hx=>?_⟩;rw[Z4] at hx;obtain ⟨f,h1,rfl⟩:=Zn.1 hx;obtain ⟨_,_,c,all,h3,h4,_,_⟩:=a.hl i f h1;exact ⟨_,h3,Wkv.slice h4⟩
   ·split
    ·exact .inr ⟨_,_,_,_,_,_,_,rfl,rfl,Wkc.take _ _⟩
    ·exact .inl rfl
  ·exact .inl rfl
 have A:=Apart_ok ap;rw[List.length_map] at A;refine (Gets.frame (v:=.bool true) (apH_len h bu fs) w A).mono (fun res h' hle hh=>?_);obtain ⟨rfl,h1,⟨hlen,hfr⟩,rfl,hl1⟩:=hh;refine ⟨rfl,by rw[mend_len];exact hl1,fun q hq hs=>?_⟩;rw[mend_at (apH_len h bu fs) hl1,if_pos (isGone_iff.2 ?_)];rw[apH_at hq];unfold apX
 split
 ·rw[if_neg (fun e=>hs (.inl e))]
  split
  ·rename_i f hf
   have h1:=List.find?_some hf;exact absurd (.inr ⟨f,Zj hf,(by simpa using h1:f.1=q).symm⟩) hs
  ·rfl
 ·rfl
end Go.S19

namespace Go.S19
open Go Go.Eng Go.Proofs Go.Chk Go.Scn
theorem ocopy {h:AH} {u:Value} {n:Nat} {cs:List Value} (hu:Rds h 2 u n cs) (h1:cs.all Value.oneCell'=true) (hb:n*16<=140737488355328) :
 ∃ v h',appv false (h++[row 44 h.length []]) false 44 2 16 (.slice (some ⟨h.length,0,none⟩) 0 0) u=some (v,h')/\Keep (fun _=>False) h h'/\Ows h' 44 2 v n cs/\(∀ q,bk v q->h.length<=q/\q<h'.length)/\Nn v:=by
 have k1:Keep (fun _=>False) h (h++[row 44 h.length []]):=Keep.push _ _ _;have o1:Ows (h++[row 44 h.length []]) 44 2 (.slice (some ⟨h.length,0,none⟩) 0 0) 0 []:=.mk (Own.new h 44 h.length []) rfl (Zs _) rfl;obtain ⟨_,hsrc,rfl⟩:=(hu.keep k1 (fun _ _ e=>e)).src h1;obtain ⟨v2,h2,p1,p2,p3,p4⟩:=o1.app (bytes:=16) hsrc ((hu.keep k1 (fun _ _ e=>e)).len) h1 (by omega) (by omega);have k2:Keep (fun _=>False) h h2:=k1.trans' p3 (fun c hc e=>by have:c=h.length:=e;omega);have hq:∀ q,bk v2 q->h.length<=q/\q<h2.length:=fun q e=>⟨(p4 q e).elim (fun e=>by have:q=h.length:=e;omega) (fun e=>by simp at e;omega),p2.lt q e⟩
 simp only[Z7,List.nil_append] at p2;exact ⟨v2,h2,p1,k2,p2,hq,appv_nn p1⟩
theorem oapp2 {h:AH} {v:Value} {A:List (Int × Int)} (o:Ows h 44 2 v A.length (ww A)) (nn:Nn v) (hl:A.length<=2000000) (x y:Int × Int) :
 ∃ b n c h',appv false (h++[row 44 h.length [iv x.1,iv x.2,iv y.1,iv y.2]]) false 44 2 16 v (.slice (some ⟨h.length,0,none⟩) 2 2)=some (.slice (some ⟨b,0,none⟩) n c,h')/\n=A.length+2/\Ows h' 44 2 (.slice (some ⟨b,0,none⟩) n c) n (ww (A++[x,y]))/\Keep (bk v) h h'/\(bk v b\/h.length<=b):=by
 have k1:Keep (fun _=>False) h (h++[row 44 h.length [iv x.1,iv x.2,iv y.1,iv y.2]]):=Keep.push _ _ _;have oN:=Own.new h 44 h.length [iv x.1,iv x.2,iv y.1,iv y.2];have rN:Rds (h++[row 44 h.length [iv x.1,iv x.2,iv y.1,iv y.2]]) 2 (.slice (some ⟨h.length,0,none⟩) 2 2) 2 [iv x.1,iv x.2,iv y.1,iv y.2]:=.mk oN.cells (by simp) rfl;obtain ⟨_,hsrc,rfl⟩:=rN.src rfl;obtain ⟨v2,h2,p1,p2,p3,p4⟩:=(o.keep k1 (fun _ _ e=>e)).app (bytes:=16) hsrc rfl rfl (by omega) (by omega);obtain ⟨b0,n0,c0,rfl⟩:=nn;obtain ⟨b,n,c,rfl⟩:=appv_nn p1;have e:n=A.length+2:=by
  generalize hv:Value.slice (some ⟨b,0,none⟩) n c=v at p2;cases p2 with
  | mk=>cases hv;rfl
 refine ⟨b,n,c,h2,p1,e,?_,(k1.mono (fun _ e=>e.elim)).trans p3,(p4 b rfl).imp id (fun e=>by simp at e;omega)⟩;have:ww (A++[x,y])=ww A++[iv x.1,iv x.2,iv y.1,iv y.2]:=by rw[ww_app];rfl
 rw[this];subst e;exact p2
theorem rds_pre {h:AH} {b n c:Nat} {A B:List (Int × Int)} (o:Ows h 44 2 (.slice (some ⟨b,0,none⟩) n c) n (ww (A++B))) (c':Nat):Rds h 2 (.slice (some ⟨b,0,none⟩) A.length c') A.length (ww A):=by
 have hn:=o.len;rw[ww_len,Zp] at hn;cases o with
 | @mk _ _ _ all _ hb hl hnc hx =>
   refine .mk hb.cells (by rw[hl];omega) ?_;rw[Zd];have:(all.take (n*2)).take (A.length*2)=all.take (A.length*2):=by rw[List.take_take,Nat.min_eq_left (by omega)]
   rw[<- this,hx,ww_app,<- ww_len A,List.take_left]
theorem full_ld {h:AH} {b n c:Nat} {A:List (Int × Int)} (o:Ows h 44 2 (.slice (some ⟨b,0,none⟩) n c) n (ww A)) {i:Nat} {x:Int × Int} (hx:A[i]?=some x):ldc h b (i*2)=some (iv x.1):=by
 have hi:=(Z0.1 hx).1;have hn:=o.len;rw[ww_len] at hn;obtain ⟨b',o',c',e,hl⟩:=o.rds.at (i:=i) (by omega);cases e;have:=hl 0 (by omega);rw[Z7,Zq] at this;rw[this];have e2:(ww A)[i*2]?=some (iv x.1):=by
  have h2:=rowsOf_get (f:=wc) (k:=2) (fun _=>rfl) A i 0 (by omega);rw[Zq,hx] at h2;exact h2
 exact e2
theorem ows_n {h:AH} {e sz n m c:Nat} {a:Option Addr} {cs:List Value} (o:Ows h e sz (.slice a n c) m cs):n=m:=by
 cases o with
 | nil=>rfl
 | mk=>rfl
theorem ows_blk {h:AH} {b n c m:Nat} {cs:List Value} (o:Ows h 44 2 (.slice (some ⟨b,0,none⟩) n c) m cs):∃ all,n<=c/\all.length=c*2/\Own h b 44 all:=by
 cases o with
 | mk hb hl hn hx=>exact ⟨_,hn,hl,hb⟩
theorem full_sl {h:AH} {b n c k:Nat} {cs:List Value} (o:Ows h 44 2 (.slice (some ⟨b,0,none⟩) n c) n cs) (hk:k<=n):sllv h 44 2 (.slice (some ⟨b,0,none⟩) n c) none (some (iv k))=some (.slice (some ⟨b,0,none⟩) k c,none):=by
 cases o with
 | mk hb hl hn hx =>
   obtain ⟨g,hb⟩:=hb;have:(k:Int)<=c:=by omega
   simp [sllv,helem,hb,bnd,this]
section
variable {h:AH} {N:Nat} {C:Cx} {texts:List ByteArray} {vi vc vt vp vk u ur:Value} {os:List Op} {roots:List (Int × Int)}
set_option maxHeartbeats 4000000 in
theorem CKeeps_ok (hN:N<=1048576) (g:Given h N C texts vi vc vt vp vk) (ru:Rds h 7 u os.length (os.flatMap Op.cells)) (hol:os.length<=N) (qs:∀ o∈os,o.Q h N) (rr:Rds h 2 ur roots.length (ww roots)) (hrl:roots.length<=N) (hrg:∀ w∈roots,rgI w.2) :
 Gets Tryd.prog 6 [.agg #[vi,vc,vt,vp,iv C.main,vk],u,ur] h (fun res h'=>res = .ret (.bool true)):=by
 refine Gets.of (keep:=false) hP (draw_ok hM) k6 (by rfl) (fun Ψ hΨ=>?_);have oI:=Own.new h 26 h.length [vi,vc,vt,vp,iv C.main,vk];have k1:Keep (fun _=>False) h (h++[row 26 h.length [vi,vc,vt,vp,iv C.main,vk]]):=Keep.push _ _ _;have hsh:∀ x∈[vi,vc,vt,vp,vk],∃ a n c,x = .slice a n c:=by
  obtain ⟨a1,c1,e1⟩:=row_shape g.im.ri;obtain ⟨a2,c2,e2⟩:=row_shape g.im.rc;obtain ⟨a3,c3,e3⟩:=row_shape g.rt;obtain ⟨a4,c4,e4⟩:=row_shape g.im.rp;obtain ⟨a5,c5,e5⟩:=row_shape g.im.rk;intro x hx;simp only[Zo,Zk,or_false] at hx
  rcases hx with rfl|rfl|rfl|rfl|rfl
  ·exact ⟨_,_,_,e1⟩
  ·exact ⟨_,_,_,e2⟩
  ·exact ⟨_,_,_,e3⟩
  ·exact ⟨_,_,_,e4⟩
  ·exact ⟨_,_,_,e5⟩
 obtain ⟨ua,uc,rfl⟩:=row_shape rr;have dz:(((0:Nat):Int)=0)=True:=by simp
 simp only[ZG,↓reduceIte,ZA,ZB,ZC,r6,YE,YC,YO,YA,YL,YX,YS,Ya,Yb,Yl,Yf,Yg,Yi,Ym,Yk,Yt,Yn,Yz,Yp,Yq,Yd,mbl,ZD,ZE,ZF];generalize h++[row 26 h.length [vi,vc,vt,vp,iv C.main,vk]]=h1 at oI k1 ⊢;refine XX_of (wakes_ok h1) (fun res h2 hle2 hn=>?_);obtain ⟨k2,rfl⟩:=hn;refine .ret ?_;have k02:=k1.trans k2;simp only[ZG,↓reduceIte,ZA,ZB,ZC,mbl,ZD,ZE,ZF,(oI.keep k2 (fun e=>e)).cells.lds 0 6 (by simp)];refine XX_of (play_ok hN (g.keepF k02) (ru.keep k02 (fun _ _ e=>e)) hol (fun o ho=>(qs o ho).keepF k02)) (fun res h3 hle3 hn=>?_);obtain ⟨k3,⟨_,rfl⟩|⟨S0,b,L,S,st0,run,rfl,p⟩⟩:=hn
 ·refine .ret ?_
  simp only[ZG,↓reduceIte,ZA,ZB,ZC,mbl,ZD,ZE,ZF];exact hΨ _ _ (fin_ret (rv1 rfl rfl))
 refine .ret ?_;have k03:=k02.trans k3;have hgl:=p.gl;have rr3:=rr.keep k03 (fun _ _ e=>e);obtain ⟨v4,h4,p4,kf4,o4,f4,n4⟩:=ocopy rr3 (rowsOf_one _) (by omega);obtain ⟨b5,n5,c5,h5,p5,e5,o5,kf5,f5⟩:=oapp2 o4 n4 (by omega) (70,0) (71,0);have k35:Keep (fun _=>False) h3 h5:=kf4.trans' kf5 (fun c hc e=>by have:=(f4 c e).1;omega);have b5l:h3.length<=b5:=by
  have:=kf4.len
  rcases f5 with e|e
  ·exact (f4 _ e).1
  ·omega
 have k05:=k03.trans k35;have p5':=p.keepF k35;have zb5:L.cls b5=0:=p.hp.c0 _ b5l;have dn0:(0<=(roots.length:Int))=True:=by simp
 have dn1:((roots.length:Int)<(n5:Int))=True:=by simp;omega
 have dn2:((roots.length:Int)+1<(n5:Int))=True:=by simp;omega
 have wn:IntKind.i64.wrap ((roots.length:Int)+1)=(roots.length:Int)+1:=i64w (by omega) (by omega);have dn3:(0<=(roots.length:Int)+1)=True:=by simp;omega
 have tn:Int.toNat (roots.length:Int)=roots.length:=by simp
 have tn1:Int.toNat ((roots.length:Int)+1)=roots.length+1:=by omega
 have at0:(roots++[((70:Int),(0:Int)),(71,0)])[roots.length]?=some (70,0):=by simp
 have at1:(roots++[((70:Int),(0:Int)),(71,0)])[roots.length+1]?=some (71,0):=by simp
 simp only[ZG,↓reduceIte,ZA,ZB,ZC,mbl,ZD,ZE,ZF,p4,p5,full_sl o5 (show roots.length<=n5 by omega)];refine XX_of (Shape_ok p5'.hp p5'.gs.v p5'.gs.r (by omega) (rds_pre o5 c5) (by omega) hrg) (fun res h6 hle6 hn=>?_);obtain ⟨k6,rfl⟩:=hn;refine .ret ?_;have p6:=p5'.keepF k6;have o6:=o5.keep k6 (fun _ _ e=>e);have k06:=k05.trans k6
 by_cases hg:(S.graph roots).2=true
 case neg =>
  rw[if_neg hg];simp only[ZG,↓reduceIte,ZA,ZB,ZC,mbl,ZD,ZE,ZF,full_sl o6 (show roots.length<=n5 by omega)];refine XX_of (Reach_ok p6.hp p6.gs.v (by omega) (rds_pre o6 c5) (by omega)) (fun res h7 hle7 hn=>?_);obtain ⟨k7,rfl⟩:=hn;refine .ret ?_;have p7:=p6.keepF k7;have o7:=o6.keep k7 (fun _ _ e=>e);have k07:=k06.trans k7;rw[if_neg hg];simp only[ZG,↓reduceIte,ZA,ZB,ZC,mbl,ZD,ZE,ZF,full_sl o7 (show roots.length<=n5 by omega)];refine XX_of (Collect_ok p7.hp p7.gs.v (by omega) (rds_pre o7 c5) (by omega) (fun q e=>by rw[e.1];exact zb5)) (fun res h8 hle8 hn=>?_);obtain ⟨kc,hn⟩:=hn;rw[if_neg hg] at hn;obtain ⟨k8,rfl⟩:=hn;refine .ret ?_;have o8:=o7.keep k8 (fun _ _ e=>e);have k08:=k07.trans k8;simp only[ZG,↓reduceIte,ZA,ZB,ZC,mbl,ZD,ZE,ZF,full_sl o8 (show roots.length<=n5 by omega)];refine XX_val ((SameWords_ok (rds_pre o8 c5) (rr.keep k08 (fun _ _ e=>e)) (by omega)).mono fun _ _ _ e=>e) ?_;simp only[ZG,↓reduceIte,ZA,ZB,ZC,mbl,ZD,ZE,ZF,dn0,dn1,dn3,and_self,tn,full_ld o8 at0,wn,dn2,tn1,full_ld o8 at1];exact hΨ _ _ (fin_ret (rv1 rfl rfl))
 rw[if_pos hg];simp only[ZG,↓reduceIte,ZA,ZB,ZC,mbl,ZD,ZE,ZF,full_sl o6 (show roots.length<=n5 by omega)];refine XX_of (Reach_ok p6.hp p6.gs.v (by omega) (rds_pre o6 c5) (by omega)) (fun res h7 hle7 hn=>?_);obtain ⟨k7,rfl⟩:=hn;refine .ret ?_;have p7:=p6.keepF k7;have o7:=o6.keep k7 (fun _ _ e=>e);have k07:=k06.trans k7;rw[if_pos hg];simp only[ZG,↓reduceIte,ZA,ZB,ZC,mbl,ZD,ZE,ZF,full_sl o7 (show roots.length<=n5 by omega)];refine XX_of (Collect_ok2 p7.hp p7.gs.v (by omega) (rds_pre o7 c5) (by omega) (fun q e=>by rw[e.1];exact zb5)) (fun res h8 hle8 hn=>?_);obtain ⟨kc,hn⟩:=hn;rw[if_pos hg] at hn;obtain ⟨v8,news,T,L8,rfl,cr,s8,iv8,sm8,rw8,nn8⟩:=hn;refine .ret ?_;obtain ⟨p8,cd,hr8⟩:=p7.coll hrg hg cr kc s8 sm8;have o8:=o7.keep kc (fun q e m=>m (by rw[show q=b5 from e];exact zb5));have zr:∀ q,rb (.slice ua roots.length uc) q->L.cls q=0:=fun q e=>p.z q (by have:=rr.lt q e;have:=k02.len;omega)
 have rr8:=(rr.keep k07 (fun _ _ e=>e)).keep kc (fun q e m=>m (zr q e));obtain ⟨b8,n8,c8,rfl⟩:=nn8 (by intro e;cases e);obtain rfl:=ows_n rw8.o;have lt5:b5<h7.length:=o7.lt _ rfl;have zb5':L8.cls b5=0:=(sm8 b5 lt5).2 zb5;have hgl8:=p8.gl;have hln:news.length=roots.length:=by rw[cd.nw,List.length_map]
 obtain ⟨gr1,gr2⟩:=cd.graph2 p.gs.v;simp only[ZG,↓reduceIte,ZA,ZB,ZC,mbl,ZD,ZE,ZF,full_sl o8 (show roots.length<=n5 by omega)];refine XX_val ((SameWords_ok (rds_pre o8 c5) rr8 (by omega)).mono fun _ _ _ e=>e) ?_;simp only[ZG,↓reduceIte,ZA,ZB,ZC,mbl,ZD,ZE,ZF,dn0,dn1,dn3,and_self,tn,full_ld o8 at0,wn,dn2,tn1,full_ld o8 at1];refine XX_of (Shape_ok p8.hp p8.gs.v p8.gs.r (by omega) rw8.o.rds (by omega) hr8) (fun res h9 hle9 hn=>?_);obtain ⟨k9,rfl⟩:=hn;refine .ret ?_;rw[if_pos gr2];have p9:=p8.keepF k9;have rw9:=rw8.keepF k9;have o9:=o8.keep k9 (fun _ _ e=>e);obtain ⟨v10,h10,q10,k10,i10,f10,_⟩:=ocopy rw9.o.rds (rowsOf_one _) (by omega);have p10:=p9.keepF k10;have rw10:=rw9.keepF k10;have o10:=o9.keep k10 (fun _ _ e=>e);simp only[ZG,↓reduceIte,ZA,ZB,ZC,mbl,ZD,ZE,ZF,q10];refine XX_of (Collect_ok2 p10.hp p10.gs.v (by omega) rw10.o.rds (by omega) (fun q e=>(rw10.c q e.bk).2)) (fun res h11 hle11 hn=>?_);obtain ⟨kc2,hn⟩:=hn;rw[if_pos gr2] at hn;obtain ⟨v11,n2,U,L11,rfl,cr2,s11,iv11,sm11,rw11,nn11⟩:=hn;refine .ret ?_;obtain ⟨p11,cd2,hr11⟩:=p10.coll hr8 gr2 cr2 kc2 s11 sm11;rw[gr1] at cd2;have hn2:=cd.twice p.gs.v cd2;subst hn2;obtain ⟨gq1,gq2⟩:=cd2.graph2 p10.gs.v;have hgl11:=p11.gl;obtain ⟨b11,n11,c11,rfl⟩:=nn11 (by intro e;cases e);have hn11:=ows_n rw11.o;have rx11:=rw10.step kc2 sm11;have z10:∀ q,bk v10 q->L8.cls q=0:=fun q e=>p9.hp.c0 q (f10 q e).1
 have i11:=i10.keep kc2 (fun q e m=>m (z10 q e));have l8:=k9.len;have l9:=k10.len;have l10:=kc.len;have l11:=kc2.len;have lt8:b8<h8.length:=rw8.o.lt _ rfl;have g8:=(rw8.c b8 rfl).1;have g11:=(rw11.c b11 rfl).1;have o11:=o10.keep kc2 (fun q e m=>m (by rw[show q=b5 from e];exact zb5'));have z5:L11.cls b5=0:=(sm11 b5 (by omega)).2 zb5';have z8:L11.cls b8=0:=(rx11.c b8 rfl).2;have z11:L11.cls b11=0:=(rw11.c b11 rfl).2;simp only[ZG,↓reduceIte,ZA,ZB,ZC,mbl,ZD,ZE,ZF];refine XX_val ((SameWords_ok i11.rds rx11.o.rds (by omega)).mono fun _ _ _ e=>e) ?_;simp only[ZG,↓reduceIte,ZA,ZB,ZC,mbl,ZD,ZE,ZF];have oU:=Own.new h11 28 h11.length [.slice (some ⟨b5,0,none⟩) n5 c5,.slice (some ⟨b8,0,none⟩) n2.length c8,.slice (some ⟨b11,0,none⟩) n11 c11];have kU:Keep (fun _=>False) h11 (h11++[row 28 h11.length [.slice (some ⟨b5,0,none⟩) n5 c5,.slice (some ⟨b8,0,none⟩) n2.length c8,.slice (some ⟨b11,0,none⟩) n11 c11]]):=Keep.push _ _ _;have lU:(h11++[row 28 h11.length [.slice (some ⟨b5,0,none⟩) n5 c5,.slice (some ⟨b8,0,none⟩) n2.length c8,.slice (some ⟨b11,0,none⟩) n11 c11]]).length=h11.length+1:=by simp
 generalize h11++[row 28 h11.length [.slice (some ⟨b5,0,none⟩) n5 c5,.slice (some ⟨b8,0,none⟩) n2.length c8,.slice (some ⟨b11,0,none⟩) n11 c11]]=h12 at oU kU lU ⊢;have ap:Aps h12 h11.length [.slice (some ⟨b5,0,none⟩) n5 c5,.slice (some ⟨b8,0,none⟩) n2.length c8,.slice (some ⟨b11,0,none⟩) n11 c11] [(b5,n5),(b8,n2.length),(b11,n11)]:=by
  have q11:b11<h11.length:=rw11.o.lt _ rfl;refine ⟨rfl,by simp,fun t f ht=>?_,fun s t f g hs ht hne=>?_⟩
  ·match t,ht with
   | 0,ht =>
     cases ht;obtain ⟨all,a1,a2,a3⟩:=ows_blk (o11.keep kU (fun _ _ e=>e));exact ⟨by simp only;omega,by simp only;omega,_,all,rfl,a1,a2,a3⟩
   | 1,ht =>
     cases ht;obtain ⟨all,a1,a2,a3⟩:=ows_blk (rx11.o.keep kU (fun _ _ e=>e));exact ⟨by simp only;omega,by simp only;omega,_,all,rfl,a1,a2,a3⟩
   | 2,ht =>
     cases ht;obtain ⟨all,a1,a2,a3⟩:=ows_blk (rw11.o.keep kU (fun _ _ e=>e));exact ⟨by simp only;omega,by simp only;omega,_,all,rfl,a1,a2,a3⟩
   | t+3,ht=>simp at ht
  ·match s,t,hs,ht with
   | 0,0,_,_=>exact absurd rfl hne
   | 1,1,_,_=>exact absurd rfl hne
   | 2,2,_,_=>exact absurd rfl hne
   | 0,1,hs,ht=>cases hs;cases ht;simp only;omega
   | 0,2,hs,ht=>cases hs;cases ht;simp only;omega
   | 1,0,hs,ht=>cases hs;cases ht;simp only;omega
   | 1,2,hs,ht=>cases hs;cases ht;simp only;omega
   | 2,0,hs,ht=>cases hs;cases ht;simp only;omega
   | 2,1,hs,ht=>cases hs;cases ht;simp only;omega
   | s+3,_,hs,_=>simp at hs
   | _,t+3,_,ht=>simp at ht
 refine XX_of (Apart2_ok oU ap) (fun res h13 hle13 hn=>?_);obtain ⟨rfl,k13⟩:=hn;refine .ret ?_;have zU:L11.cls h11.length=0:=p11.hp.c0 _ (Zs _);have zz:∀ q,(q=h11.length \/ ∃ f∈[(b5,n5),(b8,n2.length),(b11,n11)],q=f.1)->L11.cls q=0:=by
  rintro q (rfl|⟨f,hf,rfl⟩)
  ·exact zU
  ·simp only[Zo,Zk,or_false] at hf
   rcases hf with rfl|rfl|rfl
   ·exact z5
   ·exact z8
   ·exact z11
 have s13:Hp h13 b L11 U:=(p11.hp.keepF kU).keep k13 (fun q hq e=>hq (zz q e));have i13:=(i11.keep kU (fun _ _ e=>e)).keep k13 (fun q e=>by
  have a:=f10 q e;rintro (e2|⟨f,hf,e2⟩)
  ·omega
  ·simp only[Zo,Zk,or_false] at hf
   rcases hf with rfl|rfl|rfl<;>simp only at e2<;>omega)
 simp only[ZG,↓reduceIte,ZA,ZB,ZC,mbl,ZD,ZE,ZF];refine XX_of (Shape_ok s13 p11.gs.v p11.gs.r (by omega) i13.rds (by omega) hr11) (fun res h14 hle14 hn=>?_);obtain ⟨k14,rfl⟩:=hn;refine .ret ?_;rw[if_pos gq2,gq1,cd2.shape p10.gs.v,gr1];simp only[ZG,↓reduceIte,ZA,ZB,ZC,mbl,ZD,ZE,ZF,tl_self];exact hΨ _ _ (fin_ret (rv1 rfl rfl))
end
end Go.S19

namespace Go.S19
open Go Go.Eng Go.Proofs Go.Proofs.YtdlanbdiphpacaaDoor
theorem var_heap {P:Program} {W:World} {n:String} {g:Nat} {cs:Array Value} (hg:P.globalNamed n=some g) (h:W.var? P n=some cs):∃ e fr,W.heap[g]?=some (.cells cs e fr):=by
 simp only[World.var?,hg,Ze] at h
 split at h
 ·cases h;exact ⟨_,_,by assumption⟩
 ·cases h
def laidL : List (String × DataW Unit) := [("math/bits.deBruijn32tab", Rows.laid_math_bits_deBruijn32tab), ("math/bits.deBruijn64tab", Rows.laid_math_bits_deBruijn64tab), ("internal/strconv.uint64pow10", Rows.laid_internal_strconv_uint64pow10)]
theorem gPow : Tryd.prog.globalNamed "internal/strconv.uint64pow10" = some 0 := by kernel_rfl
theorem tPow:(Tryd.prog.globals[0]?).map (·.type)=some 149:=by kernel_rfl
theorem uPow:Tryd.prog.underlying 149=some (.array 20 139):=by kernel_rfl
theorem uU64:Tryd.prog.underlying 139=some (.int .u64):=by kernel_rfl
theorem cPow:Tryd.prog.cellsOf 149=20:=by kernel_rfl
theorem cU64:Tryd.prog.cellsOf 139=1:=by kernel_rfl
theorem gsz:Tryd.prog.globals.size=3:=by kernel_rfl
theorem tab0:Tab Tryd.prog 0=some ((Zi 20).map fun i=>Value.int .u64 (10 ^ i)):=by kernel_rfl
theorem tab1:Tab Tryd.prog 1=none:=by kernel_rfl
theorem tab2:Tab Tryd.prog 2=none:=by kernel_rfl
theorem powD:(Rows.laid_internal_strconv_uint64pow10:DataW Unit) = .agg ((Zi 20).map fun i=>.lit (.int .u64 (10 ^ i))):=by rfl
set_option maxRecDepth 100000 in
theorem tab_of_laid {W:World} (h:laidMetH Tryd.prog laidL W):TabOk Tryd.prog W.heap:=by
 rw[MakeChecks.laidMetH_plain _ _ _ (by kernel_rfl)] at h;obtain ⟨ps,⟨_,_,_,_,_,_,_,_,_,_,⟨_,_,_,_,_,_,_,_,_,_,⟨g3,t3,cs3,f3,p3,q3,hg3,ht3,hv3,hd3,_,_⟩,_⟩,_⟩,_,_⟩:=h;obtain rfl:=Zf.inj (gPow.symm.trans hg3);obtain rfl:=Zf.inj (tPow.symm.trans ht3);obtain ⟨e3,fr3,hh3⟩:=var_heap hg3 hv3;intro g cs hg
 match g,hg with
 | 0,hg =>
   rw[tab0] at hg;cases hg;refine ⟨cs3,e3,fr3,hh3,?_⟩;obtain ⟨xs,m,rfl,hx,hlen,hn,hel⟩:=DataW.trod_array uPow hd3;rw[cPow] at hlen;rw[powD] at hx;simp only[Prod.mk.injEq,DataW.agg.injEq] at hx;have hkey:∀ i,i<20->cs3.toList[i]?=some (.int .u64 (10 ^ i)):=by
    intro i hi;have h1:=hel i hi;rw[cU64,Zb,Z1 (by omega)] at h1;obtain ⟨n,k1,k2,_⟩:=DataW.trod_int uU64 h1;have h2:=congrArg (fun l=>l[i]?) hx.1;simp only[Z4] at h2;rw[Zc hi,Z1 (by omega),Zl,Zl,k2] at h2;have h3:n=10 ^ i:=by
     have:=Zf.inj h2;simp only[DataW.lit.injEq,Lit.int.injEq,true_and] at this;exact this.symm
    have h4:=congrArg (fun l=>l[0]?) k1;simp only[List.getElem?_take,Nat.zero_lt_one,if_true,List.getElem?_drop,Zq] at h4;rw[h4,h3];rfl
   refine ⟨by simp [hlen],fun i u v hu hv=>?_⟩;have hi:i<20:=by have:=(Z0.1 hu).1;simpa using this
   rw[hkey i hi] at hv;cases hv;rw[Z4,Zc hi] at hu;cases hu;exact .int _ _
 | 1,hg=>rw[tab1] at hg;cases hg
 | 2,hg=>rw[tab2] at hg;cases hg
 | g+3,hg =>
   unfold Tab at hg;rw[Array.getElem?_eq_none (by rw[gsz];omega)] at hg;cases hg
theorem door_met (os:Os) (args:Array Value):laidMetH Tryd.prog laidL ((World.doorLaid Tryd.prog 400 os).forCall (fun _ _=>0) ⟨#[],args,[]⟩).memory :=
 laidMetH_of_parts3 (fuel:=8) (laidMet_of_run' 8 (by kernel_rfl) (by kernel_rfl)) (by kernel_rfl) (by kernel_rfl)
end Go.S19
