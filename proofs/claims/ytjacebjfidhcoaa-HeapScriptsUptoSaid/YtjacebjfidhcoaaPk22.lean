import Derived.Test.YtjacebjfidhcoaaPk21
import Derived.Test.YtjacebjfidhcoaaPk12
import Derived.Test.YtjacebjfidhcoaaPk13
set_option linter.unusedVariables false
set_option linter.unusedSimpArgs false
open Nat renaming reduceEqDiff -> ZA,reduceAdd -> ZB,reduceMul -> ZC,reduceLeDiff -> ZD,reduceLT -> ZE
open Int renaming reduceEq -> ZF
open List renaming mem_of_getElem?->Z0,length_set->Z2,getElem?_eq_getElem->Z3,getElem?_map->Z4,mem_map->Z6,findIdx?_eq_none_iff->Z7,length_eq_zero_iff->Z8,findIdx?_eq_some_iff_getElem->Z9,mem_singleton->Zb,map_cons->Zc,mem_cons->Zd,ext_getElem?->Ze,getElem?_cons_succ->Zg,mem_append->Zh,getElem?_eq_none->Zj,getElem?_range->Zk,length_append->Zl,flatMap_cons->Zn,getElem?_set->Zo
open Int renaming add_zero->Z1,natCast_zero->Zf,toNat_natCast->Zm
open Option renaming isSome_iff_exists->Z5,getD_some->Za,map_eq_some_iff->Zi
namespace Go.S18
open Go Go.Eng Go.Proofs Go.Chk
structure Obj (S:HS) (k:Int) (w:Int × Int) (ys:List (Int × Int)):Prop where
 beg:mget k S.begins=some ((S.all w ys).length:Int)
 wds:∀ j:Nat,j<(S.all w ys).length->gx S.now (k+j)=wat (S.all w ys) j
 fit:S.fits w ys
 k0:0<=k
theorem gx_app {a c:List (Int × Int)} {i:Int} (h0:0<=i) (h:i<a.length):gx (a++c) i=gx a i:=by
 unfold gx;rw[if_pos ⟨h0,by simp;omega⟩,if_pos ⟨h0,h⟩];exact wat_app (by omega)
theorem gx_app2 {a c:List (Int × Int)} {j:Nat} (h:j<c.length):gx (a++c) ((a.length:Int)+j)=wat c j:=by
 unfold gx;rw[if_pos ⟨by omega,by simp;omega⟩];unfold wat;rw[show ((a.length:Int)+j).toNat=a.length+j by omega,List.getElem?_append_right (by omega),Zm]
 congr 2
 omega
theorem all_len (S:HS) (w:Int × Int) (ys:List (Int × Int)):ys.length+1<=(S.all w ys).length:=by unfold HS.all;split<;>simp
theorem all_at (S:HS) (w:Int × Int) {ys:List (Int × Int)} {j:Nat} (h:j<ys.length):wat (S.all w ys) ((j+1:Nat):Int)=ys[j]:=by
 unfold HS.all wat;rw[Zm]
 split
 ·rw[List.getElem?_append_left (by simp;omega),Zg,Z3 h];rfl
 ·rw[Zg,Z3 h];rfl
theorem all_zero (S:HS) (w:Int × Int) (ys:List (Int × Int)):wat (S.all w ys) 0=w:=by unfold HS.all wat;split<;>rfl
theorem fits_kind {S:HS} {w:Int × Int} {ys:List (Int × Int)} (f:S.fits w ys):6<=w.1/\w.1<=10:=by
 rcases f with f|f|f|f|f<;>omega
theorem fits_len {S:HS} {w:Int × Int} {ys:List (Int × Int)} (f:S.fits w ys):(w.1=6->(ys.length:Int)=S.fr w.2)/\(w.1=10->(ys.length:Int)=0):=by
 rcases f with f|f|f|f|f<;>refine ⟨fun e=>?_,fun e=>?_⟩<;>omega
theorem all_len' {S:HS} {w:Int × Int} {ys:List (Int × Int)} (h6:w.1≠6) (h10:w.1≠10):(S.all w ys).length=ys.length+1:=by
 unfold HS.all;rw[if_neg (by unfold HS.pad;omega)];simp
def tiles:Int->List (Int × Int)->Int->Prop
 | a,[],e=>a=e
 | a,p::l,e=>p.1=a/\1<=p.2/\tiles (a+p.2) l e
theorem tiles_app:∀ {l:List (Int × Int)} {a e n:Int},tiles a l e->1<=n->tiles a (l++[(e,n)]) (e+n):=by
 intro l
 induction l with
 | nil=>intro a e n h hn;cases h;exact ⟨rfl,hn,rfl⟩
 | cons p l ih=>intro a e n h hn;exact ⟨h.1,h.2.1,ih h.2.2 hn⟩
theorem tiles_le:∀ {l:List (Int × Int)} {a e:Int},tiles a l e->a<=e:=by
 intro l
 induction l with
 | nil=>intro a e h;cases h;omega
 | cons p l ih=>intro a e h;have:=ih h.2.2;have:=h.2.1;omega
theorem tiles_get:∀ {l1:List (Int × Int)} {a e:Int} {p:Int × Int} {l2:List (Int × Int)},tiles a (l1++p::l2) e->a<=p.1/\mget p.1 (l1++p::l2)=some p.2:=by
 intro l1
 induction l1 with
 | nil=>intro a e p l2 h;exact ⟨by rw[h.1];omega,by simp [mget]⟩
 | cons q l1 ih =>
   intro a e p l2 h;obtain ⟨h1,h2,h3⟩:=h;obtain ⟨i1,i2⟩:=ih h3;refine ⟨by omega,?_⟩
   show (if q.1=p.1 then some q.2 else mget p.1 (l1++p::l2))=_
   rw[if_neg (by omega)];exact i2
theorem tiles_laid {S:HS} {ys:List (Int × Int)} (t:tiles 0 S.begins S.now.length) (h:1<=ys.length):tiles 0 (S.laid ys).begins (S.laid ys).now.length:=by
 have:=tiles_app t (n:=(ys.length:Int)) (by omega)
 show tiles 0 (S.begins++[((S.now.length:Int),(ys.length:Int))]) ((S.now++ys).length:Int)
 rw[Zl];simpa using this
end Go.S18

namespace Go.S18
open Go Go.Eng Go.Proofs Go.Chk
noncomputable def fsOf (t:TypeId):Array Field:=match Try.prog.underlying t with
 | some (.struct fs)=>fs
 | _=>#[]
theorem u_img:Try.prog.underlying 27=some (.struct (fsOf 27)):=by kernel_rfl
theorem u_inf:Try.prog.underlying 34=some (.struct (fsOf 34)):=by kernel_rfl
theorem u_wrd:Try.prog.underlying 36=some (.struct (fsOf 36)):=by kernel_rfl
theorem u_op:Try.prog.underlying 51=some (.struct (fsOf 51)):=by kernel_rfl
theorem f_img:((fsOf 27).map fun f=>(f.type,f.offset)).toList=[(23,0),(24,1),(25,2),(24,3),(3,4),(24,5)]:=by kernel_rfl
theorem f_inf:((fsOf 34).map fun f=>(f.type,f.offset)).toList=[(3,0),(3,1),(3,2),(3,3)]:=by kernel_rfl
theorem f_wrd:((fsOf 36).map fun f=>(f.type,f.offset)).toList=[(3,0),(3,1)]:=by kernel_rfl
theorem f_op:((fsOf 51).map fun f=>(f.type,f.offset)).toList=[(3,0),(36,1),(36,3),(3,5),(37,6)]:=by kernel_rfl
theorem u_infs:Try.prog.underlying 23=some (.slice 34):=by kernel_rfl
theorem u_ints:Try.prog.underlying 24=some (.slice 3):=by kernel_rfl
theorem u_strs:Try.prog.underlying 25=some (.slice 9):=by kernel_rfl
theorem u_wrds:Try.prog.underlying 37=some (.slice 36):=by kernel_rfl
theorem u_ops:Try.prog.underlying 48=some (.slice 51):=by kernel_rfl
theorem u_str:Try.prog.underlying 9=some .string:=by kernel_rfl
theorem c_img:Try.prog.cellsOf 27=6:=by kernel_rfl
theorem c_inf:Try.prog.cellsOf 34=4:=by kernel_rfl
theorem c_wrd:Try.prog.cellsOf 36=2:=by kernel_rfl
theorem c_op:Try.prog.cellsOf 51=7:=by kernel_rfl
theorem c_int:Try.prog.cellsOf 3=1:=by kernel_rfl
theorem c_infs:Try.prog.cellsOf 23=1:=by kernel_rfl
theorem c_ints:Try.prog.cellsOf 24=1:=by kernel_rfl
theorem c_strs:Try.prog.cellsOf 25=1:=by kernel_rfl
theorem c_wrds:Try.prog.cellsOf 37=1:=by kernel_rfl
theorem len2 {α:Type} {l:List α} (h:l.length=2):∃ a b,l=[a,b]:=by
 match l,h with
 | [a,b],_=>exact ⟨a,b,rfl⟩
theorem len4 {α:Type} {l:List α} (h:l.length=4):∃ a b c e,l=[a,b,c,e]:=by
 match l,h with
 | [a,b,c,e],_=>exact ⟨a,b,c,e,rfl⟩
theorem len6 {α:Type} {l:List α} (h:l.length=6):∃ a b c e f g,l=[a,b,c,e,f,g]:=by
 match l,h with
 | [a,b,c,e,f,g],_=>exact ⟨a,b,c,e,f,g,rfl⟩
theorem len7 {α:Type} {l:List α} (h:l.length=7):∃ a b c e f g i,l=[a,b,c,e,f,g,i]:=by
 match l,h with
 | [a,b,c,e,f,g,i],_=>exact ⟨a,b,c,e,f,g,i,rfl⟩
structure Op where
 k:Int
 w:Int × Int
 x:Int × Int
 n:Int
 lv:Value
 ys:List (Int × Int)
def Op.cells (o:Op):List Value:=[iv o.k,iv o.w.1,iv o.w.2,iv o.x.1,iv o.x.2,iv o.n,o.lv]
theorem Op.len (o:Op):o.cells.length=7:=rfl
def Op.Q (h:AH) (N:Nat) (o:Op):Prop:=Rds h 2 o.lv o.ys.length (ww o.ys)/\o.ys.length<=N/\rng o.w.1/\rng o.w.2/\rng o.n/\rng o.x.1/\rng o.x.2 /\ ∀ y∈o.ys,rng y.1/\rng y.2
section
variable {H:Type} {h:AH} {N:Nat}
theorem word_of (B:Bulk H) {cs:List Value} {d:DataW H} (hr:Rd' Try.prog h 36 cs d):∃ w:Int × Int,cs=ns (wc w)/\rng w.1/\rng w.2:=by
 obtain ⟨hl,hf⟩:=rdT B u_wrd f_wrd hr;rw[c_wrd] at hl;obtain ⟨a,b,rfl⟩:=len2 hl;obtain ⟨d0,r0,_⟩:=hf 0 _ _ rfl;obtain ⟨d1,r1,_⟩:=hf 1 _ _ rfl;rw[c_int] at r0 r1;obtain ⟨n0,e0,g0⟩:=rdI kt3 r0;obtain ⟨n1,e1,g1⟩:=rdI kt3 r1;simp at e0 e1;subst e0;subst e1;exact ⟨(n0,n1),rfl,g0,g1⟩
theorem words_of (B:Bulk H) {v:Value} {d:DataW H} (hr:Rd' Try.prog h 37 [v] d) (hB:B.f d<=N):∃ ys:List (Int × Int),Rds h 2 v ys.length (ww ys)/\(∀ y∈ys,rng y.1/\rng y.2)/\ys.length<=N :=
 rdRow B (f:=fun x:Int × Int=>ns (wc x)) (Q:=fun y=>rng y.1/\rng y.2) u_wrds (fun x=>rfl) (fun cs d' r _=>by obtain ⟨w,e,g⟩:=word_of B r;exact ⟨w,e,g⟩) hr hB
theorem ints_of (B:Bulk H) {v:Value} {d:DataW H} (hr:Rd' Try.prog h 24 [v] d) (hB:B.f d<=N):∃ ys:List Int,Rds h 1 v ys.length (ns ys)/\(∀ y∈ys,rng y)/\ys.length<=N:=by
 obtain ⟨ys,a,b,c⟩:=rdRow B (f:=fun x:Int=>[iv x]) (Q:=rng) u_ints (fun x=>rfl) (fun cs d' r _=>by obtain ⟨w,e,g⟩:=rdI kt3 r;exact ⟨w,e,g⟩) hr hB;refine ⟨ys,?_,b,c⟩;have:ns ys=ys.flatMap fun x=>[iv x]:=by
  clear a b c
  induction ys with
  | nil=>rfl
  | cons y ys ih=>simp only[ns,Zc,Zn] at ih ⊢;rw[ih];rfl
 rw[this];exact a
theorem texts_of (B:Bulk H) {v:Value} {d:DataW H} (hr:Rd' Try.prog h 25 [v] d) (hB:B.f d<=N):∃ ys:List ByteArray,Rds h 1 v ys.length (sts ys)/\(∀ y∈ys,y.size<=N)/\ys.length<=N:=by
 obtain ⟨ys,a,b,c⟩:=rdRow B (f:=fun x:ByteArray=>[Value.string x]) (Q:=fun y=>y.size<=N) u_strs (fun x=>rfl) (fun cs d' r hb=>by obtain ⟨w,e,g⟩:=rdS B u_str r;exact ⟨w,e,Nat.le_trans g hb⟩) hr hB;refine ⟨ys,?_,b,c⟩;have:sts ys=ys.flatMap fun x=>[Value.string x]:=by
  clear a b c
  induction ys with
  | nil=>rfl
  | cons y ys ih=>simp only[sts,Zc,Zn] at ih ⊢;rw[ih];rfl
 rw[this];exact a
theorem inf_of (B:Bulk H) {cs:List Value} {d:DataW H} (hr:Rd' Try.prog h 34 cs d):∃ w:Inf,cs=ns w.cells/\rng w.k/\rng w.a/\rng w.f/\rng w.c:=by
 obtain ⟨hl,hf⟩:=rdT B u_inf f_inf hr;rw[c_inf] at hl;obtain ⟨a,b,c,e,rfl⟩:=len4 hl;obtain ⟨d0,r0,_⟩:=hf 0 _ _ rfl;obtain ⟨d1,r1,_⟩:=hf 1 _ _ rfl;obtain ⟨d2,r2,_⟩:=hf 2 _ _ rfl;obtain ⟨d3,r3,_⟩:=hf 3 _ _ rfl;rw[c_int] at r0 r1 r2 r3;obtain ⟨n0,e0,g0⟩:=rdI kt3 r0;obtain ⟨n1,e1,g1⟩:=rdI kt3 r1;obtain ⟨n2,e2,g2⟩:=rdI kt3 r2;obtain ⟨n3,e3,g3⟩:=rdI kt3 r3;simp at e0 e1 e2 e3;subst e0;subst e1;subst e2;subst e3;exact ⟨⟨n0,n1,n2,n3⟩,rfl,g0,g1,g2,g3⟩
theorem infs_of (B:Bulk H) {v:Value} {d:DataW H} (hr:Rd' Try.prog h 23 [v] d) (hB:B.f d<=N):∃ ys:List Inf,Rds h 4 v ys.length (rowsOf Inf.cells ys)/\(∀ w∈ys,rng w.k/\rng w.a/\rng w.f/\rng w.c)/\ys.length<=N :=
 rdRow B (f:=fun x:Inf=>ns x.cells) (Q:=fun w=>rng w.k/\rng w.a/\rng w.f/\rng w.c) u_infs (fun x=>rfl) (fun cs d' r _=>by obtain ⟨w,e,g⟩:=inf_of B r;exact ⟨w,e,g⟩) hr hB
structure Given (h:AH) (N:Nat) (C:Cx) (texts:List ByteArray) (vi vc vt vp vk:Value):Prop where
 im:Img h C vi vc vt vp vk
 rt:Rds h 1 vt texts.length (sts texts)
 nt:C.nt=texts.length
 li:C.infos.length<=N
 lc:C.code.length<=N
 lp:C.tops.length<=N
 lk:C.cons.length<=N
 lt:texts.length<=N
 gi:∀ w∈C.infos,rng w.k/\rng w.a/\rng w.f/\rng w.c
 gt:∀ y∈texts,y.size<=N
theorem image_of (B:Bulk H) {cs:List Value} {d:DataW H} (hr:Rd' Try.prog h 27 cs d) (hB:B.f d<=N):∃ C texts vi vc vt vp vk,cs=[vi,vc,vt,vp,iv C.main,vk]/\Given h N C texts vi vc vt vp vk:=by
 obtain ⟨hl,hf⟩:=rdT B u_img f_img hr;rw[c_img] at hl;obtain ⟨a,b,c,e,f,g,rfl⟩:=len6 hl;obtain ⟨d0,r0,b0⟩:=hf 0 _ _ rfl;obtain ⟨d1,r1,b1⟩:=hf 1 _ _ rfl;obtain ⟨d2,r2,b2⟩:=hf 2 _ _ rfl;obtain ⟨d3,r3,b3⟩:=hf 3 _ _ rfl;obtain ⟨d4,r4,b4⟩:=hf 4 _ _ rfl;obtain ⟨d5,r5,b5⟩:=hf 5 _ _ rfl;rw[c_infs] at r0;rw[c_ints] at r1 r3 r5;rw[c_strs] at r2;rw[c_int] at r4;obtain ⟨is,i1,i2,i3⟩:=infs_of B (v:=a) (N:=N) (by simpa using r0) (by omega);obtain ⟨co,c1,c2,c3⟩:=ints_of B (v:=b) (N:=N) (by simpa using r1) (by omega);obtain ⟨tx,t1,t2,t3⟩:=texts_of B (v:=c) (N:=N) (by simpa using r2) (by omega);obtain ⟨tp,p1,p2,p3⟩:=ints_of B (v:=e) (N:=N) (by simpa using r3) (by omega);obtain ⟨m,e4,_⟩:=rdI kt3 r4;obtain ⟨ks,k1,k2,k3⟩:=ints_of B (v:=g) (N:=N) (by simpa using r5) (by omega);simp at e4;subst e4;obtain ⟨ta,tc,ht⟩:=row_shape t1;exact ⟨⟨is,co,tx.length,tp,m,ks⟩,tx,a,b,c,e,g,rfl,⟨i1,c1,⟨ta,tc,ht⟩,p1,k1⟩,t1,rfl,i3,c3,p3,k3,t3,i2,t2⟩
theorem op_of (B:Bulk H) {cs:List Value} {d:DataW H} (hr:Rd' Try.prog h 51 cs d) (hB:B.f d<=N):∃ o:Op,cs=o.cells/\o.Q h N:=by
 obtain ⟨hl,hf⟩:=rdT B u_op f_op hr;rw[c_op] at hl;obtain ⟨a,b,c,e,f,g,i,rfl⟩:=len7 hl;obtain ⟨d0,r0,b0⟩:=hf 0 _ _ rfl;obtain ⟨d1,r1,b1⟩:=hf 1 _ _ rfl;obtain ⟨d2,r2,b2⟩:=hf 2 _ _ rfl;obtain ⟨d3,r3,b3⟩:=hf 3 _ _ rfl;obtain ⟨d4,r4,b4⟩:=hf 4 _ _ rfl;rw[c_int] at r0 r3;rw[c_wrd] at r1 r2;rw[c_wrds] at r4;obtain ⟨n0,e0,g0⟩:=rdI kt3 r0;obtain ⟨w,e1,g1⟩:=word_of B r1;obtain ⟨x,e2,g2⟩:=word_of B r2;obtain ⟨n3,e3,g3⟩:=rdI kt3 r3;obtain ⟨ys,l1,l2,l3⟩:=words_of B (v:=i) (N:=N) (by simpa using r4) (by omega);simp [ns,wc] at e0 e1 e2 e3;obtain ⟨rfl,rfl⟩:=e1;obtain ⟨rfl,rfl⟩:=e2;subst e0;subst e3;exact ⟨⟨n0,w,x,n3,i,ys⟩,rfl,l1,l3,g1.1,g1.2,g3,g2.1,g2.2,l2⟩
theorem ops_of (B:Bulk H) {v:Value} {d:DataW H} (hr:Rd' Try.prog h 48 [v] d) (hB:B.f d<=N):∃ os:List Op,Rds h 7 v os.length (os.flatMap Op.cells)/\(∀ o∈os,o.Q h N)/\os.length<=N :=
 rdRow B (f:=Op.cells) (Q:=fun o=>o.Q h N) u_ops Op.len (fun cs d' r hb=>op_of B r hb) hr hB
end
end Go.S18

namespace Go.S18
open Go Go.Eng Go.Proofs Go.Chk
def fld (ws:List (Int × Int)) (p c:Int):List (Int × Int):=(List.range c.toNat).map fun i:Nat=>gx ws (p+1+(i:Int))
def HS.fcn (S:HS) (hd:Int × Int) (n:Int):Int:=if hd.1=12 then 1 else if hd.1=6 then S.fr hd.2 else if hd.1=10 then 0 else n-1
theorem fld_len (ws:List (Int × Int)) (p c:Int):(fld ws p c).length=c.toNat:=by simp [fld]
theorem fld_get (ws:List (Int × Int)) (p c:Int) (i:Nat):(fld ws p c)[i]?=if i<c.toNat then some (gx ws (p+1+(i:Int))) else none:=by
 unfold fld;rw[Z4]
 by_cases h:i<c.toNat
 ·rw[Zk h,if_pos h];rfl
 ·rw[Zj (by simp;omega),if_neg h];rfl
theorem fld_ext {ws ws':List (Int × Int)} {p p' c:Int} (h:∀ i:Nat,(i:Int)<c->gx ws (p+1+(i:Int))=gx ws' (p'+1+(i:Int))):fld ws p c=fld ws' p' c:=by
 unfold fld;exact List.map_congr_left fun i hi=>h i (by have:=List.mem_range.1 hi;omega)
theorem fcount_eq {S:HS} {p n:Int} (hn:mget p S.begins=some n):S.fcount (4,p)=S.fcn (gx S.now p) n:=by
 unfold HS.fcount HS.fcn HS.count;simp only[hn,Za]
theorem flds_eq {S:HS} {p n:Int} (hn:mget p S.begins=some n):S.flds (4,p)=fld S.now p (S.fcn (gx S.now p) n):=by
 unfold HS.flds fld;rw[fcount_eq hn]
structure Kd (S:HS) (ws:List (Int × Int)) (p n:Int):Prop where
 k:6<=(gx ws p).1/\(gx ws p).1<=12
 k6:(gx ws p).1=6->0<=(gx ws p).2/\(gx ws p).2<S.infos.length/\0<=S.fr (gx ws p).2/\S.fr (gx ws p).2<n
 t6:(gx ws p).1=6->S.ik (gx ws p).2=2->n=S.fr (gx ws p).2+1/\2<=n\/S.fr (gx ws p).2=0/\n=2/\gx ws (p+1)=(1,0)
 k9:(gx ws p).1=9->n=2
 k10:(gx ws p).1=10->n=2/\gx ws (p+1)=(1,0)
 k11:(gx ws p).1=11->(gx ws p).2=n/\2<=n
 k12:(gx ws p).1=12->2<=n
theorem Kd.congr {S S':HS} {ws ws':List (Int × Int)} {p p' n:Int} (k:Kd S ws p n) (hi:S'.infos=S.infos) (h0:gx ws' p'=gx ws p) (h1:2<=n->gx ws' (p'+1)=gx ws (p+1)):Kd S' ws' p' n:=by
 have fr:∀ c,S'.fr c=S.fr c:=fun c=>by unfold HS.fr;rw[hi]
 have ik:∀ c,S'.ik c=S.ik c:=fun c=>by unfold HS.ik;rw[hi]
 refine ⟨by rw[h0];exact k.k,by rw[h0,hi,fr];exact k.k6,?_,by rw[h0];exact k.k9,?_,by rw[h0];exact k.k11,by rw[h0];exact k.k12⟩
 ·rw[h0,fr,ik]
  intro a b
  rcases k.t6 a b with c|⟨c,d,e⟩
  ·exact .inl c
  ·exact .inr ⟨c,d,by rw[h1 (by omega)];exact e⟩
 ·rw[h0]
  intro a;obtain ⟨b,c⟩:=k.k10 a;exact ⟨b,by rw[h1 (by omega)];exact c⟩
theorem Kd.fc {S:HS} {ws:List (Int × Int)} {p n:Int} (k:Kd S ws p n) (hn:1<=n):0<=S.fcn (gx ws p) n/\S.fcn (gx ws p) n<n:=by
 unfold HS.fcn
 split
 ·rename_i e;have:=k.k12 e;omega
 split
 ·rename_i e;have:=k.k6 e;omega
 split
 ·rename_i e;have:=k.k10 e;omega
 ·omega
theorem tiles_apart:∀ {l:List (Int × Int)} {a e:Int},tiles a l e -> ∀ {x y:Int × Int},x∈l->y∈l->x=y\/x.1+x.2<=y.1\/y.1+y.2<=x.1:=by
 intro l
 induction l with
 | nil=>intro a e _ x y hx;exact absurd hx (by simp)
 | cons p l ih =>
   intro a e h x y hx hy;obtain ⟨h1,h2,h3⟩:=h;have low:∀ {a e:Int} {l:List (Int × Int)},tiles a l e -> ∀ z∈l,a<=z.1:=by
    intro a e l
    induction l generalizing a with
    | nil=>intro _ z hz;exact absurd hz (by simp)
    | cons q l ih2 =>
      intro h z hz;obtain ⟨g1,g2,g3⟩:=h
      rcases Zd.1 hz with rfl|hz
      ·omega
      ·have:=ih2 g3 z hz;omega
   rcases Zd.1 hx with rfl|hx1<;>rcases Zd.1 hy with rfl|hy1
   ·exact .inl rfl
   ·have:=low h3 y hy1;exact .inr (.inl (by omega))
   ·have:=low h3 x hx1;exact .inr (.inr (by omega))
   ·exact ih h3 hx1 hy1
theorem tiles_in:∀ {l:List (Int × Int)} {a e:Int},tiles a l e -> ∀ {x:Int × Int},x∈l->a<=x.1/\1<=x.2/\x.1+x.2<=e:=by
 intro l
 induction l with
 | nil=>intro a e _ x hx;exact absurd hx (by simp)
 | cons p l ih =>
   intro a e h x hx;obtain ⟨h1,h2,h3⟩:=h;have:=tiles_le h3
   rcases Zd.1 hx with rfl|hx
   ·exact ⟨by omega,h2,by omega⟩
   ·have:=ih h3 hx;exact ⟨by omega,this.2.1,this.2.2⟩
theorem mem_mget:∀ {l:List (Int × Int)} {a e:Int},tiles a l e -> ∀ {x:Int × Int},x∈l->mget x.1 l=some x.2:=by
 intro l a e h x hx;obtain ⟨l1,l2,rfl⟩:=List.append_of_mem hx;exact (tiles_get h).2
theorem mget_in {k n:Int}:∀ {l:List (Int × Int)},mget k l=some n->(k,n)∈l:=by
 intro l
 induction l with
 | nil=>intro h;cases h
 | cons p l ih =>
   intro h;simp only[mget] at h
   split at h
   ·rename_i e;cases h;subst e;exact List.mem_cons_self
   ·exact List.mem_cons_of_mem _ (ih h)
theorem gx_set {ws:List (Int × Int)} {i j:Int} {x:Int × Int} (hi:0<=i/\i<ws.length):gx (ws.set i.toNat x) j=if j=i then x else gx ws j:=by
 unfold gx;rw[Z2]
 by_cases e:j=i
 ·subst e
  rw[if_pos hi,if_pos rfl];unfold wat;rw[List.getElem?_set_self (by omega)];rfl
 ·rw[if_neg e]
  split
  ·rename_i hj
   unfold wat;rw[List.getElem?_set_ne (by omega)]
  ·rfl
structure Inv (S:HS):Prop where
 inf:∀ i∈S.infos,0<=i.f
 sz:S.size<=1048576
 ln:(S.now.length:Int)<=S.size
 lo:(S.old.length:Int)<=S.size
 tn:tiles 0 S.begins S.now.length
 to:tiles 0 S.oldm S.old.length
 kn:∀ x∈S.begins,Kd S S.now x.1 x.2
 ko:∀ x∈S.oldm,(gx S.old x.1).1=13\/Kd S S.old x.1 x.2
 is:∀ x∈S.begins,(gx S.now x.1).1=12->S.sound (gx S.now (x.1+1))
 tm:∀ w,S.sound w -> ∃ m y,S.fol m w=some y
 tq:∀ w,∃ m r,S.mov m w=some r
theorem Inv.ok {S:HS} (v:Inv S):S.Ok:=by
 refine ⟨fun k n h=>?_,fun k n h h6=>?_⟩
 ·have:=tiles_in v.tn (mget_in h);exact this
 ·have t:=tiles_in v.tn (mget_in h)
  have e:gx S.now k=wat S.now k:=by rw[gx,if_pos (by simp at t;omega)]
  have:=(v.kn _ (mget_in h)).k6 (by simp only;rw[e];exact h6);simp only[e] at this;exact this
theorem Inv.oo {S:HS} (v:Inv S):S.OkOld:=fun k n h=>tiles_in v.to (mget_in h)
theorem sound_mono {S S':HS} (hi:S'.infos=S.infos) (hc:S'.cons=S.cons) (hb:∀ k,(mget k S.begins).isSome=true->(mget k S'.begins).isSome=true) {w:Int × Int} (h:S.sound w):S'.sound w:=by
 rcases h with h|⟨h1,h2⟩
 ·left
  unfold HS.plain HS.cn HS.ik HS.fr at h ⊢;rw[hi,hc];exact h
 ·exact .inr ⟨h1,hb _ h2⟩
theorem plain_congr {S S':HS} (hi:S'.infos=S.infos) (hc:S'.cons=S.cons) (w:Int × Int):S'.plain w ↔ S.plain w:=by
 unfold HS.plain HS.cn HS.ik HS.fr;rw[hi,hc]
theorem fol_congr {S S':HS} (hS:∀ w,S.lies w->((gx S'.now w.2).1=12 ↔ (gx S.now w.2).1=12)/\((gx S.now w.2).1=12->gx S'.now (w.2+1)=gx S.now (w.2+1)/\S.sound (gx S.now (w.2+1)))) :
 ∀ {m:Nat} {w y:Int × Int},S.sound w->S.fol m w=some y->S'.fol m w=some y:=by
 intro m
 induction m with
 | zero=>intro w y _ h;cases h
 | succ m ih =>
   intro w y hs h;rw[HS.fol] at h ⊢
   split at h
   ·rename_i h4
    rw[if_pos h4];have hl:S.lies w:=by
     rcases hs with hp|hl
     ·unfold HS.plain at hp;omega
     ·exact hl
    obtain ⟨h1,h2⟩:=hS w hl
    split at h
    ·rename_i h12
     rw[if_pos (h1.2 h12),(h2 h12).1];exact ih (h2 h12).2 h
    ·rename_i h12;rw[if_neg (fun e=>h12 (h1.1 e))];exact h
   ·rename_i h4;rw[if_neg h4];exact h
theorem mov_some {S S':HS} (hi:S'.infos=S.infos) (hc:S'.cons=S.cons) (hm:S'.oldm=S.oldm) (ho:S'.old=S.old):∀ {m:Nat} {w:Int × Int},(∃ r,S.mov m w=some r) -> ∃ r,S'.mov m w=some r:=by
 intro m
 induction m with
 | zero=>intro w ⟨r,h⟩;cases h
 | succ m ih =>
   intro w ⟨r,h⟩;rw[HS.mov] at h ⊢
   by_cases hp:S.plain w
   ·rw[if_pos ((plain_congr hi hc w).2 hp)];exact ⟨_,rfl⟩
   rw[if_neg (fun e=>hp ((plain_congr hi hc w).1 e)),hm,ho];rw[if_neg hp] at h
   split at h
   ·rename_i c
    rw[if_pos c]
    split at h
    ·rename_i c13;rw[if_pos c13];exact ⟨_,rfl⟩
    ·rename_i c13
     rw[if_neg c13]
     split at h
     ·rename_i c12;rw[if_pos c12];exact ih ⟨r,h⟩
     ·rename_i c12;rw[if_neg c12];split<;>exact ⟨_,rfl⟩
   ·rename_i c;rw[if_neg c];exact ⟨_,rfl⟩
end Go.S18

namespace Go.S18
open Go Go.Eng Go.Proofs Go.Chk
theorem lies_mem {S:HS} {w:Int × Int} (h:S.lies w):∃ n,mget w.2 S.begins=some n/\(w.2,n)∈S.begins:=by
 obtain ⟨n,hn⟩:=Z5.1 h.2;exact ⟨n,hn,mget_in hn⟩
theorem Inv.chain {S:HS} (v:Inv S) {w:Int × Int} (h:S.lies w) (h12:(gx S.now w.2).1=12):S.sound (gx S.now (w.2+1)):=by
 obtain ⟨n,_,hm⟩:=lies_mem h;exact v.is _ hm h12
theorem gx_zero {zs:List (Int × Int)} (h:1<=zs.length):gx zs 0=wat zs 0:=by rw[gx,if_pos (by omega)]
theorem gx_out {ws:List (Int × Int)} {i:Int} (h:¬ (0<=i/\i<ws.length)):gx ws i=(0,0):=by rw[gx,if_neg h]
theorem gx_laid {a c:List (Int × Int)} {j:Int} (h0:0<=j) (h:j<c.length):gx (a++c) ((a.length:Int)+j)=gx c j:=by
 have:=gx_app2 (a:=a) (c:=c) (j:=j.toNat) (by omega);rw[show ((j.toNat:Nat):Int)=j by omega] at this;rw[this,gx,if_pos ⟨h0,h⟩]
theorem mget_app_some {k n:Int} {l m:List (Int × Int)} (h:mget k l=some n):mget k (l++m)=some n:=by rw[mget_app,h]
theorem Inv.laid {S:HS} (v:Inv S) {zs:List (Int × Int)} (h1:1<=zs.length) (hs:(S.now.length:Int)+zs.length<=S.size) (hk:Kd S zs 0 zs.length) (h12:(gx zs 0).1≠12):Inv (S.laid zs):=by
 have hnew:gx (S.now++zs) S.now.length=gx zs 0:=by have:=gx_laid (a:=S.now) (c:=zs) (j:=0) (by omega) (by omega);simpa using this
 have hold:∀ x∈S.begins,∀ j,0<=j->j<x.2->gx (S.now++zs) (x.1+j)=gx S.now (x.1+j):=fun x hx j h0 hj=>by
  have:=tiles_in v.tn hx;exact gx_app (by omega) (by omega)
 have smono:∀ {w},S.sound w->(S.laid zs).sound w:=fun h=>sound_mono (S:=S) (S':=S.laid zs) rfl rfl (fun k hk=>by
  obtain ⟨n,hn⟩:=Z5.1 hk
  show (mget k (S.begins++_)).isSome=true
  rw[mget_app_some hn];rfl) h
 refine ⟨v.inf,v.sz,?_,v.lo,tiles_laid v.tn h1,v.to,?_,?_,?_,?_,fun w=>?_⟩
 ·show ((S.now++zs).length:Int)<=S.size
  rw[Zl];omega
 ·intro x hx
  rcases Zh.1 (show x∈S.begins++[((S.now.length:Int),(zs.length:Int))] from hx) with hx|hx
  ·have t:=tiles_in v.tn hx
   refine (v.kn x hx).congr (S':=S.laid zs) rfl ?_ (fun h2=>hold x hx 1 (by omega) (by omega));have:=hold x hx 0 (by omega) (by omega)
   show gx (S.now++zs) x.1=gx S.now x.1
   simpa using this
  ·rw[Zb] at hx
   subst hx;exact hk.congr (S':=S.laid zs) rfl hnew (fun h2=>gx_laid (a:=S.now) (c:=zs) (by omega) (by omega))
 ·intro x hx
  have t:=v.ko x hx
  rcases t with t|t
  ·exact .inl t
  ·exact .inr (t.congr (S':=S.laid zs) rfl rfl (fun _=>rfl))
 ·intro x hx e
  rcases Zh.1 (show x∈S.begins++[((S.now.length:Int),(zs.length:Int))] from hx) with hx|hx
  ·have t:=tiles_in v.tn hx
   have e0:=hold x hx 0 (by omega) (by omega);simp only[Z1] at e0;have e12:(gx S.now x.1).1=12:=by rw[<- e0];exact e
   have hn2:=(v.kn x hx).k12 e12;have e1:=hold x hx 1 (by omega) (by omega)
   show (S.laid zs).sound (gx (S.now++zs) (x.1+1))
   rw[e1];exact smono (v.is x hx e12)
  ·rw[Zb] at hx
   subst hx;exact absurd (by rw[<- hnew];exact e) h12
 ·intro w hw
  by_cases hs0:S.sound w
  ·obtain ⟨m,y,hm⟩:=v.tm w hs0
   refine ⟨m,y,fol_congr (S:=S) (S':=S.laid zs) (fun w' hl=>?_) hs0 hm⟩;obtain ⟨n,_,hmm⟩:=lies_mem hl;have t:=tiles_in v.tn hmm;have e0:=hold _ hmm 0 (by omega) (by omega);simp only[Z1] at e0;refine ⟨by show (gx (S.now++zs) w'.2).1=12 ↔ _;rw[e0],fun h12=>⟨?_,v.chain hl h12⟩⟩;have hn2:=(v.kn _ hmm).k12 h12;exact hold _ hmm 1 (by omega) (by omega)
  ·have h4:w.1=4/\w.2=S.now.length:=by
    rcases hw with hp|⟨h4,hb⟩
    ·exact absurd (.inl hp) hs0
    ·refine ⟨h4,?_⟩
     have:(mget w.2 (S.begins++[((S.now.length:Int),(zs.length:Int))])).isSome=true:=hb;rw[mget_app] at this;cases hg:mget w.2 S.begins with
     | some n=>exact absurd (.inr ⟨h4,by rw[hg];rfl⟩) hs0
     | none =>
       rw[hg] at this;simp only[mget] at this
       split at this
       ·rename_i e;exact e.symm
       ·cases this
   refine ⟨1,w,?_⟩;rw[HS.fol,if_pos h4.1,if_neg]
   show ¬ (gx (S.now++zs) w.2).1=12
   rw[h4.2,hnew];exact h12
 ·obtain ⟨m,r,h⟩:=v.tq w
  obtain ⟨r',h'⟩:=mov_some (S:=S) (S':=S.laid zs) rfl rfl rfl rfl ⟨r,h⟩;exact ⟨m,r',h'⟩
theorem kd_all {S:HS} {hd:Int × Int} {ys:List (Int × Int)} (f:S.fits hd ys):Kd S (S.all hd ys) 0 ((S.all hd ys).length:Int)/\(gx (S.all hd ys) 0)=hd:=by
 have hl:=all_len S hd ys;have e0:gx (S.all hd ys) 0=hd:=by rw[gx_zero (by omega)];exact all_zero S hd ys
 have hpad:S.pad hd ys.length->(S.all hd ys).length=ys.length+2:=fun h=>by unfold HS.all;rw[if_pos h];simp
 have hnp:¬ S.pad hd ys.length->(S.all hd ys).length=ys.length+1:=fun h=>by unfold HS.all;rw[if_neg h];simp
 have e1:S.pad hd ys.length->ys=[]->gx (S.all hd ys) (0+1)=(1,0):=fun h e=>by unfold HS.all;rw[if_pos h,e];rfl
 refine ⟨⟨by rw[e0];have:=fits_kind f;omega,?_,?_,?_,?_,?_,?_⟩,e0⟩
 ·rw[e0];intro h6
  rcases f with ⟨a,b,c,d⟩|f|f|f|f
  ·exact ⟨by omega,by omega,by omega,by omega⟩
  all_goals omega
 ·rw[e0];intro h6 hik
  rcases f with ⟨a,b,c,d⟩|f|f|f|f
  ·by_cases hz:ys.length=0
   ·have hp:S.pad hd ys.length:=.inl ⟨a,b,c,hz,hik⟩
    exact .inr ⟨by omega,by have:=hpad hp;omega,e1 hp (Z8.1 hz)⟩
   ·have hp:¬ S.pad hd ys.length:=by unfold HS.pad;omega
    have:=hnp hp;exact .inl ⟨by omega,by omega⟩
  all_goals omega
 ·rw[e0];intro h9
  have hp:¬ S.pad hd ys.length:=by unfold HS.pad;omega
  have:=hnp hp
  rcases f with f|f|f|⟨_,_,_,d,_⟩|f<;>omega
 ·rw[e0];intro h10
  have hp:S.pad hd ys.length:=.inr h10;have h1:=hpad hp;have hz:ys.length=0:=by rcases f with f|f|f|f|f<;>omega
  exact ⟨by omega,e1 hp (Z8.1 hz)⟩
 ·rw[e0];intro h;have:=fits_kind f;omega
 ·rw[e0];intro h;have:=fits_kind f;omega
theorem Inv.put {S:HS} (v:Inv S) (hd:Int × Int) (ys:List (Int × Int)):Inv (S.put hd ys).2.2:=by
 unfold HS.put
 split
 ·rename_i c
  split
  ·exact v
  ·rename_i c2
   obtain ⟨k,e⟩:=kd_all c.1;have hl:=all_len S hd ys;exact v.laid (by omega) (by omega) k (by rw[e];have:=fits_kind c.1;omega)
 ·exact v
theorem Inv.globals {S:HS} (v:Inv S) (g:List (Int × Int)):Inv { S with globals:=g } :=
 ⟨v.inf,v.sz,v.ln,v.lo,v.tn,v.to,fun x hx=>(v.kn x hx).congr rfl rfl (fun _=>rfl),fun x hx=>(v.ko x hx).imp id (fun k=>k.congr rfl rfl (fun _=>rfl)),v.is,fun w hw=>by
  obtain ⟨m,y,h⟩:=v.tm w hw;exact ⟨m,y,fol_congr (S:=S) (S':={ S with globals:=g }) (fun w' hl=>⟨Iff.rfl,fun h12=>⟨rfl,v.chain hl h12⟩⟩) hw h⟩,fun w=>by
  obtain ⟨m,r,h⟩:=v.tq w;obtain ⟨r',h'⟩:=mov_some (S:=S) (S':={ S with globals:=g }) rfl rfl rfl rfl ⟨r,h⟩;exact ⟨m,r',h'⟩⟩
theorem Inv.setg {S:HS} (v:Inv S) (ys:List (Int × Int)):Inv (S.setg ys).2:=by
 unfold HS.setg;split
 ·exact v.globals ys
 ·exact v
theorem Inv.gl {S S':HS} (v:Inv S) {k:Nat} (h:S.gl k=some S'):Inv S':=by
 unfold HS.gl at h
 split at h
 ·split at h
  ·cases h;exact (v.put _ _).globals _
  ·cases h
 ·cases h;exact v.globals _
theorem Inv.gls {S:HS} (v:Inv S):∀ {n:Nat} {S':HS},S.gls n=some S'->Inv S':=by
 intro n
 induction n with
 | zero=>intro S' h;cases h;exact v
 | succ n ih =>
   intro S' h;rw[HS.gls] at h;obtain ⟨T,h1,h2⟩:=Option.bind_eq_some_iff.1 h;exact (ih h1).gl h2
theorem Inv.start {C:Cx} {texts:List ByteArray} {words:Int} (hf:∀ i∈C.infos,0<=i.f) (h0:0<=words) (h1:words<=1048576):Inv (HS.start C texts words):=by
 refine ⟨hf,h1,h0,h0,rfl,rfl,fun x hx=>absurd hx (by simp [HS.start]),fun x hx=>absurd hx (by simp [HS.start]),fun x hx=>absurd hx (by simp [HS.start]),fun w hw=>⟨1,w,?_⟩,fun w=>⟨1,?_⟩⟩
 ·rw[HS.fol]
  split
  ·rw[if_neg];show ¬ (gx [] w.2).1=12
   rw[gx_out (by simp)];simp
  ·rfl
 ·rw[HS.mov]
  split
  ·exact ⟨_,rfl⟩
  ·rw[if_neg (by simp [HS.start,mget])];exact ⟨_,rfl⟩
theorem set_other {S:HS} (v:Inv S) {p n i:Int} (hm:(p,n)∈S.begins) (hi:p<=i/\i<p+n) (x:Int × Int):∀ y∈S.begins,y≠(p,n) -> ∀ j,0<=j->j<y.2->gx (S.now.set i.toNat x) (y.1+j)=gx S.now (y.1+j):=by
 intro y hy hne j h0 hj;have t:=tiles_in v.tn hm;have ty:=tiles_in v.tn hy;simp only at t;rw[gx_set (by omega),if_neg]
 rcases tiles_apart v.tn hm hy with e|e|e
 ·exact absurd e.symm hne
 ·simp only at e;omega
 ·simp only at e;omega
theorem Inv.setw {S:HS} (v:Inv S) {p n i:Int} {x:Int × Int} (hm:(p,n)∈S.begins) (hi:p<=i/\i<p+n) (hk:Kd S (S.now.set i.toNat x) p n) (his:(gx (S.now.set i.toNat x) p).1=12->S.sound (gx (S.now.set i.toNat x) (p+1)))
 (htm:∀ w,S.sound w -> ∃ m y,(S.setw i x).fol m w=some y):Inv (S.setw i x):=by
 have ho:=set_other v hm hi x;refine ⟨v.inf,v.sz,?_,v.lo,?_,v.to,fun y hy=>?_,fun y hy=>?_,fun y hy h12=>?_,htm,fun w=>?_⟩
 ·show ((S.now.set i.toNat x).length:Int)<=S.size
  rw[Z2];exact v.ln
 ·show tiles 0 S.begins ((S.now.set i.toNat x).length:Int)
  rw[Z2];exact v.tn
 ·by_cases e:y=(p,n)
  ·subst e;exact hk.congr (S':=S.setw i x) rfl rfl (fun _=>rfl)
  ·have ty:=tiles_in v.tn hy
   refine (v.kn y hy).congr (S':=S.setw i x) rfl ?_ (fun h2=>ho y hy e 1 (by omega) (by omega));have:=ho y hy e 0 (by omega) (by omega)
   show gx (S.now.set i.toNat x) y.1=gx S.now y.1
   simpa using this
 ·exact (v.ko y hy).imp id (fun k=>k.congr rfl rfl (fun _=>rfl))
 ·by_cases e:y=(p,n)
  ·subst e;exact his h12
  ·have ty:=tiles_in v.tn hy
   have e0:=ho y hy e 0 (by omega) (by omega);simp only[Z1] at e0;have h12':(gx S.now y.1).1=12:=by rw[<- e0];exact h12
   have:=(v.kn y hy).k12 h12';have e1:=ho y hy e 1 (by omega) (by omega)
   show S.sound (gx (S.now.set i.toNat x) (y.1+1))
   rw[e1];exact v.is y hy h12'
 ·obtain ⟨m,r,h⟩:=v.tq w
  obtain ⟨r',h'⟩:=mov_some (S:=S) (S':=S.setw i x) rfl rfl rfl rfl ⟨r,h⟩;exact ⟨m,r',h'⟩
end Go.S18

namespace Go.S18
open Go Go.Eng Go.Proofs Go.Chk
theorem tm_same {S:HS} (v:Inv S) {p n i:Int} {x:Int × Int} (hm:(p,n)∈S.begins) (hi:p<=i/\i<p+n) (hd:(gx (S.now.set i.toNat x) p).1=12 ↔ (gx S.now p).1=12) (ht:(gx S.now p).1=12->gx (S.now.set i.toNat x) (p+1)=gx S.now (p+1)) :
 ∀ w,S.sound w -> ∃ m y,(S.setw i x).fol m w=some y:=by
 intro w hw;obtain ⟨m,y,h⟩:=v.tm w hw;refine ⟨m,y,fol_congr (S:=S) (S':=S.setw i x) (fun w' hl=>?_) hw h⟩;obtain ⟨n',hn',hm'⟩:=lies_mem hl
 by_cases e:(w'.2,n')=(p,n)
 ·have e2:w'.2=p:=congrArg Prod.fst e
  rw[e2];exact ⟨hd,fun h12=>⟨ht h12,by have:=v.chain hl (by rw[e2];exact h12);rw[e2] at this;exact this⟩⟩
 ·have ho:=set_other v hm hi x _ hm' e
  have ty:=tiles_in v.tn hm';have e0:=ho 0 (by omega) (by omega);simp only[Z1] at e0;refine ⟨by show (gx (S.now.set i.toNat x) w'.2).1=12 ↔ _;rw[e0],fun h12=>⟨?_,v.chain hl h12⟩⟩;have:=(v.kn _ hm').k12 h12;exact ho 1 (by omega) (by omega)
theorem lies4 {S:HS} {w:Int × Int} (h:S.lies w):w=(4,w.2):=Prod.ext h.1 rfl
theorem count_fcn {S:HS} {w:Int × Int} {n:Int} (hn:mget w.2 S.begins=some n) (h12:(gx S.now w.2).1≠12):S.count w (S.hd w)=S.fcn (gx S.now w.2) n:=by
 unfold HS.count HS.fcn HS.hd;rw[if_neg h12,hn];rfl
theorem sete_cases {S:HS} (v:Inv S) (w:Int × Int) (k:Int) (x:Int × Int) :
 (∃ e,S.sete w k x=(e,S)/\((e=1 /\ ¬ (S.lies w/\S.sound x))\/(e=2/\S.lies w/\S.sound x/\(k<0\/(gx S.now w.2).1=9\/(gx S.now w.2).1=12 \/ ∃ n,mget w.2 S.begins=some n/\S.fcn (gx S.now w.2) n<=k)))) \/
 (∃ n,S.lies w/\S.sound x/\mget w.2 S.begins=some n/\(w.2,n)∈S.begins/\0<=k/\(gx S.now w.2).1≠9/\(gx S.now w.2).1≠12/\k<S.fcn (gx S.now w.2) n/\w.2+1+k<w.2+n/\0<=w.2/\w.2+n<=S.now.length/\S.sete w k x=(0,S.setw (w.2+1+k) x)):=by
 by_cases hc:S.lies w/\S.sound x
 case neg=>exact .inl ⟨1,by rw[HS.sete,if_neg hc],.inl ⟨rfl,hc⟩⟩
 obtain ⟨n,hn,hm⟩:=lies_mem hc.1;have t:=tiles_in v.tn hm;have kd:=v.kn _ hm;simp only at t kd;have fc:=kd.fc t.2.1
 by_cases h12:(gx S.now w.2).1=12
 ·exact .inl ⟨2,by rw[HS.sete,if_pos hc,if_pos (.inr (.inr (.inl h12)))],.inr ⟨rfl,hc.1,hc.2,.inr (.inr (.inl h12))⟩⟩
 have hcnt:=count_fcn hn h12
 by_cases hr:k<0\/(S.hd w).1=9\/(S.hd w).1=12\/S.count w (S.hd w)<=k
 ·refine .inl ⟨2,by rw[HS.sete,if_pos hc,if_pos hr],.inr ⟨rfl,hc.1,hc.2,?_⟩⟩
  rcases hr with h|h|h|h
  ·exact .inl h
  ·exact .inr (.inl h)
  ·exact .inr (.inr (.inl h))
  ·exact .inr (.inr (.inr ⟨n,hn,by rw[<- hcnt];exact h⟩))
 ·have hr':=hr
  rw[hcnt] at hr;have e9:(gx S.now w.2).1≠9:=fun e=>hr (.inr (.inl e))
  refine .inr ⟨n,hc.1,hc.2,hn,hm,by omega,e9,h12,by omega,by omega,t.1,t.2.2,?_⟩;rw[HS.sete,if_pos hc,if_neg hr',HS.setp,if_pos (by omega)]
theorem Inv.sete {S:HS} (v:Inv S) (w:Int × Int) (k:Int) (x:Int × Int):Inv (S.sete w k x).2:=by
 rcases sete_cases v w k x with ⟨e,h,_⟩|⟨n,hl,hx,hn,hm,h0,h9,h12,hk,hi,g0,g1,h⟩
 ·rw[h];exact v
 rw[h];have kd:Kd S S.now w.2 n:=v.kn _ hm;have e0:gx (S.now.set (w.2+1+k).toNat x) w.2=gx S.now w.2:=by rw[gx_set (by omega),if_neg (by omega)]
 have fcn6:(gx S.now w.2).1=6->S.fcn (gx S.now w.2) n=S.fr (gx S.now w.2).2:=fun e=>by unfold HS.fcn;rw[if_neg h12,if_pos e]
 have fcn10:(gx S.now w.2).1=10->S.fcn (gx S.now w.2) n=0:=fun e=>by unfold HS.fcn;rw[if_neg h12,if_neg (by omega),if_pos e]
 refine v.setw hm (by omega) ⟨by rw[e0];exact kd.k,by rw[e0];exact kd.k6,?_,by rw[e0];exact kd.k9,?_,by rw[e0];exact kd.k11,by rw[e0];exact kd.k12⟩ (fun e=>absurd (by rw[<- e0];exact e) h12) (tm_same v hm (by omega) (by rw[e0]) (fun e=>absurd e h12))
 ·rw[e0];intro a b
  rcases kd.t6 a b with c|⟨c,d,_⟩
  ·exact .inl c
  ·have:=fcn6 a;omega
 ·rw[e0];intro a
  have:=fcn10 a;omega
def holeC (S:HS) (w:Int × Int):Prop:=S.lies w/\((gx S.now w.2).1=9\/(gx S.now w.2).1=10\/((gx S.now w.2).1=6/\S.ik (gx S.now w.2).2=2))
theorem hole_cases {S:HS} (v:Inv S) (w:Int × Int) :
 (S.hole w=(1,S) /\ ¬ holeC S w)\/(∃ n,holeC S w/\mget w.2 S.begins=some n/\(w.2,n)∈S.begins/\2<=n/\0<=w.2/\w.2+n<=S.now.length/\S.hole w=(0,S.setw w.2 (11,n))):=by
 by_cases hc:holeC S w
 case neg=>exact .inl ⟨by rw[HS.hole];exact if_neg hc,hc⟩
 obtain ⟨n,hn,hm⟩:=lies_mem hc.1;have t:=tiles_in v.tn hm;have kd:=v.kn _ hm;simp only at t kd;refine .inr ⟨n,hc,hn,hm,?_,t.1,t.2.2,?_⟩
 ·rcases hc.2 with e|e|⟨e,e2⟩
  ·have:=kd.k9 e;omega
  ·have:=kd.k10 e;omega
  ·rcases kd.t6 e e2 with c|c<;>omega
 ·rw[HS.hole]
  refine (if_pos hc).trans ?_;rw[hn,Za,HS.setp,if_pos (by omega)]
theorem Inv.hole {S:HS} (v:Inv S) (w:Int × Int):Inv (S.hole w).2:=by
 rcases hole_cases v w with ⟨h,_⟩|⟨n,hc,hn,hm,h2,g0,g1,h⟩
 ·rw[h];exact v
 rw[h];have e0:gx (S.now.set w.2.toNat (11,n)) w.2=(11,n):=by rw[gx_set (by omega),if_pos rfl]
 have h12:(gx S.now w.2).1≠12:=by rcases hc.2 with e|e|⟨e,_⟩<;>omega
 refine v.setw hm (by omega) ⟨by rw[e0];simp,?_,?_,?_,?_,?_,?_⟩ (fun e=>by rw[e0] at e;cases e) (tm_same v hm (by omega) (by rw[e0];exact ⟨fun e=>(by cases e),fun e=>absurd e h12⟩) (fun e=>absurd e h12))
 all_goals (rw[e0];intro e)
 ·cases e
 ·cases e
 ·cases e
 ·cases e
 ·exact ⟨rfl,h2⟩
 ·cases e
def becC (S:HS) (w x y:Int × Int):Prop:=S.lies w/\(gx S.now w.2).1=11/\S.sound x/\y≠w
def HS.bec (S:HS) (w x:Int × Int):HS:=(S.setw w.2 (12,0)).setw (w.2+1) x
theorem become_cases {S:HS} (v:Inv S) (w x y:Int × Int) :
 (S.become w x y=(1,S) /\ ¬ becC S w x y)\/(∃ n,becC S w x y/\mget w.2 S.begins=some n/\(w.2,n)∈S.begins/\2<=n/\0<=w.2/\w.2+n<=S.now.length/\S.become w x y=(0,S.bec w x)):=by
 by_cases hc:becC S w x y
 case neg=>exact .inl ⟨by rw[HS.become];exact if_neg hc,hc⟩
 obtain ⟨n,hn,hm⟩:=lies_mem hc.1;have t:=tiles_in v.tn hm;have kd:=(v.kn _ hm).k11 hc.2.1;simp only at t kd;refine .inr ⟨n,hc,hn,hm,kd.2,t.1,t.2.2,?_⟩;have e1:S.setp w.2 (12,0)=(0,S.setw w.2 (12,0)):=by rw[HS.setp,if_pos (by omega)]
 rw[HS.become];refine (if_pos hc).trans ?_;rw[e1];have e2:(0:Int)<=w.2+1/\w.2+1<(S.setw w.2 (12,0)).now.length:=by
  show _/\_<((S.now.set w.2.toNat (12,0)).length:Int)
  rw[Z2];omega
 show (S.setw w.2 (12,0)).setp (w.2+1) x=_
 rw[HS.setp,if_pos e2];rfl
theorem bec_at {S:HS} {w x:Int × Int} {n:Int} (h2:2<=n) (g0:0<=w.2) (g1:w.2+n<=S.now.length):gx (S.bec w x).now w.2=(12,0)/\gx (S.bec w x).now (w.2+1)=x /\ ∀ j,j≠w.2->j≠w.2+1->gx (S.bec w x).now j=gx S.now j:=by
 have hl:w.2+1<(S.now.set w.2.toNat ((12,0):Int × Int)).length:=by rw[Z2];omega
 have e:∀ j,gx (S.bec w x).now j=if j=w.2+1 then x else if j=w.2 then (12,0) else gx S.now j:=fun j=>by
  show gx ((S.now.set w.2.toNat (12,0)).set (w.2+1).toNat x) j=_
  rw[gx_set ⟨by omega,hl⟩,gx_set (by omega)]
 refine ⟨by rw[e,if_neg (by omega),if_pos rfl],by rw[e,if_pos rfl],fun j h1 h3=>by rw[e,if_neg h3,if_neg h1]⟩
theorem bec_other {S:HS} (v:Inv S) {w x:Int × Int} {n:Int} (hm:(w.2,n)∈S.begins) (h2:2<=n):∀ y∈S.begins,y≠(w.2,n) -> ∀ j,0<=j->j<y.2->gx (S.bec w x).now (y.1+j)=gx S.now (y.1+j):=by
 intro y hy hne j h0 hj;have t:=tiles_in v.tn hm;have ty:=tiles_in v.tn hy;simp only at t;refine (bec_at h2 t.1 t.2.2).2.2 _ ?_ ?_
 all_goals
  rcases tiles_apart v.tn hm hy with e|e|e
  ·exact absurd e.symm hne
  ·simp only at e;omega
  ·simp only at e;omega
theorem bec_tm {S:HS} (v:Inv S) {w x y:Int × Int} {n mx:Nat} {k:Int} (hc:becC S w x y) (hy:S.fol mx x=some y) (hm:(w.2,k)∈S.begins) (h2:2<=k):∀ z,S.sound z -> ∃ m u,(S.bec w x).fol m z=some u:=by
 have t:=tiles_in v.tn hm;simp only at t;obtain ⟨b0,b1,_⟩:=bec_at (x:=x) h2 t.1 t.2.2;have away:∀ (m:Nat) (z u:Int × Int),S.sound z->S.fol m z=some u->u≠w->(S.bec w x).fol m z=some u:=by
  intro m
  induction m with
  | zero=>intro z u _ h;cases h
  | succ m ih =>
    intro z u hs h hu;rw[HS.fol] at h ⊢
    split at h
    ·rename_i h4
     rw[if_pos h4];have hl:S.lies z:=by
      rcases hs with hp|hl
      ·unfold HS.plain at hp;omega
      ·exact hl
     obtain ⟨n',hn',hm'⟩:=lies_mem hl
     by_cases e:(z.2,n')=(w.2,k)
     ·exfalso
      have e2:z.2=w.2:=congrArg Prod.fst e;rw[e2,if_neg (by rw[hc.2.1];decide)] at h;cases h;exact hu (by rw[lies4 hl,lies4 hc.1,e2])
     ·have ho:=bec_other (x:=x) v hm h2 _ hm' e
      have ty:=tiles_in v.tn hm';have e0:=ho 0 (by omega) (by omega);simp only[Z1] at e0;rw[e0]
      split at h
      ·rename_i h12
       have:=(v.kn _ hm').k12 h12;have e1:=ho 1 (by omega) (by omega);rw[if_pos h12,e1];exact ih _ u (v.chain hl h12) h hu
      ·rename_i h12;rw[if_neg h12];exact h
    ·rename_i h4;rw[if_neg h4];exact h
 have hx:=away mx x y hc.2.2.1 hy hc.2.2.2;have all:∀ (m:Nat) (z u:Int × Int),S.sound z->S.fol m z=some u -> ∃ m' u',(S.bec w x).fol m' z=some u':=by
  intro m
  induction m with
  | zero=>intro z u _ h;cases h
  | succ m ih =>
    intro z u hs h;rw[HS.fol] at h
    split at h
    ·rename_i h4
     have hl:S.lies z:=by
      rcases hs with hp|hl
      ·unfold HS.plain at hp;omega
      ·exact hl
     obtain ⟨n',hn',hm'⟩:=lies_mem hl
     by_cases e:(z.2,n')=(w.2,k)
     ·have e2:z.2=w.2:=congrArg Prod.fst e
      refine ⟨mx+1,y,?_⟩;rw[HS.fol,if_pos h4,e2,b0,if_pos rfl,b1];exact hx
     ·have ho:=bec_other (x:=x) v hm h2 _ hm' e
      have ty:=tiles_in v.tn hm';have e0:=ho 0 (by omega) (by omega);simp only[Z1] at e0
      split at h
      ·rename_i h12
       have:=(v.kn _ hm').k12 h12;have e1:=ho 1 (by omega) (by omega);obtain ⟨m',u',h'⟩:=ih _ u (v.chain hl h12) h;refine ⟨m'+1,u',?_⟩;rw[HS.fol,if_pos h4,e0,if_pos h12,e1];exact h'
      ·rename_i h12
       refine ⟨1,z,?_⟩;rw[HS.fol,if_pos h4,e0,if_neg h12]
    ·rename_i h4
     refine ⟨1,z,?_⟩;rw[HS.fol,if_neg h4]
 intro z hz;obtain ⟨m,u,h⟩:=v.tm z hz;exact all m z u hz h
theorem Inv.bec {S:HS} (v:Inv S) {w x y:Int × Int} {mx:Nat} {k:Int} (hc:becC S w x y) (hy:S.fol mx x=some y) (hm:(w.2,k)∈S.begins) (h2:2<=k):Inv (S.bec w x):=by
 have t:=tiles_in v.tn hm;simp only at t;obtain ⟨b0,b1,_⟩:=bec_at (x:=x) h2 t.1 t.2.2;have hlen:(S.bec w x).now.length=S.now.length:=by
  show ((S.now.set w.2.toNat (12,0)).set (w.2+1).toNat x).length=_
  rw[Z2,Z2]
 have ho:=bec_other (x:=x) v hm h2;refine ⟨v.inf,v.sz,by rw[hlen];exact v.ln,v.lo,by rw[hlen];exact v.tn,v.to,fun z hz=>?_,fun z hz=>(v.ko z hz).imp id (fun k=>k.congr rfl rfl (fun _=>rfl)),fun z hz h12=>?_,bec_tm (n:=0) v hc hy hm h2,fun z=>?_⟩
 ·by_cases e:z=(w.2,k)
  ·subst e
   refine ⟨by rw[b0];simp,?_,?_,?_,?_,?_,?_⟩
   all_goals (rw[b0];intro e)
   ·cases e
   ·cases e
   ·cases e
   ·cases e
   ·cases e
   ·exact h2
  ·have tz:=tiles_in v.tn hz
   refine (v.kn z hz).congr (S':=S.bec w x) rfl ?_ (fun h2=>ho z hz e 1 (by omega) (by omega));have:=ho z hz e 0 (by omega) (by omega)
   simpa using this
 ·by_cases e:z=(w.2,k)
  ·subst e;rw[b1];exact hc.2.2.1
  ·have tz:=tiles_in v.tn hz
   have e0:=ho z hz e 0 (by omega) (by omega);simp only[Z1] at e0;have h12':(gx S.now z.1).1=12:=by rw[<- e0];exact h12
   have:=(v.kn z hz).k12 h12';rw[ho z hz e 1 (by omega) (by omega)];exact v.is z hz h12'
 ·obtain ⟨m,r,h⟩:=v.tq z
  obtain ⟨r',h'⟩:=mov_some (S:=S) (S':=S.bec w x) rfl rfl rfl rfl ⟨r,h⟩;exact ⟨m,r',h'⟩
theorem Inv.flip {S:HS} (v:Inv S):Inv S.flip:=by
 have nol:∀ w,¬ S.flip.lies w:=fun w h=>by have h2:=h.2;simp [HS.flip,mget] at h2
 refine ⟨v.inf,v.sz,?_,v.ln,rfl,v.tn,fun x hx=>absurd hx (by simp [HS.flip]),fun x hx=>.inr ((v.kn x hx).congr rfl rfl (fun _=>rfl)),fun x hx=>absurd hx (by simp [HS.flip]),fun w hw=>⟨1,w,?_⟩,fun w=>?_⟩
 ·have:=v.ln;show ((0:Nat):Int)<=S.size;omega
 ·have hp:S.flip.plain w:=hw.resolve_right (nol w)
  have:w.1≠4:=by unfold HS.plain at hp;omega
  rw[HS.fol,if_neg this]
 ·have all:∀ (m:Nat) (w y:Int × Int),S.sound w->S.fol m w=some y -> ∃ r,S.flip.mov m w=some r:=by
   intro m
   induction m with
   | zero=>intro w y _ h;cases h
   | succ m ih =>
     intro w y hs h;rw[HS.mov]
     by_cases hp:S.flip.plain w
     ·rw[if_pos hp];exact ⟨_,rfl⟩
     rw[if_neg hp];have hl:S.lies w:=hs.resolve_left (fun e=>hp ((plain_congr rfl rfl w).2 e));rw[if_pos (show w.1=4/\(mget w.2 S.flip.oldm).isSome=true from hl)];rw[HS.fol,if_pos hl.1] at h
     show ∃ r,(if (gx S.now w.2).1=13 then _ else if (gx S.now w.2).1=12 then _ else _)=some r
     split
     ·exact ⟨_,rfl⟩
     split
     ·rename_i h12
      rw[if_pos h12] at h;exact ih _ y (v.chain hl h12) h
     ·split<;>exact ⟨_,rfl⟩
  by_cases hs:S.sound w
  ·obtain ⟨m,y,h⟩:=v.tm w hs
   obtain ⟨r,h'⟩:=all m w y hs h;exact ⟨m,r,h'⟩
  ·refine ⟨1,?_⟩
   have n1:¬ (w.1=4/\(mget w.2 S.flip.oldm).isSome=true):=fun e=>hs (.inr e)
   rw[HS.mov,if_neg (fun e=>hs (.inl ((plain_congr (S:=S) (S':=S.flip) rfl rfl w).1 e))),if_neg n1];exact ⟨_,rfl⟩
theorem owords_at {S:HS} {w:Int × Int} {n:Int} (hn:mget w.2 S.oldm=some n) {j:Int} (h0:0<=j) (h1:j<n):gx (S.owords w) j=gx S.old (w.2+j):=by
 unfold HS.owords;rw[hn,Za,gx,if_pos ⟨h0,by simp;omega⟩,wat,Z4,Zk (by omega)];simp only[Option.map_some,Za];rw[show ((j.toNat:Nat):Int)=j by omega]
theorem owords_len {S:HS} {w:Int × Int} {n:Int} (hn:mget w.2 S.oldm=some n) (h0:0<=n):((S.owords w).length:Int)=n:=by
 unfold HS.owords;rw[hn];simp;omega
theorem old_other {S:HS} (v:Inv S) {p n:Int} (hm:(p,n)∈S.oldm) (x:Int × Int):∀ y∈S.oldm,y≠(p,n) -> ∀ j,0<=j->j<y.2->gx (S.old.set p.toNat x) (y.1+j)=gx S.old (y.1+j):=by
 intro y hy hne j h0 hj;have t:=tiles_in v.to hm;have ty:=tiles_in v.to hy;simp only at t;rw[gx_set (by omega),if_neg]
 rcases tiles_apart v.to hm hy with e|e|e
 ·exact absurd e.symm hne
 ·simp only at e;omega
 ·simp only at e;omega
theorem Inv.setold {S:HS} (v:Inv S) {p n:Int} (hm:(p,n)∈S.oldm) (q:Int):Inv (S.setold p (13,q)):=by
 have ho:=old_other v hm (13,q);have t:=tiles_in v.to hm;simp only at t;have e0:gx (S.old.set p.toNat (13,q)) p=(13,q):=by rw[gx_set (by omega),if_pos rfl]
 refine ⟨v.inf,v.sz,v.ln,?_,v.tn,?_,fun x hx=>(v.kn x hx).congr rfl rfl (fun _=>rfl),fun y hy=>?_,v.is,fun w hw=>?_,fun w=>?_⟩
 ·show ((S.old.set p.toNat (13,q)).length:Int)<=S.size
  rw[Z2];exact v.lo
 ·show tiles 0 S.oldm ((S.old.set p.toNat (13,q)).length:Int)
  rw[Z2];exact v.to
 ·by_cases e:y=(p,n)
  ·subst e;left;show (gx (S.old.set p.toNat (13,q)) p).1=13;rw[e0]
  ·have ty:=tiles_in v.to hy
   have e1:=ho y hy e 0 (by omega) (by omega);simp only[Z1] at e1
   rcases v.ko y hy with k|k
   ·left;show (gx (S.old.set p.toNat (13,q)) y.1).1=13;rw[e1];exact k
   ·exact .inr (k.congr (S':=S.setold p (13,q)) rfl e1 (fun h2=>ho y hy e 1 (by omega) (by omega)))
 ·obtain ⟨m,y,h⟩:=v.tm w hw
  exact ⟨m,y,fol_congr (S:=S) (S':=S.setold p (13,q)) (fun w' hl=>⟨Iff.rfl,fun h12=>⟨rfl,v.chain hl h12⟩⟩) hw h⟩
 ·have all:∀ (m:Nat) (w:Int × Int),(∃ r,S.mov m w=some r) -> ∃ r,(S.setold p (13,q)).mov m w=some r:=by
   intro m
   induction m with
   | zero=>intro w ⟨r,h⟩;cases h
   | succ m ih =>
     intro w ⟨r,h⟩;rw[HS.mov] at h ⊢
     by_cases hp:S.plain w
     ·rw[if_pos (show (S.setold p (13,q)).plain w from hp)];exact ⟨_,rfl⟩
     rw[if_neg (show ¬ (S.setold p (13,q)).plain w from hp)];rw[if_neg hp] at h
     by_cases hl:w.1=4/\(mget w.2 S.oldm).isSome=true
     case neg=>rw[if_neg (show ¬ (w.1=4/\(mget w.2 (S.setold p (13,q)).oldm).isSome=true) from hl)];exact ⟨_,rfl⟩
     rw[if_pos (show w.1=4/\(mget w.2 (S.setold p (13,q)).oldm).isSome=true from hl)];rw[if_pos hl] at h;obtain ⟨n',hn'⟩:=Z5.1 hl.2;have hm':=mget_in hn'
     show ∃ r,(if (gx (S.old.set p.toNat (13,q)) w.2).1=13 then _ else if (gx (S.old.set p.toNat (13,q)) w.2).1=12 then _ else _)=some r
     by_cases e:(w.2,n')=(p,n)
     ·have e2:w.2=p:=congrArg Prod.fst e
      rw[e2,e0,if_pos rfl];exact ⟨_,rfl⟩
     have ty:=tiles_in v.to hm';have e1:=ho _ hm' e 0 (by omega) (by omega);simp only[Z1] at e1;rw[e1]
     split at h
     ·rename_i c13;rw[if_pos c13];exact ⟨_,rfl⟩
     rename_i c13
     rw[if_neg c13]
     split at h
     ·rename_i c12
      have:=((v.ko _ hm').resolve_left c13).k12 c12;rw[if_pos c12]
      show ∃ r,(S.setold p (13,q)).mov m (gx (S.old.set p.toNat (13,q)) (w.2+1))=some r
      rw[ho _ hm' e 1 (by omega) (by omega)];exact ih _ ⟨r,h⟩
     ·rename_i c12;rw[if_neg c12];split<;>exact ⟨_,rfl⟩
  obtain ⟨m,h⟩:=v.tq w;obtain ⟨r,h⟩:=h;obtain ⟨r',h'⟩:=all m w ⟨r,h⟩;exact ⟨m,r',h'⟩
inductive Mv (S:HS):Int × Int->(Int × Int) × Int × HS->Prop where
 | plain {w} (h:S.plain w):Mv S w (w,0,S)
 | none {w} (h:¬ S.plain w) (h2:¬ (w.1=4/\(mget w.2 S.oldm).isSome=true)):Mv S w ((0,0),1,S)
 | was {w n} (h:¬ S.plain w) (h1:w.1=4) (hn:mget w.2 S.oldm=some n) (h13:(gx S.old w.2).1=13):Mv S w ((4,(gx S.old w.2).2),0,S)
 | ind {w n r} (h:¬ S.plain w) (h1:w.1=4) (hn:mget w.2 S.oldm=some n) (h12:(gx S.old w.2).1=12) (hm:Mv S (gx S.old (w.2+1)) r):Mv S w r
 | full {w n} (h:¬ S.plain w) (h1:w.1=4) (hn:mget w.2 S.oldm=some n) (h13:(gx S.old w.2).1≠13) (h12:(gx S.old w.2).1≠12) (hf:S.size-(S.now.length:Int)<n):Mv S w ((0,0),12,S)
 | new {w n} (h:¬ S.plain w) (h1:w.1=4) (hn:mget w.2 S.oldm=some n) (h13:(gx S.old w.2).1≠13) (h12:(gx S.old w.2).1≠12) (hf:¬ S.size-(S.now.length:Int)<n):Mv S w ((4,S.now.length),0,(S.laid (S.owords w)).setold w.2 (13,S.now.length))
theorem mov_mv {S:HS} (v:Inv S):∀ {m:Nat} {w:Int × Int} {r:(Int × Int) × Int × HS},S.mov m w=some r->Mv S w r:=by
 intro m
 induction m with
 | zero=>intro w r h;cases h
 | succ m ih =>
   intro w r h;rw[HS.mov] at h
   split at h
   ·rename_i hp;cases h;exact .plain hp
   rename_i hp
   split at h
   ·rename_i hl
    obtain ⟨n,hn⟩:=Z5.1 hl.2;have t:=tiles_in v.to (mget_in hn)
    split at h
    ·rename_i h13;cases h;exact .was hp hl.1 hn h13
    rename_i h13
    split at h
    ·rename_i h12;exact .ind hp hl.1 hn h12 (ih h)
    rename_i h12
    have el:=owords_len hn (by omega)
    split at h
    ·rename_i hf;cases h;exact .full hp hl.1 hn h13 h12 (by omega)
    ·rename_i hf;cases h;exact .new hp hl.1 hn h13 h12 (by omega)
   ·rename_i hl;cases h;exact .none hp hl
theorem Inv.mv {S:HS} (v:Inv S) {w:Int × Int} {r:(Int × Int) × Int × HS} (h:Mv S w r):Inv r.2.2:=by
 induction h with
 | plain=>exact v
 | none=>exact v
 | was=>exact v
 | ind _ _ _ _ _ ih=>exact ih
 | full=>exact v
 | @new w n h h1 hn h13 h12 hf =>
   have hm:=mget_in hn;have t:=tiles_in v.to hm;simp only at t;have el:=owords_len hn (by omega);have kd:=(v.ko _ hm).resolve_left h13;have e0:=owords_at hn (j:=0) (by omega) (by omega);rw[Z1] at e0;refine (v.laid (zs:=S.owords w) (by omega) (by omega) ?_ (by rw[e0];exact h12)).setold (n:=n) hm _;rw[el];exact kd.congr rfl e0 (fun h2=>by have:=owords_at hn (j:=1) (by omega) (by omega);simpa using this)
end Go.S18

namespace Go.S18
open Go Go.Eng Go.Proofs Go.Chk
structure Ob where
 p:Int
 n:Int
 hd:Int × Int
 fs:List (Int × Int)
 mv:Bool
 to:Int
def Ob.pn (o:Ob):Int × Int:=(o.p,o.n)
structure VN (S:HS) (l:List Ob):Prop where
 bg:S.begins=l.map Ob.pn
 ob:∀ o∈l,o.hd=gx S.now o.p/\o.fs=fld S.now o.p (S.fcn o.hd o.n)/\o.mv=false
structure VO (S:HS) (l:List Ob):Prop where
 bg:S.oldm=l.map Ob.pn
 ob:∀ o∈l,(o.mv=true/\gx S.old o.p=(13,o.to)/\o.hd.1≠12)\/(o.mv=false/\(gx S.old o.p).1≠13/\o.hd=gx S.old o.p/\o.fs=fld S.old o.p (S.fcn o.hd o.n))
section
variable {S:HS} {l:List Ob}
theorem map_set_pn {i:Nat} {o o':Ob} (h:l[i]?=some o) (e:o'.pn=o.pn):(l.set i o').map Ob.pn=l.map Ob.pn:=by
 rw[List.map_set,e];obtain ⟨hi,h2⟩:=List.getElem?_eq_some_iff.1 h
 apply Ze
 intro j;rw[Zo]
 split
 ·rename_i e2;subst e2;rw[List.length_map,if_pos hi,Z4,h];rfl
 ·rfl
theorem mem_set {α:Type} {l:List α} {i:Nat} {x z:α} (h:z∈l.set i x):z=x \/ ∃ j,j≠i/\l[j]?=some z:=by
 obtain ⟨j,hj,e⟩:=List.getElem_of_mem h;rw[List.getElem_set] at e
 split at e
 ·exact .inl e.symm
 ·rename_i hne
  rw[Z2] at hj;exact .inr ⟨j,fun h=>hne h.symm,by rw[Z3 hj,e]⟩
theorem pn_ne {a e:Int} (t:tiles a (l.map Ob.pn) e) {i j:Nat} {o z:Ob} (hi:l[i]?=some o) (hj:l[j]?=some z) (hne:j≠i):z.p≠o.p:=by
 induction l generalizing a i j with
 | nil=>simp at hi
 | cons x l ih =>
   obtain ⟨t1,t2,t3⟩:=t;have low:∀ {k:Nat} {y:Ob},l[k]?=some y->x.p<y.p:=fun {k y} hk=>by
    have:=tiles_in t3 (x:=y.pn) (Z6.2 ⟨y,Z0 hk,rfl⟩);have e1:y.pn.1=y.p:=rfl;have e2:x.pn.1=x.p:=rfl;omega
   cases i with
   | zero =>
     simp at hi;subst hi;cases j with
     | zero=>exact absurd rfl hne
     | succ j=>have:=low (k:=j) (by simpa using hj);omega
   | succ i =>
     cases j with
     | zero=>simp at hj;subst hj;have:=low (k:=i) (by simpa using hi);omega
     | succ j=>exact ih t3 (i:=i) (j:=j) (by simpa using hi) (by simpa using hj) (by omega)
theorem VN.mem (v:VN S l) {o:Ob} (h:o∈l):(o.p,o.n)∈S.begins:=by rw[v.bg];exact Z6.2 ⟨o,h,rfl⟩
theorem VN.get (v:VN S l) (i:Inv S) {o:Ob} (h:o∈l):mget o.p S.begins=some o.n:=mem_mget i.tn (v.mem h)
theorem VO.mem (v:VO S l) {o:Ob} (h:o∈l):(o.p,o.n)∈S.oldm:=by rw[v.bg];exact Z6.2 ⟨o,h,rfl⟩
theorem VO.get (v:VO S l) (i:Inv S) {o:Ob} (h:o∈l):mget o.p S.oldm=some o.n:=mem_mget i.to (v.mem h)
theorem VN.upd (v:VN S l) (iv':Inv S) {S':HS} {i:Nat} {o o':Ob} (ho:l[i]?=some o) (hb:S'.begins=S.begins) (hi:S'.infos=S.infos) (hoth:∀ y∈S.begins,y≠(o.p,o.n) -> ∀ j,0<=j->j<y.2->gx S'.now (y.1+j)=gx S.now (y.1+j))
 (hp:o'.pn=o.pn) (h1:o'.hd=gx S'.now o'.p/\o'.fs=fld S'.now o'.p (S'.fcn o'.hd o'.n)/\o'.mv=false):VN S' (l.set i o'):=by
 refine ⟨by rw[hb,v.bg,map_set_pn ho hp],fun z hz=>?_⟩;have fr:∀ c,S'.fr c=S.fr c:=fun c=>by unfold HS.fr;rw[hi]
 have fcn:∀ a b,S'.fcn a b=S.fcn a b:=fun a b=>by unfold HS.fcn;rw[fr]
 rcases mem_set hz with rfl|⟨j,hne,hj⟩
 ·exact h1
 ·have hzm:=Z0 hj
  obtain ⟨a,b,c⟩:=v.ob z hzm;have hmz:=v.mem hzm;have tz:=tiles_in iv'.tn hmz;simp only at tz;have hne2:(z.p,z.n)≠(o.p,o.n):=fun e=>pn_ne (by rw[<- v.bg];exact iv'.tn) ho hj hne (congrArg Prod.fst e)
  have ho2:=hoth _ hmz hne2;have e0:=ho2 0 (by omega) (by simp only;omega);simp only[Z1] at e0;have kd:=(iv'.kn _ hmz).fc tz.2.1;simp only at kd;refine ⟨by rw[e0];exact a,?_,c⟩;rw[fcn,b];refine fld_ext fun k hk=>?_
  rw[a] at hk;have:=ho2 (1+(k:Int)) (by omega) (by simp only;omega);simp only at this;rw[show z.p+1+(k:Int)=z.p+(1+(k:Int)) by omega,this]
theorem VO.same (v:VO S l) {S':HS} (ho:S'.old=S.old) (hm:S'.oldm=S.oldm) (hi:S'.infos=S.infos):VO S' l:=by
 have fr:∀ c,S'.fr c=S.fr c:=fun c=>by unfold HS.fr;rw[hi]
 have fcn:∀ a b,S'.fcn a b=S.fcn a b:=fun a b=>by unfold HS.fcn;rw[fr]
 refine ⟨by rw[hm];exact v.bg,fun o h=>?_⟩;rw[ho,fcn];exact v.ob o h
theorem VN.same (v:VN S l) {S':HS} (ho:S'.now=S.now) (hm:S'.begins=S.begins) (hi:S'.infos=S.infos):VN S' l:=by
 have fr:∀ c,S'.fr c=S.fr c:=fun c=>by unfold HS.fr;rw[hi]
 have fcn:∀ a b,S'.fcn a b=S.fcn a b:=fun a b=>by unfold HS.fcn;rw[fr]
 refine ⟨by rw[hm];exact v.bg,fun o h=>?_⟩;rw[ho,fcn];exact v.ob o h
theorem VN.laid (v:VN S l) (iv':Inv S) {zs:List (Int × Int)} {hd:Int × Int} {fs:List (Int × Int)} (h0:gx zs 0=hd) (h1:1<=zs.length) (hf:fs=fld zs 0 (S.fcn hd zs.length)) (hc:S.fcn hd zs.length<zs.length) :
 VN (S.laid zs) (l++[⟨S.now.length,zs.length,hd,fs,false,0⟩]):=by
 refine ⟨by show S.begins++_=_;rw[v.bg,List.map_append];rfl,fun o ho=>?_⟩
 rcases Zh.1 ho with ho|ho
 ·obtain ⟨a,b,c⟩:=v.ob o ho
  have hm:=v.mem ho;have t:=tiles_in iv'.tn hm;have kd:=(iv'.kn _ hm).fc t.2.1;simp only at t kd;have e0:gx (S.now++zs) o.p=gx S.now o.p:=gx_app (by omega) (by omega);refine ⟨a.trans e0.symm,?_,c⟩;rw[b];refine fld_ext fun k hk=>?_
  rw[a] at hk;exact (gx_app (by omega) (by omega)).symm
 ·rw[Zb] at ho
  subst ho;have e0:gx (S.now++zs) (S.now.length:Int)=gx zs 0:=by have:=gx_laid (a:=S.now) (c:=zs) (j:=0) (by omega) (by omega);simpa using this
  refine ⟨h0.symm.trans e0.symm,?_,rfl⟩
  show fs=fld (S.now++zs) (S.now.length:Int) (S.fcn hd zs.length)
  rw[hf];refine fld_ext fun k hk=>?_
  have:=gx_laid (a:=S.now) (c:=zs) (j:=1+(k:Int)) (by omega) (by omega);rw[show (S.now.length:Int)+1+(k:Int)=(S.now.length:Int)+(1+(k:Int)) by omega,this,show (0:Int)+1+(k:Int)=1+(k:Int) by omega]
theorem all_flds {hd:Int × Int} {ys:List (Int × Int)} (f:S.fits hd ys):ys=fld (S.all hd ys) 0 (S.fcn hd (S.all hd ys).length)/\S.fcn hd (S.all hd ys).length=ys.length:=by
 have hk:=fits_kind f;obtain ⟨f1,f2⟩:=fits_len f;have hl:=all_len S hd ys;have hc:S.fcn hd (S.all hd ys).length=ys.length:=by
  unfold HS.fcn;rw[if_neg (by omega)]
  split
  ·rename_i e;exact (f1 e).symm
  split
  ·rename_i e;exact (f2 e).symm
  ·rename_i e1 e2;rw[all_len' e1 e2];simp
 refine ⟨?_,hc⟩;rw[hc];refine Ze fun i=>?_
 rw[fld_get]
 by_cases hi:i<ys.length
 ·rw[if_pos (by omega),Z3 hi]
  have:=all_at S hd hi;rw[gx,if_pos (by omega),show (0:Int)+1+(i:Int)=((i+1:Nat):Int) by omega,this]
 ·rw[if_neg (by omega),Zj (by omega)]
theorem VN.put (v:VN S l) (i:Inv S) {hd:Int × Int} {ys:List (Int × Int)} (f:S.fits hd ys):VN (S.laid (S.all hd ys)) (l++[⟨S.now.length,(S.all hd ys).length,hd,ys,false,0⟩]):=by
 obtain ⟨h1,h2⟩:=all_flds f;have hl:=all_len S hd ys;exact v.laid i (kd_all f).2 (by omega) h1 (by omega)
theorem VN.sete (v:VN S l) (iv':Inv S) {i:Nat} {o:Ob} (ho:l[i]?=some o) {k:Int} (h0:0<=k) (hk:k<S.fcn o.hd o.n) (x:Int × Int):VN (S.setw (o.p+1+k) x) (l.set i { o with fs:=o.fs.set k.toNat x }):=by
 have hom:=Z0 ho;obtain ⟨a,b,c⟩:=v.ob o hom;have hm:=v.mem hom;have t:=tiles_in iv'.tn hm;have kd:=(iv'.kn _ hm).fc t.2.1;simp only at t kd;rw[<- a] at kd;refine v.upd iv' ho rfl rfl (set_other iv' hm (by omega) x) rfl ⟨?_,?_,c⟩
 ·show o.hd=gx (S.now.set (o.p+1+k).toNat x) o.p
  rw[gx_set (by omega),if_neg (by omega)];exact a
 ·show o.fs.set k.toNat x=fld (S.now.set (o.p+1+k).toNat x) o.p (S.fcn o.hd o.n)
  rw[b];refine Ze fun j=>?_
  rw[Zo,fld_get,fld_get,fld_len]
  by_cases hj:j<(S.fcn o.hd o.n).toNat
  ·by_cases e:k.toNat=j
   ·subst e;rw[if_pos rfl,if_pos hj,if_pos hj,gx_set (by omega),if_pos (by omega)]
   ·rw[if_neg e,if_pos hj,if_pos hj,gx_set (by omega),if_neg (by omega)]
  ·by_cases e:k.toNat=j
   ·subst e;rw[if_pos rfl,if_neg hj,if_neg hj]
   ·rw[if_neg e,if_neg hj,if_neg hj]
theorem VN.hole (v:VN S l) (iv':Inv S) {i:Nat} {o:Ob} (ho:l[i]?=some o) (hc:holeC S (4,o.p)):VN (S.setw o.p (11,o.n)) (l.set i { o with hd:=(11,o.n),fs:=o.fs++List.replicate (o.n.toNat-1-o.fs.length) (1,0) }):=by
 have hom:=Z0 ho;obtain ⟨a,b,c⟩:=v.ob o hom;have hm:=v.mem hom;have t:=tiles_in iv'.tn hm;have kd:=iv'.kn _ hm;simp only at t kd;refine v.upd iv' ho rfl rfl (set_other iv' hm (by omega) _) rfl ⟨?_,?_,c⟩
 ·show (11,o.n)=gx (S.now.set o.p.toNat (11,o.n)) o.p
  rw[gx_set (by omega),if_pos rfl]
 ·show o.fs++List.replicate (o.n.toNat-1-o.fs.length) (1,0)=fld (S.now.set o.p.toNat (11,o.n)) o.p (S.fcn (11,o.n) o.n)
  have f11:S.fcn (11,o.n) o.n=o.n-1:=by unfold HS.fcn;rfl
  have hne:∀ j:Nat,gx (S.now.set o.p.toNat (11,o.n)) (o.p+1+(j:Int))=gx S.now (o.p+1+(j:Int)):=fun j=>by rw[gx_set (by omega),if_neg (by omega)]
  have hfl:o.fs.length=(S.fcn o.hd o.n).toNat:=by rw[b,fld_len]
  rw[f11];have key:((S.fcn o.hd o.n)=o.n-1)\/(S.fcn o.hd o.n=0/\o.n=2/\gx S.now (o.p+1)=(1,0)):=by
   rcases hc.2 with e|e|⟨e,e2⟩
   ·left;unfold HS.fcn;rw[a];simp only at e;rw[if_neg (by omega),if_neg (by omega),if_neg (by omega)]
   ·obtain ⟨q1,q2⟩:=kd.k10 e
    right;refine ⟨?_,q1,q2⟩
    unfold HS.fcn;rw[a];simp only at e;rw[if_neg (by omega),if_neg (by omega),if_pos e]
   ·have hf:S.fcn o.hd o.n=S.fr (gx S.now o.p).2:=by unfold HS.fcn;rw[a];simp only at e;rw[if_neg (by omega),if_pos e]
    rcases kd.t6 e e2 with ⟨q,_⟩|⟨q1,q2,q3⟩
    ·left;omega
    ·right;exact ⟨by omega,q2,q3⟩
  rcases key with q|⟨q1,q2,q3⟩
  ·rw[show o.n.toNat-1-o.fs.length=0 by omega]
   simp only[List.replicate_zero,List.append_nil];rw[b,q];exact fld_ext fun j _=>(hne j).symm
  ·have hz:o.fs=[]:=Z8.1 (by omega)
   rw[hz,q2];have:=hne 0;simp only[Zf,Z1] at this
   show [((1,0):Int × Int)]=_
   unfold fld;simp only[show ((2:Int)-1).toNat=1 by rfl,List.range_one,Zc,List.map_nil];rw[q2] at hne;have h2:=hne 0;simp only[Zf,Z1] at h2 ⊢;rw[h2,q3]
theorem VN.bec (v:VN S l) (iv':Inv S) {i:Nat} {o:Ob} (ho:l[i]?=some o) (h2:2<=o.n) (x:Int × Int):VN (S.bec (4,o.p) x) (l.set i { o with hd:=(12,0),fs:=[x] }):=by
 have hom:=Z0 ho;obtain ⟨a,b,c⟩:=v.ob o hom;have hm:=v.mem hom;have t:=tiles_in iv'.tn hm;simp only at t;obtain ⟨b0,b1,_⟩:=bec_at (S:=S) (w:=(4,o.p)) (x:=x) h2 t.1 t.2.2;refine v.upd (S':=S.bec (4,o.p) x) iv' ho rfl rfl (bec_other (w:=(4,o.p)) iv' hm h2) rfl ⟨b0.symm,?_,c⟩
 show [x]=fld (S.bec (4,o.p) x).now o.p 1
 unfold fld;simp only[show ((1:Int)).toNat=1 by rfl,List.range_one,Zc,List.map_nil,Zf,Z1];simp only at b1;rw[b1]
theorem VN.flip (v:VN S l) (i:Inv S):VO S.flip l/\VN S.flip []:=by
 refine ⟨⟨v.bg,fun o ho=>?_⟩,⟨rfl,fun o ho=>absurd ho (by simp)⟩⟩;obtain ⟨a,b,c⟩:=v.ob o ho;have:=(i.kn _ (v.mem ho)).k;exact .inr ⟨c,by show (gx S.now o.p).1≠13;simp only at this;omega,a,b⟩
theorem VO.mov (v:VO S l) {ln:List Ob} (vn:VN S ln) (iv':Inv S) {i:Nat} {o:Ob} (ho:l[i]?=some o) (hmv:o.mv=false):VO ((S.laid (S.owords (4,o.p))).setold o.p (13,S.now.length)) (l.set i { o with mv:=true,to:=S.now.length }) /\
 VN ((S.laid (S.owords (4,o.p))).setold o.p (13,S.now.length)) (ln++[⟨S.now.length,o.n,o.hd,o.fs,false,0⟩])/\((S.owords (4,o.p)).length:Int)=o.n\/o.hd.1=12:=by
 by_cases h12:o.hd.1=12
 ·exact .inr h12
 left
 have hom:=Z0 ho;have hob:=(v.ob o hom).resolve_left (fun e=>by rw[hmv] at e;cases e.1);obtain ⟨_,h13,a,b⟩:=hob;have hm:=v.mem hom;have hg:=v.get iv' hom;have t:=tiles_in iv'.to hm;simp only at t;have el:=owords_len (S:=S) (w:=(4,o.p)) hg (by omega);have kd:=(iv'.ko _ hm).resolve_left h13;have fc:=kd.fc t.2.1;simp only at fc;rw[<- a] at fc;have e0:=owords_at (S:=S) (w:=(4,o.p)) hg (j:=0) (by omega) (by omega);simp only[Z1] at e0;refine ⟨⟨?_,fun z hz=>?_⟩,?_,el⟩
 ·show S.oldm=_;rw[v.bg,map_set_pn ho];rfl
 ·have e1:gx (S.old.set o.p.toNat (13,(S.now.length:Int))) o.p=(13,(S.now.length:Int)):=by rw[gx_set (by omega),if_pos rfl]
  rcases mem_set hz with rfl|⟨j,hne,hj⟩
  ·exact .inl ⟨rfl,e1,h12⟩
  ·have hzm:=Z0 hj
   have hmz:=v.mem hzm;have tz:=tiles_in iv'.to hmz;simp only at tz;have hne2:(z.p,z.n)≠(o.p,o.n):=fun e=>pn_ne (by rw[<- v.bg];exact iv'.to) ho hj hne (congrArg Prod.fst e)
   have ho2:=old_other iv' hm (13,(S.now.length:Int)) _ hmz hne2;have f0:=ho2 0 (by omega) (by simp only;omega);simp only[Z1] at f0
   show (z.mv=true/\gx (S.old.set o.p.toNat (13,(S.now.length:Int))) z.p=(13,z.to)/\z.hd.1≠12)\/(z.mv=false/\(gx (S.old.set o.p.toNat (13,(S.now.length:Int))) z.p).1≠13/\z.hd=gx (S.old.set o.p.toNat (13,(S.now.length:Int))) z.p/\z.fs=fld (S.old.set o.p.toNat (13,(S.now.length:Int))) z.p (S.fcn z.hd z.n))
   rw[f0]
   rcases v.ob z hzm with q|⟨q1,q2,q3,q4⟩
   ·exact .inl q
   ·refine .inr ⟨q1,q2,q3,?_⟩
    rw[q4];have kz:=((iv'.ko _ hmz).resolve_left q2).fc tz.2.1;simp only at kz;rw[<- q3] at kz;refine fld_ext fun k hk=>?_
    have:=ho2 (1+(k:Int)) (by omega) (by simp only;omega);simp only at this;rw[show z.p+1+(k:Int)=z.p+(1+(k:Int)) by omega,this]
 ·have:=vn.laid iv' (zs:=S.owords (4,o.p)) (hd:=o.hd) (fs:=o.fs) (by rw[e0];exact a.symm) (by omega) (by
   rw[b,el];refine fld_ext fun k hk=>?_
   have:=owords_at (S:=S) (w:=(4,o.p)) hg (j:=1+(k:Int)) (by omega) (by omega);simp only at this;rw[show (0:Int)+1+(k:Int)=1+(k:Int) by omega,this]
   congr 1;omega) (by rw[el];exact fc.2)
  rw[el] at this;exact this.same rfl rfl rfl
end
end Go.S18

namespace Go.S18
open Go Go.Eng Go.Proofs Go.Chk
def fnd (l:List Ob) (a:Int):Int:=match l.findIdx? (fun o=>decide (o.p=a)) with
 | some i=>(i:Int)
 | none=>-1
theorem pn_lt {l:List Ob} {a e:Int} (t:tiles a (l.map Ob.pn) e) {i j:Nat} {o z:Ob} (hi:l[i]?=some o) (hj:l[j]?=some z) (hij:i<j):o.p<z.p:=by
 induction l generalizing a i j with
 | nil=>simp at hi
 | cons x l ih =>
   obtain ⟨t1,t2,t3⟩:=t;cases j with
   | zero=>omega
   | succ j =>
     cases i with
     | zero =>
       simp at hi;subst hi;have:=tiles_in t3 (x:=z.pn) (Z6.2 ⟨z,Z0 (by simpa using hj),rfl⟩);have e1:z.pn.1=z.p:=rfl;have e2:x.pn.1=x.p:=rfl;omega
     | succ i=>exact ih t3 (i:=i) (j:=j) (by simpa using hi) (by simpa using hj) (by omega)
theorem fnd_none {l:List Ob} {a:Int} (h:∀ o∈l,o.p≠a):fnd l a = -1:=by
 unfold fnd;have:l.findIdx? (fun o=>decide (o.p=a))=none:=Z7.2 fun o ho=>by simpa using h o ho
 rw[this]
theorem fnd_some {l:List Ob} {s e:Int} (t:tiles s (l.map Ob.pn) e) {i:Nat} {o:Ob} (hi:l[i]?=some o):fnd l o.p=i:=by
 unfold fnd;cases h:l.findIdx? (fun z=>decide (z.p=o.p)) with
 | none =>
   have:=Z7.1 h o (Z0 hi);simp at this
 | some j =>
   obtain ⟨hj,h1,_⟩:=Z9.1 h;have h2:l[j]?=some l[j]:=Z3 hj;have h3:(l[j]).p=o.p:=by simpa using h1
   by_cases hij:j=i
   ·subst hij;rfl
   ·exact absurd h3 (pn_ne t hi h2 hij)
theorem fnd_cases (l:List Ob) (a:Int):(fnd l a = -1 /\ ∀ o∈l,o.p≠a) \/ ∃ (i:Nat) (o:Ob),l[i]?=some o/\o.p=a/\fnd l a=(i:Int):=by
 unfold fnd;cases h:l.findIdx? (fun z=>decide (z.p=a)) with
 | none=>exact .inl ⟨rfl,fun o ho=>by have:=Z7.1 h o ho;simpa using this⟩
 | some j =>
   obtain ⟨hj,h1,_⟩:=Z9.1 h;exact .inr ⟨j,l[j],Z3 hj,by simpa using h1,rfl⟩
abbrev Ox:=Ob × Value
def ox (x:Ox):List Value:=[iv x.1.p,iv x.1.n,iv x.1.hd.1,iv x.1.hd.2,x.2,.bool x.1.mv,iv x.1.to]
theorem ox_len (x:Ox):(ox x).length=7:=rfl
structure RL where
 vi:Value
 vc:Value
 vt:Value
 vp:Value
 vk:Value
 main:Int
 vn:Value
 vo:Value
 vg:Value
 nl:List Ox
 ol:List Ox
 cls:Nat->Nat
def RL.cells (L:RL) (S:HS):List Value:=[L.vi,L.vc,L.vt,L.vp,iv L.main,L.vk,iv S.size,iv S.now.length,L.vn,L.vo,L.vg]
structure RH (h:AH) (b:Nat) (L:RL) (S:HS):Prop where
 own:Own h b 88 (L.cells S)
 ri:Rds h 4 L.vi S.infos.length (rowsOf Inf.cells S.infos)
 rt:Rds h 1 L.vt S.texts.length (sts S.texts)
 rk:Rds h 1 L.vk S.cons.length (ns S.cons)
 rn:Ows h 104 7 L.vn L.nl.length (L.nl.flatMap ox)
 ro:Ows h 104 7 L.vo L.ol.length (L.ol.flatMap ox)
 rg:Ows h 36 2 L.vg S.globals.length (ww S.globals)
 fn:∀ i x,L.nl[i]?=some x->Ows h 36 2 x.2 x.1.fs.length (ww x.1.fs) /\ ∀ q,bk x.2 q->L.cls q=10+2*i
 fo:∀ i x,L.ol[i]?=some x->Ows h 36 2 x.2 x.1.fs.length (ww x.1.fs) /\ ∀ q,bk x.2 q->L.cls q=11+2*i
 c1:L.cls b=1
 cn:∀ q,bk L.vn q->L.cls q=2
 co:∀ q,bk L.vo q->L.cls q=3
 cg:∀ q,bk L.vg q->L.cls q=5
 ci:∀ q,(rb L.vi q\/rb L.vt q\/rb L.vk q)->L.cls q=6
 c0:∀ q,h.length<=q->L.cls q=0
 vn:VN S (L.nl.map Prod.fst)
 vo:VO S (L.ol.map Prod.fst)
abbrev MineR (L:RL) (q:Nat):Prop:=L.cls q≠0
def SameR (n:Nat) (L L':RL):Prop:=∀ q,q<n->(L'.cls q=0 ↔ L.cls q=0)
theorem SameR.refl (n:Nat) (L:RL):SameR n L L:=fun _ _=>Iff.rfl
section
variable {h h':AH} {b:Nat} {L:RL} {S:HS}
theorem RH.keep {X:Nat->Prop} (s:RH h b L S) (k:Keep X h h') (hx:∀ q,L.cls q≠0 -> ¬ X q):RH h' b L S :=
 ⟨s.own.keep k (hx b (by rw[s.c1];omega)),s.ri.keep k (fun q e=>hx q (by rw[s.ci q (.inl e)];omega)),s.rt.keep k (fun q e=>hx q (by rw[s.ci q (.inr (.inl e))];omega)),s.rk.keep k (fun q e=>hx q (by rw[s.ci q (.inr (.inr e))];omega)),
  s.rn.keep k (fun q e=>hx q (by rw[s.cn q e];omega)),s.ro.keep k (fun q e=>hx q (by rw[s.co q e];omega)),s.rg.keep k (fun q e=>hx q (by rw[s.cg q e];omega)),
  fun i x e=>⟨(s.fn i x e).1.keep k (fun q e2=>hx q (by rw[(s.fn i x e).2 q e2];omega)),(s.fn i x e).2⟩,fun i x e=>⟨(s.fo i x e).1.keep k (fun q e2=>hx q (by rw[(s.fo i x e).2 q e2];omega)),(s.fo i x e).2⟩,
  s.c1,s.cn,s.co,s.cg,s.ci,fun q e=>s.c0 q (Nat.le_trans k.len e),s.vn,s.vo⟩
theorem RH.keepF (s:RH h b L S) (k:Keep (fun _=>False) h h'):RH h' b L S:=s.keep k (fun _ _ e=>e)
theorem RH.lt (s:RH h b L S) {q:Nat} (e:L.cls q≠0):q<h.length:=Nat.lt_of_not_le fun c=>e (s.c0 q c)
theorem RH.nat (s:RH h b L S) {i:Nat} {x:Ox} (e:L.nl[i]?=some x):(L.nl.map Prod.fst)[i]?=some x.1:=by rw[Z4,e];rfl
theorem RH.oat (s:RH h b L S) {i:Nat} {x:Ox} (e:L.ol[i]?=some x):(L.ol.map Prod.fst)[i]?=some x.1:=by rw[Z4,e];rfl
theorem RH.find (s:RH h b L S) (v:Inv S) (a:Int):(fnd (L.nl.map Prod.fst) a = -1/\mget a S.begins=none) \/ ∃ (i:Nat) (x:Ox),L.nl[i]?=some x/\x.1.p=a/\fnd (L.nl.map Prod.fst) a=(i:Int)/\mget a S.begins=some x.1.n:=by
 rcases fnd_cases (L.nl.map Prod.fst) a with ⟨h1,h2⟩|⟨i,o,h1,h2,h3⟩
 ·refine .inl ⟨h1,?_⟩
  cases hg:mget a S.begins with
  | none=>rfl
  | some n =>
    have:=mget_in hg;rw[s.vn.bg] at this;obtain ⟨o,ho,e⟩:=Z6.1 this;exact absurd (congrArg Prod.fst e) (h2 o ho)
 ·rw[Z4] at h1
  obtain ⟨x,h4,h5⟩:=Zi.1 h1;subst h5;refine .inr ⟨i,x,h4,h2,h3,?_⟩;rw[<- h2];exact s.vn.get v (Z6.2 ⟨x,Z0 h4,rfl⟩)
theorem RH.findO (s:RH h b L S) (v:Inv S) (a:Int):(fnd (L.ol.map Prod.fst) a = -1/\mget a S.oldm=none) \/ ∃ (i:Nat) (x:Ox),L.ol[i]?=some x/\x.1.p=a/\fnd (L.ol.map Prod.fst) a=(i:Int)/\mget a S.oldm=some x.1.n:=by
 rcases fnd_cases (L.ol.map Prod.fst) a with ⟨h1,h2⟩|⟨i,o,h1,h2,h3⟩
 ·refine .inl ⟨h1,?_⟩
  cases hg:mget a S.oldm with
  | none=>rfl
  | some n =>
    have:=mget_in hg;rw[s.vo.bg] at this;obtain ⟨o,ho,e⟩:=Z6.1 this;exact absurd (congrArg Prod.fst e) (h2 o ho)
 ·rw[Z4] at h1
  obtain ⟨x,h4,h5⟩:=Zi.1 h1;subst h5;refine .inr ⟨i,x,h4,h2,h3,?_⟩;rw[<- h2];exact s.vo.get v (Z6.2 ⟨x,Z0 h4,rfl⟩)
theorem RH.tn (s:RH h b L S) (v:Inv S):tiles 0 ((L.nl.map Prod.fst).map Ob.pn) S.now.length:=by rw[<- s.vn.bg];exact v.tn
theorem RH.to (s:RH h b L S) (v:Inv S):tiles 0 ((L.ol.map Prod.fst).map Ob.pn) S.old.length:=by rw[<- s.vo.bg];exact v.to
end
end Go.S18
