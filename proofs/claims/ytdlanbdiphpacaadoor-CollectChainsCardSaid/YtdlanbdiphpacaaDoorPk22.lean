import Derived.Test.YtdlanbdiphpacaaDoorPk21
import Derived.Test.YtdlanbdiphpacaaDoorPk14
import Derived.Test.YtdlanbdiphpacaaDoorPk13
set_option linter.unusedVariables false
set_option linter.unusedSimpArgs false
open Nat renaming reduceEqDiff -> ZA,reduceAdd -> ZB,reduceMul -> ZC,reduceLeDiff -> ZD,reduceLT -> ZE
open Int renaming reduceEq -> ZF
open Nat renaming le_refl->Z0,zero_le->Z6
open List renaming drop_eq_getElem_cons->Z1,drop_eq_nil_of_le->Z2,prefix_refl->Z3,getElem?_eq_some_iff->Z4,mem_cons_of_mem->Z7,mem_singleton->Z8
open Option renaming isSome_iff_exists->Z5
namespace Go.S19
open Go Go.Eng Go.Proofs Go.Chk
noncomputable def fsW:Array Field:=match Tryd.prog.underlying 44 with
 | some (.struct fs)=>fs
 | _=>#[]
theorem t2W:T2 Tryd.prog 44 fsW:=⟨by kernel_rfl,by kernel_rfl,by kernel_rfl⟩
theorem map_w:Tryd.prog.underlying 121=some (.map 44 3):=by kernel_rfl
def entF:List (Int × Int)->Nat->List ((Int × Int) × Int)
 | [],_=>[]
 | x::l,i=>(x,(i:Int))::entF l (i+1)
def ent (ts:List (Int × Int)):List ((Int × Int) × Int):=entF ts 0
theorem entF_app (a:List (Int × Int)) (x:Int × Int):∀ i,entF (a++[x]) i=entF a i++[(x,((i+a.length:Nat):Int))]:=by
 induction a with
 | nil=>intro i;rfl
 | cons y a ih=>intro i;simp only[List.cons_append,entF,ih];congr 4;simp;omega
theorem ent_app (a:List (Int × Int)) (x:Int × Int):ent (a++[x])=ent a++[(x,(a.length:Int))]:=by unfold ent;rw[entF_app];simp
def pos (x:Int × Int) (ts:List (Int × Int)):Option Nat:=ts.findIdx? (· = x)
theorem entF_get (x:Int × Int):∀ (ts:List (Int × Int)) (i:Nat),mget2 x (entF ts i)=(pos x ts).map fun j=>((i+j:Nat):Int):=by
 intro ts
 induction ts with
 | nil=>intro i;rfl
 | cons y ts ih =>
   intro i;simp only[entF,mget2,pos,List.findIdx?_cons]
   by_cases h:y=x
   ·simp [h]
   ·simp only[h,if_false,decide_false,Bool.false_eq_true,ih,pos,Option.map_map]
    cases ts.findIdx? (· = x) with
    | none=>rfl
    | some j=>simp;omega
theorem ent_get (x:Int × Int) (ts:List (Int × Int)):mget2 x (ent ts)=(pos x ts).map fun j=>(j:Int):=by
 unfold ent;rw[entF_get];cases pos x ts<;>simp
theorem pos_none {x:Int × Int} {ts:List (Int × Int)}:pos x ts=none ↔ x ∉ ts:=by
 unfold pos;rw[List.findIdx?_eq_none_iff]
 constructor
 ·intro h hx;have:=h x hx;simp at this
 ·intro h y hy;simp;intro e;subst e;exact h hy
theorem pos_some {x:Int × Int} {ts:List (Int × Int)} (h:x∈ts):∃ j,pos x ts=some j:=by
 cases hp:pos x ts with
 | none=>exact absurd h (pos_none.1 hp)
 | some j=>exact ⟨j,rfl⟩
def num (ts:List (Int × Int)) (x:Int × Int):List (Int × Int):=if x∈ts then ts else ts++[x]
structure Ixs (h:AH) (bi bm:Nat) (v:Value) (ts:List (Int × Int)):Prop where
 oi:Own h bi 123 [.map (some bm),v]
 om:MOwn2 h bm (ent ts)
 ov:Ows h 44 2 v ts.length (ww ts)
 ne:bm≠bi
 nv:∀ q,bk v q->q≠bi/\q≠bm
def IOwns (bi bm:Nat) (v:Value) (q:Nat):Prop:=q=bi\/q=bm\/bk v q
theorem Ixs.keep {X:Nat->Prop} {h h':AH} {bi bm:Nat} {v:Value} {ts:List (Int × Int)} (s:Ixs h bi bm v ts) (k:Keep X h h') (hx:∀ q,IOwns bi bm v q -> ¬ X q):Ixs h' bi bm v ts :=
 ⟨s.oi.keep k (hx _ (.inl rfl)),s.om.keep k (hx _ (.inr (.inl rfl))),s.ov.keep k (fun q e=>hx q (.inr (.inr e))),s.ne,s.nv⟩
theorem Ixs.lt {h:AH} {bi bm:Nat} {v:Value} {ts:List (Int × Int)} (s:Ixs h bi bm v ts):∀ q,IOwns bi bm v q->q<h.length:=by
 rintro q (e|e|e)
 ·rw[e];exact s.oi.lt
 ·rw[e];exact s.om.lt
 ·exact s.ov.lt q e
section
variable {h:AH} {bi bm:Nat} {v:Value} {ts:List (Int × Int)}
theorem iNew_ok (h:AH):Gets Tryd.prog 56 [] h (fun res h'=>Keep (fun _=>False) h h' /\ ∃ bi bm,res = .ret (.pointer (some ⟨bi,0,none⟩))/\Ixs h' bi bm (.slice none 0 0) []/\h.length<=bi/\h.length<=bm/\bi<h'.length/\bm<h'.length):=by
 refine Gets.of (keep:=false) hP (draw_ok hM) k56 (by rfl) (fun Ψ hΨ=>?_);simp only[ZG,↓reduceIte,ZA,ZB,ZC,r56,YE,YC,YO,YA,YL,YX,YS,Ya,Yb,Yl,Yf,Yg,Yi,Ym,Yk,Yt,Yn,Yz,Yp,Yq,Yd,mbl,ZD,ZE,ZF];have m0:=MOwn2.new h;have k0:Keep (fun _=>False) h (h++[.map []]):=Keep.push _ _ _;have l0:(h++[Blk.map []]).length=h.length+1:=by simp
 generalize h++[Blk.map []]=h1 at m0 k0 l0 ⊢;have o1:=Own.new h1 123 h1.length [.map (some h.length),.slice none 0 0];have k1:Keep (fun _=>False) h1 (h1++[row 123 h1.length [.map (some h.length),.slice none 0 0]]):=Keep.push _ _ _;have l1:(h1++[row 123 h1.length [.map (some h.length),.slice none 0 0]]).length=h1.length+1:=by simp
 refine hΨ _ _ (fin_ret (rv1 rfl ⟨k0.trans k1,h1.length,h.length,rfl,⟨o1,m0.keep k1 (fun e=>e),.nil,by omega,fun q e=>e.elim⟩,by omega,by omega,by omega,by omega⟩))
theorem iLen_ok (s:Ixs h bi bm v ts):Gets Tryd.prog 62 [.pointer (some ⟨bi,0,none⟩)] h (fun res h'=>h'=h/\res = .ret (iv ts.length)):=by
 refine Gets.of (keep:=false) hP (draw_ok hM) k62 (by rfl) (fun Ψ hΨ=>?_);obtain ⟨a,c,hv⟩:=row_shape s.ov.rds;simp only[ZG,↓reduceIte,ZA,ZB,ZC,r62,YE,YC,YO,YA,YL,YX,YS,Ya,Yb,Yl,Yf,Yg,Yi,Ym,Yk,Yt,Yn,Yz,Yp,Yq,Yd,mbl,ZD,ZE,ZF,s.oi.cells.ld,hv];exact hΨ _ _ (fin_ret (rv1 rfl ⟨rfl,rfl⟩))
theorem iAt_ok (s:Ixs h bi bm v ts) {i:Nat} {w:Int × Int} (hw:ts[i]?=some w):Gets Tryd.prog 63 [.pointer (some ⟨bi,0,none⟩),iv i] h (fun res h'=>Keep (fun _=>False) h h'/\res = .ret (.tuple #[wv w,iv 0])):=by
 refine Gets.of (keep:=false) hP (draw_ok hM) k63 (by rfl) (fun Ψ hΨ=>?_);have hi:i<ts.length:=(Z4.1 hw).1;have oR:=Own.new h 44 h.length [iv 0,iv 0];have k1:Keep (fun _=>False) h (h++[row 44 h.length [iv 0,iv 0]]):=Keep.push _ _ _;have s1:=s.keep k1 (fun _ _ e=>e);simp only[ZG,↓reduceIte,ZA,ZB,ZC,r63,YE,YC,YO,YA,YL,YX,YS,Ya,Yb,Yl,Yf,Yg,Yi,Ym,Yk,Yt,Yn,Yz,Yp,Yq,Yd,mbl,ZD,ZE,ZF];generalize h++[row 44 h.length [iv 0,iv 0]]=h1 at oR k1 s1 ⊢;obtain ⟨b,o,c,hv,hn,hl⟩:=rds_w s1.ov.rds (i:=(i:Int)) (by omega) (by omega);have hwat:wat ts (i:Int)=w:=by simp [wat,hw]
 have d1:((i:Int)<0)=False:=by simp
 have d2:((ts.length:Int)<=(i:Int))=False:=by simp;omega
 have d3:(0<=(i:Int)/\(i:Int)<((ts.length:Nat):Int))=True:=by simp;omega
 simp only[ZG,↓reduceIte,ZA,ZB,ZC,mbl,ZD,ZE,ZF,s1.oi.cells.ld,hv,d1,d2,d3,hl,hwat];refine XH_own oR rfl (by simp [Value.cells]) rfl (fun h2 q1 q2 q3=>?_);have oR2:Own h2 h.length 44 [iv w.1,iv w.2]:=by simpa [Value.cells] using q1
 simp only[ZG,↓reduceIte,ZA,ZB,ZC];have:∀ c,c<h.length->c=h.length->False:=fun c a e=>by omega
 exact hΨ _ _ (fin_ret (rvw rfl oR2 rfl ⟨k1.trans' q2 (fun c hc e=>by omega),rfl⟩))
theorem iFind_ok (s:Ixs h bi bm v ts) (w:Int × Int):Gets Tryd.prog 59 [.pointer (some ⟨bi,0,none⟩),wv w] h (fun res h'=>Keep (fun _=>False) h h' /\
 res = .ret (match pos w ts with
  | some j=>.tuple #[iv j,iv 0]
  | none=>.tuple #[iv 0,iv 6])):=by
 refine Gets.of (keep:=false) hP (draw_ok hM) k59 (by rfl) (fun Ψ hΨ=>?_);have oK:=Own.new h 44 h.length [iv w.1,iv w.2];have k1:Keep (fun _=>False) h (h++[row 44 h.length [iv w.1,iv w.2]]):=Keep.push _ _ _;have s1:=s.keep k1 (fun _ _ e=>e);simp only[ZG,↓reduceIte,ZA,ZB,ZC,r59,YE,YC,YO,YA,YL,YX,YS,Ya,Yb,Yl,Yf,Yg,Yi,Ym,Yk,Yt,Yn,Yz,Yp,Yq,Yd,wv,mbl,ZD,ZE,ZF];generalize h++[row 44 h.length [iv w.1,iv w.2]]=h1 at oK k1 s1 ⊢;have hg:=ent_get w ts;cases hp:pos w ts with
 | none =>
   rw[hp] at hg;have hl:=lk2_none (z:=.int .i64 0) (ok:=true) t2W s1.om hg;simp only[pv] at hl;simp only[ZG,↓reduceIte,ZA,ZB,ZC,mbl,ZD,ZE,ZF,s1.oi.cells.ld,oK.cells.lds 0 2 (by simp),hl];exact hΨ _ _ (fin_ret (rv2 rfl rfl ⟨k1,by rw[hp];rfl⟩))
 | some j =>
   rw[hp] at hg;have hl:=lk2_some (z:=.int .i64 0) (ok:=true) t2W s1.om hg;simp only[pv] at hl;simp only[ZG,↓reduceIte,ZA,ZB,ZC,mbl,ZD,ZE,ZF,s1.oi.cells.ld,oK.cells.lds 0 2 (by simp),hl];exact hΨ _ _ (fin_ret (rv2 rfl rfl ⟨k1,by rw[hp];rfl⟩))
theorem iNumber_ok (s:Ixs h bi bm v ts) (w:Int × Int) (hl:ts.length<=2000000):Gets Tryd.prog 71 [.pointer (some ⟨bi,0,none⟩),wv w] h (fun res h'=>Keep (IOwns bi bm v) h h' /\
 (∃ n,res = .ret (.tuple #[iv n,iv 0])) /\ ∃ v',Ixs h' bi bm v' (num ts w) /\ ∀ q,bk v' q->bk v q\/h.length<=q):=by
 refine Gets.of (keep:=false) hP (draw_ok hM) k71 (by rfl) (fun Ψ hΨ=>?_);have oK:=Own.new h 44 h.length [iv w.1,iv w.2];have k1:Keep (fun _=>False) h (h++[row 44 h.length [iv w.1,iv w.2]]):=Keep.push _ _ _;have s1:=s.keep k1 (fun _ _ e=>e);have l1:(h++[row 44 h.length [iv w.1,iv w.2]]).length=h.length+1:=by simp
 simp only[ZG,↓reduceIte,ZA,ZB,ZC,r71,YE,YC,YO,YA,YL,YX,YS,Ya,Yb,Yl,Yf,Yg,Yi,Ym,Yk,Yt,Yn,Yz,Yp,Yq,Yd,wv,mbl,ZD,ZE,ZF];generalize h++[row 44 h.length [iv w.1,iv w.2]]=h1 at oK k1 s1 l1 ⊢;have hg:=ent_get w ts
 by_cases hin:w∈ts
 ·obtain ⟨j,hp⟩:=pos_some hin
  rw[hp] at hg;have hl:=lk2_some (z:=.int .i64 0) (ok:=true) t2W s1.om hg;simp only[pv] at hl;simp only[ZG,↓reduceIte,ZA,ZB,ZC,mbl,ZD,ZE,ZF,s1.oi.cells.ld,oK.cells.lds 0 2 (by simp),hl];exact hΨ _ _ (fin_ret (rv2 rfl rfl ⟨k1.mono (fun _ e=>e.elim),⟨_,rfl⟩,v,by rw[num,if_pos hin];exact s1,fun q e=>.inl e⟩))
 ·rw[pos_none.2 hin] at hg
  have hlk:=lk2_none (z:=.int .i64 0) (ok:=true) t2W s1.om hg;simp only[pv] at hlk;obtain ⟨a,c,hv⟩:=row_shape s1.ov.rds;obtain ⟨h2,m1,m2,m3,m4⟩:=mup2_new map_w t2W s1.om (v:=(ts.length:Int)) hg;simp only[pv] at m1;have oi2:=s1.oi.keep m3 s1.ne.symm;have ov2:=s1.ov.keep m3 (fun q e c=>(s1.nv q e).2 c);have hkm:h.length≠bm:=by have:=s.om.lt;omega
  have oK2:=oK.keep m3 hkm;obtain ⟨v3,h3,p1,p2,p3,p4⟩:=app1 (bytes:=16) (xs:=[iv w.1,iv w.2]) ov2 rfl rfl (by omega) (by omega);have oi3:=oi2.keep p3 (fun e=>(s.nv _ e).1 rfl);have om3:=m2.keep p3 (fun e=>(s.nv _ e).2 rfl);obtain ⟨a3,c3,hv3⟩:=row_shape p2.rds;subst hv3;subst hv;simp only[ZG,↓reduceIte,ZA,ZB,ZC,mbl,ZD,ZE,ZF,s1.oi.cells.ld,oK.cells.lds 0 2 (by simp),hlk,m1,oi2.cells.ld,oK2.cells.lds 0 2 (by simp),p1,ct1,(oi2.keep (Keep.push (fun _=>False) h2 (row 44 h2.length [iv w.1,iv w.2])) (fun e=>e)).cells.ld];refine XH_own oi3 rfl (by simp [Value.cells]) rfl (fun h4 q1 q2 q3=>?_);have oi4:Own h4 bi 123 [.map (some bm),.slice a3 (ts.length+1) c3]:=by simpa [Value.cells] using q1
  simp only[ZG,↓reduceIte,ZA,ZB,ZC];have nb3:∀ q,bk (.slice a3 (ts.length+1) c3) q->q≠bi/\q≠bm:=fun q e=>(p4 q e).elim (fun e=>s.nv q e) (fun e=>by have:=s.oi.lt;have:=s.om.lt;omega)
  have kk:Keep (IOwns bi bm (.slice a ts.length c)) h1 h4:=((m3.mono (fun q e=>.inr (.inl e))).trans (p3.mono (fun q e=>.inr (.inr e)))).trans (q2.mono fun q e=>.inl e);refine hΨ _ _ (fin_ret (rv2 rfl rfl ⟨(k1.mono (fun _ e=>e.elim)).trans kk,⟨_,rfl⟩,_,?_,fun q e=>(p4 q e).imp id (fun e=>by omega)⟩));rw[num,if_neg hin];refine ⟨oi4,?_,?_,s.ne,nb3⟩
  ·rw[ent_app];exact om3.keep q2 s.ne
  ·rw[List.length_append,ww_app]
   exact p2.keep q2 (fun q e c=>(nb3 q e).1 c)
end
end Go.S19

namespace Go.S19
open Go Go.Eng Go.Proofs Go.Chk
section
variable {S:HS}
noncomputable def HS.folX (S:HS) (w:Int × Int):(Int × Int) × Int:=open Classical in if S.sound w then (if h:∃ y m,S.fol m w=some y then h.choose else w,0) else ((0,0),1)
theorem folX_eq {w x:Int × Int} {m:Nat} (hs:S.sound w) (hx:S.fol m w=some x):S.folX w=(x,0):=by
 classical
 unfold HS.folX;have hex:∃ y m,S.fol m w=some y:=⟨x,m,hx⟩
 rw[if_pos hs,dif_pos hex];obtain ⟨m2,hm2⟩:=hex.choose_spec;rw[<- fol_one hx hm2]
theorem folX_no {w:Int × Int} (hs:¬ S.sound w):S.folX w=((0,0),1):=by unfold HS.folX;rw[if_neg hs]
theorem fol_sound (v:Inv S):∀ {n:Nat} {w y:Int × Int},S.sound w->S.fol n w=some y->S.sound y/\(y.1=4->S.lies y/\(gx S.now y.2).1≠12):=by
 intro n
 induction n with
 | zero=>intro w y hs h;cases h
 | succ n ih =>
   intro w y hs h;rw[HS.fol] at h
   split at h
   ·rename_i h4
    have hl:S.lies w:=hs.resolve_left (fun hp=>by obtain ⟨a,c⟩:=w;simp only at h4;subst h4;rcases hp with e|e|e<;>simp at e)
    split at h
    ·rename_i h12;exact ih (v.chain hl h12) h
    ·rename_i h12;cases h;exact ⟨hs,fun _=>⟨hl,h12⟩⟩
   ·rename_i h4;cases h;exact ⟨hs,fun e=>absurd e h4⟩
theorem folX_sound (v:Inv S) {w:Int × Int} (hs:S.sound w):∃ x,S.folX w=(x,0)/\S.sound x/\(x.1=4->S.lies x/\(gx S.now x.2).1≠12):=by
 obtain ⟨m,x,hx⟩:=v.tm w hs;exact ⟨x,folX_eq hs hx,fol_sound v hs hx⟩
noncomputable def HS.meetT (S:HS):List (Int × Int)->List (Int × Int)->List (Int × Int) × Bool
 | [],ts=>(ts,true)
 | w::ws,ts=>if S.sound w then S.meetT ws (if (S.folX w).1.1=4 then num ts (S.folX w).1 else ts) else (ts,false)
def Gd (S:HS) (ts:List (Int × Int)):Prop:=(∀ x∈ts,S.lies x/\(gx S.now x.2).1≠12)/\ts.Nodup
theorem Gd.nil (S:HS):Gd S []:=⟨fun x h=>(by cases h),List.nodup_nil⟩
theorem Gd.num {ts:List (Int × Int)} (g:Gd S ts) {x:Int × Int} (hx:S.lies x/\(gx S.now x.2).1≠12):Gd S (num ts x):=by
 unfold Go.S19.num
 split
 ·exact g
 ·rename_i h
  refine ⟨fun y hy=>?_,?_⟩
  ·rcases List.mem_append.1 hy with e|e
   ·exact g.1 y e
   ·cases Z8.1 e;exact hx
  ·rw[List.nodup_append]
   exact ⟨g.2,by simp,fun a ha c hc=>by cases Z8.1 hc;intro e;subst e;exact h ha⟩
theorem nodup_sub {α:Type} [DecidableEq α]:∀ {a l:List α},a.Nodup->(∀ x∈a,x∈l)->a.length<=l.length:=by
 intro a
 induction a with
 | nil=>intro l _ _;simp
 | cons x a ih =>
   intro l hn hs;have hx:=hs x List.mem_cons_self;have:=ih (l:=l.erase x) (List.nodup_cons.1 hn).2 (fun y hy=>(List.mem_erase_of_ne (fun e=>(List.nodup_cons.1 hn).1 (by rw[<- e];exact hy))).2 (hs y (Z7 _ hy)));rw[List.length_erase_of_mem hx] at this;have:0<l.length:=List.length_pos_of_mem hx;simp;omega
theorem tiles_count:∀ {l:List (Int × Int)} {a e:Int},tiles a l e->a+l.length<=e:=by
 intro l
 induction l with
 | nil=>intro a e h;simp only[tiles] at h;simp;omega
 | cons p l ih=>intro a e h;simp only[tiles] at h;have:=ih h.2.2;simp;omega
theorem Gd.len (v:Inv S) {ts:List (Int × Int)} (g:Gd S ts):ts.length<=S.begins.length:=by
 have h1:=nodup_sub (a:=ts) (l:=S.begins.map fun p=>((4:Int),p.1)) g.2 (fun x hx=>by
  obtain ⟨h4,hs⟩:=(g.1 x hx).1;obtain ⟨n,hn⟩:=Z5.1 hs;exact List.mem_map.2 ⟨_,mget_in hn,Prod.ext h4.symm rfl⟩)
 simpa using h1
theorem Inv.bg (v:Inv S):S.begins.length<=1048576:=by
 have:=tiles_count v.tn;have:=v.ln;have:=v.sz;omega
noncomputable def HS.bfsT (S:HS):Nat->Nat->List (Int × Int)->Bool->List (Int × Int) × Bool
 | 0,_,ts,sd=>(ts,sd)
 | n+1,i,ts,sd=>match ts[i]? with
   | none=>(ts,sd)
   | some w=>if sd && (S.meetT (S.flds w) ts).2 then S.bfsT n (i+1) (S.meetT (S.flds w) ts).1 true else ((S.meetT (S.flds w) ts).1,false)
noncomputable def HS.graph (S:HS) (roots:List (Int × Int)):List (Int × Int) × Bool :=
 S.bfsT (S.begins.length+1) 0 (S.meetT S.globals (S.meetT roots []).1).1 ((S.meetT roots []).2 && (S.meetT S.globals (S.meetT roots []).1).2)
end
section
variable {h:AH} {b:Nat} {L:Lay} {S:HS}
theorem xFollow_ok (s:Hp h b L S) (v:Inv S) (w:Int × Int):Gets Tryd.prog 48 [.pointer (some ⟨b,0,none⟩),wv w] h (fun res h'=>Keep (fun _=>False) h h'/\res = .ret (.tuple #[wv (S.folX w).1,iv (S.folX w).2])) :=
 (Follow_ok s w (v.tm w)).mono fun res h' _ ⟨a,c⟩=>by
  by_cases hs:S.sound w
  ·rw[if_pos hs] at c
   obtain ⟨m,x,hx,rfl⟩:=c;rw[folX_eq hs hx];exact ⟨a,rfl⟩
  ·rw[if_neg hs] at c
   rw[folX_no hs];exact ⟨a,c⟩
end
def GOwns (bg bi bm:Nat) (v:Value) (q:Nat):Prop:=q=bg\/IOwns bi bm v q
structure Gr (h:AH) (b:Nat) (L:Lay) (S:HS) (bg bi bm:Nat) (v:Value) (ts:List (Int × Int)) (sd:Bool):Prop where
 hp:Hp h b L S
 iv:Inv S
 og:Own h bg 101 [.pointer (some ⟨b,0,none⟩),.pointer (some ⟨bi,0,none⟩),.bool sd]
 ix:Ixs h bi bm v ts
 ng:¬ IOwns bi bm v bg
 fr:∀ q,GOwns bg bi bm v q->L.cls q=0
 gd:Gd S ts
theorem Gr.keepF {h h':AH} {b:Nat} {L:Lay} {S:HS} {bg bi bm:Nat} {v:Value} {ts:List (Int × Int)} {sd:Bool} (g:Gr h b L S bg bi bm v ts sd) (k:Keep (fun _=>False) h h'):Gr h' b L S bg bi bm v ts sd :=
 ⟨g.hp.keepF k,g.iv,g.og.keep k (fun e=>e),g.ix.keep k (fun _ _ e=>e),g.ng,g.fr,g.gd⟩
theorem Gr.lt {h:AH} {b:Nat} {L:Lay} {S:HS} {bg bi bm:Nat} {v:Value} {ts:List (Int × Int)} {sd:Bool} (g:Gr h b L S bg bi bm v ts sd):∀ q,GOwns bg bi bm v q->q<h.length:=by
 rintro q (e|e)
 ·rw[e];exact g.og.lt
 ·exact g.ix.lt q e
theorem Gr.num {h h':AH} {b:Nat} {L:Lay} {S:HS} {bg bi bm:Nat} {v v':Value} {ts:List (Int × Int)} {sd:Bool} (g:Gr h b L S bg bi bm v ts sd) (k:Keep (IOwns bi bm v) h h') {x:Int × Int} (hx:S.lies x/\(gx S.now x.2).1≠12)
 (ix:Ixs h' bi bm v' (num ts x)) (nv:∀ q,bk v' q->bk v q\/h.length<=q):Gr h' b L S bg bi bm v' (num ts x) sd:=by
 have key:∀ q,IOwns bi bm v' q->IOwns bi bm v q\/h.length<=q:=by
  rintro q (e|e|e)
  ·exact .inl (.inl e)
  ·exact .inl (.inr (.inl e))
  ·exact (nv q e).imp (fun e=>.inr (.inr e)) id
 refine ⟨g.hp.keep k (fun q hq e=>hq (g.fr q (.inr e))),g.iv,g.og.keep k g.ng,ix,fun e=>(key _ e).elim g.ng (fun e=>by have:=g.og.lt;omega),?_,g.gd.num hx⟩;rintro q (e|e)
 ·exact g.fr q (.inl e)
 ·rcases key q e with e|e
  ·exact g.fr q (.inr e)
  ·exact g.hp.c0 q e
theorem Gr.unsound {h h':AH} {b:Nat} {L:Lay} {S:HS} {bg bi bm:Nat} {v:Value} {ts:List (Int × Int)} {sd sd':Bool} (g:Gr h b L S bg bi bm v ts sd) (k:Keep (· = bg) h h')
 (og:Own h' bg 101 [.pointer (some ⟨b,0,none⟩),.pointer (some ⟨bi,0,none⟩),.bool sd']):Gr h' b L S bg bi bm v ts sd' :=
 ⟨g.hp.keep k (fun q hq e=>hq (g.fr q (.inl e))),g.iv,og,g.ix.keep k (fun q e c=>g.ng (by rw[<- c];exact e)),g.ng,g.fr,g.gd⟩
section
variable {h:AH} {b:Nat} {L:Lay} {S:HS} {bg bi bm:Nat} {v:Value} {ts:List (Int × Int)} {sd:Bool}
set_option maxHeartbeats 1000000 in
theorem meet_ok (g:Gr h b L S bg bi bm v ts sd) {u:Value} {ws:List (Int × Int)} (hu:Rds h 2 u ws.length (ww ws)) (hm:ws.length<=9000000000000000000) (hd:∀ q,rb u q -> ¬ GOwns bg bi bm v q) :
 Gets Tryd.prog 57 [.pointer (some ⟨bg,0,none⟩),u] h (fun res h'=>res = .ret (.tuple #[])/\Keep (GOwns bg bi bm v) h h' /\ ∃ v',Gr h' b L S bg bi bm v' (S.meetT ws ts).1 (sd && (S.meetT ws ts).2) /\ ∀ q,bk v' q->bk v q\/h.length<=q):=by
 refine Gets.of (keep:=false) hP (draw_ok hM) k57 (by rfl) (fun Ψ hΨ=>?_);obtain ⟨ua,uc,hv⟩:=row_shape hu;simp only[ZG,↓reduceIte,ZA,ZB,ZC,r57,YE,YC,YO,YA,YL,YX,YS,Ya,Yb,Yl,Yf,Yg,Yi,Ym,Yk,Yt,Yn,Yz,Yp,Yq,Yd,mbl,ZD,ZE,ZF,hv];rw[<- hv];refine XLo_rule (α:=Nat × Value × List (Int × Int)) (fun a=>[(0,.pointer (some ⟨bg,0,none⟩)),(8,u),(9,iv ws.length),(10,iv a.1)])
  (fun a h'=>a.1<=ws.length/\Gr h' b L S bg bi bm a.2.1 a.2.2 sd/\S.meetT (ws.drop a.1) a.2.2=S.meetT ws ts/\Keep (GOwns bg bi bm v) h h' /\ ∀ q,bk a.2.1 q->bk v q\/h.length<=q) (fun a=>ws.length-a.1) (0,v,ts)
  ⟨Z6 _,g,rfl,.refl _ _,fun q e=>.inl e⟩ ⟨by subst hv;rfl,by subst hv;rfl,rfl,rfl,trivial⟩ ?_
 rintro ⟨i,v1,t1⟩ h1 Ψ2 ⟨hi,g1,hmt,k1,hb1⟩ next out
 simp only at hi g1 hmt hb1
 by_cases hlt:i<ws.length
 case neg =>
  have d1:((i:Int)<((ws.length:Nat):Int))=False:=by simp;omega
  simp only[ZG,↓reduceIte,ZA,ZB,ZC,d1];refine out (.exit 0) _ _ _ _ (by intro e;cases e) ?_;simp only[ZG,↓reduceIte,ZA,ZB,ZC];refine hΨ _ _ (fin_norm (rv0 ?_));have:ws.drop i=[]:=Z2 (by omega);rw[this] at hmt;refine ⟨rfl,k1,v1,?_,hb1⟩;rw[<- hmt,HS.meetT,Bool.and_true];exact g1
 case pos =>
 have d1:((i:Int)<((ws.length:Nat):Int))=True:=by simp;omega
 have hu1:Rds h1 2 u ws.length (ww ws):=hu.keep k1 hd;obtain ⟨bu,o,c,hue,hn,hl⟩:=rds_w hu1 (i:=(i:Int)) (by omega) (by omega);have hdrop:ws.drop i=wat ws i::ws.drop (i+1):=by
  rw[Z1 hlt];congr 1;simp [wat,hlt]
 rw[hdrop,HS.meetT] at hmt;have d0:(0<=(i:Int))=True:=by simp
 have oW:=Own.new h1 44 h1.length [iv 0,iv 0];have k2:Keep (fun _=>False) h1 (h1++[row 44 h1.length [iv 0,iv 0]]):=Keep.push _ _ _;have l2:(h1++[row 44 h1.length [iv 0,iv 0]]).length=h1.length+1:=by simp
 simp only[ZG,↓reduceIte,ZA,ZB,ZC,d1,d0,and_self,hue,hl,mbl,ZD,ZE,ZF];rw[<- hue];generalize h1++[row 44 h1.length [iv 0,iv 0]]=h2 at oW k2 l2 ⊢;generalize hw:wat ws (i:Int)=w at hmt ⊢;refine XH_own oW rfl (by simp [Value.cells]) rfl (fun h3 q1 q2 q3=>?_);have oW3:Own h3 h1.length 44 [iv w.1,iv w.2]:=by simpa [Value.cells] using q1
 have k13:Keep (fun _=>False) h1 h3:=k2.trans' q2 (fun c hc e=>by omega);have g3:=g1.keepF k13;simp only[ZG,↓reduceIte,ZA,ZB,ZC,g3.og.cells.ld,oW3.cells.lds 0 2 (by simp),mbl,ZD,ZE,ZF];refine XX_of (xFollow_ok g3.hp g3.iv w) (fun res h4 hle hn=>?_);obtain ⟨k4,rfl⟩:=hn;refine .ret ?_;have g4:=g3.keepF k4;have l4:=k4.len;have oX:=Own.new h4 44 h4.length [iv 0,iv 0];have k5:Keep (fun _=>False) h4 (h4++[row 44 h4.length [iv 0,iv 0]]):=Keep.push _ _ _;simp only[ZG,↓reduceIte,ZA,ZB,ZC,wv,mbl,ZD,ZE,ZF];generalize h4++[row 44 h4.length [iv 0,iv 0]]=h5 at oX k5 ⊢;generalize hx:(S.folX w).1=x at hmt ⊢;refine XH_own oX rfl (by simp [Value.cells]) rfl (fun h6 q1' q2' q3'=>?_);have oX6:Own h6 h4.length 44 [iv x.1,iv x.2]:=by simpa [Value.cells] using q1'
 have k46:Keep (fun _=>False) h4 h6:=k5.trans' q2' (fun c hc e=>by omega);have g6:=g4.keepF k46;have k16:Keep (fun _=>False) h1 h6:=(k13.trans k4).trans k46;have k06:=k1.trans (k16.mono (fun _ e=>e.elim))
 by_cases hs:S.sound w
 case neg =>
  rw[if_neg hs] at hmt;rw[folX_no hs];simp only[ZG,↓reduceIte,ZA,ZB,ZC,mbl,ZD,ZE,ZF];refine XH_own g6.og rfl (by simp [Value.cells]) rfl (fun h7 r1 r2 r3=>?_);have og7:Own h7 bg 101 [.pointer (some ⟨b,0,none⟩),.pointer (some ⟨bi,0,none⟩),.bool false]:=by simpa [Value.cells] using r1
  simp only[ZG,↓reduceIte,ZA,ZB,ZC];refine out .ret _ _ _ _ (by intro e;cases e) ?_;simp only[ZG,↓reduceIte,ZA,ZB,ZC];refine hΨ _ _ (fin_ret (rv0 ?_));refine ⟨rfl,k06.trans (r2.mono fun q e=>.inl e),v1,?_,hb1⟩;rw[<- hmt,Bool.and_false];exact g6.unsound r2 og7
 rw[if_pos hs] at hmt;obtain ⟨x',e1,e2,e3⟩:=folX_sound g1.iv hs;have hx2:x'=x:=by rw[e1] at hx;exact hx
 subst hx2;rw[e1];have wi:IntKind.i64.wrap ((i:Int)+1)=((i+1:Nat):Int):=by rw[i64w (by omega) (by omega)];omega
 by_cases hk4:x'.1=4
 case neg =>
  rw[if_neg hk4] at hmt;simp only[ZG,↓reduceIte,ZA,ZB,ZC,mbl,ZD,ZE,ZF,oX6.cells.ld,hk4,wi];exact next (i+1,v1,t1) _ _ h6 ⟨by omega,g6,hmt,k06,hb1⟩ ⟨rfl,rfl,rfl,rfl,trivial⟩ (by simp;omega)
 case pos =>
  rw[if_pos hk4] at hmt;simp only[ZG,↓reduceIte,ZA,ZB,ZC,mbl,ZD,ZE,ZF,oX6.cells.ld,oX6.cells.lds 0 2 (by simp),hk4,g6.og.cells.ld];have hw4:(.agg #[iv 4,iv x'.2]:Value)=wv x':=by simp [wv,hk4]
  rw[hw4];refine XX_of (iNumber_ok g6.ix x' (by have:=g6.gd.len g6.iv;have:=g6.iv.bg;omega)) (fun res h7 hle7 hn7=>?_);obtain ⟨k7,⟨n7,rfl⟩,v2,ix7,nb7⟩:=hn7;refine .ret ?_;have g7:=g6.num k7 (e3 hk4) ix7 nb7;have l06:=k06.len;have k07:Keep (GOwns bg bi bm v) h h7:=k06.trans' (k7.mono (fun q e=>Or.inr e:∀ q,IOwns bi bm v1 q->GOwns bg bi bm v1 q)) (fun c hc e=>by
   rcases e with e|e|e|e
   ·exact .inl e
   ·exact .inr (.inl e)
   ·exact .inr (.inr (.inl e))
   ·exact (hb1 c e).elim (fun e=>.inr (.inr (.inr e))) (fun e=>by omega))
  simp only[ZG,↓reduceIte,ZA,ZB,ZC,wi];exact next (i+1,v2,num t1 x') _ _ h7 ⟨by omega,g7,hmt,k07,fun q e=>(nb7 q e).elim (fun e=>hb1 q e) (fun e=>.inr (by omega))⟩ ⟨rfl,rfl,rfl,rfl,trivial⟩ (by simp;omega)
end
end Go.S19

namespace Go.S19
open Go Go.Eng Go.Proofs Go.Chk
theorem each_ok {h:AH} {bg:Nat} (hb:bg<h.length):Gets Tryd.prog 28 [.pointer (some ⟨bg,0,none⟩)] h (fun res h'=>Keep (fun _=>False) h h' /\ ∃ bx t,res = .ret (.func (.func 61) #[] #[.pointer (some ⟨bx,0,none⟩)])/\Own h' bx t [.pointer (some ⟨bg,0,none⟩)]/\h.length<=bx):=by
 refine Gets.of (keep:=false) hP (draw_ok hM) k28 (by rfl) (fun Ψ hΨ=>?_);simp only[ZG,↓reduceIte,ZA,ZB,ZC,r28,YE,YC,YO,YA,YL,YX,YS,Ya,Yb,Yl,Yf,Yg,Yi,Ym,Yk,Yt,Yn,Yz,Yp,Yq,Yd,mbl,ZD,ZE,ZF];exact hΨ _ _ (fin_ret (rv1 rfl ⟨Keep.push _ _ _,h.length,_,rfl,Own.new _ _ _ _,Z0 _⟩))
def eachB:RC:=match ri61 with
 | .sq _ (.blk _ (.loop c))=>c
 | _=>.bad
set_option maxRecDepth 20000 in
theorem eachB_eq:ri61 = .sq (.rg [⟨(.n 3),none,(.u .mv (.c (.int .i64 0)))⟩]) (.blk 0 (.loop eachB)):=rfl
structure EachAt (RD:List Value->AH->Out->AH->Prop) (St:Nat->AH->Prop) (Fin:Out->AH->Prop) (bx M:Nat) (i:Nat) (h:AH):Prop where
 le:i<=M
 at_:∃ t bg c0 sdv bi bm v ts,Own h bx t [.pointer (some ⟨bg,0,none⟩)]/\Own h bg 101 [c0,.pointer (some ⟨bi,0,none⟩),sdv]/\Ixs h bi bm v ts/\i<=ts.length/\(i=ts.length->Fin .norm h) /\
  ∀ w,ts[i]?=some w -> ∀ h1,Keep (fun _=>False) h h1 -> ∃ j h2,RD [iv i,wv w] h1 j h2/\h1.length<=h2.length/\(j = .norm->St (i+1) h2)/\(j ≠ .norm->Fin j h2)
def yv (l:Nat):Value:=.func (.yield l) #[] #[]
theorem each_loop {RD:List Value->AH->Out->AH->Prop} {St:Nat->AH->Prop} {Fin:Out->AH->Prop} {bx M:Nat} (hM:M<=9000000000000000000) (open_:∀ i h,St i h->EachAt RD St Fin bx M i h) :
 ∀ (d i:Nat) (h:AH),St i h->M+1-i<=d -> ∃ out h',Fin out h'/\h.length<=h'.length /\ ∃ n,∀ (l:Nat) (s:PS),Lss ⟨[(0,yv l),(1,.pointer (some ⟨bx,0,none⟩)),(3,iv i)],[],h,[]⟩ s ->
   loopY (wpcY Tryd.prog false [0,1,3,4] (fun l' ags hh K=>l'=l /\ ∃ j h2,RD ags hh j h2/\hh.length<=h2.length/\K j h2) eachB) (blkY 0 (fun o s2 p=>(o = .norm\/o = .ret)/\p=out/\s2.h=h')) n s .norm:=by
 intro d
 induction d with
 | zero=>intro i h hs hd;have:=(open_ i h hs).le;omega
 | succ d ih =>
   intro i h hs hd;obtain ⟨hle,t,bg,c0,sdv,bi,bm,v,ts,ox,og,ix,hi,hend,hround⟩:=open_ i h hs;obtain ⟨_,_,hL,_,eh,er⟩:=iLen_ok ix;rw[eh,er] at hL;clear eh er
   rcases Nat.lt_or_eq_of_le hi with hlt|heq
   case inr =>
    have d1:((i:Int)<((ts.length:Nat):Int))=False:=by simp;omega
    refine ⟨.norm,_,hend heq,Z0 _,1,fun l s ls=>⟨_,ls,?_⟩⟩
    change Go.Eng.YC Tryd.prog false [0,1,3,4] (fun l' ags hh K=>l'=l /\ ∃ j h2,RD ags hh j h2/\hh.length<=h2.length/\K j h2) _ eachB [(0,yv l),(1,.pointer (some ⟨bx,0,none⟩)),(3,iv i)] [] _ .norm
    simp only[ZG,↓reduceIte,ZA,ZB,ZC,ymach,eachB,ri61,YE,YC,YO,YA,YL,YX,YS,Ya,Yb,Yl,Yf,Yg,Yi,Ym,Yk,Yt,Yn,Yz,Yp,Yq,Yd,ox.cells.ld,og.cells.ld,mbl,ZD,ZE,ZF];refine YX_of (v:=iv ts.length) ?_ (Z0 _) ?_
    ·with_reducible exact hL
    simp only[ZG,↓reduceIte,ZA,ZB,ZC,ymach,d1];exact ⟨.inl rfl,rfl,rfl⟩
   case inl =>
    have d1:((i:Int)<((ts.length:Nat):Int))=True:=by simp;omega
    have hw:ts[i]?=some (ts[i]'hlt):=List.getElem?_eq_getElem hlt;generalize ts[i]'hlt=w at hw;obtain ⟨_,h1,hA,hl1,k1,rfl⟩:=iAt_ok ix hw;have ox1:=ox.keep k1 (fun e=>e);have og1:=og.keep k1 (fun e=>e);have oW:=Own.new h1 44 h1.length [iv 0,iv 0];have k2:Keep (fun _=>False) h1 (h1++[row 44 h1.length [iv 0,iv 0]]):=Keep.push _ _ _;obtain ⟨h2,q0,q1,q2,q3⟩:=oW.store (i:=0) (vs:=[iv w.1,iv w.2]) (by simp) rfl;have oW2:Own h2 h1.length 44 [iv w.1,iv w.2]:=by simpa using q1
    have k12:Keep (fun _=>False) h1 h2:=k2.trans' q2 (fun c hc e=>by omega);obtain ⟨j,h3,hRD,hl3,hgo,hfin⟩:=hround w hw h2 (k1.trans k12);have hl02:=(k1.trans k12).len;have hst:stv (h1++[row 44 h1.length [iv 0,iv 0]]) 2 (.pointer (some ⟨h1.length,0,none⟩)) (wv w)=some h2:=by simpa [stv,wv,Value.cells] using q0
    have key:∀ {out:Out} {h':AH} {n:Nat},(∀ l (e' l':PE),j = .norm->Eng.look e' 0=some (yv l)->Eng.look e' 1=some (.pointer (some ⟨bx,0,none⟩))->Eng.look e' 3=some (iv ((i+1:Nat):Int)) ->
     loopY (wpcY Tryd.prog false [0,1,3,4] (fun l' ags hh K=>l'=l /\ ∃ j h2,RD ags hh j h2/\hh.length<=h2.length/\K j h2) eachB) (blkY 0 (fun o s2 p=>(o = .norm\/o = .ret)/\p=out/\s2.h=h')) n ⟨e',l',h3,[]⟩ .norm) ->
     (j ≠ .norm->out=j/\h'=h3) -> ∀ (l:Nat) (s:PS),Lss ⟨[(0,yv l),(1,.pointer (some ⟨bx,0,none⟩)),(3,iv i)],[],h,[]⟩ s ->
     loopY (wpcY Tryd.prog false [0,1,3,4] (fun l' ags hh K=>l'=l /\ ∃ j h2,RD ags hh j h2/\hh.length<=h2.length/\K j h2) eachB) (blkY 0 (fun o s2 p=>(o = .norm\/o = .ret)/\p=out/\s2.h=h')) (n+1) s .norm:=by
     intro out h' n hnext hstop l s ls;refine ⟨_,ls,?_⟩
     change Go.Eng.YC Tryd.prog false [0,1,3,4] (fun l' ags hh K=>l'=l /\ ∃ j h2,RD ags hh j h2/\hh.length<=h2.length/\K j h2) _ eachB [(0,yv l),(1,.pointer (some ⟨bx,0,none⟩)),(3,iv i)] [] _ .norm
     simp only[ZG,↓reduceIte,ZA,ZB,ZC,ymach,eachB,ri61,YE,YC,YO,YA,YL,YX,YS,Ya,Yb,Yl,Yf,Yg,Yi,Ym,Yk,Yt,Yn,Yz,Yp,Yq,Yd,ox.cells.ld,og.cells.ld,mbl,ZD,ZE,ZF];refine YX_of (v:=iv ts.length) ?_ (Z0 _) ?_
     ·with_reducible exact hL
     simp only[ZG,↓reduceIte,ZA,ZB,ZC,ymach,d1,ox.cells.ld,og.cells.ld,mbl,ZD,ZE,ZF];refine YX_of (v:=.tuple #[wv w,iv 0]) (h':=h1) ?_ hl1 ?_
     ·with_reducible exact hA
     simp only[ZG,↓reduceIte,ZA,ZB,ZC,ymach,mbl,ZD,ZE,ZF,hst,oW2.cells.lds 0 2 (by simp),yv];refine YY_of ⟨rfl,j,h3,hRD,hl3,?_⟩;cases hj:j with
     | norm =>
       have wi:IntKind.i64.wrap ((i:Int)+1)=((i+1:Nat):Int):=by rw[i64w (by omega) (by omega)];omega
       simp only[ZG,↓reduceIte,ZA,ZB,ZC,ymach,goesOn,wi];exact hnext l _ _ hj rfl rfl rfl
     | exit id =>
       obtain ⟨rfl,rfl⟩:=hstop (by rw[hj];intro e;cases e);simp only[ZG,↓reduceIte,ZA,ZB,ZC,ymach,goesOn];exact ⟨.inr rfl,hj.symm,rfl⟩
     | ret =>
       obtain ⟨rfl,rfl⟩:=hstop (by rw[hj];intro e;cases e);simp only[ZG,↓reduceIte,ZA,ZB,ZC,ymach,goesOn];exact ⟨.inr rfl,hj.symm,rfl⟩
     | pan v =>
       obtain ⟨rfl,rfl⟩:=hstop (by rw[hj];intro e;cases e);simp only[ZG,↓reduceIte,ZA,ZB,ZC,ymach,goesOn];exact ⟨.inr rfl,hj.symm,rfl⟩
    by_cases hj:j = .norm
    ·obtain ⟨out,h',hf,hl',n,hn⟩:=ih (i+1) h3 (hgo hj) (by omega)
     refine ⟨out,h',hf,by omega,n+1,key (fun l e' l' _ a0 a1 a3=>?_) (fun hne=>absurd hj hne)⟩;refine hn l _ ⟨fun t v hv=>?_,fun t v hv=>(by cases hv),rfl,rfl⟩;simp only[Eng.look] at hv
     split at hv
     ·rename_i e;subst e;cases hv;exact a0
     split at hv
     ·rename_i e;subst e;cases hv;exact a1
     split at hv
     ·rename_i e;subst e;cases hv;exact a3
     ·cases hv
    ·exact ⟨j,h3,hfin hj,by omega,1,key (n:=0) (fun l e' l' hj'=>absurd hj' hj) (fun _=>⟨rfl,rfl⟩)⟩
theorem each_rng {RD:List Value->AH->Out->AH->Prop} {St:Nat->AH->Prop} {Fin:Out->AH->Prop} {bx M:Nat} (hM:M<=9000000000000000000) (open_:∀ i h,St i h->EachAt RD St Fin bx M i h) {h:AH} (h0:St 0 h) :
 ∃ out h',RngH Tryd.prog RD 61 [.pointer (some ⟨bx,0,none⟩)] h out h'/\h.length<=h'.length/\Fin out h':=by
 obtain ⟨out,h',hf,hl,n,hn⟩:=each_loop hM open_ (M+1) 0 h h0 (by omega);refine ⟨out,h',⟨[0,1,3,4],_,ki61,rfl,fun l=>?_⟩,hl,hf⟩;rw[eachB_eq]
 change Go.Eng.YC Tryd.prog false [0,1,3,4] _ _ _ [(0,yv l),(1,.pointer (some ⟨bx,0,none⟩))] [] _ .norm
 simp only[ZG,↓reduceIte,ZA,ZB,ZC,ymach];exact ⟨n,hn l _ ⟨fun t v hv=>hv,fun t v hv=>(by cases hv),rfl,rfl⟩⟩
end Go.S19

namespace Go.S19
open Go Go.Eng Go.Proofs Go.Chk
theorem XRf_each {keep:Bool} {nm:List Nat} {Φ:Out->PS->Prop} {ps:List Nat} {xa xb:RC} {k:List Fm} {e:PE} {h:AH} {St:Nat->AH->Prop} {Fin:Out->AH->Prop} {bx M:Nat} (hM:M<=9000000000000000000) (h0:St 0 h)
 (open_:∀ i h,St i h->EachAt (RndH nm (wpc Tryd.prog keep nm xa) (wpc Tryd.prog keep nm xb) e ps) St Fin bx M i h)
 (hk:∀ out h',Fin out h'->h.length<=h'.length->XE Tryd.prog keep nm Φ out k e [] h' [mkD]):XRf Tryd.prog keep nm Φ (some (.func (.func 61) #[] #[.pointer (some ⟨bx,0,none⟩)])) ps xa xb k e h []:=by
 obtain ⟨out,h',h1,h2,h3⟩:=each_rng hM open_ h0;exact ⟨rfl,_,_,out,h',rfl,h1,h2,hk out h' h3 h2⟩
theorem RndH.ex {P:Program} {keep:Bool} {nm:List Nat} {e:PE} {ps:List Nat} {la:List RO} {xb:RC} {vs:List Value} {h:AH} {Q:Out->AH->Prop} (hl:vs.length=ps.length) (hps:∀ t∈ps,nm.contains t=true) (hn:∀ o∈la,∀ f vs,o.k ≠ .dfr f vs) (hq:∀ v h,¬ Q (.pan v) h)
 (hw:∀ Ψ:Out->PS->Prop,(∀ o e l hh ds,Q o hh->Ψ o ⟨e,l,hh,ds⟩)->XC P keep nm Ψ (.sq (.rg la) xb) [] (updps e ps vs) [] h []):∃ j h',RndH nm (wpc P keep nm (.rg la)) (wpc P keep nm xb) e ps vs h j h'/\h.length<=h'.length/\Q j h':=by
 obtain ⟨out,s',k1,k2,k3⟩:=wpc_one _ _ _ (hw (fun o s=>Q o s.h) (fun o e l hh ds h=>h));have hj:∀ v,out ≠ .pan v:=fun v e=>hq v s'.h (e ▸ k1)
 exact ⟨out,s'.h,RndH.asg hl hps hn hj (fun Ψ hΨ=>k3 Ψ (hΨ out s'.e s'.l s'.ds rfl)),k2,k1⟩
theorem RndH.go {P:Program} {keep:Bool} {nm:List Nat} {e:PE} {ps:List Nat} {la:List RO} {xb:RC} {vs:List Value} {h:AH} {A:AH->Prop} {B:Out->AH->Prop} (Q:Out->AH->Prop) (hl:vs.length=ps.length) (hps:∀ t∈ps,nm.contains t=true) (hn:∀ o∈la,∀ f vs,o.k ≠ .dfr f vs) (hq:∀ v h,¬ Q (.pan v) h)
 (hw:∀ Ψ:Out->PS->Prop,(∀ o e l hh ds,Q o hh->Ψ o ⟨e,l,hh,ds⟩)->XC P keep nm Ψ (.sq (.rg la) xb) [] (updps e ps vs) [] h []) (ha:∀ h',h.length<=h'.length->Q .norm h'->A h') (hb:∀ j h',h.length<=h'.length->j ≠ .norm->Q j h'->B j h') :
 ∃ j h',RndH nm (wpc P keep nm (.rg la)) (wpc P keep nm xb) e ps vs h j h'/\h.length<=h'.length/\(j = .norm->A h')/\(j ≠ .norm->B j h'):=by
 obtain ⟨j,h',h1,h2,h3⟩:=RndH.ex hl hps hn hq hw;exact ⟨j,h',h1,h2,fun e=>ha h' h2 (e ▸ h3),fun e=>hb j h' h2 e h3⟩
section
variable {h:AH} {b:Nat} {L:Lay} {S:HS}
theorem num_pre (ts:List (Int × Int)) (x:Int × Int):ts <+: num ts x:=by
 unfold num;split
 ·exact Z3 _
 ·exact List.prefix_append _ _
theorem meet_pre:∀ (ws ts:List (Int × Int)),ts <+: (S.meetT ws ts).1:=by
 intro ws
 induction ws with
 | nil=>intro ts;exact Z3 _
 | cons w ws ih =>
   intro ts;rw[HS.meetT]
   split
   ·refine List.IsPrefix.trans ?_ (ih _)
    split
    ·exact num_pre _ _
    ·exact Z3 _
   ·exact Z3 _
theorem bfs_end {n i:Nat} {ts:List (Int × Int)} {sd:Bool} (h:ts.length<=i):S.bfsT (n+1) i ts sd=(ts,sd):=by
 rw[HS.bfsT,List.getElem?_eq_none h]
theorem bfs_step {n i:Nat} {ts:List (Int × Int)} {sd:Bool} {w:Int × Int} (h:ts[i]?=some w):S.bfsT (n+1) i ts sd=if sd && (S.meetT (S.flds w) ts).2 then S.bfsT n (i+1) (S.meetT (S.flds w) ts).1 true else ((S.meetT (S.flds w) ts).1,false):=by
 rw[HS.bfsT,h]
structure Gb (h:AH) (b:Nat) (L:Lay) (S:HS) (bg bi bm:Nat) (v:Value) (ts:List (Int × Int)) (sd:Bool) (q6 qH:Nat):Prop where
 gr:Gr h b L S bg bi bm v ts sd
 o6:Own h q6 62 [.pointer (some ⟨bg,0,none⟩)]
 oH:Own h qH 30 [.pointer (some ⟨b,0,none⟩)]
 n6:¬ GOwns bg bi bm v q6
 nH:¬ GOwns bg bi bm v qH
theorem Gb.keepF {h h':AH} {b:Nat} {L:Lay} {S:HS} {bg bi bm:Nat} {v:Value} {ts:List (Int × Int)} {sd:Bool} {q6 qH:Nat} (g:Gb h b L S bg bi bm v ts sd q6 qH) (k:Keep (fun _=>False) h h'):Gb h' b L S bg bi bm v ts sd q6 qH :=
 ⟨g.gr.keepF k,g.o6.keep k (fun e=>e),g.oH.keep k (fun e=>e),g.n6,g.nH⟩
theorem gowns_new {h:AH} {bg bi bm:Nat} {v v':Value} (nv:∀ q,bk v' q->bk v q\/h.length<=q) {q:Nat} (e:GOwns bg bi bm v' q):GOwns bg bi bm v q\/h.length<=q:=by
 rcases e with e|e|e|e
 ·exact .inl (.inl e)
 ·exact .inl (.inr (.inl e))
 ·exact .inl (.inr (.inr (.inl e)))
 ·exact (nv q e).imp (fun e=>.inr (.inr (.inr e))) id
theorem Gb.meet {h h':AH} {b:Nat} {L:Lay} {S:HS} {bg bi bm:Nat} {v v':Value} {ts ts':List (Int × Int)} {sd sd':Bool} {q6 qH:Nat} (g:Gb h b L S bg bi bm v ts sd q6 qH) (k:Keep (GOwns bg bi bm v) h h') (g':Gr h' b L S bg bi bm v' ts' sd')
 (nv:∀ q,bk v' q->bk v q\/h.length<=q):Gb h' b L S bg bi bm v' ts' sd' q6 qH :=
 ⟨g',g.o6.keep k g.n6,g.oH.keep k g.nH,fun e=>(gowns_new nv e).elim g.n6 (fun e=>by have:=g.o6.lt;omega),fun e=>(gowns_new nv e).elim g.nH (fun e=>by have:=g.oH.lt;omega)⟩
set_option maxHeartbeats 1000000 in
theorem graphOf_ok (s:Hp h b L S) (v:Inv S) (hg:S.globals.length<=2000000) {u:Value} {roots:List (Int × Int)} (hu:Rds h 2 u roots.length (ww roots)) (hm:roots.length<=9000000000000000000) :
 Gets Tryd.prog 26 [.pointer (some ⟨b,0,none⟩),u] h (fun res h'=>Keep (fun _=>False) h h' /\ ∃ bg bi bm v',res = .ret (.tuple #[.pointer (some ⟨bg,0,none⟩),.bool (S.graph roots).2])/\Gr h' b L S bg bi bm v' (S.graph roots).1 (S.graph roots).2):=by
 refine Gets.ofI (keep:=false) hP hM k26 (by rfl) (fun Ψ hΨ=>?_);have oH:=Own.new h 30 h.length [.pointer (some ⟨b,0,none⟩)];have k1:Keep (fun _=>False) h (h++[row 30 h.length [.pointer (some ⟨b,0,none⟩)]]):=Keep.push _ _ _;have l1:(h++[row 30 h.length [.pointer (some ⟨b,0,none⟩)]]).length=h.length+1:=by simp
 simp only[ZG,↓reduceIte,ZA,ZB,ZC,r26,YE,YC,YO,YA,YL,YX,YS,Ya,Yb,Yl,Yf,Yg,Yi,Ym,Yk,Yt,Yn,Yz,Yp,Yq,Yd,mbl,ZD,ZE,ZF];generalize h++[row 30 h.length [.pointer (some ⟨b,0,none⟩)]]=h1 at oH k1 l1 ⊢;simp only[ZG,↓reduceIte,ZA,ZB,ZC,mbl,ZD,ZE,ZF,oH.cells.ld];refine XX_of (iNew_ok h1) (fun res h2 hle hn=>?_);obtain ⟨k2,bi,bm,rfl,ix,fi,fm,li,lm⟩:=hn;refine .ret ?_;have oH2:=oH.keep k2 (fun e=>e);have l2:=k2.len;have oG:=Own.new h2 101 h2.length [.pointer (some ⟨b,0,none⟩),.pointer (some ⟨bi,0,none⟩),.bool true];have k3:Keep (fun _=>False) h2 (h2++[row 101 h2.length [.pointer (some ⟨b,0,none⟩),.pointer (some ⟨bi,0,none⟩),.bool true]]):=Keep.push _ _ _;have l3:(h2++[row 101 h2.length [.pointer (some ⟨b,0,none⟩),.pointer (some ⟨bi,0,none⟩),.bool true]]).length=h2.length+1:=by simp
 simp only[ZG,↓reduceIte,ZA,ZB,ZC,mbl,ZD,ZE,ZF,ct1,oH2.cells.ld];generalize h2++[row 101 h2.length [.pointer (some ⟨b,0,none⟩),.pointer (some ⟨bi,0,none⟩),.bool true]]=h3 at oG k3 l3 ⊢;have o6:=Own.new h3 62 h3.length [.pointer none];have k4:Keep (fun _=>False) h3 (h3++[row 62 h3.length [.pointer none]]):=Keep.push _ _ _;have l4:(h3++[row 62 h3.length [.pointer none]]).length=h3.length+1:=by simp
 have oH3:=oH2.keep k3 (fun e=>e);generalize h3++[row 62 h3.length [.pointer none]]=h4 at o6 k4 l4 ⊢;have oH4:=oH3.keep k4 (fun e=>e);simp only[ZG,↓reduceIte,ZA,ZB,ZC,oH4.cells.ld,mbl,ZD,ZE,ZF];refine XH_own o6 rfl (by simp [Value.cells]) rfl (fun h5 q1 q2 q3=>?_);have o65:Own h5 h3.length 62 [.pointer (some ⟨h2.length,0,none⟩)]:=by simpa [Value.cells] using q1
 have k35:Keep (fun _=>False) h3 h5:=k4.trans' q2 (fun c hc e=>by omega);have k25:=k3.trans k35;have k15:=k2.trans k25;have k05:=k1.trans k15;have l5:h5.length=h.length+1+(h2.length-h1.length)+2:=by omega
 have oG5:=oG.keep k35 (fun e=>e);have oH5:=oH.keep k15 (fun e=>e);have g5:Gr h5 b L S h2.length bi bm (.slice none 0 0) [] true:=by
  refine ⟨s.keepF k05,v,oG5,ix.keep k25 (fun _ _ e=>e),?_,?_,.nil S⟩
  ·rintro (e|e|e)
   ·omega
   ·omega
   ·exact e
  ·rintro q (e|e|e|e)
   ·exact s.c0 q (by omega)
   ·exact s.c0 q (by omega)
   ·exact s.c0 q (by omega)
   ·exact e.elim
 have hfresh:∀ q,GOwns h2.length bi bm (.slice none 0 0) q->h.length<=q:=by
  rintro q (e|e|e|e)
  ·omega
  ·omega
  ·omega
  ·exact e.elim
 simp only[ZG,↓reduceIte,ZA,ZB,ZC,o65.cells.ld,mbl,ZD,ZE,ZF];refine XX_of (meet_ok g5 (hu.keep k05 (fun _ _ e=>e)) hm (fun q hq e=>by have:=hu.lt q hq;have:=hfresh q e;omega)) (fun res h6 hle6 hn6=>?_);obtain ⟨rfl,k6,v6,g6,n6⟩:=hn6;refine .ret ?_;have gb5:Gb h5 b L S h2.length bi bm (.slice none 0 0) [] true h3.length h.length:=by
  refine ⟨g5,o65,oH5,?_,fun e=>by have:=hfresh _ e;rcases e with e|e|e|e
                                  ·omega
                                  ·omega
                                  ·omega
                                  ·exact e⟩
  rintro (e|e|e|e)
  ·omega
  ·omega
  ·omega
  ·exact e.elim
 have gb6:=gb5.meet k6 g6 n6;have k06:Keep (fun _=>False) h h6:=k05.trans' k6 (fun c hc e=>by have:=hfresh c e;omega);simp only[ZG,↓reduceIte,ZA,ZB,ZC,gb6.o6.cells.ld,gb6.oH.cells.ld,mbl,ZD,ZE,ZF];refine XX_of (Globals_ok g6.hp (by omega)) (fun res h7 hle7 hn7=>?_);obtain ⟨k7,vg,rfl,og7,fg7⟩:=hn7;refine .ret ?_;have gb7:=gb6.keepF k7;simp only[ZG,↓reduceIte,ZA,ZB,ZC,ct1,gb7.o6.cells.ld,gb6.o6.cells.ld,gb6.oH.cells.ld,gb7.oH.cells.ld,mbl,ZD,ZE,ZF];have hd7:∀ q,rb vg q -> ¬ GOwns h2.length bi bm v6 q:=fun q hq e=>by have:=(fg7 q hq.bk).1;have:=gb6.gr.lt q e;omega
 refine XX_of (meet_ok gb7.gr og7.rds (by omega) hd7) (fun res h8 hle8 hn8=>?_);obtain ⟨rfl,k8,v8,g8,n8⟩:=hn8;refine .ret ?_;have gb8:=gb7.meet k8 g8 n8;have l6:=k06.len;have hfr6:∀ q,GOwns h2.length bi bm v6 q->h.length<=q:=fun q e=>(gowns_new n6 e).elim (hfresh q) (fun e=>by omega)
 have k08:Keep (fun _=>False) h h8:=(k06.trans k7).trans' k8 (fun c hc e=>by have:=hfr6 c e;omega);have hfr8:∀ q,GOwns h2.length bi bm v8 q->h.length<=q:=fun q e=>(gowns_new n8 e).elim (hfr6 q) (fun e=>by have:=k7.len;omega)
 simp only[Bool.true_and] at g8 gb8;simp only[ZG,↓reduceIte,ZA,ZB,ZC,ct1,gb8.o6.cells.ld,mbl,ZD,ZE,ZF];refine XX_of (each_ok gb8.gr.og.lt) (fun res h9 hle9 hn9=>?_);obtain ⟨k9,bx,tx,rfl,ox,fx⟩:=hn9;refine .ret ?_;have gb9:=gb8.keepF k9;simp only[ZG,↓reduceIte,ZA,ZB,ZC,XC_rf,rx_n,look_cons];refine XRf_each (M:=1048577) (St:=fun i h'=>∃ v1 ts sd,Gb h' b L S h2.length bi bm v1 ts sd h3.length h.length/\Own h' bx tx [.pointer (some ⟨h2.length,0,none⟩)] /\ ¬ GOwns h2.length bi bm v1 bx/\Keep (fun _=>False) h h'/\(∀ q,GOwns h2.length bi bm v1 q->h.length<=q) /\
  i<=ts.length/\S.bfsT (S.begins.length+1-i) i ts sd=S.graph roots)
  (Fin:=fun out h'=>(out = .norm\/out = .exit 0) /\ ∃ v1,Gb h' b L S h2.length bi bm v1 (S.graph roots).1 (S.graph roots).2 h3.length h.length/\Keep (fun _=>False) h h') (by omega)
  ⟨v8,_,_,gb9,ox,fun e=>by have:=gb8.gr.lt _ e;omega,k08.trans k9,hfr8,Z6 _,rfl⟩ ?_ ?_
 ·rintro i hh ⟨v1,ts,sd,gb,oxh,nx,kk,fr1,hi,hb⟩
  have hlen:=gb.gr.gd.len v;have hbg:=v.bg;refine ⟨by omega,tx,h2.length,_,_,bi,bm,v1,ts,oxh,gb.gr.og,gb.gr.ix,hi,fun he=>?_,fun w hw hx kx=>?_⟩
  ·rw[show S.begins.length+1-i=(S.begins.length-i)+1 by omega,bfs_end (by omega)] at hb
   refine ⟨.inl rfl,v1,?_,kk⟩;rw[<- hb];exact gb
  ·have hlt:i<ts.length:=(Z4.1 hw).1
   rw[show S.begins.length+1-i=(S.begins.length-i)+1 by omega,bfs_step hw] at hb;have gbx:=gb.keepF kx;refine RndH.go (fun o hz=>(o = .norm\/o = .exit 0) /\ ∃ v2,Gb hz b L S h2.length bi bm v2 (S.meetT (S.flds w) ts).1 (sd && (S.meetT (S.flds w) ts).2) h3.length h.length/\Keep (GOwns h2.length bi bm v1) hx hz/\(∀ q,bk v2 q->bk v1 q\/hx.length<=q)/\(o = .norm ↔ (sd && (S.meetT (S.flds w) ts).2)=true))
    rfl (by decide) (by intro o ho;simp only[List.mem_cons,List.not_mem_nil,or_false] at ho;rcases ho with rfl|rfl<;>(intro f vs e;cases e)) (by rintro v h ⟨e|e,_⟩<;>cases e) (fun Ψ hΨ=>?_) (fun hz hlz hQ=>?_) (fun j hz hlz hj hQ=>?_)
   ·simp only[ZG,↓reduceIte,ZA,ZB,ZC,updps]
    have oW:=Own.new hx 44 hx.length [iv 0,iv 0];have kp1:Keep (fun _=>False) hx (hx++[row 44 hx.length [iv 0,iv 0]]):=Keep.push _ _ _;generalize hx++[row 44 hx.length [iv 0,iv 0]]=hy at oW kp1 ⊢;refine XH_own oW rfl (by simp [Value.cells,wv]) rfl (fun hy2 p1 p2 p3=>?_);have oW2:Own hy2 hx.length 44 [iv w.1,iv w.2]:=by simpa [Value.cells,wv] using p1
    have kp2:Keep (fun _=>False) hx hy2:=kp1.trans' p2 (fun c hc e=>by omega);have gby:=gbx.keepF kp2;simp only[ZG,↓reduceIte,ZA,ZB,ZC,gby.oH.cells.ld,oW2.cells.lds 0 2 (by simp),mbl,ZD,ZE,ZF];refine XX_of (Fields_ok gby.gr.hp v.ok w) (fun res hy3 hle3 hn3=>?_);obtain ⟨k3',hn3⟩:=hn3;have hl:=(gbx.gr.gd.1 w (List.mem_of_getElem? hw)).1;rw[if_pos hl] at hn3;obtain ⟨vf,rfl,of,ff⟩:=hn3;refine .ret ?_;have gby3:=gby.keepF k3';simp only[ZG,↓reduceIte,ZA,ZB,ZC,gby3.o6.cells.ld,mbl,ZD,ZE,ZF];have hfl:(S.flds w).length<=9000000000000000000:=by
     have:=v.ok.fc hl (by have:=v.ln;have:=v.sz;omega);simp [HS.flds];omega
    refine XX_of (meet_ok gby3.gr of.rds hfl (fun q hq e=>by have:=(ff q hq.bk).1;have:=gby.gr.lt q e;omega)) (fun res hy4 hle4 hn4=>?_);obtain ⟨rfl,k4',v4,g4',n4⟩:=hn4;refine .ret ?_;have gb4:=gby3.meet k4' g4' n4;have kx4:Keep (GOwns h2.length bi bm v1) hx hy4:=((kp2.trans k3').mono (fun _ e=>e.elim)).trans k4';have lx4:=(kp2.trans k3').len;simp only[ZG,↓reduceIte,ZA,ZB,ZC,gb4.o6.cells.ld,gb4.gr.og.cells.ld,mbl,ZD,ZE,ZF]
    by_cases hc:(sd && (S.meetT (S.flds w) ts).2)=true
    ·rw[hc]
     simp only[ZG,↓reduceIte,ZA,ZB,ZC];exact hΨ _ _ _ _ _ ⟨.inl rfl,v4,gb4,kx4,fun q e=>(n4 q e).imp id (fun e=>by omega),by simp [hc]⟩
    ·rw[show (sd && (S.meetT (S.flds w) ts).2)=false by simpa using hc]
     simp only[ZG,↓reduceIte,ZA,ZB,ZC];exact hΨ _ _ _ _ _ ⟨.inr rfl,v4,gb4,kx4,fun q e=>(n4 q e).imp id (fun e=>by omega),by simp [hc]⟩
   ·obtain ⟨_,v2,gb2,k2,n2,hiff⟩:=hQ
    have hc:=hiff.1 rfl;rw[hc] at gb2;rw[if_pos hc] at hb;have lx:=(kk.trans kx).len;refine ⟨v2,_,_,gb2,(oxh.keep kx (fun e=>e)).keep k2 nx,fun e=>(gowns_new n2 e).elim nx (fun e=>by have:=oxh.lt;have:=kx.len;omega),(kk.trans kx).trans' k2 (fun c hc e=>by have:=fr1 c e;omega),fun q e=>(gowns_new n2 e).elim (fr1 q) (fun e=>by omega),?_,?_⟩
    ·have:=(meet_pre (S:=S) (S.flds w) ts).length_le;omega
    ·rw[show S.begins.length+1-(i+1)=S.begins.length-i by omega];exact hb
   ·obtain ⟨ho,v2,gb2,k2,n2,hiff⟩:=hQ
    have hc:¬ (sd && (S.meetT (S.flds w) ts).2)=true:=fun e=>hj (hiff.2 e)
    rw[if_neg hc] at hb;have hc2:(sd && (S.meetT (S.flds w) ts).2)=false:=by simpa using hc
    rw[hc2] at gb2;refine ⟨ho,v2,?_,(kk.trans kx).trans' k2 (fun c hc e=>by have:=fr1 c e;omega)⟩;rw[<- hb];exact gb2
 ·rintro out h' ⟨ho,v1,gb,kk⟩ hle
  rcases ho with rfl|rfl
  ·simp only[ZG,↓reduceIte,ZA,ZB,ZC,gb.o6.cells.ld,gb.gr.og.cells.ld,mbl,ZD,ZE,ZF]
   exact hΨ _ _ (finI_ret (.inr rfl) (rv2 rfl rfl ⟨kk,_,_,_,_,rfl,gb.gr⟩))
  ·simp only[ZG,↓reduceIte,ZA,ZB,ZC,gb.o6.cells.ld,gb.gr.og.cells.ld,mbl,ZD,ZE,ZF]
   exact hΨ _ _ (finI_ret (.inr rfl) (rv2 rfl rfl ⟨kk,_,_,_,_,rfl,gb.gr⟩))
end
end Go.S19

namespace Go.S19
open Go Go.Eng Go.Proofs Go.Chk
inductive MvL:HS->List (Int × Int)->List (Int × Int)->HS->Prop where
 | nil {S}:MvL S [] [] S
 | cons {S w r ws xs S'} (h:Mv S w r) (t:MvL r.2.2 ws xs S'):MvL S (w::ws) (r.1::xs) S'
theorem MvL.len {S S':HS} {ws xs:List (Int × Int)} (m:MvL S ws xs S'):xs.length=ws.length:=by
 induction m with
 | nil=>rfl
 | cons _ _ ih=>simp [ih]
theorem MvL.inv {S S':HS} {ws xs:List (Int × Int)} (m:MvL S ws xs S') (v:Inv S):Inv S':=by
 induction m with
 | nil=>exact v
 | cons h _ ih=>exact ih (v.mv h)
theorem box_ld {h:AH} {q:Nat} {t:TypeId} {x:Int × Int} (o:Own h q t [iv x.1,iv x.2]):ldcs h q 0 2=some [iv x.1,iv x.2]:=o.cells.lds 0 2 (by simp)
section
variable {h:AH} {b:Nat} {L:Lay} {S:HS}
theorem xMove_ok (s:Hp h b L S) (v:Inv S) (w:Int × Int):∃ r,Mv S w r/\Gets Tryd.prog 25 [.pointer (some ⟨b,0,none⟩),wv w] h (fun res h'=>Keep (Mine L) h h'/\res = .ret (.tuple #[wv r.1,iv r.2.1]) /\ ∃ L',Hp h' b L' r.2.2/\Same h.length L L'):=by
 obtain ⟨m,r,hr⟩:=v.tq w;exact ⟨r,mov_mv v hr,Move_ok s v.ok.fresh v.oo w hr⟩
theorem same_keep {h h1 h2:AH} {L L1:Lay} (k1:Keep (Mine L) h h1) (sm:Same h.length L L1) (k2:Keep (Mine L1) h1 h2):Keep (Mine L) h h2 :=
 k1.trans' k2 (fun c hc e=>fun e0=>e ((sm c hc).2 e0))
theorem move_ok (s:Hp h b L S) (v:Inv S) {qb t:Nat} (ob:Own h qb t [.pointer (some ⟨b,0,none⟩)]) (nb:L.cls qb=0) {u:Value} {ws:List (Int × Int)} (hu:Rds h 2 u ws.length (ww ws)) (hm:ws.length<=2000000) :
 Gets Tryd.prog 35 [u,.pointer (some ⟨qb,0,none⟩)] h (fun res h'=>Keep (Mine L) h h' /\ ∃ v' xs S' L',res = .ret v'/\MvL S ws xs S'/\Hp h' b L' S'/\Same h.length L L'/\Ows h' 44 2 v' xs.length (ww xs) /\ ∀ q,bk v' q->h.length<=q/\q<h'.length/\L'.cls q=0):=by
 refine Gets.of (keep:=false) hP (draw_ok hM) k35 (by rfl) (fun Ψ hΨ=>?_);simp only[ZG,↓reduceIte,ZA,ZB,ZC,r35,YE,YC,YO,YA,YL,YX,YS,Ya,Yb,Yl,Yf,Yg,Yi,Ym,Yk,Yt,Yn,Yz,Yp,Yq,Yd,mbl,ZD,ZE,ZF];refine XX_of (cloneWords_ok hu (rowsOf_one _) (by omega)) (fun res h1 hle1 hn=>?_);obtain ⟨k1,vc,rfl,oc,fc⟩:=hn;refine .ret ?_;have s1:=s.keepF k1;have ob1:=ob.keep k1 (fun e=>e);obtain ⟨ca,cc,hvc⟩:=row_shape oc.rds;simp only[ZG,↓reduceIte,ZA,ZB,ZC,mbl,ZD,ZE,ZF,hvc];rw[<- hvc];have c0:∀ q,bk vc q->L.cls q=0:=fun q e=>s.c0 q (fc q e).1
 refine XLo_rule (α:=List (Int × Int) × HS × Lay) (fun a=>[(0,vc),(1,.pointer (some ⟨qb,0,none⟩)),(8,vc),(9,iv ws.length),(10,iv a.1.length)])
  (fun a h'=>a.1.length<=ws.length/\Hp h' b a.2.2 a.2.1/\Inv a.2.1/\Same h1.length L a.2.2/\Keep (fun q=>Mine L q\/bk vc q) h1 h'/\Ows h' 44 2 vc ws.length (ww (a.1++ws.drop a.1.length)) /\
   (∀ xs' S',MvL a.2.1 (ws.drop a.1.length) xs' S'->MvL S ws (a.1++xs') S')) (fun a=>ws.length-a.1.length) ([],S,L)
  ⟨Z6 _,s1,v,Same.refl _ _,.refl _ _,oc,fun xs' S' m=>m⟩ ⟨by rw[hvc];rfl,rfl,by rw[hvc];rfl,rfl,rfl,trivial⟩ ?_
 rintro ⟨xs,S1,L1⟩ h2 Ψ2 ⟨hi,s2,v2,sm,k2,o2,hmv⟩ next out
 simp only at hi s2 v2 sm o2 hmv;have k02:Keep (fun q=>Mine L q\/bk vc q) h h2:=(k1.mono (fun _ e=>e.elim)).trans k2;have l01:=k1.len;have l12:=k2.len;have ob2:Own h2 qb t [.pointer (some ⟨b,0,none⟩)]:=ob.keep k02 (fun e=>e.elim (fun e=>e nb) (fun e=>by have:=(fc _ e).1;have:=ob.lt;omega))
 by_cases hlt:xs.length<ws.length
 case neg =>
  have d1:((xs.length:Int)<((ws.length:Nat):Int))=False:=by simp;omega
  simp only[ZG,↓reduceIte,ZA,ZB,ZC,d1];refine out (.exit 0) _ _ _ _ (by intro e;cases e) ?_;simp only[ZG,↓reduceIte,ZA,ZB,ZC];have hd:ws.drop xs.length=[]:=Z2 (by omega);rw[hd] at hmv o2;have hx:xs.length=ws.length:=by omega
  refine hΨ _ _ (fin_ret (rv1 rfl ⟨k02.trans' (Keep.refl (fun _=>False) h2) (fun _ _ e=>e.elim) |> fun kk=>⟨kk.len,fun q hq hs=>kk.same q hq (fun e=>e.elim hs (fun e=>by have:=(fc q e).1;omega))⟩,vc,xs,S1,L1,rfl,?_,s2,?_,?_,?_⟩))
  ·have:=hmv [] S1 .nil;simpa using this
  ·exact fun q hq=>sm q (by omega)
  ·rw[hx];simpa using o2
  ·intro q e
   exact ⟨(fc q e).1,by have:=(fc q e).2;omega,(sm q (fc q e).2).2 (c0 q e)⟩
 case pos =>
 have d1:((xs.length:Int)<((ws.length:Nat):Int))=True:=by simp;omega
 have d0:(0<=(xs.length:Int))=True:=by simp
 have hdrop:ws.drop xs.length=ws[xs.length]::ws.drop (xs.length+1):=Z1 hlt;generalize hw:ws[xs.length]=w at hdrop;have hat:(xs++ws.drop xs.length)[xs.length]?=some w:=by rw[hdrop];simp
 have hlen:(xs++ws.drop xs.length).length=ws.length:=by simp;omega
 have o2':Ows h2 44 2 vc (xs++ws.drop xs.length).length ((xs++ws.drop xs.length).flatMap fun x=>ns (wc x)):=by rw[hlen];exact o2
 obtain ⟨bc,o',cc',hvc2,hld⟩:=o2'.rds.cellsAt (f:=fun x=>ns (wc x)) (k:=2) (fun _=>rfl) hat (j:=0) (m:=2) (by omega);obtain ⟨b3,c3,_,e3,_⟩:=ows_openw o2 (by omega);have o'0:o'=0:=by rw[e3] at hvc2;injection hvc2 with e _ _;injection e with e;injection e with _ e _;exact e.symm
 subst o'0;rw[hlen] at hvc2;have hld2:ldcs h2 bc (xs.length*2) 2=some [iv w.1,iv w.2]:=by simpa [ns,wc] using hld
 have tn:Int.toNat (xs.length:Int)=xs.length:=by simp
 have oW:=Own.new h2 44 h2.length [iv 0,iv 0];have k3:Keep (fun _=>False) h2 (h2++[row 44 h2.length [iv 0,iv 0]]):=Keep.push _ _ _;have l3:(h2++[row 44 h2.length [iv 0,iv 0]]).length=h2.length+1:=by simp
 simp only[ZG,↓reduceIte,ZA,ZB,ZC,d1,hvc2,d0,and_self,tn,hld2,mbl,ZD,ZE,ZF];generalize h2++[row 44 h2.length [iv 0,iv 0]]=h3 at oW k3 l3 ⊢;refine XH_own oW rfl (by simp [Value.cells]) rfl (fun h4 q1 q2 q3=>?_);have oW4:Own h4 h2.length 44 [iv w.1,iv w.2]:=by simpa [Value.cells] using q1
 have k24:Keep (fun _=>False) h2 h4:=k3.trans' q2 (fun c hc e=>by omega);have s4:=s2.keepF k24;obtain ⟨r,hr,hg⟩:=xMove_ok s4 v2 w;simp only[ZG,↓reduceIte,ZA,ZB,ZC,(ob2.keep k24 (fun e=>e)).cells.ld,box_ld oW4,mbl,ZD,ZE,ZF];refine XX_of hg (fun res h5 hle5 hn5=>?_);obtain ⟨k5,rfl,L5,s5,sm5⟩:=hn5;refine .ret ?_;have l24:=k24.len;have l5:=k5.len;have c1:∀ q,bk vc q->L1.cls q=0:=fun q e=>(sm q (fc q e).2).2 (c0 q e)
 have o5:Ows h5 44 2 vc (xs++ws.drop xs.length).length ((xs++ws.drop xs.length).flatMap fun x=>ns (wc x)):=(o2'.keep k24 (fun _ _ e=>e)).keep k5 (fun q e hq=>hq (c1 q e));simp only[ZG,↓reduceIte,ZA,ZB,ZC,wv,d0,d1,and_self,tn,mbl,ZD,ZE,ZF];have wi:IntKind.i64.wrap ((xs.length:Int)+1)=((xs.length+1:Nat):Int):=by rw[i64w (by omega) (by omega)];omega
 refine XH_row (f:=fun x=>ns (wc x)) (k:=2) (x:=w) (x':=r.1) (j:=0) (i:=xs.length) (fun _=>rfl) o5 (by rw[hlen];exact hvc2) hat rfl rfl (by simp [Value.cells]) (by simp [ns,wc,Value.cells]) rfl (fun h6 p1 p2 p3=>?_);have k46:Keep (fun q=>Mine L q\/bk vc q) h1 h6:=((k2.trans (k24.mono (fun _ e=>e.elim))).trans' (k5.mono (T:=fun q=>Mine L1 q) (fun _ e=>e)) (fun c hc e=>.inl (fun e0=>e ((sm c hc).2 e0)))).trans (p2.mono fun q e=>.inr e);simp only[ZG,↓reduceIte,ZA,ZB,ZC,wi];refine next (xs++[r.1],r.2.2,L5) _ _ h6 ⟨by simp;omega,?_,v2.mv hr,?_,k46,?_,?_⟩ ⟨by rw[hvc2];rfl,rfl,by rw[hvc2];rfl,rfl,by simp;rfl,trivial⟩ (by simp;omega)
 ·exact s5.keep p2 (fun q hq e=>hq ((sm5 q (by have:=(fc q e).2;omega)).2 (c1 q e)))
 ·exact fun q hq=>((sm5 q (by omega)).trans (sm q hq))
 ·have:(xs++ws.drop xs.length).set xs.length r.1=(xs++[r.1])++ws.drop (xs++[r.1]).length:=by
   rw[hdrop];simp [List.set_append]
  rw[<- this];rw[hlen] at p1;exact p1
 ·intro xs' S' m
  have:=hmv (r.1::xs') S' (by rw[hdrop];exact .cons hr (by simpa using m))
  simpa using this
end
end Go.S19

namespace Go.S19
open Go Go.Eng Go.Proofs Go.Chk
def HS.setl (S:HS) (w:Int × Int):Nat->List (Int × Int)->HS
 | _,[]=>S
 | k,x::xs=>(S.sete w k x).2.setl w (k+1) xs
theorem sete_same (S:HS) (w:Int × Int) (k:Int) (x:Int × Int):(S.sete w k x).2.begins=S.begins/\(S.sete w k x).2.now.length=S.now.length/\(S.sete w k x).2.globals=S.globals/\(S.sete w k x).2.infos=S.infos/\(S.sete w k x).2.cons=S.cons/\(S.sete w k x).2.old=S.old/\(S.sete w k x).2.oldm=S.oldm /\
 (S.sete w k x).2.size=S.size/\(S.sete w k x).2.texts=S.texts:=by
 unfold HS.sete
 split
 ·split
  ·exact ⟨rfl,rfl,rfl,rfl,rfl,rfl,rfl,rfl,rfl⟩
  ·unfold HS.setp
   split
   ·exact ⟨rfl,by simp [HS.setw],rfl,rfl,rfl,rfl,rfl,rfl,rfl⟩
   ·exact ⟨rfl,rfl,rfl,rfl,rfl,rfl,rfl,rfl,rfl⟩
 ·exact ⟨rfl,rfl,rfl,rfl,rfl,rfl,rfl,rfl,rfl⟩
theorem setl_same (w:Int × Int):∀ (xs:List (Int × Int)) (k:Nat) (S:HS),(S.setl w k xs).begins=S.begins/\(S.setl w k xs).now.length=S.now.length/\(S.setl w k xs).globals=S.globals/\(S.setl w k xs).infos=S.infos/\(S.setl w k xs).cons=S.cons/\(S.setl w k xs).old=S.old/\(S.setl w k xs).oldm=S.oldm /\
 (S.setl w k xs).size=S.size/\(S.setl w k xs).texts=S.texts:=by
 intro xs
 induction xs with
 | nil=>intro k S;exact ⟨rfl,rfl,rfl,rfl,rfl,rfl,rfl,rfl,rfl⟩
 | cons x xs ih =>
   intro k S;obtain ⟨a1,a2,a3,a4,a5,a6,a7,a8,a9⟩:=ih (k+1) (S.sete w k x).2;obtain ⟨b1,b2,b3,b4,b5,b6,b7,b8,b9⟩:=sete_same S w k x;rw[HS.setl];exact ⟨a1.trans b1,a2.trans b2,a3.trans b3,a4.trans b4,a5.trans b5,a6.trans b6,a7.trans b7,a8.trans b8,a9.trans b9⟩
theorem Inv.setl (w:Int × Int):∀ (xs:List (Int × Int)) (k:Nat) {S:HS},Inv S->Inv (S.setl w k xs):=by
 intro xs
 induction xs with
 | nil=>intro k S v;exact v
 | cons x xs ih=>intro k S v;exact ih _ (v.sete w k x)
theorem tiles_next:∀ {l:List (Int × Int)} {a e:Int},tiles a l e -> ∀ {p:Int × Int},p∈l->p.1+p.2=e \/ ∃ m,(p.1+p.2,m)∈l:=by
 intro l
 induction l with
 | nil=>intro a e _ p hp;cases hp
 | cons q l ih =>
   intro a e h p hp;simp only[tiles] at h;obtain ⟨h1,h2,h3⟩:=h
   rcases List.mem_cons.1 hp with rfl|hp
   ·cases l with
    | nil=>simp only[tiles] at h3;exact .inl (by omega)
    | cons r l =>
      simp only[tiles] at h3;obtain ⟨c1,c2⟩:=r
      exact .inr ⟨c2,by have:c1=p.1+p.2:=by simpa [h1] using h3.1
                        rw[<- this];simp⟩
   ·exact (ih h3 hp).imp id fun ⟨m,hm⟩=>⟨m,Z7 _ hm⟩
def Bdy (S:HS) (i:Int):Prop:=i=S.now.length\/(mget i S.begins).isSome=true
theorem Bdy.next {S:HS} (v:Inv S) {i n:Int} (h:mget i S.begins=some n):Bdy S (i+n):=by
 rcases tiles_next v.tn (mget_in h) with e|⟨m,hm⟩
 ·exact .inl e
 ·exact .inr (by rw[show mget (i+n) S.begins=some m from mem_mget v.tn hm];rfl)
theorem Bdy.zero {S:HS} (v:Inv S):Bdy S 0:=by
 have:=v.tn;cases hb:S.begins with
 | nil=>rw[hb] at this;simp only[tiles] at this;exact .inl this
 | cons p l =>
   have t:=this;rw[hb] at this;simp only[tiles] at this;refine .inr ?_;have hm:p∈S.begins:=by rw[hb];simp
   rw[show (0:Int)=p.1 by omega,mem_mget t hm];rfl
theorem Bdy.lt {S:HS} {i:Int} (h:Bdy S i) (hl:i<S.now.length):∃ n,mget i S.begins=some n:=by
 rcases h with e|e
 ·omega
 ·exact Z5.1 e
structure Mvs (S S':HS):Prop where
 bg:∃ l,S'.begins=S.begins++l
 ln:S.now.length<=S'.now.length
 gl:S'.globals=S.globals
 inf:S'.infos=S.infos
 cn:S'.cons=S.cons
 sz:S'.size=S.size
 tx:S'.texts=S.texts
 om:S'.oldm=S.oldm
theorem Mvs.refl (S:HS):Mvs S S:=⟨⟨[],by simp⟩,Z0 _,rfl,rfl,rfl,rfl,rfl,rfl⟩
theorem Mvs.trans {S S1 S2:HS} (a:Mvs S S1) (c:Mvs S1 S2):Mvs S S2:=by
 obtain ⟨l,hl⟩:=a.bg;obtain ⟨m,hm⟩:=c.bg;exact ⟨⟨l++m,by rw[hm,hl];simp⟩,Nat.le_trans a.ln c.ln,c.gl.trans a.gl,c.inf.trans a.inf,c.cn.trans a.cn,c.sz.trans a.sz,c.tx.trans a.tx,c.om.trans a.om⟩
theorem Mvs.mv {S:HS} {w:Int × Int} {r:(Int × Int) × Int × HS} (h:Mv S w r):Mvs S r.2.2:=by
 induction h with
 | plain=>exact .refl _
 | none=>exact .refl _
 | was=>exact .refl _
 | ind _ _ _ _ _ ih=>exact ih
 | full=>exact .refl _
 | new=>exact ⟨⟨_,rfl⟩,by simp [HS.setold,HS.laid],rfl,rfl,rfl,rfl,rfl,rfl⟩
theorem MvL.mvs {S S':HS} {ws xs:List (Int × Int)} (m:MvL S ws xs S'):Mvs S S':=by
 induction m with
 | nil=>exact .refl _
 | cons h _ ih=>exact (Mvs.mv h).trans ih
theorem Mvs.get {S S':HS} (m:Mvs S S') {i n:Int} (h:mget i S.begins=some n):mget i S'.begins=some n:=by
 obtain ⟨l,hl⟩:=m.bg;rw[hl];exact mget_app_some h
inductive Scan:HS->Int->HS->Prop where
 | done {S i} (h:¬ i<S.now.length):Scan S i S
 | step {S i xs S1 S'} (h:i<S.now.length) (m:MvL S (S.flds (4,i)) xs S1) (n:Scan (S1.setl (4,i) 0 xs) ((S1.setl (4,i) 0 xs).next i).1 S'):Scan S i S'
def CollR (S:HS) (roots news:List (Int × Int)) (S':HS):Prop :=
 ∃ S2 gs S3 S4,MvL S.flip roots news S2/\MvL S2 S.globals gs S3/\Scan S3 0 S4/\S'=(S4.setg gs).2
end Go.S19

namespace Go.S19
open Go Go.Eng Go.Proofs Go.Chk
structure Cw (h0:AH) (L0:Lay) (qb b:Nat) (h:AH) (L:Lay) (S:HS):Prop where
 hp:Hp h b L S
 iv:Inv S
 kp:Keep (Mine L0) h0 h
 sm:Same h0.length L0 L
 ob:Own h qb 30 [.pointer (some ⟨b,0,none⟩)]
 nb:L.cls qb=0
theorem Cw.keepF {h0 h h':AH} {L0 L:Lay} {qb b:Nat} {S:HS} (c:Cw h0 L0 qb b h L S) (k:Keep (fun _=>False) h h'):Cw h0 L0 qb b h' L S :=
 ⟨c.hp.keepF k,c.iv,c.kp.trans (k.mono fun _ e=>e.elim),c.sm,c.ob.keep k (fun e=>e),c.nb⟩
theorem Cw.step {h0 h h':AH} {L0 L L':Lay} {qb b:Nat} {S S':HS} (c:Cw h0 L0 qb b h L S) (k:Keep (Mine L) h h') (hp:Hp h' b L' S') (sm:Same h.length L L') (iv:Inv S'):Cw h0 L0 qb b h' L' S' :=
 ⟨hp,iv,same_keep c.kp c.sm k,fun q hq=>(sm q (by have:=c.kp.len;omega)).trans (c.sm q hq),c.ob.keep k (fun e=>e c.nb),(sm _ c.ob.lt).2 c.nb⟩
structure Rw (h:AH) (L:Lay) (n:Nat) (v:Value) (xs:List (Int × Int)):Prop where
 o:Ows h 44 2 v xs.length (ww xs)
 c:∀ q,bk v q->n<=q/\L.cls q=0
theorem Rw.keepF {h h':AH} {L:Lay} {n:Nat} {v:Value} {xs:List (Int × Int)} (r:Rw h L n v xs) (k:Keep (fun _=>False) h h'):Rw h' L n v xs:=⟨r.o.keep k (fun _ _ e=>e),r.c⟩
theorem Rw.step {h h':AH} {L L':Lay} {n:Nat} {v:Value} {xs:List (Int × Int)} (r:Rw h L n v xs) (k:Keep (Mine L) h h') (sm:Same h.length L L'):Rw h' L' n v xs :=
 ⟨r.o.keep k (fun q e c=>c (r.c q e).2),fun q e=>⟨(r.c q e).1,(sm q (r.o.lt q e)).2 (r.c q e).2⟩⟩
section
variable {h:AH} {b:Nat} {L:Lay} {S:HS}
set_option maxHeartbeats 4000000 in
theorem Collect_ok (s:Hp h b L S) (v:Inv S) (hg:S.globals.length<=2000000) {u:Value} {roots:List (Int × Int)} (hu:Rds h 2 u roots.length (ww roots)) (hm:roots.length<=2000000) (hd:∀ q,rb u q->L.cls q=0) :
 Gets Tryd.prog 12 [.pointer (some ⟨b,0,none⟩),u] h (fun res h'=>Keep (Mine L) h h' /\
  if (S.graph roots).2=true then ∃ v' news S' L',res = .ret (.tuple #[v',iv 0])/\CollR S roots news S'/\Hp h' b L' S'/\Inv S'/\Same h.length L L'/\Rw h' L' h.length v' news
  else Keep (fun _=>False) h h'/\res = .ret (.tuple #[.slice none 0 0,iv 1])):=by
 refine Gets.of (keep:=false) hP (draw_ok hM) k12 (by rfl) (fun Ψ hΨ=>?_);have oH:=Own.new h 30 h.length [.pointer (some ⟨b,0,none⟩)];have k1:Keep (fun _=>False) h (h++[row 30 h.length [.pointer (some ⟨b,0,none⟩)]]):=Keep.push _ _ _;have l1:(h++[row 30 h.length [.pointer (some ⟨b,0,none⟩)]]).length=h.length+1:=by simp
 simp only[ZG,↓reduceIte,ZA,ZB,ZC,r12,YE,YC,YO,YA,YL,YX,YS,Ya,Yb,Yl,Yf,Yg,Yi,Ym,Yk,Yt,Yn,Yz,Yp,Yq,Yd,mbl,ZD,ZE,ZF];generalize h++[row 30 h.length [.pointer (some ⟨b,0,none⟩)]]=h1 at oH k1 l1 ⊢;simp only[ZG,↓reduceIte,ZA,ZB,ZC,mbl,ZD,ZE,ZF,oH.cells.ld];refine XX_of (graphOf_ok (s.keepF k1) v hg (hu.keep k1 (fun _ _ e=>e)) (by omega)) (fun res h2 hle hn=>?_);obtain ⟨k2,bg,bi,bm,v2,rfl,g2⟩:=hn;refine .ret ?_;clear g2
 by_cases hok:(S.graph roots).2=true
 case neg =>
  have hok':(S.graph roots).2=false:=by simpa using hok
  rw[hok'];simp only[ZG,↓reduceIte,ZA,ZB,ZC,mbl,ZD,ZE,ZF];refine hΨ _ _ (fin_ret (rv2 rfl rfl ⟨(k1.trans k2).mono (fun _ e=>e.elim),?_⟩));rw[if_neg hok];exact ⟨k1.trans k2,rfl⟩
 rw[hok];have c2:Cw h L h.length b h2 L S:=⟨s.keepF (k1.trans k2),v,(k1.trans k2).mono (fun _ e=>e.elim),Same.refl _ _,oH.keep k2 (fun e=>e),s.c0 _ (Z0 _)⟩
 simp only[ZG,↓reduceIte,ZA,ZB,ZC,mbl,ZD,ZE,ZF,c2.ob.cells.ld];refine XX_of (Globals_ok c2.hp (by omega)) (fun res h3 hle3 hn=>?_);obtain ⟨k3,vg,rfl,og,fg⟩:=hn;refine .ret ?_;have c3:=c2.keepF k3;have l2:=(k1.trans k2).len;have rg:Rw h3 L h.length vg S.globals:=⟨og,fun q e=>⟨by have:=(fg q e).1;omega,s.c0 q (by have:=(fg q e).1;omega)⟩⟩
 simp only[ZG,↓reduceIte,ZA,ZB,ZC,mbl,ZD,ZE,ZF,c3.ob.cells.ld];refine XX_of (Flip_ok c3.hp) (fun res h4 hle4 hn=>?_);obtain ⟨rfl,k4,L4,hp4,sm4⟩:=hn;refine .ret ?_;have c4:=c3.step k4 hp4 sm4 v.flip;have rg4:=rg.step k4 sm4;have hu4:Rds h4 2 u roots.length (ww roots):=((hu.keep (k1.trans k2) (fun _ _ e=>e)).keep k3 (fun _ _ e=>e)).keep k4 (fun q e c=>c (hd q e));simp only[ZG,↓reduceIte,ZA,ZB,ZC,mbl,ZD,ZE,ZF];refine XX_of (move_ok c4.hp c4.iv c4.ob c4.nb hu4 hm) (fun res h5 hle5 hn=>?_);obtain ⟨k5,vn,news,S5,L5,rfl,m5,hp5,sm5,on5,fn5⟩:=hn;refine .ret ?_;have c5:=c4.step k5 hp5 sm5 (m5.inv c4.iv);have rg5:=rg4.step k5 sm5;have l4:=c4.kp.len;have rn5:Rw h5 L5 h.length vn news:=⟨on5,fun q e=>⟨by have:=(fn5 q e).1;omega,(fn5 q e).2.2⟩⟩
 simp only[ZG,↓reduceIte,ZA,ZB,ZC,mbl,ZD,ZE,ZF];refine XX_of (move_ok c5.hp c5.iv c5.ob c5.nb rg5.o.rds hg) (fun res h6 hle6 hn=>?_);obtain ⟨k6,vs,gs,S6,L6,rfl,m6,hp6,sm6,on6,fn6⟩:=hn;refine .ret ?_;have c6:=c5.step k6 hp6 sm6 (m6.inv c5.iv);have rn6:=rn5.step k6 sm6;have l5:=c5.kp.len;have rs6:Rw h6 L6 h.length vs gs:=⟨on6,fun q e=>⟨by have:=(fn6 q e).1;omega,(fn6 q e).2.2⟩⟩
 have hgl6:S6.globals=S.globals:=m6.mvs.gl.trans (m5.mvs.gl);simp only[ZG,↓reduceIte,ZA,ZB,ZC,mbl,ZD,ZE,ZF];refine XLo_rule (α:=Int × HS × Lay) (fun a=>[(2,.pointer (some ⟨h.length,0,none⟩)),(8,vs),(9,.func (.func 35) #[] #[.pointer (some ⟨h.length,0,none⟩)]),(10,vn),(11,iv a.1)])
  (fun a h'=>Cw h L h.length b h' a.2.2 a.2.1/\Rw h' a.2.2 h.length vn news/\Rw h' a.2.2 h.length vs gs/\0<=a.1/\a.1<=1048576/\Bdy a.2.1 a.1/\a.2.1.globals=S.globals /\ ∀ S',Scan a.2.1 a.1 S'->Scan S6 0 S') (fun a=>(1048577-a.1).toNat) (0,S6,L6)
  ⟨c6,rn6,rs6,by omega,by omega,Bdy.zero c6.iv,hgl6,fun _ h=>h⟩ ⟨rfl,rfl,rfl,rfl,rfl,trivial⟩ ?_
 rintro ⟨at_,S7,L7⟩ h7 Ψ2 ⟨c7,rn7,rs7,h0,h0',bd7,gl7,sc7⟩ next out
 simp only at c7 rn7 rs7 h0 h0' bd7 gl7 sc7;simp only[ZG,↓reduceIte,ZA,ZB,ZC,mbl,ZD,ZE,ZF,c7.ob.cells.ld];refine XX_val (Used_ok c7.hp) ?_
 by_cases hlt:at_<(S7.now.length:Int)
 case neg =>
  simp only[ZG,↓reduceIte,ZA,ZB,ZC,hlt];refine out (.exit 0) _ _ _ _ (by intro e;cases e) ?_;simp only[ZG,↓reduceIte,ZA,ZB,ZC,mbl,ZD,ZE,ZF,c7.ob.cells.ld];refine XX_of (SetGlobals_ok c7.hp rs7.o.rds (by have:=m6.len;omega) (by rw[gl7];omega)) (fun res h8 hle8 hn=>?_);obtain ⟨k8,rfl,L8,hp8,sm8⟩:=hn;refine .ret ?_;have c8:=c7.step k8 hp8 sm8 (c7.iv.setg gs);have rn8:=rn7.step k8 sm8;simp only[ZG,↓reduceIte,ZA,ZB,ZC,mbl,ZD,ZE,ZF];refine hΨ _ _ (fin_ret (rv2 rfl rfl ⟨c8.kp,?_⟩));rw[if_pos hok];exact ⟨vn,news,_,L8,rfl,⟨S5,gs,S6,S7,m5,m6,sc7 S7 (.done hlt),rfl⟩,c8.hp,c8.iv,c8.sm,rn8⟩
 case pos =>
 obtain ⟨n,hn7⟩:=bd7.lt hlt;have hm7:=mget_in hn7;have t7:=tiles_in c7.iv.tn hm7;have hl7:S7.lies (4,at_):=⟨rfl,by show (mget at_ S7.begins).isSome=true;rw[hn7];rfl⟩
 simp only[ZG,↓reduceIte,ZA,ZB,ZC,hlt];have oW:=Own.new h7 44 h7.length [iv 0,iv 0];have kw:Keep (fun _=>False) h7 (h7++[row 44 h7.length [iv 0,iv 0]]):=Keep.push _ _ _;have lw:(h7++[row 44 h7.length [iv 0,iv 0]]).length=h7.length+1:=by simp
 simp only[ZG,↓reduceIte,ZA,ZB,ZC,mbl,ZD,ZE,ZF];generalize h7++[row 44 h7.length [iv 0,iv 0]]=h8 at oW kw lw ⊢;refine XH_own oW rfl (by simp [Value.cells]) rfl (fun h9 q1 q2 q3=>?_);have oW9:Own h9 h7.length 44 [iv 4,iv at_]:=by simpa [Value.cells] using q1
 have k79:Keep (fun _=>False) h7 h9:=kw.trans' q2 (fun c hc e=>by omega);have c9:=c7.keepF k79;have hz9:L7.cls h7.length=0:=c7.hp.c0 _ (Z0 _);simp only[ZG,↓reduceIte,ZA,ZB,ZC,c9.ob.cells.ld,oW9.cells.lds 0 2 (by simp),mbl,ZD,ZE,ZF];refine XX_of (Fields_ok c9.hp c9.iv.ok (4,at_)) (fun res h10 hle10 hn=>?_);obtain ⟨k10,hn⟩:=hn;rw[if_pos hl7] at hn;obtain ⟨vf,rfl,of,ff⟩:=hn;refine .ret ?_;have c10:=c9.keepF k10;have oW10:=oW9.keep k10 (fun e=>e);have hfl:(S7.flds (4,at_)).length<=2000000:=by
  have:=c7.iv.ok.fc hl7 (by have:=c7.iv.ln;have:=c7.iv.sz;omega);simp [HS.flds];omega
 simp only[ZG,↓reduceIte,ZA,ZB,ZC,mbl,ZD,ZE,ZF];refine XX_of (move_ok c10.hp c10.iv c10.ob c10.nb of.rds hfl) (fun res h11 hle11 hn=>?_);obtain ⟨k11,vx,xs,S11,L11,rfl,m11,hp11,sm11,on11,fn11⟩:=hn;refine .ret ?_;have c11:=c10.step k11 hp11 sm11 (m11.inv c10.iv);have rn11:=((rn7.keepF k79).keepF k10).step k11 sm11;have rs11:=((rs7.keepF k79).keepF k10).step k11 sm11;have oW11:=oW10.keep k11 (fun e=>e hz9);have hz11:L11.cls h7.length=0:=(sm11 _ oW10.lt).2 hz9;have rx11:Rw h11 L11 h.length vx xs:=⟨on11,fun q e=>⟨by have:=(fn11 q e).1;have:=c10.kp.len;omega,(fn11 q e).2.2⟩⟩
 obtain ⟨xa,xc,hvx⟩:=row_shape rx11.o.rds;simp only[ZG,↓reduceIte,ZA,ZB,ZC,mbl,ZD,ZE,ZF,hvx];rw[<- hvx];have hxl:xs.length<=2000000:=by rw[m11.len];exact hfl
 refine XLo_rule (α:=Nat × HS) (fun a=>[(2,.pointer (some ⟨h.length,0,none⟩)),(8,vs),(9,.func (.func 35) #[] #[.pointer (some ⟨h.length,0,none⟩)]),(10,vn),(11,iv at_),(12,.pointer (some ⟨h7.length,0,none⟩)),(50,vx),(51,iv xs.length),(52,iv a.1)])
  (fun a h'=>a.1<=xs.length/\Cw h L h.length b h' L11 a.2/\Rw h' L11 h.length vn news/\Rw h' L11 h.length vs gs/\Rw h' L11 h.length vx xs/\Own h' h7.length 44 [iv 4,iv at_]/\a.2.setl (4,at_) a.1 (xs.drop a.1)=S11.setl (4,at_) 0 xs) (fun a=>xs.length-a.1) (0,S11)
  ⟨Z6 _,c11,rn11,rs11,rx11,oW11,rfl⟩ ⟨rfl,rfl,rfl,rfl,rfl,rfl,by rw[hvx];rfl,rfl,rfl,trivial⟩ ?_
 rintro ⟨k,S12⟩ h12 Ψ3 ⟨hk,c12,rn12,rs12,rx12,oW12,hset⟩ next2 out2;simp only at hk c12 rn12 rs12 rx12 oW12 hset
 by_cases hkl:k<xs.length
 case neg =>
  have d1:((k:Int)<((xs.length:Nat):Int))=False:=by simp;omega
  simp only[ZG,↓reduceIte,ZA,ZB,ZC,d1];refine out2 (.exit 2) _ _ _ _ (by intro e;cases e) ?_;have hdr:xs.drop k=[]:=Z2 (by omega);rw[hdr,HS.setl] at hset;have hb12:mget at_ S12.begins=some n:=by
   rw[hset,(setl_same _ _ _ _).1];exact m11.mvs.get hn7
  simp only[ZG,↓reduceIte,ZA,ZB,ZC,c12.ob.cells.ld,mbl,ZD,ZE,ZF];have hm12:=mget_in hb12;have t12:=tiles_in c12.iv.tn hm12;simp only at t12;have ln12:=c12.iv.ln;have sz12:=c12.iv.sz;refine XX_of (Next_ok c12.hp at_ (fun m hm'=>by rw[hb12] at hm';cases hm';omega)) (fun res h13 hle13 hn13=>?_);obtain ⟨rfl,rfl⟩:=hn13;refine .ret ?_;have hnx:(S12.next at_).1=at_+n:=by rw[HS.next,hb12]
  simp only[ZG,↓reduceIte,ZA,ZB,ZC];refine next ((S12.next at_).1,S12,L11) _ _ _ ⟨c12,rn12,rs12,by rw[hnx];omega,by rw[hnx];omega,by rw[hnx];exact Bdy.next c12.iv hb12,?_,fun S' hS'=>sc7 S' (.step hlt m11 ?_)⟩ ⟨rfl,rfl,rfl,rfl,rfl,trivial⟩ (by simp only;rw[hnx];omega)
  ·show S12.globals=S.globals
   rw[hset,(setl_same _ _ _ _).2.2.1,m11.mvs.gl,gl7]
  ·rw[<- hset];exact hS'
 case pos =>
  have d1:((k:Int)<((xs.length:Nat):Int))=True:=by simp;omega
  have d0:(0<=(k:Int))=True:=by simp
  have tn:Int.toNat (k:Int)=k:=by simp
  obtain ⟨bx,o,c,hxe,hnx,hld⟩:=rds_w rx12.o.rds (i:=(k:Int)) (by omega) (by omega);rw[tn] at hld;have hdr:xs.drop k=wat xs (k:Int)::xs.drop (k+1):=by
   rw[Z1 hkl];congr 1;simp [wat,hkl]
  generalize wat xs (k:Int)=x at hdr hld;rw[hdr,HS.setl] at hset;have oX:=Own.new h12 44 h12.length [iv 0,iv 0];have kx:Keep (fun _=>False) h12 (h12++[row 44 h12.length [iv 0,iv 0]]):=Keep.push _ _ _;simp only[ZG,↓reduceIte,ZA,ZB,ZC,d1,hxe,d0,and_self,tn,hld,mbl,ZD,ZE,ZF];rw[<- hxe];generalize h12++[row 44 h12.length [iv 0,iv 0]]=h13 at oX kx ⊢;refine XH_own oX rfl (by simp [Value.cells]) rfl (fun h14 p1 p2 p3=>?_);have oX14:Own h14 h12.length 44 [iv x.1,iv x.2]:=by simpa [Value.cells] using p1
  have k1214:Keep (fun _=>False) h12 h14:=kx.trans' p2 (fun c hc e=>by omega);have c14:=c12.keepF k1214;have oW14:=oW12.keep k1214 (fun e=>e);simp only[ZG,↓reduceIte,ZA,ZB,ZC,c14.ob.cells.ld,box_ld (x:=(4,at_)) oW14,box_ld oX14,mbl,ZD,ZE,ZF];refine XX_of (Set_ok c14.hp c14.iv.ok (4,at_) k x) (fun res h15 hle15 hn15=>?_);obtain ⟨k15,rfl,hp15⟩:=hn15;refine .ret ?_;have c15:=c14.step k15 hp15 (Same.refl _ _) (c14.iv.sete (4,at_) k x);have wi:IntKind.i64.wrap ((k:Int)+1)=((k+1:Nat):Int):=by rw[i64w (by omega) (by omega)];omega
  simp only[ZG,↓reduceIte,ZA,ZB,ZC,wi];refine next2 (k+1,(S12.sete (4,at_) k x).2) _ _ h15 ⟨by omega,c15,(rn12.keepF k1214).step k15 (Same.refl _ _),(rs12.keepF k1214).step k15 (Same.refl _ _),(rx12.keepF k1214).step k15 (Same.refl _ _),oW14.keep k15 (fun e=>e hz11),hset⟩ ⟨rfl,rfl,rfl,rfl,rfl,rfl,rfl,rfl,rfl,trivial⟩ (by simp;omega)
end
end Go.S19
