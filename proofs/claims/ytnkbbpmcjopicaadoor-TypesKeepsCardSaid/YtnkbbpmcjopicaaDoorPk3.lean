import Derived.Test.YtnkbbpmcjopicaaDoorPk2
import Derived.Deep.AppendSrc
import Derived.Lib.AppendZeros
import Derived.LoopN
import Derived.Scope
set_option linter.unusedVariables false
set_option linter.unusedSimpArgs false
open Nat renaming reduceEqDiff -> ZA,reduceAdd -> ZB,reduceMul -> ZC,reduceLeDiff -> ZD,reduceLT -> ZE
open Int renaming reduceEq -> ZF
open List renaming getElem?_eq_some_iff->Z0,getElem?_append_left->Z1,getElem?_take->Z2,length_take->Z3,getElem?_toArray->Z4,getElem?_append_right->Z5,getElem?_drop->Z8,getElem?_cons_zero->Z9,getElem?_set->Zb,getElem?_eq_getElem->Zc,getElem?_cons_succ->Zd,length_eraseIdx->Zh,getElem?_set_ne->Zi,length_append->Zm,getElem?_map->Zn,size_toArray->Zo,append_assoc->Zp
open Bool renaming and_eq_true->Z6
open Array renaming getElem?_eq_some_iff->Z7,getElem?_modify->Zf,getElem?_toList->Zg,length_toList->Zk
open Nat renaming le_refl->Za,mul_le_mul_right->Zj,zero_add->Zl,add_mul->Zq
open Option renaming map_eq_some_iff->Ze
namespace Go.Eng
def Ends (n:Next) (v:Value):Prop:=n = .value v\/(n = .skip/\v=undef)
def WrOk (P:Program) (r:Rho) (h:AH) (w:World) (s:Sem Next) (v:Value) (h':AH):Prop :=
 ∃ n v' w' r',s.run P w = .ok n w'/\Ends n v'/\Stp P r h w r' h' w'/\VR r' v v'
theorem undef_vr (r:Rho):VR r undef undef:=VR.tuple_l (.nil r)
def wstore (P:Program) (h:AH) (t:TypeId) (a v:Value):Option AH :=
 match a with
 | .pointer (some ⟨b,o,none⟩)=>if sizeT P t=some v.cells.size then hstore h b o v.cells.toList else none
 | _=>none
theorem wstore_ok {P:Program} {r:Rho} {h h':AH} {w:World} (hr:HR P r h w.heap) {t:TypeId} {a a' v v':Value} (ha:VR r a a') (hv:VR r v v') (he:wstore P h t a v=some h') :
 ∃ w',(Instr.storeAt t a' v').run P w = .ok () w'/\Stp P r h w r h' w':=by
 unfold wstore at he
 split at he
 case h_2=>cases he
 case h_1 b o =>
  obtain ⟨x,hb,_,rfl⟩:=ha.ptr_inv
  split at he
  case isFalse=>cases he
  case isTrue hs =>
   obtain ⟨w',h1,h2⟩:=hstore_ok (P:=P) hr he hv.cells hb;refine ⟨w',?_,h2⟩;have hsz:v'.cells.size=v.cells.size:=by have:=hv.cells.1;simpa using this.symm
   simp [Instr.storeAt,Instr.sureAddr,storeVar,run_sizeT hs,hsz,h1]
theorem Stp.setMap {P:Program} {r:Rho} {h:AH} {w:World} (hr:HR P r h w.heap) {b:Nat} {es0:List (Value × Value)} (hB:h[b]?=some (.map es0)) {x:Loc} (hb:r b=some x)
 {es:List (Value × Value)} {ms:Array MapEntry} {clock:Nat} (hlen:es.length=ms.size)
 (hent:∀ (i:Nat) (kv:Value × Value) (m:MapEntry),es[i]?=some kv->ms[i]?=some m->VR r kv.1 m.key/\VR r kv.2 m.val) :
 Stp P r h w r (h.set b (.map es)) { w with heap:=w.heap.setIfInBounds x.blk (.map ms clock) }:=by
 have hbl:b<h.length:=(Z0.1 hB).1;have hxl:=(hr.dom b x hb).2;have hget:∀ c,(h.set b (.map es))[c]?=if c=b then some (.map es) else h[c]?:=fun c=>by
  rw[Zb]
  by_cases e:b=c
  ·subst e;simp [hbl]
  ·simp [e,Ne.symm e]
 have hW:∀ k,(w.heap.setIfInBounds x.blk (.map ms clock))[k]?=if k=x.blk then some (.map ms clock) else w.heap[k]?:=fun k=>by
  rw[Array.getElem?_setIfInBounds]
  by_cases e:x.blk=k
  ·subst e;simp [hxl]
  ·simp [e,Ne.symm e]
 have hx0:x.off=0:=by
  obtain ⟨y,hy,ces,cl,_,h0,_⟩:=hr.blk b _ hB rfl;rw[hb] at hy;cases hy;exact h0
 have hother:∀ c C y,h[c]?=some C->C.live=true->r c=some y->y.blk=x.blk->c=b:=fun c C y h1 h2 h3 h4=>by
  by_cases e:c=b
  ·exact e
  ·obtain ⟨_,_,_,_,_,_,_,e1,_⟩:=hr.sep b c _ C x y hB h1 (Ne.symm e) rfl h2 hb h3 h4.symm
   cases e1
 refine ⟨.refl r,⟨fun c y hc=>?_,fun c C hC hl=>?_,fun c c' C C' y y' h1 h2 hne hw hl h3 h4 heq=>?_,fun g cs hg=>?_,fun g c C y hg h1 hw h3=>?_⟩,⟨rfl,rfl,rfl,by simp,fun k hk hn=>?_⟩,fun c C y h1 h2 h3 h4=>?_,by simp,fun c hc=>?_⟩
 ·have:=hr.dom c y hc;simpa using this
 ·rw[hget] at hC
  by_cases e:c=b
  ·subst e;simp at hC;subst hC
   refine ⟨x,hb,ms,clock,?_,hx0,hlen,hent⟩;rw[hW];simp
  ·simp [e] at hC
   obtain ⟨y,hy,hbo⟩:=hr.blk c C hC hl;refine ⟨y,hy,?_⟩;rw[hW,if_neg (fun k=>e (hother c C y hC hl hy k))];exact hbo
 ·rw[hget] at h1 h2
  by_cases e:c=b
  ·subst e
   have e':c'≠c:=Ne.symm hne;simp [e'] at h2;rw[hb] at h3;cases h3;exact absurd (hother c' C' y' h2 hl h4 heq.symm) e'
  ·simp [e] at h1
   by_cases e':c'=b
   ·subst e'
    rw[hb] at h4;cases h4;exact absurd (hother c C y h1 (Blk.live_of_wr hw) h3 heq) e
   ·simp [e'] at h2
    exact hr.sep c c' C C' y y' h1 h2 hne hw hl h3 h4 heq
 ·obtain ⟨cur,e,fr,hc,hv⟩:=hr.lay g cs hg
  exact ⟨cur,e,fr,by rw[hW,if_neg fun e=>hr.nwr g b _ x (by rw[hg];rfl) hB rfl hb e.symm];exact hc,hv⟩
 ·rw[hget] at h1
  by_cases e:c=b
  ·subst e;rw[hb] at h3;cases h3;exact hr.nwr g c _ x hg hB rfl hb
  ·simp [e] at h1;exact hr.nwr g c C y hg h1 hw h3
 ·show (w.heap.setIfInBounds x.blk (.map ms clock))[k]?=w.heap[k]?
  rw[hW,if_neg (fun e=>hn ⟨b,_,x,hB,rfl,hb,e.symm⟩)]
 ·rw[hget] at h1
  by_cases e:c=b
  ·subst e;simp at h1;subst h1;exact ⟨c,_,y,hB,rfl,h3,rfl,fun _=>rfl⟩
  ·simp [e] at h1;exact ⟨c,C,y,h1,h2,h3,rfl,id⟩
 ·rw[hget,if_neg (fun e=>by rw[e,hB] at hc;cases hc)];exact hc
def wmapUpdate (P:Program) (h:AH) (t:TypeId) (m k v:Value):Option AH :=
 match P.underlying t,m with
 | some (.map kt _),.map (some b) =>
   match hmap h b with
   | some es =>
     match rfind P kt k es,pureRun P (Instr.checkKey false 10000 kt k) with
     | some (some j),some _=>match es[j]? with
       | some kv=>if Instr.sameBits 10000 kv.1 k then some (h.set b (.map (es.set j (k,v)))) else none
       | none=>none
     | some none,some _=>some (h.set b (.map (es++[(k,v)])))
     | _,_=>none
   | none=>none
 | _,_=>none
theorem run_setMap {P:Program} {w:World} {g:Nat} {ms ms':Array MapEntry} {cl cl':Nat} (h:w.heap[g]?=some (.map ms cl)) :
 (setObj g (.map ms' cl')).run P w = .ok () { w with heap:=w.heap.setIfInBounds g (.map ms' cl') }:=by
 simp [setObj,Sem.run,h]
theorem hmap_blk {h:AH} {b:Nat} {es:List (Value × Value)} (hc:hmap h b=some es):h[b]?=some (.map es):=by
 unfold hmap at hc
 split at hc
 ·rename_i h1;cases hc;exact h1
 ·cases hc
theorem wmapUpdate_ok {P:Program} {r:Rho} {h h':AH} {w:World} (hr:HR P r h w.heap) {t:TypeId} {m m' k k' v v':Value} (hm:VR r m m') (hk:VR r k k') (hv:VR r v v') (he:wmapUpdate P h t m k v=some h') :
 ∃ w',(Instr.mapUpdate t m' k' v').run P w = .ok () w'/\Stp P r h w r h' w':=by
 unfold wmapUpdate at he
 split at he
 case h_2=>cases he
 case h_1 kt e b hu =>
  obtain ⟨x,hb,_,rfl⟩:=hm.map_inv
  split at he
  case h_2=>cases he
  case h_1 es hes =>
   obtain ⟨ms,clock,g1,g2,g3⟩:=hmap_ok hr hes hb;have hB:=hmap_blk hes
   split at he
   ·rename_i j u hf hck
    obtain ⟨rfl,_,mm,hmm,hfk⟩:=rfind_ok (w:=w) hk g2 g3 hf;cases hkv:es[j]? with
    | none=>simp [hkv] at he
    | some kv =>
      simp only[hkv] at he
      split at he
      case isFalse=>cases he
      case isTrue hsame =>
       cases he;have hjl:j<es.length:=(Z0.1 hkv).1;have hjm:j<ms.size:=(Z7.1 hmm).1;have hkey:mm.key=kv.1:=by
        have:=(g3 j kv mm hkv hmm).1;unfold rfind at hf
        split at hf
        ·rename_i hs
         simp only[Z6] at hs;exact scal_eq 8 _ _ (List.all_eq_true.1 hs.2 kv (List.mem_of_getElem? hkv)) this
        ·cases hf
       have hst:(Instr.keyThatStays ((ms[j]?.map (·.key)).getD k') k').run P w = .ok k' w:=by
        simp [hmm,hkey,Instr.keyThatStays,hsame]
       refine ⟨{ w with heap:=w.heap.setIfInBounds x.blk (.map (ms.modify j fun e=>{ e with key:=k',val:=v' }) clock) },?_,?_⟩
       ·simp only[Instr.mapUpdate,Sem.run_bind,run_underlying hu,Result.andThen_ok,run_getMap g1,pureRun_run hck w,hfk,hst,run_setMap g1]
       ·refine Stp.setMap hr hB hb (by simp [g2]) fun i q m1 h1 h2=>?_
        rw[Zb] at h1;rw[Zf] at h2
        by_cases e:j=i
        ·subst e
         simp [hjl] at h1;simp [hmm] at h2;subst h1;subst h2;exact ⟨hk,hv⟩
        ·simp [e] at h1 h2
         exact g3 i q m1 h1 h2
   ·rename_i u hf hck
    obtain ⟨rfl,_,hfk⟩:=rfind_ok (w:=w) hk g2 g3 hf;cases he;refine ⟨{ w with heap:=w.heap.setIfInBounds x.blk (.map (ms.push { key:=k',val:=v',born:=clock }) (clock+1)) },?_,?_⟩
    ·simp only[Instr.mapUpdate,Sem.run_bind,run_underlying hu,Result.andThen_ok,run_getMap g1,pureRun_run hck w,hfk,run_setMap g1]
    ·refine Stp.setMap hr hB hb (by simp [g2]) fun i q m1 h1 h2=>?_
     rw[Array.getElem?_push] at h2
     by_cases e:i=ms.size
     ·subst e
      rw[Z5 (by omega)] at h1;simp [g2] at h1;simp at h2;subst h1;subst h2;exact ⟨hk,hv⟩
     ·rw[if_neg e] at h2
      have:i<ms.size:=(Z7.1 h2).1;rw[Z1 (by omega)] at h1;exact g3 i q m1 h1 h2
   ·cases he
def wdelete (P:Program) (h:AH) (t:TypeId) (m k:Value):Option AH :=
 match P.underlying t,m with
 | some (.map kt _),.map (some b) =>
   match hmap h b with
   | some es =>
     match rfind P kt k es with
     | some (some j)=>some (h.set b (.map (es.eraseIdx j)))
     | some none=>some (h.set b (.map es))
     | none=>none
   | none=>none
 | _,_=>none
theorem wdelete_ok {P:Program} {r:Rho} {h h':AH} {w:World} (hr:HR P r h w.heap) {t ty:TypeId} {m m' k k':Value} (hm:VR r m m') (hk:VR r k k') (he:wdelete P h t m k=some h') (ts:Array TypeId) (hts:ts[0]?=some t) :
 ∃ w',(Builtin.delete_ ts ty #[m',k']).run P w = .ok (.tuple #[]) w'/\Stp P r h w r h' w':=by
 unfold wdelete at he
 split at he
 case h_2=>cases he
 case h_1 kt e b hu =>
  obtain ⟨x,hb,_,rfl⟩:=hm.map_inv
  split at he
  case h_2=>cases he
  case h_1 es hes =>
   obtain ⟨ms,clock,g1,g2,g3⟩:=hmap_ok hr hes hb;have hB:=hmap_blk hes
   split at he
   ·rename_i j hf
    obtain ⟨rfl,hck,mm,hmm,hfk⟩:=rfind_ok (w:=w) hk g2 g3 hf;cases he;have hjm:j<ms.size:=(Z7.1 hmm).1;refine ⟨{ w with heap:=w.heap.setIfInBounds x.blk (.map (ms.eraseIdxIfInBounds j) clock) },?_,?_⟩
    ·simp only[Builtin.delete_,hts,Z4,Z9,Zd,Sem.run_bind,run_underlying hu,Result.andThen_ok,run_getMap g1,hck,hfk,run_setMap g1,Sem.run_pure]
    ·have hal:(ms.eraseIdxIfInBounds j).toList=ms.toList.eraseIdx j:=by simp [Array.eraseIdxIfInBounds,hjm]
     refine Stp.setMap hr hB hb ?_ fun i q m1 h1 h2=>?_
     ·have:(ms.eraseIdxIfInBounds j).size=(ms.toList.eraseIdx j).length:=by rw[<- hal,Zk]
      rw[this,Zh,Zh];simp [g2]
     ·rw[<- Zg,hal] at h2
      rw[List.getElem?_eraseIdx] at h1 h2
      split at h1
      ·rename_i hij;rw[if_pos hij] at h2;exact g3 i q m1 h1 (by simpa using h2)
      ·rename_i hij;rw[if_neg hij] at h2;exact g3 (i+1) q m1 h1 (by simpa using h2)
   ·rename_i hf
    obtain ⟨rfl,hck,hfk⟩:=rfind_ok (w:=w) hk g2 g3 hf;cases he;refine ⟨{ w with heap:=w.heap.setIfInBounds x.blk (.map ms clock) },?_,Stp.setMap hr hB hb g2 g3⟩;simp only[Builtin.delete_,hts,Z4,Z9,Zd,Sem.run_bind,run_underlying hu,Result.andThen_ok,run_getMap g1,hck,hfk,run_setMap g1,Sem.run_pure]
   ·cases he
end Go.Eng

namespace Go.Eng
def rsrc (P:Program) (h:AH) (size:Nat) (tx:TypeId):Value->Option (Nat × List Value)
 | .slice none 0 0=>match P.underlying tx with
   | some (.slice _)=>some (0,[])
   | _=>none
 | .slice (some ⟨b,o,none⟩) n c=>match P.underlying tx with
   | some (.slice _) =>
     if n=0 then some (0,[]) else
     match hcell h b with
     | some cs=>if o+n*size<=cs.length && ((cs.drop o).take (n*size)).all Value.oneCell' then some (n,(cs.drop o).take (n*size)) else none
     | none=>none
   | _=>none
 | .string s=>match P.underlying tx with
   | some .string=>if size=1 then some (s.size,byteCells s) else none
   | _=>none
 | _=>none
theorem rsrc_ok {P:Program} {r:Rho} {h:AH} {w:World} (hr:HR P r h w.heap) {size:Nat} {tx:TypeId} {x x':Value} (hx:VR r x x') {n:Nat} {xs:List Value} (he:rsrc P h size tx x=some (n,xs)) :
 ∃ xs',Src P size tx x' n xs' w/\VL r xs xs'/\xs.length=n*size/\xs.all Value.oneCell'=true:=by
 unfold rsrc at he
 split at he
 ·obtain ⟨_,_,rfl⟩:=hx.snil_inv
  split at he
  ·rename_i e hu;cases he;exact ⟨[],Src.ofNil w hu 0,.nil r,by simp,rfl⟩
  ·cases he
 ·rename_i b o n0 c
  split at he
  case h_2=>cases he
  case h_1 e hu =>
   split at he
   case isTrue h0 =>
    cases he;subst h0
    rcases hx.slice_inv with ⟨y,c',hb,_,rfl,_,_,_⟩|⟨_,rfl,a',rfl⟩
    ·exact ⟨[],Src.ofSlice w hu _ 0 c' [] (by simp) (fun j u h=>by simp at h) (fun u h=>by cases h),.nil r,by simp,rfl⟩
    ·exact ⟨[],Src.ofSlice w hu _ 0 0 [] (by simp) (fun j u h=>by simp at h) (fun u h=>by cases h),.nil r,by simp,rfl⟩
   case isFalse h0 =>
    split at he
    case h_2=>cases he
    case h_1 cs hc =>
     split at he
     case isFalse=>cases he
     case isTrue hl =>
      cases he;simp only[Z6,decide_eq_true_eq] at hl
      rcases hx.slice_inv with ⟨y,c',hb,_,rfl,_,_,_⟩|⟨h1,_,_⟩
      ·obtain ⟨vs,hvl,hcs⟩:=hcell_ok hr hc hb
       have hv2:=(hvl.drop o).take (n*size);refine ⟨_,Src.ofSlice w hu _ n c' _ (by have:=hvl.1;simp;omega) (fun j u hj=>?_) (hv2.one hl.2),hv2,by simp;omega,hl.2⟩;rw[Z2] at hj
       split at hj
       ·rw[Z8] at hj
        have:=hcs _ _ hj;rw[Addr.add_lit];rw[show o+y.off+j=y.off+(o+j) by omega];exact this
       ·cases hj
      ·exact absurd h1 h0
 ·rename_i s
  cases hx.string_inv
  split at he
  case h_2=>cases he
  case h_1 hu =>
   split at he
   case isFalse=>cases he
   case isTrue h1 =>
    cases he;subst h1;exact ⟨byteCells s,Src.ofString w hu s,⟨rfl,fun i v v' a b=>by
     rw[a] at b;cases b;unfold byteCells at a;rw[Zn] at a;cases hq:s.data.toList[i]? with
     | none=>simp [hq] at a
     | some q=>simp [hq] at a;subst a;exact .int _ _⟩,by rw[byteCells_length];simp,by
     rw[List.all_eq_true];exact (Src.ofString (P:=P) w hu s).one⟩
 ·cases he
def hprep (keep:Bool) (h:AH) (b:Nat) (solo:Bool) (grp del:Nat) (e:TypeId) (cs:List Value) (k:Nat):AH :=
 (if solo then h else h.map (hcut grp (del+k))).set b (if keep then .cells true false grp del e (cs.take k) else .gone)
def happend (P:Program) (keep:Bool) (h:AH) (t tx:TypeId) (s x:Value):Option (Value × AH) :=
 match P.underlying t with
 | some (.slice e) =>
   match P.info? e with
   | some i =>
     match i.zero with
     | some z =>
       match rsrc P h i.size tx x with
       | some (n,xs) =>
         if z.cells.size≠i.size\/bldT P e=true then none else
         match s with
         | .slice none 0 0 =>
           if n=0 then some (s,h) else
           if n*i.bytes<=140737488355328 && n<=9223372036854775807 then some (.slice (some ⟨h.length,0,none⟩) n n,h++[row e h.length xs]) else none
         | .slice (some ⟨b,o,none⟩) n0 c0 =>
           if n=0 then some (s,h) else
           match h[b]? with
           | some (.cells true solo grp del e' cs) =>
             if e'=e && o+n0*i.size<=cs.length then
              if n0+n<=c0 then (hstore h b (o+n0*i.size) xs).map fun h'=>(.slice (some ⟨b,o,none⟩) (n0+n) c0,h')
              else if (n0+n)*i.bytes<=140737488355328 && n0+n<=9223372036854775807 then
               some (.slice (some ⟨h.length,0,none⟩) (n0+n) (n0+n),
                hprep keep h b solo grp del e cs (o+n0*i.size)++[.cells true (solo && !keep) (if solo && !keep then h.length else grp) (if solo && !keep then 0 else del+o) e ((cs.take (o+n0*i.size)).drop o++xs)])
              else none
             else none
           | _=>none
         | _=>none
       | none=>none
     | none=>none
   | none=>none
 | _=>none
theorem run_append_in {P:Program} {w w':World} (t tx ty e:TypeId) (i:TypeInfo) (ht:P.underlying t=some (.slice e)) (hi:P.info? e=some i) (b off sLen sCap:Nat) (x:Value) (n:Nat) (news:List Value)
 (hs:Src P i.size tx x n news w) (hroom:sLen+n<=sCap) (hst:(storeCells ⟨b,off+sLen*i.size,none⟩ news).run P w = .ok () w') :
 (Builtin.append_ #[t,tx] ty #[.slice (some ⟨b,off,none⟩) sLen sCap,x]).run P w = .ok (.slice (some ⟨b,off,none⟩) (sLen+n) sCap) w':=by
 rcases hs.kind with ⟨e',hk⟩|hk<;>simp [Builtin.append_,run_underlying ht,run_underlying hk,sizeOf,typeInfo,hi,hs.len,hroom,hs.cells,Addr.add_lit,hst]
theorem run_append_zero {P:Program} {w:World} (t tx ty e:TypeId) (i:TypeInfo) (ht:P.underlying t=some (.slice e)) (hi:P.info? e=some i) (a:Option Addr) (sLen sCap:Nat) (x:Value) (news:List Value)
 (hs:Src P i.size tx x 0 news w) (hroom:sLen<=sCap) :
 (Builtin.append_ #[t,tx] ty #[.slice a sLen sCap,x]).run P w = .ok (.slice a sLen sCap) w:=by
 have hn:news=[]:=by have:=hs.newsLen;simpa using this
 subst hn;cases a with
 | none=>rcases hs.kind with ⟨e',hk⟩|hk<;>simp [Builtin.append_,run_underlying ht,run_underlying hk,sizeOf,typeInfo,hi,hs.len,hroom,hs.cells]
 | some a=>rcases hs.kind with ⟨e',hk⟩|hk<;>simp [Builtin.append_,run_underlying ht,run_underlying hk,sizeOf,typeInfo,hi,hs.len,hroom,hs.cells,storeCells]
theorem hprep_get {keep:Bool} {h:AH} {b:Nat} {solo:Bool} {grp del:Nat} {e:TypeId} {cs:List Value} {k:Nat} (hB:h[b]?=some (.cells true solo grp del e cs)) {c:Nat} {C:Blk}
 (hC:(hprep keep h b solo grp del e cs k)[c]?=some C) :
 (c=b/\C=if keep then .cells true false grp del e (cs.take k) else .gone)\/(c≠b /\ ∃ C0,h[c]?=some C0/\Less C0 C/\(solo=false->C=hcut grp (del+k) C0)):=by
 unfold hprep at hC;have hbl:b<h.length:=(Z0.1 hB).1
 by_cases e1:b=c
 ·subst e1
  rw[List.getElem?_set_self (by cases solo<;>simpa using hbl)] at hC;cases hC;exact .inl ⟨rfl,rfl⟩
 ·rw[Zi e1] at hC
  refine .inr ⟨Ne.symm e1,?_⟩;cases solo with
  | true=>exact ⟨C,by simpa using hC,.refl C,fun k=>(by cases k)⟩
  | false =>
    simp only[Bool.false_eq_true,if_false,Zn,Ze] at hC;obtain ⟨C0,h1,rfl⟩:=hC;exact ⟨C0,h1,hcut_less _ _ _,fun _=>rfl⟩
theorem hprep_length {keep:Bool} {h:AH} {b:Nat} {solo:Bool} {grp del:Nat} {e:TypeId} {cs:List Value} {k:Nat}:(hprep keep h b solo grp del e cs k).length=h.length:=by
 unfold hprep;cases solo<;>simp
theorem hprep_stp {P:Program} {keep:Bool} {r:Rho} {h:AH} {w w':World} (hr:HR P r h w.heap) {b:Nat} {solo:Bool} {grp del:Nat} {e:TypeId} {cs:List Value} {k o:Nat}
 (hB:h[b]?=some (.cells true solo grp del e cs)) {x:Loc} (hb:r b=some x) (hk:k<=cs.length) (ho:o<=k)
 {cur:Array Value} (hcur:w.heap[x.blk]?=some (.cells cur e (0,0))) {cur':Array Value} (hsz:cur'.size=cur.size) (hcurN:cur.size=x.lim)
 (hbelow:∀ j,j<x.off+k->cur'[j]?=cur[j]?) {ncs:List Value} (hfit:x.off+o+ncs.length<=cur.size)
 (hnew:∀ (i:Nat) (v v':Value),ncs[i]?=some v->cur'[x.off+o+i]?=some v'->VR r v v')
 (hs:w'=w.setRow x.blk cur') (hnb:bldT P e=false) {ngrp ndel:Nat} (hng:(solo && !keep)=false->ngrp=grp/\ndel=del+o) :
 Stp P r h w (r.upd h.length ⟨x.blk,x.off+o,x.lim,x.sz⟩) (hprep keep h b solo grp del e cs k++[.cells true (solo && !keep) ngrp ndel e ncs]) w':=by
 subst hs;have hbl:b<h.length:=(Z0.1 hB).1;have hfree:=hr.free_end.2.1;have hle:=Rho.le_upd hfree ⟨x.blk,x.off+o,x.lim,x.sz⟩;have hW:(w.setRow x.blk cur').heap[x.blk]?=some (.cells cur' e (0,0)):=setRow_heap w x.blk cur cur' e (0,0) hcur;have hWo:∀ c,c≠x.blk->(w.setRow x.blk cur').heap[c]?=w.heap[c]?:=fun c hc=>setRow_other w x.blk c cur' hc
 obtain ⟨y,hy,curb,eb,frb,hcb,hownb,hSb,hszb,hcellb⟩:=hr.blk b _ hB rfl;rw[hb] at hy;cases hy;rw[hcur] at hcb;cases hcb;have hent:∀ {c:Nat} {C:Blk},(hprep keep h b solo grp del e cs k++[.cells true (solo && !keep) ngrp ndel e ncs])[c]?=some C ->
  (c=h.length/\C = .cells true (solo && !keep) ngrp ndel e ncs)\/(c<h.length/\(hprep keep h b solo grp del e cs k)[c]?=some C):=by
  intro c C hC
  by_cases hc:c<h.length
  ·rw[Z1 (by rw[hprep_length];exact hc)] at hC
   exact .inr ⟨hc,hC⟩
  ·rw[Z5 (by rw[hprep_length];omega),hprep_length] at hC
   have h0:c-h.length=0:=by
    rcases Nat.eq_zero_or_pos (c-h.length) with h0|h0
    ·exact h0
    ·rw[List.getElem?_eq_none (by simp;omega)] at hC;cases hC
   rw[h0] at hC;simp at hC;exact .inl ⟨by omega,hC.symm⟩
 have hshare:∀ {c:Nat} {C:Blk} {z:Loc},c≠b->h[c]?=some C->C.live=true->r c=some z->z.blk=x.blk ->
  solo=false /\ ∃ dl e' cs',C = .cells true false grp dl e' cs'/\x.off+dl=z.off+del:=by
  intro c C z hc h1 h2 h3 h4;obtain ⟨g',d',e1,c1,dl,e2,c2,q1,q2,q3⟩:=hr.sep b c _ C x z hB h1 (Ne.symm hc) rfl h2 hb h3 h4.symm;cases q1;exact ⟨rfl,dl,e2,c2,q2,q3⟩
 refine ⟨hle,⟨?_,?_,?_,?_,?_⟩,⟨rfl,rfl,rfl,by simp,fun c hc hn=>hWo c fun e=>hn ⟨b,_,x,hB,rfl,hb,e.symm⟩⟩,?_,by simp [hprep_length],?_⟩
 ·intro c z hc
  by_cases e1:c=h.length
  ·subst e1;rw[Rho.upd_same] at hc;cases hc
   exact ⟨by simp [hprep_length],by rw[setRow_size];exact (hr.dom b x hb).2⟩
  ·rw[Rho.upd_ne _ _ e1] at hc
   have:=hr.dom c z hc;exact ⟨by simp [hprep_length];omega,by rw[setRow_size];exact this.2⟩
 ·intro c C hC hl
  rcases hent hC with ⟨rfl,rfl⟩|⟨hlt,hC⟩
  ·refine ⟨_,Rho.upd_same _ _ _,cur',e,(0,0),hW,fun _=>⟨rfl,rfl,by rw[hsz];exact hcurN,fun k=>by rw[hnb] at k;cases k⟩,hSb,by simp only;omega,fun i v v' a b=>(hnew i v v' a b).mono hle⟩
  ·have hne:c≠h.length:=by omega
   rcases hprep_get hB hC with ⟨rfl,rfl⟩|⟨hcb,C0,h0,hless,hcut'⟩
   ·cases keep with
    | false=>cases hl
    | true =>
      refine ⟨x,by rw[Rho.upd_ne _ _ hne];exact hb,cur',e,(0,0),hW,fun _=>⟨rfl,rfl,by rw[hsz];exact hcurN,fun k=>by rw[hnb] at k;cases k⟩,hSb,by simp only[Z3];omega,fun i v v' a b=>?_⟩;rw[Z2] at a
      split at a
      ·rw[hbelow _ (by omega)] at b
       exact (hcellb i v v' a b).mono hle
      ·cases a
   ·have hl0:C0.live=true:=by rw[<- hless.live];exact hl
    obtain ⟨z,hz,hbo⟩:=hr.blk c C0 h0 hl0;refine ⟨z,by rw[Rho.upd_ne _ _ hne];exact hz,?_⟩
    by_cases hg:z.blk=x.blk
    ·obtain ⟨hsolo,dl,e',cs',rfl,hd⟩:=hshare hcb h0 hl0 hz hg
     rw[hcut' hsolo];simp only[hcut,if_true];obtain ⟨curx,ex,frx,hox,hex,hSx,hszx,hcx⟩:=hbo;rw[hg,hcur] at hox;cases hox;rw[hg,hW];refine ⟨cur',_,_,rfl,fun hh=>⟨(hex hh).1,(hex hh).2.1,by rw[hsz];exact (hex hh).2.2.1,(hex hh).2.2.2⟩,hSx,by simp only[Z3];omega,fun j v v' a b=>?_⟩;rw[Z2] at a
     split at a
     ·rw[hbelow _ (by omega)] at b
      exact (hcx j v v' a b).mono hle
     ·cases a
    ·rw[hWo _ hg];exact (hless.bo hbo).mono hle
 ·intro c c' C C' z z' hC hC' hne hw hl hz hz' heq
  rcases hent hC with ⟨rfl,rfl⟩|⟨hlt,hC⟩
  ·rcases hent hC' with ⟨rfl,rfl⟩|⟨hlt',hC'⟩
   ·exact absurd rfl hne
   ·rw[Rho.upd_same] at hz;cases hz
    rw[Rho.upd_ne _ _ (by omega)] at hz'
    rcases hprep_get hB hC' with ⟨rfl,rfl⟩|⟨hcb,C0,h0,hless,hcut'⟩
    ·cases keep with
     | false=>cases hl
     | true =>
       rw[hb] at hz';cases hz';obtain ⟨q1,q2⟩:=hng (by simp);exact ⟨grp,ndel,e,ncs,del,e,_,by simp [q1],rfl,by subst q2;simp only;omega⟩
    ·have hl0:C0.live=true:=by rw[<- hless.live];exact hl
     obtain ⟨hsolo,dl,e',cs',rfl,hd⟩:=hshare hcb h0 hl0 hz' heq.symm;obtain ⟨n,rfl⟩:=hless;obtain ⟨q1,q2⟩:=hng (by simp [hsolo]);exact ⟨grp,ndel,e,ncs,dl,e',_,by simp [q1,hsolo],rfl,by subst q2;simp only;omega⟩
  ·rcases hent hC' with ⟨rfl,rfl⟩|⟨hlt',hC'⟩
   ·rw[Rho.upd_same] at hz';cases hz'
    rw[Rho.upd_ne _ _ (by omega)] at hz
    rcases hprep_get hB hC with ⟨rfl,rfl⟩|⟨hcb,C0,h0,hless,hcut'⟩
    ·cases keep with
     | false=>cases hw
     | true =>
       rw[hb] at hz;cases hz;obtain ⟨q1,q2⟩:=hng (by simp);exact ⟨grp,del,e,_,ndel,e,ncs,rfl,by simp [q1],by subst q2;simp only;omega⟩
    ·have hl0:C0.live=true:=Blk.live_of_wr (by rw[<- hless.wr];exact hw)
     obtain ⟨hsolo,dl,e',cs',rfl,hd⟩:=hshare hcb h0 hl0 hz heq;obtain ⟨n,rfl⟩:=hless;obtain ⟨q1,q2⟩:=hng (by simp [hsolo]);exact ⟨grp,dl,e',_,ndel,e,ncs,rfl,by simp [q1,hsolo],by subst q2;simp only;omega⟩
   ·rw[Rho.upd_ne _ _ (by omega)] at hz hz'
    rcases hprep_get hB hC with ⟨rfl,rfl⟩|⟨hcb,C0,h0,hless,hcut'⟩
    ·cases keep with
     | false=>cases hw
     | true =>
       rw[hb] at hz;cases hz
       rcases hprep_get hB hC' with ⟨rfl,rfl⟩|⟨hcb',C0',h0',hless',hcut2⟩
       ·exact absurd rfl hne
       ·have hl0:C0'.live=true:=by rw[<- hless'.live];exact hl
        obtain ⟨hsolo,dl,e',cs',rfl,hd⟩:=hshare hcb' h0' hl0 hz' heq.symm;obtain ⟨n,rfl⟩:=hless';exact ⟨grp,del,e,_,dl,e',_,rfl,rfl,hd⟩
    ·rcases hprep_get hB hC' with ⟨rfl,rfl⟩|⟨hcb',C0',h0',hless',hcut2⟩
     ·cases keep with
      | false=>cases hl
      | true =>
        rw[hb] at hz';cases hz';have hl0:C0.live=true:=Blk.live_of_wr (by rw[<- hless.wr];exact hw);obtain ⟨hsolo,dl,e',cs',rfl,hd⟩:=hshare hcb h0 hl0 hz heq;obtain ⟨n,rfl⟩:=hless;exact ⟨grp,dl,e',_,del,e,_,rfl,rfl,by omega⟩
     ·exact hless.ali hless' (hr.sep c c' C0 C0' z z' h0 h0' hne (by rw[<- hless.wr];exact hw) (by rw[<- hless'.live];exact hl) hz hz' heq)
 ·intro g cs0 hg
  obtain ⟨cu,e0,fr0,hc0,hv0⟩:=hr.lay g cs0 hg;exact ⟨cu,e0,fr0,by rw[hWo g fun e1=>hr.nwr g b _ x (by rw[hg];rfl) hB rfl hb e1.symm];exact hc0,hv0⟩
 ·intro g c C z hg hC hw hz
  rcases hent hC with ⟨rfl,rfl⟩|⟨hlt,hC⟩
  ·rw[Rho.upd_same] at hz;cases hz
   exact hr.nwr g b _ x hg hB rfl hb
  ·rw[Rho.upd_ne _ _ (by omega)] at hz
   rcases hprep_get hB hC with ⟨rfl,rfl⟩|⟨hcb,C0,h0,hless,_⟩
   ·exact hr.nwr g c _ z hg hB rfl hz
   ·exact hr.nwr g c C0 z hg h0 (by rw[<- hless.wr];exact hw) hz
 ·intro c C z hC hl hz hlt0
  rcases hent hC with ⟨rfl,rfl⟩|⟨hlt,hC⟩
  ·rw[Rho.upd_same] at hz;cases hz
   exact ⟨b,_,x,hB,rfl,hb,rfl,fun _=>rfl⟩
  ·rw[Rho.upd_ne _ _ (by omega)] at hz
   rcases hprep_get hB hC with ⟨rfl,rfl⟩|⟨hcb,C0,h0,hless,_⟩
   ·exact ⟨c,_,z,hB,rfl,hz,rfl,fun _=>rfl⟩
   ·exact ⟨c,C0,z,h0,by rw[<- hless.live];exact hl,hz,rfl,fun hh=>by rw[<- hless.wr];exact hh⟩
 ·intro c hc
  have hlt:c<h.length:=(Z0.1 hc).1;rw[Z1 (by rw[hprep_length];exact hlt)];have hcb:b≠c:=fun e1=>by rw[<- e1,hB] at hc;cases hc
  unfold hprep;rw[Zi hcb];cases solo with
  | true=>simpa using hc
  | false=>simp [hc,hcut]
def Wk (C0 C:Blk):Prop :=
 C = .gone\/C0=C \/ ∃ own solo solo' grp del e cs n,C0 = .cells own solo grp del e cs/\C = .cells own solo' grp del e (cs.take n)/\(solo'=true->solo=true)
theorem Wk.live {C0 C:Blk} (h:Wk C0 C) (hl:C.live=true):C0.live=true:=by
 rcases h with rfl|rfl|⟨_,_,_,_,_,_,_,_,rfl,rfl,_⟩
 ·cases hl
 ·exact hl
 ·rfl
theorem Wk.wr {C0 C:Blk} (h:Wk C0 C) (hl:C.wr=true):C0.wr=true:=by
 rcases h with rfl|rfl|⟨_,_,_,_,_,_,_,_,rfl,rfl,_⟩
 ·cases hl
 ·exact hl
 ·exact hl
theorem Wk.bo {P:Program} {r:Rho} {x:Loc} {C0 C:Blk} {o:Option Obj} (h:Wk C0 C) (k:BO P r x C0 o):BO P r x C o:=by
 rcases h with rfl|rfl|⟨own,_,_,_,_,_,cs,n,rfl,rfl,_⟩
 ·trivial
 ·exact k
 ·obtain ⟨cur,e',fr,h1,h2,hs,h3,h4⟩:=k
  refine ⟨cur,e',fr,h1,h2,hs,by simp only[Z3];omega,fun i v v' a b=>?_⟩;rw[Z2] at a
  split at a
  ·exact h4 i v v' a b
  ·cases a
theorem Wk.ali {C0 C C0' C':Blk} {d d':Nat} (h:Wk C0 C) (h':Wk C0' C') (hl:C.live=true) (hl':C'.live=true) (k:Ali C0 d C0' d'):Ali C d C' d':=by
 obtain ⟨grp,del,e,cs,del',e',cs',rfl,rfl,hd⟩:=k;have one:∀ {grp del e cs C},Wk (.cells true false grp del e cs) C->C.live=true -> ∃ n,C = .cells true false grp del e (cs.take n):=by
  intro grp del e cs C h hl
  rcases h with rfl|rfl|⟨own,solo,solo',_,_,_,_,n,e1,e2,e3⟩
  ·cases hl
  ·exact ⟨cs.length,by simp⟩
  ·cases e1
   cases solo' with
   | true=>exact absurd (e3 rfl) (by simp)
   | false=>exact ⟨n,e2⟩
 obtain ⟨n,rfl⟩:=one h hl;obtain ⟨n',rfl⟩:=one h' hl';exact ⟨_,_,_,_,_,_,_,rfl,rfl,hd⟩
theorem HR.weaken {P:Program} {r:Rho} {h h':AH} {W:Array Obj} (hr:HR P r h W) (hlen:h'.length=h.length) (hw:∀ (c:Nat) (C:Blk),h'[c]?=some C -> ∃ C0,h[c]?=some C0/\Wk C0 C):HR P r h' W:=by
 refine ⟨fun b x e=>by rw[hlen];exact hr.dom b x e,fun b B e hl=>?_,fun b b' B B' x x' e e' hne hwr hl hx hx' heq=>?_,hr.lay,fun g b B x hg e hwr hx=>?_⟩
 ·obtain ⟨C0,h0,k⟩:=hw b B e
  obtain ⟨x,hx,hb⟩:=hr.blk b C0 h0 (k.live hl);exact ⟨x,hx,k.bo hb⟩
 ·obtain ⟨C0,h0,k⟩:=hw b B e
  obtain ⟨C0',h0',k'⟩:=hw b' B' e';exact k.ali k' (Blk.live_of_wr hwr) hl (hr.sep b b' C0 C0' x x' h0 h0' hne (k.wr hwr) (k'.live hl) hx hx' heq)
 ·obtain ⟨C0,h0,k⟩:=hw b B e
  exact hr.nwr g b C0 x hg h0 (k.wr hwr) hx
theorem Stp.weaken {P:Program} {r:Rho} {h h':AH} {w:World} (hr:HR P r h w.heap) (hlen:h'.length=h.length) (hw:∀ (c:Nat) (C:Blk),h'[c]?=some C -> ∃ C0,h[c]?=some C0/\Wk C0 C):Stp P r h w r h' w:=by
 refine ⟨.refl r,hr.weaken hlen hw,.refl _ w,fun b B x e hl hx _=>?_,by omega,fun b hb=>?_⟩
 ·obtain ⟨C0,h0,k⟩:=hw b B e
  exact ⟨b,C0,x,h0,k.live hl,hx,rfl,k.wr⟩
 ·have hlt:b<h'.length:=by rw[hlen];exact (Z0.1 hb).1
  obtain ⟨C0,h0,k⟩:=hw b h'[b] (by simp [hlt]);rw[hb] at h0;cases h0
  rcases k with k|k|⟨_,_,_,_,_,_,_,_,k,_,_⟩
  ·rw[Zc hlt,k]
  ·rw[Zc hlt,<- k]
  ·cases k
theorem hprep_wk {keep:Bool} {h:AH} {b:Nat} {solo:Bool} {grp del:Nat} {e:TypeId} {cs:List Value} {k:Nat} (hB:h[b]?=some (.cells true solo grp del e cs)) (c:Nat) (C:Blk)
 (hC:(hprep keep h b solo grp del e cs k)[c]?=some C):∃ C0,h[c]?=some C0/\Wk C0 C:=by
 rcases hprep_get hB hC with ⟨rfl,rfl⟩|⟨hcb,C0,h0,hless,_⟩
 ·cases keep with
  | false=>exact ⟨_,hB,.inl rfl⟩
  | true=>exact ⟨_,hB,.inr (.inr ⟨_,_,_,_,_,_,_,k,rfl,rfl,by simp⟩)⟩
 ·refine ⟨C0,h0,?_⟩
  cases C0 with
  | cells own s g d e' cs'=>obtain ⟨n,rfl⟩:=hless;exact .inr (.inr ⟨_,_,_,_,_,_,_,n,rfl,rfl,id⟩)
  | gone=>exact .inr (.inl hless)
  | map=>exact .inr (.inl hless)
theorem zeroCells_size (z:Array Value) (n:Nat):(Builtin.zeroCells z n).size=n*z.size:=by simp [Builtin.zeroCells]
theorem happend_new {P:Program} {r:Rho} {h:AH} {w:World} (hr:HR P r h w.heap) {e:TypeId} {i:TypeInfo} (hi:P.info? e=some i) {z:Value} (hz:z.cells.size=i.size) {need:Nat} {ncs ncs':List Value}
 (hv:VL r ncs ncs') (hlen:ncs.length=need*i.size) (old:Nat) (solo:Bool) (grp del:Nat) :
 ∃ r',Stp P r h w r' (h++[.cells true solo grp del e ncs]) (w.drew.alloc (.cells (ncs'.toArray++Builtin.zeroCells z.cells (grownCap w need old e-need)) e)) /\
   VR r' (.slice (some ⟨h.length,0,none⟩) need need) (.slice (some ⟨w.heap.size,0,none⟩) need (grownCap w need old e)):=by
 have hge:=grownCap_ge w need old e;have hl':ncs'.length=need*i.size:=by rw[<- hv.1];exact hlen
 have hsize:(ncs'.toArray++Builtin.zeroCells z.cells (grownCap w need old e-need)).size=grownCap w need old e*i.size:=by
  rw[Array.size_append,zeroCells_size,hz,Zo,hl',<- Zq];congr 1;omega
 have hfree:=hr.free_end.2.1;refine ⟨r.upd h.length ⟨w.heap.size,0,grownCap w need old e*i.size,i.size⟩,?_,?_⟩
 ·refine Stp.push hr (by rfl) ?_ rfl rfl rfl rfl
  refine ⟨_,e,(0,0),rfl,fun _=>⟨rfl,rfl,hsize,fun _=>rfl⟩,by simp [sizeT,hi],by rw[hsize];simp only;rw[hlen];have:=Zj i.size hge;omega,fun j v v' a b=>?_⟩;simp only[Zl] at b;have hj:j<ncs'.length:=by rw[<- hv.1];exact (Z0.1 a).1
  rw[Array.getElem?_append_left (by simpa using hj)] at b;exact (hv.2 j v v' a (by simpa using b)).mono (Rho.le_upd hfree _)
 ·exact VR.slice (o:=0) (Rho.upd_same _ _ _) hge (Za _) (by simp)
theorem happend_ok {P:Program} {keep:Bool} {r:Rho} {h h':AH} {w:World} (hr:HR P r h w.heap) {t tx ty:TypeId} {s s' x x' v:Value} (hs:VR r s s') (hx:VR r x x') (he:happend P keep h t tx s x=some (v,h')) :
 ∃ v' w' r',(Builtin.append_ #[t,tx] ty #[s',x']).run P w = .ok v' w'/\Stp P r h w r' h' w'/\VR r' v v':=by
 unfold happend at he
 split at he
 case h_2=>cases he
 case h_1 e hu =>
  split at he
  case h_2=>cases he
  case h_1 i hi =>
   split at he
   case h_2=>cases he
   case h_1 z hz =>
    split at he
    case h_2=>cases he
    case h_1 n xs hsrc =>
     obtain ⟨xs',hsr,hvl,hxl,hone⟩:=rsrc_ok (w:=w) hr hx hsrc
     split at he
     case isTrue=>cases he
     case isFalse hzs0 =>
     have hnb:bldT P e=false:=by cases hb:bldT P e with|false=>rfl|true=>exact absurd (.inr hb) hzs0
     have hzs:z.cells.size=i.size:=Decidable.not_not.1 fun k=>hzs0 (.inl k)
     clear hzs0
     split at he
     ·obtain ⟨_,_,rfl⟩:=hs.snil_inv
      split at he
      case isTrue h0 =>
       cases he;subst h0;exact ⟨_,w,r,run_append_zero t tx ty e i hu hi none 0 0 x' xs' hsr (Za 0),.refl hr,hs⟩
      case isFalse h0 =>
       split at he
       case isFalse=>cases he
       case isTrue hb =>
        cases he;simp only[Z6,decide_eq_true_eq] at hb;have hrun:=run_append_grow_src (P:=P) w t tx ty e i z hu hi hz none 0 0 [] (by simp [Builtin.firstCells]) x' n xs' hsr (by omega) (by omega) (growslice_fits (by omega) (by simpa using hb.1));simp only[Zl,List.nil_append] at hrun;obtain ⟨r',h1,h2⟩:=happend_new hr hi hzs hvl hxl 0 true h.length 0;exact ⟨_,_,r',hrun,h1,h2⟩
     ·rename_i b o n0 c0
      split at he
      case isTrue h0 =>
       cases he;subst h0
       rcases hs.slice_inv with ⟨y,c',hb,_,rfl,hc,hn,_⟩|⟨rfl,rfl,a',rfl⟩
       ·exact ⟨_,w,r,run_append_zero t tx ty e i hu hi _ n0 c' x' xs' hsr (by omega),.refl hr,hs⟩
       ·exact ⟨_,w,r,run_append_zero t tx ty e i hu hi _ 0 0 x' xs' hsr (Za 0),.refl hr,hs⟩
      case isFalse h0 =>
       split at he
       case h_2=>cases he
       case h_1 solo grp del e' cs hB =>
        split at he
        case isFalse=>cases he
        case isTrue hcond =>
         simp only[Z6,decide_eq_true_eq] at hcond;obtain ⟨rfl,hext⟩:=hcond
         split at he
         case isTrue hroom =>
          cases hst:hstore h b (o+n0*i.size) xs with
          | none=>simp [hst] at he
          | some h1 =>
            simp [hst] at he;obtain ⟨rfl,rfl⟩:=he
            rcases hs.slice_inv with ⟨y,c',hb,_,rfl,hc,hn,hlim⟩|⟨_,rfl,_⟩
            ·obtain ⟨w',k1,k2⟩:=hstore_ok (P:=P) hr hst hvl hb
             refine ⟨_,w',r,run_append_in t tx ty e' i hu hi y.blk (o+y.off) n0 c' x' n xs' hsr (by omega) (by rw[show o+y.off+n0*i.size=o+n0*i.size+y.off by omega];exact k1),k2,?_⟩;exact VR.slice hb hc hroom hlim
            ·omega
         case isFalse hroom =>
          split at he
          case isFalse=>cases he
          case isTrue hbig =>
           simp only[Z6,decide_eq_true_eq] at hbig;cases he;have hncl:((cs.take (o+n0*i.size)).drop o++xs).length=(n0+n)*i.size:=by
            simp only[Zm,List.length_drop,Z3,hxl,Zq];omega
           obtain ⟨y,hy,cur,e2,fr,hcur,hown,hS,hsz,hcell⟩:=hr.blk b _ hB rfl;obtain ⟨rfl,rfl,hlimN⟩:=hown rfl;have hysz:y.sz=i.size:=Option.some.inj (hS.symm.trans (by simp [sizeT,hi]));have hlimN:cur.size=y.lim:=hlimN.1;have hsz:y.off+cs.length<=cur.size:=hsz
           rcases hs.slice_inv with ⟨y',c',hb,_,rfl,hc,hn,hlim⟩|⟨rfl,rfl,a',rfl⟩
           ·rw[hy] at hb;cases hb
            by_cases hin:n0+n<=c'
            ·
             have hfitc:(n0+n)*i.size<=c'*i.size:=Zj _ hin;rw[hysz] at hlim;have hlim:o+y.off+c'*i.size<=y.lim:=hlim;have hadd:(n0+n)*i.size=n0*i.size+n*i.size:=Zq ..;have hxl':xs'.length=n*i.size:=by rw[<- hvl.1];exact hxl
             have hst:=run_storeCells_at P y.blk (o+y.off+n0*i.size) e2 xs' 0 cur w hcur (by omega) (hvl.one hone);simp only[Nat.add_zero] at hst;generalize hcur':(cur.toList.take (o+y.off+n0*i.size)++xs'++cur.toList.drop (o+y.off+n0*i.size+xs'.length)).toArray=cur' at hst;have hcl:cur.toList.length=cur.size:=by simp
             have hget:∀ j,j<o+y.off+n0*i.size->cur'[j]?=cur[j]?:=fun j hj=>by
              subst hcur';rw[Z4,Zp,Z1 (by simp;omega),Z2,if_pos hj];simp
             have hget2:∀ j,j<xs'.length->cur'[o+y.off+n0*i.size+j]?=xs'[j]?:=fun j hj=>by
              subst hcur';have hm:min (o+y.off+n0*i.size) cur.toList.length=o+y.off+n0*i.size:=by omega
              rw[Z4,Zp,Z5 (by rw[Z3,hm];omega),Z3,hm,Z1 (by omega)]
              congr 1;omega
             have hsz':cur'.size=cur.size:=by
              subst hcur';simp only[Zo,Zm,Z3,List.length_drop,hcl];omega
             refine ⟨.slice (some ⟨y.blk,o+y.off,none⟩) (n0+n) c',w.setRow y.blk cur',r.upd h.length ⟨y.blk,y.off+o,y.lim,y.sz⟩,run_append_in t tx ty e2 i hu hi y.blk (o+y.off) n0 c' x' n xs' hsr hin hst,?_,?_⟩
             ·refine hprep_stp (x:=y) hr hB hy (by omega) (by omega) hcur hsz' hlimN (fun j hj=>hget j (by omega)) (by rw[hncl];omega) (fun j v v' a b=>?_) rfl hnb (fun hh=>by simp [hh])
              by_cases hj:j<n0*i.size
              ·rw[Z1 (by simp;omega),Z8,Z2,if_pos (by omega)] at a
               rw[hget _ (by omega)] at b;exact hcell (o+j) v v' a (by rw[<- Nat.add_assoc];exact b)
              ·rw[Z5 (by simp;omega)] at a
               have hdl:(List.drop o (List.take (o+n0*i.size) cs)).length=n0*i.size:=by simp;omega
               rw[hdl] at a;have hj2:j-n0*i.size<xs'.length:=by rw[<- hvl.1];exact (Z0.1 a).1
               have:=hget2 _ hj2;rw[show y.off+o+j=o+y.off+n0*i.size+(j-n0*i.size) by omega,this] at b;exact hvl.2 _ v v' a b
             ·have:=VR.slice (r:=r.upd h.length ⟨y.blk,y.off+o,y.lim,y.sz⟩) (b:=h.length) (o:=0) (n:=n0+n) (c:=n0+n) (c':=c') (Rho.upd_same _ _ _) hin (Za _) (by simp only[hysz];omega)
              simp only[Zl] at this;rw[Nat.add_comm o y.off];exact this
            ·
             have hlo:∃ olds':List Value,VL r ((cs.take (o+n0*i.size)).drop o) olds'/\(Builtin.firstCells i.size n0 (.slice (some ⟨y.blk,o+y.off,none⟩) n0 c')).run P w.drew = .ok olds'.toArray w.drew:=by
              obtain ⟨vs,hvs,hcs⟩:=hcell_ok (P:=P) hr (b:=b) (cs:=cs) (by simp [Eng.hcell,hB]) hy;refine ⟨(vs.take (o+n0*i.size)).drop o,(hvs.take _).drop o,?_⟩;refine run_firstCells_some (P:=P) w.drew i.size n0 ⟨y.blk,o+y.off,none⟩ n0 c' _ (by have:=hvs.1;simp;omega) (fun j u hj=>?_);rw[Z8,Z2] at hj
              split at hj
              ·have:=hcs _ _ hj
               rw[Addr.add_lit,World.cell?_drew,show o+y.off+j=y.off+(o+j) by omega];exact this
              ·cases hj
             obtain ⟨olds',ho1,ho2⟩:=hlo;have hrun:=run_append_grow_src (P:=P) w t tx ty e2 i z hu hi hz (some ⟨y.blk,o+y.off,none⟩) n0 c' olds' ho2 x' n xs' hsr (by omega) (by omega) (growslice_fits (by omega) hbig.1);have s1:=Stp.weaken (h':=hprep keep h b solo grp del e2 cs (o+n0*i.size)) hr hprep_length (hprep_wk hB);obtain ⟨r',h1,h2⟩:=happend_new s1.hr hi hzs (ho1.append hvl) hncl c' (solo && !keep) (if (solo && !keep)=true then h.length else grp) (if (solo && !keep)=true then 0 else del+o);rw[hprep_length] at h2;exact ⟨_,_,r',hrun,s1.trans h1,h2⟩
           ·
            have hrun:=run_append_grow_src (P:=P) w t tx ty e2 i z hu hi hz (some a') 0 0 [] (by simp [Builtin.firstCells,loadCells,loadCellsFrom]) x' n xs' hsr (by omega) (by omega) (growslice_fits (by omega) hbig.1);have s1:=Stp.weaken (h':=hprep keep h b solo grp del e2 cs (o+0*i.size)) hr hprep_length (hprep_wk hB);have hnil:(cs.take (o+0*i.size)).drop o=[]:=by
             rw[Nat.zero_mul,Nat.add_zero];exact List.drop_eq_nil_of_le (by simp;omega)
            rw[hnil] at hncl ⊢;simp only[List.nil_append] at hncl hrun ⊢;obtain ⟨r',h1,h2⟩:=happend_new s1.hr hi hzs hvl hncl 0 (solo && !keep) (if (solo && !keep)=true then h.length else grp) (if (solo && !keep)=true then 0 else del+o);rw[hprep_length] at h2;exact ⟨_,_,r',hrun,s1.trans h1,h2⟩
     ·cases he
end Go.Eng

namespace Go.Eng
def wclear (P:Program) (h:AH) (t:TypeId):Value->Option AH
 | .slice none 0 0=>match P.underlying t with
   | some (.slice _)=>some h
   | _=>none
 | .slice (some ⟨b,o,none⟩) n c=>match P.underlying t with
   | some (.slice e) =>
     if n=0 then some h else
     match zeroT P e with
     | some z=>if (Builtin.zeroCells z.cells n).toList.all (scal 8) then hstore h b o (Builtin.zeroCells z.cells n).toList else none
     | none=>none
   | _=>none
 | .map (some b)=>match P.underlying t with
   | some (.map _ _)=>match hmap h b with
     | some _=>some (h.set b (.map []))
     | none=>none
   | _=>none
 | _=>none
theorem wclear_ok {P:Program} {r:Rho} {h h':AH} {w:World} (hr:HR P r h w.heap) {t ty:TypeId} {v v':Value} (hv:VR r v v') (he:wclear P h t v=some h') :
 ∃ w',(Builtin.clear_ #[t] ty #[v']).run P w = .ok (.tuple #[]) w'/\Stp P r h w r h' w':=by
 unfold wclear at he
 split at he
 ·obtain ⟨_,_,rfl⟩:=hv.snil_inv
  split at he
  ·rename_i e hu;cases he;exact ⟨w,by simp [Builtin.clear_,run_underlying hu],.refl hr⟩
  ·cases he
 ·rename_i b o n c
  split at he
  case h_2=>cases he
  case h_1 e hu =>
   split at he
   case isTrue h0 =>
    cases he;subst h0
    rcases hv.slice_inv with ⟨y,c',hb,_,rfl,_,_,_⟩|⟨_,rfl,a',rfl⟩
    ·exact ⟨w,by simp [Builtin.clear_,run_underlying hu],.refl hr⟩
    ·exact ⟨w,by simp [Builtin.clear_,run_underlying hu],.refl hr⟩
   case isFalse h0 =>
    split at he
    case h_2=>cases he
    case h_1 z hz =>
     split at he
     case isFalse=>cases he
     case isTrue hall =>
      rcases hv.slice_inv with ⟨y,c',hb,_,rfl,_,_,_⟩|⟨h1,_,_⟩
      ·obtain ⟨w',k1,k2⟩:=hstore_ok (P:=P) hr he (all_refl (r:=r) (fun v=>scal_refl 8 v) hall) hb
       refine ⟨w',?_,k2⟩;obtain ⟨n,rfl⟩:∃ m,n=m+1:=⟨n-1,by omega⟩
       simp [Builtin.clear_,run_underlying hu,(run_zeroT hz w).1,k1]
      ·exact absurd h1 h0
 ·rename_i b
  split at he
  case h_2=>cases he
  case h_1 kt e hu =>
   split at he
   case h_2=>cases he
   case h_1 es hes =>
    cases he;obtain ⟨x,hb,_,rfl⟩:=hv.map_inv;obtain ⟨ms,clock,g1,g2,g3⟩:=hmap_ok hr hes hb;refine ⟨{ w with heap:=w.heap.setIfInBounds x.blk (.map #[] clock) },?_,Stp.setMap hr (hmap_blk hes) hb rfl (fun i q m1 h1=>by simp at h1)⟩;simp only[Builtin.clear_,Z4,Z9,Sem.run_bind,run_underlying hu,Result.andThen_ok,run_getMap g1,run_setMap g1,Sem.run_pure]
 ·cases he
def wcopy (P:Program) (h:AH) (t tx:TypeId) (d s:Value):Option (Value × AH) :=
 match P.underlying t with
 | some (.slice e) =>
   match sizeT P e with
   | some sz =>
     match rsrc P h sz tx s with
     | some (n,xs) =>
       match d with
       | .slice none 0 0=>some (.int .i64 0,h)
       | .slice (some ⟨b,o,none⟩) dn dc =>
         if n<=dn then
          if n=0 then some (.int .i64 0,h) else (hstore h b o xs).map fun h'=>(.int .i64 n,h')
         else none
       | _=>none
     | none=>none
   | none=>none
 | _=>none
theorem wcopy_ok {P:Program} {r:Rho} {h h':AH} {w:World} (hr:HR P r h w.heap) {t tx ty:TypeId} {d d' s s' v:Value} (hd:VR r d d') (hs:VR r s s') (he:wcopy P h t tx d s=some (v,h')) :
 ∃ v' w',(Builtin.copy_ #[t,tx] ty #[d',s']).run P w = .ok v' w'/\Stp P r h w r h' w'/\VR r v v':=by
 unfold wcopy at he
 split at he
 case h_2=>cases he
 case h_1 e hu =>
  split at he
  case h_2=>cases he
  case h_1 sz hsz =>
   split at he
   case h_2=>cases he
   case h_1 n xs hsrc =>
    obtain ⟨xs',hsr,hvl,hxl,hone⟩:=rsrc_ok (w:=w) hr hs hsrc
    split at he
    ·obtain ⟨_,_,rfl⟩:=hd.snil_inv
     cases he;have hz:∃ cells,(Builtin.firstCells sz 0 s').run P w = .ok cells w:=by
      cases s'<;>first
       | (rename_i a' n' c';cases a'<;>exact ⟨_,by simp [Builtin.firstCells,loadCells,loadCellsFrom];rfl⟩)
       | exact ⟨_,by simp [Builtin.firstCells];rfl⟩
       | (exfalso;have:=hsr.cells;simp [Builtin.firstCells] at this)
     obtain ⟨cells,hz⟩:=hz;exact ⟨.int .i64 0,w,by simp [Builtin.copy_,run_underlying hu,run_sizeT hsz,hsr.len,hz];rfl,.refl hr,.int _ _⟩
    ·rename_i b o dn dc
     split at he
     case isFalse=>cases he
     case isTrue hle =>
      have hmin:Nat.min n dn=n:=Nat.min_eq_left hle;have hmin':∀ k,k=n->Nat.min n k=n:=by intro k hk;subst hk;exact Nat.min_self _
      split at he
      case isTrue h0 =>
       cases he;subst h0;have hn:xs'=[]:=by have:=hsr.newsLen;simpa using this
       subst hn;have:∃ a c',d' = .slice (some a) dn c':=by
        rcases hd.slice_inv with ⟨y,c',hb,_,rfl,_,_,_⟩|⟨rfl,rfl,a',rfl⟩
        ·exact ⟨_,_,rfl⟩
        ·exact ⟨_,_,rfl⟩
       obtain ⟨a,c',rfl⟩:=this;refine ⟨.int .i64 0,w,?_,.refl hr,.int _ _⟩;simp [Builtin.copy_,run_underlying hu,run_sizeT hsz,hsr.len,hsr.cells,storeCells];rfl
      case isFalse h0 =>
       cases hst:hstore h b o xs with
       | none=>simp [hst] at he
       | some h1 =>
         simp [hst] at he;obtain ⟨rfl,rfl⟩:=he
         rcases hd.slice_inv with ⟨y,c',hb,_,rfl,_,_,_⟩|⟨rfl,_,_⟩
         ·obtain ⟨w',k1,k2⟩:=hstore_ok (P:=P) hr hst hvl hb
          refine ⟨.int .i64 n,w',?_,k2,.int _ _⟩;have hm:min n dn=n:=hmin;simp [Builtin.copy_,run_underlying hu,run_sizeT hsz,hsr.len,hm,hsr.cells,k1];rfl
         ·omega
    ·cases he
def happendZ (P:Program) (h:AH) (t tx:TypeId) (s x:Value):Option (Value × AH) :=
 match s,x with
 | .slice none 0 0,.int k (.ofNat n) =>
   match P.underlying t,P.underlying tx with
   | some (.slice e),some (.int _) =>
     match P.info? e,zeroT P e with
     | some i,some z =>
       if i.zero=none then none else
       if 0<n && decide (0<i.size) && decide (z.cells.size=i.size) && decide (n<=9223372036854775807) && decide (n*i.bytes<=140737488355328) && (Builtin.zeroCells z.cells n).toList.all (scal 8) then
        some (.slice (some ⟨h.length,0,none⟩) n n,h++[row e h.length (Builtin.zeroCells z.cells n).toList])
       else none
     | _,_=>none
   | _,_=>none
 | _,_=>none
theorem zeroT_info {P:Program} {e:TypeId} {i:TypeInfo} {z:Value} (hi:P.info? e=some i) (h:zeroT P e=some z):i.zero=some z:=by
 unfold zeroT at h;rw[hi] at h
 split at h
 ·rename_i i' e1
  cases e1
  split at h
  ·rename_i z' hz
   split at h
   ·cases h;exact hz
   ·cases h
  ·cases h
 ·cases h
theorem happendZ_ok {P:Program} {r:Rho} {h h':AH} {w:World} (hr:HR P r h w.heap) {t tx ty:TypeId} {s s' x x' v:Value} (hs:VR r s s') (hx:VR r x x') (he:happendZ P h t tx s x=some (v,h')) :
 ∃ v' w' r',(Builtin.append_ #[t,tx] ty #[s',x']).run P w = .ok v' w'/\Stp P r h w r' h' w'/\VR r' v v':=by
 unfold happendZ at he
 split at he
 case h_2=>cases he
 case h_1 k n =>
  obtain ⟨_,_,rfl⟩:=hs.snil_inv;cases hx.int_inv
  split at he
  case h_2=>cases he
  case h_1 e kn hu htn =>
   split at he
   case h_2=>cases he
   case h_1 i z hi hzT =>
    split at he
    case isTrue=>cases he
    case isFalse =>
     split at he
     case isFalse=>cases he
     case isTrue hc =>
      cases he;simp only[Z6,decide_eq_true_eq] at hc;obtain ⟨⟨⟨⟨⟨h0,h1⟩,h2⟩,h3⟩,h4⟩,h5⟩:=hc;have hvl:=all_refl (r:=r) (fun v=>scal_refl 8 v) h5;obtain ⟨r',k1,k2⟩:=happend_new (w:=w) hr hi h2 hvl (by rw[Zk,zeroCells_size,h2]) 0 true h.length 0;exact ⟨_,_,r',Lib.run_append_nil_zeros w t tx ty e i z k kn hu htn hi (zeroT_info hi hzT) n h0 h1 (by omega) (by omega),by simpa [row] using k1,by simpa using k2⟩
theorem Stp.freeze {P:Program} {r:Rho} {h:AH} {w:World} (hr:HR P r h w.heap) {b grp del:Nat} {e:TypeId} {cs:List Value} (hB:h[b]?=some (.cells true true grp del e cs)) {x:Loc} (hb:r b=some x) {a:Addr} (ha:a.block=x.blk) (n:Nat) :
 Stp P r h w r (h.set b (.cells false true grp del e cs)) (w.freeze a n):=by
 have hbl:b<h.length:=(Z0.1 hB).1;obtain ⟨y,hy,cur,e',fr,hcur,hown,hS,hsz,hcell⟩:=hr.blk b _ hB rfl;rw[hb] at hy;cases hy;have hget:∀ c,(h.set b (.cells false true grp del e cs))[c]?=if c=b then some (.cells false true grp del e cs) else h[c]?:=fun c=>by
  rw[Zb]
  by_cases e:b=c
  ·subst e;simp [hbl]
  ·simp [e,Ne.symm e]
 obtain ⟨fr',hW⟩:∃ fr',∀ k,(w.freeze a n).heap[k]?=if k=x.blk then some (.cells cur e' fr') else w.heap[k]?:=by
  unfold World.freeze
  split
  ·exact ⟨fr,fun k=>by by_cases e:k=x.blk<;>simp [e,hcur]⟩
  ·obtain ⟨lo,hi⟩:=fr
   refine ⟨if lo == hi then (a.off,a.off+n) else (min lo a.off,max hi (a.off+n)),fun k=>?_⟩;simp only[Zf,ha]
   by_cases e:x.blk=k
   ·subst e;simp [hcur]
   ·simp [e,Ne.symm e]
 have hsize:(w.freeze a n).heap.size=w.heap.size:=by unfold World.freeze;split<;>simp
 have hother:∀ c C y,h[c]?=some C->C.live=true->r c=some y->y.blk=x.blk->c=b:=fun c C y h1 h2 h3 h4=>by
  by_cases e:c=b
  ·exact e
  ·obtain ⟨_,_,_,_,_,_,_,e1,_⟩:=hr.sep b c _ C x y hB h1 (Ne.symm e) rfl h2 hb h3 h4.symm
   cases e1
 refine ⟨.refl r,⟨fun c y hc=>?_,fun c C hC hl=>?_,fun c c' C C' y y' h1 h2 hne hw hl h3 h4 heq=>?_,fun g cs hg=>?_,fun g c C y hg h1 hw h3=>?_⟩,
  ⟨by unfold World.freeze;split<;>rfl,by unfold World.freeze;split<;>rfl,by unfold World.freeze;split<;>rfl,by rw[hsize];exact Za _,fun k hk hn=>?_⟩,fun c C y h1 h2 h3 h4=>?_,by simp,fun c hc=>?_⟩
 ·have:=hr.dom c y hc;rw[hsize];simpa using this
 ·rw[hget] at hC
  by_cases e:c=b
  ·subst e;simp at hC;subst hC
   exact ⟨x,hb,cur,e',fr',by rw[hW,if_pos rfl],(fun k=>by cases k),hS,hsz,hcell⟩
  ·simp [e] at hC
   obtain ⟨y,hy,hbo⟩:=hr.blk c C hC hl;exact ⟨y,hy,by rw[hW,if_neg (fun k=>e (hother c C y hC hl hy k))];exact hbo⟩
 ·rw[hget] at h1 h2
  by_cases e:c=b
  ·subst e;simp at h1;subst h1;cases hw
  ·simp [e] at h1
   by_cases e':c'=b
   ·subst e'
    rw[hb] at h4;cases h4;exact absurd (hother c C y h1 (Blk.live_of_wr hw) h3 heq) e
   ·simp [e'] at h2
    exact hr.sep c c' C C' y y' h1 h2 hne hw hl h3 h4 heq
 ·obtain ⟨cu,e1,fr1,hc,hv⟩:=hr.lay g cs hg
  exact ⟨cu,e1,fr1,by rw[hW,if_neg fun e=>hr.nwr g b _ x (by rw[hg];rfl) hB rfl hb e.symm];exact hc,hv⟩
 ·rw[hget] at h1
  by_cases e:c=b
  ·subst e;simp at h1;subst h1;cases hw
  ·simp [e] at h1;exact hr.nwr g c C y hg h1 hw h3
 ·rw[hW,if_neg (fun e=>hn ⟨b,_,x,hB,rfl,hb,e.symm⟩)]
 ·rw[hget] at h1
  by_cases e:c=b
  ·subst e;simp at h1;subst h1;exact ⟨c,_,y,hB,rfl,h3,rfl,fun _=>rfl⟩
  ·simp [e] at h1;exact ⟨c,C,y,h1,h2,h3,rfl,id⟩
 ·rw[hget,if_neg (fun e=>by rw[e,hB] at hc;cases hc)];exact hc
theorem run_loadBytesI {P:Program} {w:World}:∀ (ns:List Int) (a:Addr) (acc:ByteArray),(∀ j n,ns[j]?=some n->w.cell? (a.add j)=some (.int .u8 n)) ->
 (loadBytes a acc ns.length).run P w = .ok (ns.foldl (fun r n=>r.push (UInt8.ofNat n.toNat)) acc) w
 | [],a,acc,_=>by simp [loadBytes]
 | n::l,a,acc,h=>by
   have h0:w.cell? a=some (.int .u8 n):=by
    have:=h 0 n rfl
    simpa [Addr.add] using this
   have ih:=run_loadBytesI (P:=P) l (a.add 1) (acc.push (UInt8.ofNat n.toNat)) (fun j y hy=>by
    have:=h (j+1) y (by simpa using hy);have e:(a.add 1).add j=a.add (j+1):=by
     unfold Addr.add
     by_cases hj:j=0
     ·subst hj;simp
     ·simp [hj];omega
    rw[e];exact this)
   simp only[List.length_cons,loadBytes,Sem.run_bind,run_load,h0,Result.andThen,List.foldl_cons];exact ih
def wustr (P:Program) (h:AH) (pt:TypeId):Value->Value->Option (Value × AH)
 | .pointer none,.int .i64 n=>if n=0 then some (.string ByteArray.empty,h) else none
 | .pointer (some ⟨b,o,none⟩),.int .i64 n =>
   if n=0 then some (.string ByteArray.empty,h) else
   match h[b]?,P.underlying pt with
   | some (.cells true true grp del e cs),some (.pointer e') =>
     if e=e'/\P.cellsOf e=1/\0<n/\o+n.toNat<=cs.length/\n<=9223372036854775807 then
      (asBytes ((cs.drop o).take n.toNat)).map fun ns=>(.string (pushAll ns),h.set b (.cells false true grp del e cs))
     else none
   | _,_=>none
 | _,_=>none
theorem liesAt_bytes' {P:Program} {e:TypeId} (hc:P.cellsOf e=1) (count off n:Nat) (hn:off+n<=count):liesAt P P.depth e count off e n=true:=by
 have hd:P.depth=(2*(P.types.size+Made.depth)+1)+1:=rfl;rw[hd];simp only[liesAt,Bool.or_eq_true]
 left
 rw[hd];simp [rowAt,hc,hn,sameLayout,Nat.mod_one]
theorem wustr_ok {P:Program} {r:Rho} {h h':AH} {w:World} (hr:HR P r h w.heap) {pt it ty:TypeId} {p p' l l' v:Value} (hp:VR r p p') (hl:VR r l l') (he:wustr P h pt p l=some (v,h')) :
 ∃ v' w',(Builtin.unsafeString_ #[pt,it] ty #[p',l']).run P w = .ok v' w'/\Stp P r h w r h' w'/\VR r v v':=by
 unfold wustr at he
 split at he
 ·rename_i n
  split at he
  ·rename_i h0
   cases he;subst h0;cases hl.int_inv;cases hp;exact ⟨_,w,Lib.run_unsafeString_none w pt it ty none,.refl hr,.string _⟩
  ·cases he
 ·rename_i b o n
  split at he
  ·rename_i h0
   cases he;subst h0;cases hl.int_inv;obtain ⟨x,hb,rfl⟩:=hp.ptr_inv;exact ⟨_,w,Lib.run_unsafeString_none w pt it ty _,.refl hr,.string _⟩
  ·rename_i hn0
   split at he
   ·rename_i grp del e cs e' hB hu
    split at he
    ·rename_i hc
     obtain ⟨rfl,h1,h2,h3,h4⟩:=hc;obtain ⟨ns,hns,he⟩:=Ze.1 he;cases he;cases hl.int_inv;obtain ⟨x,hb,rfl⟩:=hp.ptr_inv;obtain ⟨vs,hvl,hcs⟩:=hcell_ok (w:=w) hr (show hcell h b=some cs by simp [hcell,hB]) hb;obtain ⟨y,hy,cur,e',fr,hcur,hown,hS,hsz,hcell⟩:=hr.blk b _ hB rfl;rw[hb] at hy;cases hy;obtain ⟨rfl,_⟩:=hown rfl;have hvs:=asBytes_ok hns ((hvl.drop o).take n.toNat);have hlen:ns.length=n.toNat:=by
      have:=congrArg List.length hvs;have h5:=hvl.1;simp at this;omega
     have hlb:=run_loadBytesI (P:=P) (w:=w) ns ⟨x.blk,o+x.off,none⟩ .empty (fun j m hj=>by
      have h6:((vs.drop o).take n.toNat)[j]?=some (.int .u8 m):=by rw[hvs];simp [hj]
      have hj':j<n.toNat:=by rw[<- hlen];exact (Z0.1 hj).1
      rw[Z2,if_pos hj',Z8] at h6;have:=hcs _ _ h6;rw[Addr.add_lit,show o+x.off+j=x.off+(o+j) by omega];exact this)
     have hsh:w.shape? x.blk=some (e',cur.size):=by simp [World.shape?,hcur]
     have hlies:=liesAt_bytes' (P:=P) h1 (cur.size / P.cellsOf e') (o+x.off) n.toNat (by rw[h1];simp;omega);refine ⟨.string (pushAll ns),w.freeze ⟨x.blk,o+x.off,none⟩ n.toNat,?_,Stp.freeze hr hB hb rfl _,.string _⟩;have hdef:Builtin.unsafeString_ #[pt,it] ty #[.pointer (some ⟨x.blk,o+x.off,none⟩),.int .i64 n] =
      (do
       let n <- asInt (.int .i64 n)
       if n < 0 then runtimePanic (.error "unsafe.String: len out of range")
       if n > IntKind.i64.max then unsupported (.unsafePointer "String: a length above the largest int")
       if n=0 then pure (.string .empty)
       else if <- variablesAt ⟨x.blk,o+x.off,none⟩ (<- elemOf pt) n.toNat then do
        let s <- loadBytes ⟨x.blk,o+x.off,none⟩ .empty n.toNat
        freeze ⟨x.blk,o+x.off,none⟩ n.toNat
        pure (.string s)
       else unsupported (.unsafePointer "String: not so many bytes at ptr")) := rfl
     rw[hdef];have hmax:IntKind.i64.max=9223372036854775807:=rfl;have hneg:¬ n<0:=by omega
     have h63:¬ (9223372036854775807:Int)<n:=by omega
     rw[hlen] at hlb;simp [asInt,asIntOf,hmax,h63,hneg,hn0,variablesAt,hsh,elemOf,run_underlying hu,hlies,hlb,pushAll]
    ·cases he
   ·cases he
 ·cases he
def awrite (P:Program) (keep:Bool) (g:Operand->Option Value) (h:AH) (o:Oper):Option (Value × AH) :=
 match o.op with
 | .store t a x=>match g a,g x with
   | some u,some v=>(wstore P h t u v).map fun h'=>(undef,h')
   | _,_=>none
 | .mapUpdate t m k x=>match g m,g k,g x with
   | some u,some kv,some v=>(wmapUpdate P h t u kv v).map fun h'=>(undef,h')
   | _,_,_=>none
 | .insert t m k x=>match g m,g k,g x with
   | some u,some kv,some v=>(wmapUpdate P h t u kv v).map fun h'=>(undef,h')
   | _,_,_=>none
 | .call c=>match c.callee,c.args.toList,c.argTypes.toList with
   | .builtin .append,[s,x],[t,tx]=>match g s,g x with
     | some u,some v=>match happend P keep h t tx u v with
       | some x=>some x
       | none=>happendZ P h t tx u v
     | _,_=>none
   | .builtin .clear,[x],[t]=>match g x with
     | some v=>(wclear P h t v).map fun h'=>(.tuple #[],h')
     | none=>none
   | .builtin .delete,[m,k],t::_=>match g m,g k with
     | some u,some v=>(wdelete P h t u v).map fun h'=>(.tuple #[],h')
     | _,_=>none
   | .builtin .copy,[d,s],[t,tx]=>match g d,g s with
     | some u,some v=>wcopy P h t tx u v
     | _,_=>none
   | .builtin .unsafeString,[p,l],[t,tx]=>match g p,g l with
     | some u,some v=>wustr P h t u v
     | _,_=>none
   | _,_,_=>none
 | _=>none
theorem run_builtin {P:Program} {w w':World} {a:Act} {c:Call} {b:Builtin} {v:Value} {dst:Option Tmp} {type:TypeId} {pos:String} {after:Array Edge} {guard:Option (Nat × Bool)}
 (hc:c.callee = .builtin b) {s:Sem Value} (hb:∀ cs,builtin b c.argTypes type cs (c.args.map a.eval)=nv s) (hs:s.run P w = .ok v w') :
 (execOp a.eval ⟨dst,.call c,type,pos,after,guard⟩).run P w = .ok (.value v) w':=by
 simp only[execOp,resolve,hc,Sem.run_bind,Sem.run_pure,Result.andThen_ok,invoke];rw[hb,nv,Sem.run_bind,hs]
 rfl
theorem awrite_ok {P:Program} {keep:Bool} {r:Rho} {g:Operand->Option Value} {a:Act} (her:GR r g a) {h h':AH} {w:World} (hr:HR P r h w.heap) {o:Oper} {v:Value}
 (he:awrite P keep g h o=some (v,h')):WrOk P r h w (execOp a.eval o) v h':=by
 obtain ⟨dst,op,type,pos,after,guard⟩:=o;unfold awrite at he
 dsimp only at he
 split at he
 case h_1 t x y =>
  split at he
  ·rename_i u v1 hu hv
   cases hst:wstore P h t u v1 with
   | none=>simp [hst] at he
   | some h1 =>
     simp [hst] at he;obtain ⟨rfl,rfl⟩:=he;obtain ⟨w',k1,k2⟩:=wstore_ok hr (her _ _ hu) (her _ _ hv) hst;exact ⟨.skip,undef,w',r,by simp [execOp,k1],.inr ⟨rfl,rfl⟩,k2,undef_vr r⟩
  ·cases he
 case h_2 t m k x =>
  split at he
  ·rename_i u kv v1 hu hk hv
   cases hst:wmapUpdate P h t u kv v1 with
   | none=>simp [hst] at he
   | some h1 =>
     simp [hst] at he;obtain ⟨rfl,rfl⟩:=he;obtain ⟨w',k1,k2⟩:=wmapUpdate_ok hr (her _ _ hu) (her _ _ hk) (her _ _ hv) hst;exact ⟨.skip,undef,w',r,by simp [execOp,k1],.inr ⟨rfl,rfl⟩,k2,undef_vr r⟩
  ·cases he
 case h_3 t m k x =>
  split at he
  ·rename_i u kv v1 hu hk hv
   cases hst:wmapUpdate P h t u kv v1 with
   | none=>simp [hst] at he
   | some h1 =>
     simp [hst] at he;obtain ⟨rfl,rfl⟩:=he;obtain ⟨w',k1,k2⟩:=wmapUpdate_ok hr (her _ _ hu) (her _ _ hk) (her _ _ hv) hst;exact ⟨.skip,undef,w',r,by simp [execOp,k1],.inr ⟨rfl,rfl⟩,k2,undef_vr r⟩
  ·cases he
 case h_5=>cases he
 case h_4 c =>
  obtain ⟨callee,args,argTypes⟩:=c
  dsimp only at he
  split at he
  ·rename_i s x t tx ha ht
   have ha:args = #[s,x]:=by rw[<- ha]
   have ht:argTypes = #[t,tx]:=by rw[<- ht]
   subst ha;subst ht
   split at he
   ·rename_i u v1 hu hv
    have hap:∃ v' w' r',(Builtin.append_ #[t,tx] type #[a.eval s,a.eval x]).run P w = .ok v' w'/\Stp P r h w r' h' w'/\VR r' v v':=by
     split at he
     ·rename_i y hy
      cases he;exact happend_ok (ty:=type) hr (her _ _ hu) (her _ _ hv) hy
     ·exact happendZ_ok (ty:=type) hr (her _ _ hu) (her _ _ hv) he
    obtain ⟨v',w',r',k1,k2,k3⟩:=hap;exact ⟨.value v',v',w',r',run_builtin (s:=Builtin.append_ #[t,tx] type #[a.eval s,a.eval x]) rfl (fun _=>by simp [builtin,nv]) k1,.inl rfl,k2,k3⟩
   ·cases he
  ·rename_i x t ha ht
   have ha:args = #[x]:=by rw[<- ha]
   have ht:argTypes = #[t]:=by rw[<- ht]
   subst ha;subst ht
   split at he
   ·rename_i v1 hv
    cases hst:wclear P h t v1 with
    | none=>simp [hst] at he
    | some h1 =>
      simp [hst] at he;obtain ⟨rfl,rfl⟩:=he;obtain ⟨w',k1,k2⟩:=wclear_ok (ty:=type) hr (her _ _ hv) hst;exact ⟨.value _,_,w',r,run_builtin (s:=Builtin.clear_ #[t] type #[a.eval x]) rfl (fun _=>by simp [builtin,nv]) k1,.inl rfl,k2,undef_vr r⟩
   ·cases he
  ·rename_i m k t ts ha ht
   have ha:args = #[m,k]:=by rw[<- ha]
   subst ha
   split at he
   ·rename_i u v1 hu hv
    cases hst:wdelete P h t u v1 with
    | none=>simp [hst] at he
    | some h1 =>
      simp [hst] at he;obtain ⟨rfl,rfl⟩:=he;obtain ⟨w',k1,k2⟩:=wdelete_ok (ty:=type) hr (her _ _ hu) (her _ _ hv) hst argTypes (by rw[<- Zg,ht];rfl);exact ⟨.value _,_,w',r,run_builtin (s:=Builtin.delete_ argTypes type #[a.eval m,a.eval k]) rfl (fun _=>by simp [builtin,nv]) k1,.inl rfl,k2,undef_vr r⟩
   ·cases he
  ·rename_i d s t tx ha ht
   have ha:args = #[d,s]:=by rw[<- ha]
   have ht:argTypes = #[t,tx]:=by rw[<- ht]
   subst ha;subst ht
   split at he
   ·rename_i u v1 hu hv
    obtain ⟨v',w',k1,k2,k3⟩:=wcopy_ok (ty:=type) hr (her _ _ hu) (her _ _ hv) he;exact ⟨.value v',v',w',r,run_builtin (s:=Builtin.copy_ #[t,tx] type #[a.eval d,a.eval s]) rfl (fun _=>by simp [builtin,nv]) k1,.inl rfl,k2,k3⟩
   ·cases he
  ·rename_i p l t tx ha ht
   have ha:args = #[p,l]:=by rw[<- ha]
   have ht:argTypes = #[t,tx]:=by rw[<- ht]
   subst ha;subst ht
   split at he
   ·rename_i u v1 hu hv
    obtain ⟨v',w',k1,k2,k3⟩:=wustr_ok (it:=tx) (ty:=type) hr (her _ _ hu) (her _ _ hv) he;exact ⟨.value v',v',w',r,run_builtin (s:=Builtin.unsafeString_ #[t,tx] type #[a.eval p,a.eval l]) rfl (fun _=>by simp [builtin,nv]) k1,.inl rfl,k2,k3⟩
   ·cases he
  ·cases he
end Go.Eng
