import Derived.Test.YtnkbbpmcjopicaaDoorPk1
import Derived.Lib.ConvBytes
import Derived.Laws.BytesString
import Derived.Lib.UnsafeStr
set_option linter.unusedVariables false
set_option linter.unusedSimpArgs false
open Nat renaming reduceEqDiff -> ZA,reduceAdd -> ZB,reduceMul -> ZC,reduceLeDiff -> ZD,reduceLT -> ZE
open Int renaming reduceEq -> ZF
open Option renaming map_some->Z0,some->Z1,bind_eq_some_iff->Z2
open Array renaming getElem?_toList->Z3,range->Z4,toList_setIfInBounds->Z5,getElem?_eq_none->Z6,foldl_toList->Z8
open List renaming getElem?_toArray->Z7
open Nat renaming zero_add->Z9,le_refl->Za
namespace Go.Eng
def rpart (P:Program) (t:TypeId) (cs:List Value) (off:Nat):Option Value :=
 match isAggT P t with
 | some true=>(sizeT P t).map fun n=>.agg ((cs.drop off).take n).toArray
 | some false=>cs[off]?
 | none=>none
theorem rpart_ok {P:Program} {r:Rho} {w:World} {t:TypeId} {cs:List Value} {cs':Array Value} (h:VL r cs cs'.toList) {off:Nat} {v:Value} (he:rpart P t cs off=some v) :
 ∃ v',(part t cs' off).run P w = .ok v' w/\VR r v v':=by
 unfold rpart at he
 split at he
 ·rename_i ha
  cases hs:sizeT P t with
  | none=>simp [hs] at he
  | some n =>
    simp [hs] at he;subst he;refine ⟨.agg (cs'.extract off (off+n)),by simp [part,run_isAgg ha,run_sizeT hs],.agg_l ?_⟩;have:(cs'.extract off (off+n)).toList=(cs'.toList.drop off).take n:=by
     rw[Array.toList_extract];simp [List.extract]
    rw[this]
    simpa using (h.drop off).take n
 ·rename_i ha
  obtain ⟨v',h1,h2⟩:=h.get he;exact ⟨v',by simp only[Z3] at h1;simp [part,run_isAgg ha,h1],h2⟩
 ·cases he
def rfield (P:Program) (t:TypeId) (f:Nat):Value->Option RRes
 | .agg cs =>
   match P.underlying t with
   | some (.struct fields) =>
     match fields[f]? with
     | some fd=>(rpart P fd.type cs.toList fd.offset).map fun v=>(v,none)
     | none=>none
   | _=>none
 | _=>none
theorem rfield_ok {P:Program} {r:Rho} {w:World} {t:TypeId} {f:Nat} {v v':Value} (hv:VR r v v') (m:Nat) {res:RRes} (he:rfield P t f v=some res) :
 RdV P r w m (Instr.field t v' f) res:=by
 unfold rfield at he
 split at he
 case h_2=>cases he
 case h_1 cs =>
  obtain ⟨cs',rfl,hcs⟩:=hv.agg_inv
  split at he
  case h_2=>cases he
  case h_1 fields hu =>
   split at he
   case h_2=>cases he
   case h_1 fd hf =>
    cases hp:rpart P fd.type cs.toList fd.offset with
    | none=>simp [hp] at he
    | some x =>
      simp [hp] at he;subst he;obtain ⟨x',h1,h2⟩:=rpart_ok (w:=w) hcs hp;exact ⟨x',w,by simp [Instr.field,run_underlying hu,hf,asAgg,h1],.refl w,h2⟩
def rindexAgg (P:Program) (t:TypeId):Value->Value->Option RRes
 | .agg cs,.int _ i =>
   match P.underlying t with
   | some (.array len e) =>
     match sizeT P e with
     | some n=>if 0<=i/\i<len then (rpart P e cs.toList (i.toNat*n)).map fun v=>(v,none) else none
     | none=>none
   | _=>none
 | _,_=>none
theorem rindexAgg_ok {P:Program} {r:Rho} {w:World} {t:TypeId} {v v' i i':Value} (hv:VR r v v') (hi:VR r i i') (m:Nat) {res:RRes} (he:rindexAgg P t v i=some res) :
 RdV P r w m (Instr.index t v' i') res:=by
 unfold rindexAgg at he
 split at he
 case h_2=>cases he
 case h_1 cs k j =>
  obtain ⟨cs',rfl,hcs⟩:=hv.agg_inv;cases hi.int_inv
  split at he
  case h_2=>cases he
  case h_1 len e hu =>
   split at he
   case h_2=>cases he
   case h_1 n hn =>
    split at he
    case isFalse=>cases he
    case isTrue hlt =>
     cases hp:rpart P e cs.toList (j.toNat*n) with
     | none=>simp [hp] at he
     | some x =>
       simp [hp] at he;subst he;obtain ⟨x',h1,h2⟩:=rpart_ok (w:=w) hcs hp;exact ⟨x',w,by simp [Instr.index,run_underlying hu,asIntOf,hlt,run_sizeT hn,h1],.refl w,h2⟩
def rextract (i:Nat):Value->Option RRes
 | .tuple vs=>(vs.toList[i]?).map fun v=>(v,none)
 | _=>none
theorem rextract_ok {P:Program} {r:Rho} {w:World} {i:Nat} {v v':Value} (hv:VR r v v') (m:Nat) {res:RRes} (he:rextract i v=some res) :
 RdV P r w m (Instr.extract v' i) res:=by
 unfold rextract at he
 split at he
 case h_2=>cases he
 case h_1 vs =>
  obtain ⟨vs',rfl,hvs⟩:=hv.tuple_inv;cases hx:vs.toList[i]? with
  | none=>simp [hx] at he
  | some x =>
    simp only[hx,Z0,Z1.injEq] at he;subst he;obtain ⟨x',h1,h2⟩:=hvs.get hx;exact ⟨x',w,by simp only[Z3] at h1;simp [Instr.extract,h1],.refl w,h2⟩
def zeroT (P:Program) (t:TypeId):Option Value :=
 match P.info? t with
 | some i=>match i.zero with
   | some z=>if scal 8 z then some z else none
   | none=>none
 | none=>none
theorem run_zeroT {P:Program} {t:TypeId} {z:Value} (h:zeroT P t=some z) (w:World):(zeroValue t).run P w = .ok z w/\scal 8 z=true:=by
 unfold zeroT at h
 split at h
 case h_2=>cases h
 case h_1 i hi =>
  split at h
  case h_2=>cases h
  case h_1 z' hz =>
   split at h
   ·cases h;exact ⟨by simp [zeroValue,typeInfo,hi,hz],‹_›⟩
   ·cases h
def PR (r:Rho) (l l':List (Nat × Value)):Prop:=l.length=l'.length /\ ∀ (i:Nat) (p p':Nat × Value),l[i]?=some p->l'[i]?=some p'->p.1=p'.1/\VR r p.2 p'.2
theorem PR.cons_inv {r:Rho} {p:Nat × Value} {l l':List (Nat × Value)} (h:PR r (p::l) l'):∃ p' m,l'=p'::m/\p.1=p'.1/\VR r p.2 p'.2/\PR r l m:=by
 cases l' with
 | nil=>have:=h.1;simp at this
 | cons p' m =>
   exact ⟨p',m,rfl,(h.2 0 p p' rfl rfl).1,(h.2 0 p p' rfl rfl).2,by have:=h.1;simpa using this,fun i x x' a b=>h.2 (i+1) x x' (by simpa using a) (by simpa using b)⟩
theorem VL.foldSet {r:Rho} (off:Nat):∀ (xs xs':List (Value × Nat)) (cs cs':Array Value),xs.length=xs'.length ->
 (∀ (i:Nat) (x x':Value × Nat),xs[i]?=some x->xs'[i]?=some x'->x.2=x'.2/\VR r x.1 x'.1)->VL r cs.toList cs'.toList ->
 VL r (xs.foldl (fun cs (x:Value × Nat)=>cs.setIfInBounds (off+x.2) x.1) cs).toList (xs'.foldl (fun cs (x:Value × Nat)=>cs.setIfInBounds (off+x.2) x.1) cs').toList:=by
 intro xs
 induction xs with
 | nil=>intro xs' cs cs' h _ hc;cases xs' with
   | nil=>exact hc
   | cons=>simp at h
 | cons x xs ih =>
   intro xs' cs cs' h hx hc;cases xs' with
   | nil=>simp at h
   | cons x' xs' =>
     simp only[List.foldl_cons];obtain ⟨e1,e2⟩:=hx 0 x x' rfl rfl;refine ih xs' _ _ (by simpa using h) (fun i a b ha hb=>hx (i+1) a b (by simpa using ha) (by simpa using hb)) ?_;rw[Z5,Z5,<- e1];exact hc.set e2 _
theorem fill_ok {r:Rho} (place:Nat->Option (Nat × Nat)):∀ (l l':List (Nat × Value)) (cs cs' out:Array Value),PR r l l'->VL r cs.toList cs'.toList->Instr.fill place cs l=some out ->
 ∃ out',Instr.fill place cs' l'=some out'/\VL r out.toList out'.toList:=by
 intro l
 induction l with
 | nil =>
   intro l' cs cs' out hl hc h;cases l' with
   | nil=>simp [Instr.fill] at h ⊢;subst h;exact hc
   | cons=>have:=hl.1;simp at this
 | cons p l ih =>
   intro l' cs cs' out hl hc h;obtain ⟨p',m,rfl,e1,e2,e3⟩:=hl.cons_inv;obtain ⟨i,v⟩:=p;obtain ⟨i',v'⟩:=p';simp only at e1 e2;subst e1;simp only[Instr.fill] at h ⊢;cases hp:place i with
   | none=>simp [hp] at h
   | some q =>
     obtain ⟨off,size⟩:=q;simp only[hp] at h ⊢;have hcells:=e2.cells;have hs:v'.cells.size=v.cells.size:=by have:=hcells.1;simpa using this.symm
     have hcs:cs'.size=cs.size:=by have:=hc.1;simpa using this.symm
     split at h
     ·cases h
     ·rename_i hcond
      rw[if_neg (by rw[hs,hcs];exact hcond)];refine ih m _ _ out e3 ?_ h;have:=VL.foldSet (r:=r) off v.cells.zipIdx.toList v'.cells.zipIdx.toList cs cs' (by simp [hs]) (fun i x x' a b=>by
       simp only[Array.toList_zipIdx,List.getElem?_zipIdx,Option.map_eq_some_iff] at a b;obtain ⟨y,hy,rfl⟩:=a;obtain ⟨y',hy',rfl⟩:=b;exact ⟨rfl,hcells.2 i y y' hy hy'⟩) hc
      simp only[<- Z8];exact this
def evp (g:Operand->Option Value):List (Nat × Operand)->Option (List (Nat × Value))
 | []=>some []
 | (i,x)::l=>match g x,evp g l with
   | some v,some vs=>some ((i,v)::vs)
   | _,_=>none
theorem evp_ok {r:Rho} {g:Operand->Option Value} {a:Act} (h:GR r g a):∀ {l:List (Nat × Operand)} {vs:List (Nat × Value)},evp g l=some vs->PR r vs (l.map fun p=>(p.1,a.eval p.2)):=by
 intro l
 induction l with
 | nil=>intro vs hv;cases hv;exact ⟨rfl,fun i p p' h=>by simp at h⟩
 | cons x l ih =>
   obtain ⟨i,x⟩:=x;intro vs hv;simp only[evp] at hv
   split at hv
   ·rename_i v vs' h1 h2
    cases hv;have k:=ih h2;refine ⟨by simpa using k.1,fun j p p' ha hb=>?_⟩;cases j with
    | zero=>simp at ha hb;subst ha;subst hb;exact ⟨rfl,h _ _ h1⟩
    | succ j=>simp at ha hb;exact k.2 j p p' ha (by simpa using hb)
   ·cases hv
def places (P:Program):List Field->Option (List (Nat × Nat))
 | []=>some []
 | f::l=>match sizeT P f.type,places P l with
   | some n,some r=>some ((f.offset,n)::r)
   | _,_=>none
theorem run_places {P:Program} {w:World}:∀ {l:List Field} {out:List (Nat × Nat)},places P l=some out ->
 (l.mapM fun f=>(do pure (f.offset,<- sizeOf f.type):Sem (Nat × Nat))).run P w = .ok out w:=by
 intro l
 induction l with
 | nil=>intro out h;cases h;rfl
 | cons f l ih =>
   intro out h;simp only[places] at h
   split at h
   ·rename_i n r h1 h2
    cases h;simp only[List.mapM_cons,Sem.run_bind,run_sizeT h1,ih h2,Result.andThen_ok,Sem.run_pure]
   ·cases h
def rbuild (P:Program) (t:TypeId) (parts:List (Nat × Value)):Option RRes :=
 match zeroT P t,P.underlying t with
 | some z,some (.struct fields) =>
   match places P fields.toList with
   | some pl=>(Instr.fill (fun i=>pl[i]?) z.cells parts).map fun cs=>(.agg cs,none)
   | none=>none
 | some z,some (.array _ e) =>
   match sizeT P e with
   | some n=>(Instr.fill (fun i=>some (i*n,n)) z.cells parts).map fun cs=>(.agg cs,none)
   | none=>none
 | _,_=>none
theorem scal_cells {r:Rho} {n:Nat} {z:Value} (h:scal n z=true):VL r z.cells.toList z.cells.toList:=(scal_refl (r:=r) n z h).cells
theorem rbuild_ok {P:Program} {r:Rho} {w:World} {t:TypeId} {parts:List (Nat × Value)} {parts':Array (Nat × Value)} (hp:PR r parts parts'.toList) (m:Nat) {res:RRes} (he:rbuild P t parts=some res) :
 RdV P r w m (Instr.build t parts') res:=by
 unfold rbuild at he
 split at he
 case h_3=>cases he
 case h_1 z fields hz hu =>
  split at he
  case h_2=>cases he
  case h_1 pl hpl =>
   cases hf:Instr.fill (fun i=>pl[i]?) z.cells parts with
   | none=>simp [hf] at he
   | some cs =>
     simp only[hf,Z0,Z1.injEq] at he;subst he;obtain ⟨cs',h1,h2⟩:=fill_ok _ _ _ _ _ _ hp (scal_cells (run_zeroT hz w).2) hf;have hm:(fields.mapM fun f=>(do pure (f.offset,<- sizeOf f.type):Sem (Nat × Nat))).run P w = .ok pl.toArray w:=by
      rw[Array.mapM_eq_mapM_toList];simp only[Sem.run_map,run_places hpl,Result.andThen_ok]
     exact ⟨.agg cs',w,by simp only[Instr.build,Sem.run_bind,(run_zeroT hz w).1,run_underlying hu,hm,Result.andThen_ok,Z7,h1,Sem.run_pure],.refl w,.agg_l h2⟩
 case h_2 z k e hz hu =>
  split at he
  case h_2=>cases he
  case h_1 n hn =>
   cases hf:Instr.fill (fun i=>some (i*n,n)) z.cells parts with
   | none=>simp [hf] at he
   | some cs =>
     simp only[hf,Z0,Z1.injEq] at he;subst he;obtain ⟨cs',h1,h2⟩:=fill_ok _ _ _ _ _ _ hp (scal_cells (run_zeroT hz w).2) hf;exact ⟨.agg cs',w,by simp [Instr.build,(run_zeroT hz w).1,run_underlying hu,run_sizeT hn,h1],.refl w,.agg_l h2⟩
def row (e:TypeId) (m:Nat) (cs:List Value):Blk:=.cells true true m 0 e cs
theorem row_bo {P:Program} {r:Rho} {e:TypeId} {m:Nat} {cs:List Value} {cs':Array Value} (h:VL r cs cs'.toList) {g sz:Nat} (hs:sizeT P e=some sz) :
 BO P r ⟨g,0,cs'.size,sz⟩ (row e m cs) (some (.cells cs' e)) :=
 ⟨cs',e,(0,0),rfl,fun _=>⟨rfl,rfl,rfl,fun _=>rfl⟩,hs,by have:=h.1;simp at this ⊢;omega,fun i v v' a b=>h.2 i v v' a (by simpa using b)⟩
theorem RdV.newRow {P:Program} {r:Rho} {w:World} {m:Nat} (hm:r m=none) {s:Sem Value} {e:TypeId} {cs:List Value} {cs':Array Value} {n c sz:Nat} (h:VL r cs cs'.toList) (hn:n<=c)
 (hse:sizeT P e=some sz) (hcap:c*sz<=cs'.size)
 (hs:s.run P w = .ok (.slice (some ⟨w.heap.size,0,none⟩) n c) (w.alloc (.cells cs' e))):RdV P r w m s (.slice (some ⟨m,0,none⟩) n c,some (row e m cs)):=by
 refine ⟨_,_,_,⟨w.heap.size,0,cs'.size,sz⟩,hs,rfl,rfl,rfl,rfl,rfl,row_bo (h.mono (Rho.le_upd hm _)) hse,rfl,rfl,?_⟩;exact VR.slice (o:=0) (Rho.upd_same _ _ _) (Za c) hn (by simpa using hcap)
theorem RdV.newVar {P:Program} {r:Rho} {w:World} {m:Nat} (hm:r m=none) {s:Sem Value} {e:TypeId} {cs:List Value} {cs':Array Value} {sz:Nat} (h:VL r cs cs'.toList) (hse:sizeT P e=some sz)
 (hs:s.run P w = .ok (.pointer (some ⟨w.heap.size,0,none⟩)) (w.alloc (.cells cs' e))):RdV P r w m s (.pointer (some ⟨m,0,none⟩),some (row e m cs)):=by
 refine ⟨_,_,_,⟨w.heap.size,0,cs'.size,sz⟩,hs,rfl,rfl,rfl,rfl,rfl,row_bo (h.mono (Rho.le_upd hm _)) hse,rfl,rfl,?_⟩;exact VR.ptr (o:=0) (Rho.upd_same _ _ _)
theorem foldSet_size (off:Nat):∀ (xs:List (Value × Nat)) (cs:Array Value),(xs.foldl (fun cs (x:Value × Nat)=>cs.setIfInBounds (off+x.2) x.1) cs).size=cs.size:=by
 intro xs
 induction xs with
 | nil=>intro cs;rfl
 | cons x xs ih=>intro cs;simp only[List.foldl_cons];rw[ih];simp
theorem fill_size (place:Nat->Option (Nat × Nat)):∀ (l:List (Nat × Value)) (cs out:Array Value),Instr.fill place cs l=some out->out.size=cs.size:=by
 intro l
 induction l with
 | nil=>intro cs out h;simp [Instr.fill] at h;subst h;rfl
 | cons p l ih =>
   intro cs out h;obtain ⟨i,v⟩:=p;simp only[Instr.fill] at h;cases hp:place i with
   | none=>simp [hp] at h
   | some q =>
     obtain ⟨off,size⟩:=q;simp only[hp] at h
     split at h
     ·cases h
     ·rw[ih _ _ h]
      simp only[<- Z8];exact foldSet_size off _ cs
def rbuildSlice (P:Program) (m:Nat) (t:TypeId) (len:Nat) (parts:List (Nat × Value)):Option RRes :=
 match P.underlying t with
 | some (.slice e) =>
   match sizeT P e,zeroT P e with
   | some sz,some z =>
     if len*sz<=16777216 then
      let cs0:=(Z4 (len*sz)).map (z.cells[· % z.cells.size]!)
      if cs0.toList.all (scal 8) then
       (Instr.fill (fun i=>some (i*sz,sz)) cs0 parts).map fun cs=>(.slice (some ⟨m,0,none⟩) len len,some (row e m cs.toList))
      else none
     else none
   | _,_=>none
 | _=>none
theorem rbuildSlice_ok {P:Program} {r:Rho} {w:World} {m:Nat} (hm:r m=none) {t:TypeId} {len:Nat} {parts:List (Nat × Value)} {parts':Array (Nat × Value)} (hp:PR r parts parts'.toList) {res:RRes}
 (he:rbuildSlice P m t len parts=some res):RdV P r w m (Instr.buildSlice t len parts') res:=by
 unfold rbuildSlice at he
 split at he
 case h_2=>cases he
 case h_1 e hu =>
  split at he
  case h_2=>cases he
  case h_1 sz z hs hz =>
   split at he
   case isFalse=>cases he
   case isTrue hlen =>
    dsimp only at he
    split at he
    case isFalse=>cases he
    case isTrue hall =>
     cases hf:Instr.fill (fun i=>some (i*sz,sz)) ((Z4 (len*sz)).map (z.cells[· % z.cells.size]!)) parts with
     | none=>simp only[hf,Option.map_none] at he;cases he
     | some cs =>
       simp only[hf,Z0,Z1.injEq] at he;subst he;obtain ⟨cs',h1,h2⟩:=fill_ok _ _ _ _ _ _ hp (all_refl (r:=r) (fun v=>scal_refl 8 v) hall) hf;have hz1:=(run_zeroT hz w).1;have hle:¬ (16777216<len*sz):=by omega
       refine RdV.newRow hm h2 (Za len) hs (by rw[fill_size _ _ _ _ h1];simp) ?_
       by_cases h0:len*sz=0
       ·have e1:(Z4 (len*sz)).map (z.cells[· % z.cells.size]!) = #[]:=by simp [h0]
        rw[e1] at h1;simp [Instr.buildSlice,run_underlying hu,run_sizeT hs,h0,h1,newRow,Array.range_zero']
       ·simp [Instr.buildSlice,run_underlying hu,run_sizeT hs,h0,hle,hz1,h1,newRow]
def ralloc (P:Program) (m:Nat) (t:TypeId):Option RRes :=
 match zeroT P t,sizeT P t with
 | some z,some _=>some (.pointer (some ⟨m,0,none⟩),some (row t m z.cells.toList))
 | _,_=>none
theorem ralloc_ok {P:Program} {r:Rho} {w:World} {m:Nat} (hm:r m=none) {t:TypeId} {res:RRes} (he:ralloc P m t=some res):RdV P r w m (Instr.alloc t true (.tuple #[])) res:=by
 unfold ralloc at he
 split at he
 ·rename_i z sz hz hs
  cases he;exact RdV.newVar hm (scal_cells (run_zeroT hz w).2) hs (by simp [Instr.alloc,(run_zeroT hz w).1,newVar,newRow])
 ·cases he
def rbox (P:Program) (m:Nat) (t:TypeId) (v:Value):Option RRes :=
 match sizeT P t with
 | some _=>some (.pointer (some ⟨m,0,none⟩),some (row t m v.cells.toList))
 | none=>none
theorem rbox_ok {P:Program} {r:Rho} {w:World} {m:Nat} (hm:r m=none) {t:TypeId} {v v':Value} (hv:VR r v v') {res:RRes} (he:rbox P m t v=some res):RdV P r w m (Instr.box t v') res:=by
 unfold rbox at he
 split at he
 ·rename_i sz hs
  cases he;exact RdV.newVar hm hv.cells hs (by simp [Instr.box,newVar,newRow])
 ·cases he
def rmakeSlice (P:Program) (m:Nat) (t:TypeId):Value->Value->Option RRes
 | .int _ l,.int _ c =>
   match P.underlying t with
   | some (.slice e) =>
     match P.info? e,zeroT P e with
     | some i,some z =>
       if 0<=l/\l<=c/\c<9223372036854775808/\i.bytes*c<=140737488355328 then
        let cs:=(Z4 (c.toNat*i.size)).map (z.cells[· % z.cells.size]!)
        if cs.toList.all (scal 8) then some (.slice (some ⟨m,0,none⟩) l.toNat c.toNat,some (row e m cs.toList)) else none
       else none
     | _,_=>none
   | _=>none
 | _,_=>none
theorem wrap_of {x:Int} (h0:0<=x) (h1:x<9223372036854775808):IntKind.i64.wrap x=x:=by
 show (if (true && decide (x % (18446744073709551616:Int) ≥ (9223372036854775808:Int)))=true then x % (18446744073709551616:Int)-(18446744073709551616:Int) else x % (18446744073709551616:Int))=x
 have:x % (18446744073709551616:Int)=x:=Int.emod_eq_of_lt h0 (by omega);rw[this];rw[if_neg (by simp;omega)]
theorem rmakeSlice_ok {P:Program} {r:Rho} {w:World} {m:Nat} (hm:r m=none) {t:TypeId} {l l' c c':Value} (hl:VR r l l') (hc:VR r c c') {res:RRes} (he:rmakeSlice P m t l c=some res) :
 RdV P r w m (Instr.makeSlice t l' c') res:=by
 unfold rmakeSlice at he
 split at he
 case h_2=>cases he
 case h_1 k1 l k2 c =>
  cases hl.int_inv;cases hc.int_inv
  split at he
  case h_2=>cases he
  case h_1 e hu =>
   split at he
   case h_2=>cases he
   case h_1 i z hi hz =>
    split at he
    case isFalse=>cases he
    case isTrue hcond =>
     dsimp only at he
     split at he
     case isFalse=>cases he
     case isTrue hall =>
      cases he;obtain ⟨h0,h1,h2,h3⟩:=hcond;have wl:=wrap_of h0 (by omega);have wc:=wrap_of (x:=c) (by omega) h2;have hs:sizeT P e=some i.size:=by simp [sizeT,hi]
      refine RdV.newRow hm (all_refl (r:=r) (fun v=>scal_refl 8 v) hall) (by omega) hs (by simp) ?_;have e1:¬ (c<0):=by omega
      have e2:¬ (281474976710656<(i.bytes:Int)*c):=by omega
      have e3:¬ (l<0):=by omega
      have e4:¬ (c<l):=by omega
      have e5:¬ (140737488355328<(c.toNat:Int)*(i.bytes:Int)):=by
       have:((c.toNat:Int))=c:=by omega
       rw[this,Int.mul_comm];omega
      by_cases h0:c.toNat*i.size=0
      ·have e1':(Z4 (c.toNat*i.size)).map (z.cells[· % z.cells.size]!) = #[]:=by simp [h0]
       rw[e1'];simp [Instr.makeSlice,run_underlying hu,asInt,asIntOf,typeInfo,hi,wl,wc,e1,e2,e3,e4,run_sizeT hs,h0,newRow,Array.range_zero']
      ·simp [Instr.makeSlice,run_underlying hu,asInt,asIntOf,typeInfo,hi,wl,wc,e1,e2,e3,e4,run_sizeT hs,h0,(run_zeroT hz w).1,newRow]
def rmakeMap (m:Nat):RRes:=(.map (some m),some (.map []))
theorem rmakeMap_ok {P:Program} {r:Rho} {w:World} {m:Nat} (hm:r m=none) {t:TypeId}:RdV P r w m (Instr.makeMap t none) (rmakeMap m):=by
 exact ⟨.map (some w.heap.size),w.alloc (.map #[] 0),.map #[] 0,⟨w.heap.size,0,0,0⟩,by simp [Instr.makeMap],rfl,rfl,rfl,rfl,rfl,⟨#[],0,rfl,rfl,rfl,fun i kv e h=>by simp at h⟩,rfl,rfl,.map (Rho.upd_same _ _ _) rfl⟩
def rmakeInterface (P:Program) (t:TypeId) (v:Value):Option RRes :=
 match P.underlying t with
 | some (.interface _)=>none
 | some _=>some (.iface t v,none)
 | none=>none
theorem rmakeInterface_ok {P:Program} {r:Rho} {w:World} {m:Nat} {t:TypeId} {v v':Value} (hv:VR r v v') {res:RRes} (he:rmakeInterface P t v=some res) :
 RdV P r w m (Instr.makeInterface t v') res:=by
 unfold rmakeInterface at he
 split at he
 ·cases he
 ·rename_i d hd hu
  cases he;refine ⟨.iface t v',w,?_,.refl w,.iface hv⟩;unfold Instr.makeInterface;rw[Sem.run_bind,run_underlying hu];cases d<;>first|(exact absurd rfl (hd _))|rfl
 ·cases he
end Go.Eng

namespace Go.Eng
def refEq (P:Program) (t:TypeId):Value->Value->Option Bool
 | .pointer none,.pointer b=>match P.underlying t with
   | some (.pointer _)=>some b.isNone
   | _=>none
 | .pointer (some a),.pointer none=>match P.underlying t with
   | some (.pointer _)=>some false
   | _=>none
 | .pointer (some ⟨ab,ao,none⟩),.pointer (some ⟨bb,bo,none⟩)=>match P.underlying t with
   | some (.pointer e)=>match sizeT P e with
     | some (_+1)=>if ab=bb then some (ao == bo) else none
     | _=>none
   | _=>none
 | .slice none _ _,.slice b _ _=>match P.underlying t with
   | some (.slice _)=>some b.isNone
   | _=>none
 | .slice (some _) _ _,.slice none _ _=>match P.underlying t with
   | some (.slice _)=>some false
   | _=>none
 | .map none,.map b=>match P.underlying t with
   | some (.map _ _)=>some b.isNone
   | _=>none
 | .map (some _),.map none=>match P.underlying t with
   | some (.map _ _)=>some false
   | _=>none
 | .func _ _ _,.nilFunc=>match P.underlying t with
   | some (.func _ _ _)=>some false
   | _=>none
 | .nilFunc,.func _ _ _=>match P.underlying t with
   | some (.func _ _ _)=>some false
   | _=>none
 | .nilIface,.iface _ _=>match P.underlying t with
   | some (.interface _)=>some false
   | _=>none
 | .iface _ _,.nilIface=>match P.underlying t with
   | some (.interface _)=>some false
   | _=>none
 | _,_=>none
theorem refEq_ok1 {P:Program} {r:Rho} {w:World} {t:TypeId} {x x' y y':Value} (hx:VR r x x') (hy:VR r y y') {b:Bool} (he:refEq P t x y=some b) (op:BinOp) (ox oy:Operand) (dep:Nat) :
 (Op.equalIn (dep+1) t x' y').run P w = .ok b w/\eqGuard op t ox oy x' y'=pure ():=by
 unfold refEq at he
 split at he
 ·cases hx
  cases hy<;>(split at he<;>cases he;rename_i hu;exact ⟨by simp [Op.equalIn,run_underlying hu],eqGuard_at_pointer ..⟩)
 ·cases hx<;>cases hy<;>(split at he<;>cases he;rename_i hu;exact ⟨by simp [Op.equalIn,run_underlying hu],eqGuard_at_pointer ..⟩)
 case h_3 ab ao bb bo =>
  obtain ⟨xa,ha,rfl⟩:=hx.ptr_inv;obtain ⟨xb,hb,rfl⟩:=hy.ptr_inv
  split at he
  case h_2=>cases he
  case h_1 e hu =>
   split at he
   case h_2=>cases he
   case h_1 n hn =>
    split at he
    case isFalse=>cases he
    case isTrue hblk =>
     cases he;rw[hblk,hb] at ha;cases ha;refine ⟨?_,eqGuard_at_pointer ..⟩;have key:((⟨xa.blk,ao+xa.off,none⟩:Addr) == ⟨xa.blk,bo+xa.off,none⟩)=(ao == bo):=by
      rw[Bool.eq_iff_iff];simp
     simp [Op.equalIn,run_underlying hu,run_sizeT hn,sameAddr,key]
 ·obtain ⟨_,_,rfl⟩:=hx.snil_inv
  cases hy<;>(split at he<;>cases he;rename_i hu;exact ⟨by simp [Op.equalIn,run_underlying hu],eqGuard_at_slice ..⟩)
 ·obtain ⟨_,_,rfl⟩:=hy.snil_inv
  cases hx<;>(split at he<;>cases he;rename_i hu;exact ⟨by simp [Op.equalIn,run_underlying hu],eqGuard_at_slice ..⟩)
 ·cases hx
  cases hy<;>(split at he<;>cases he;rename_i hu;exact ⟨by simp [Op.equalIn,run_underlying hu],eqGuard_at_map ..⟩)
 ·cases hx;cases hy
  split at he<;>cases he;rename_i hu;exact ⟨by simp [Op.equalIn,run_underlying hu],eqGuard_at_map ..⟩
 ·obtain ⟨f',c',rfl,_,_⟩:=hx.func_inv
  cases hy
  split at he<;>cases he;rename_i hu;exact ⟨by simp [Op.equalIn,run_underlying hu],eqGuard_at_func ..⟩
 ·obtain ⟨f',c',rfl,_,_⟩:=hy.func_inv
  cases hx
  split at he<;>cases he;rename_i hu;exact ⟨by simp [Op.equalIn,run_underlying hu],eqGuard_at_nilFunc ..⟩
 ·obtain ⟨u,rfl,_⟩:=hy.iface_inv
  cases hx
  split at he<;>cases he;rename_i hu;exact ⟨by simp [Op.equalIn,run_underlying hu],eqGuard_nil_iface ..⟩
 ·obtain ⟨u,rfl,_⟩:=hx.iface_inv
  cases hy
  split at he<;>cases he;rename_i hu;exact ⟨by simp [Op.equalIn,run_underlying hu],eqGuard_at_iface ..⟩
 ·cases he
theorem refEq_ok {P:Program} {r:Rho} {w:World} {t:TypeId} {x x' y y':Value} (hx:VR r x x') (hy:VR r y y') {b:Bool} (he:refEq P t x y=some b) (op:BinOp) (ox oy:Operand) :
 (Op.equal t x' y').run P w = .ok b w/\eqGuard op t ox oy x' y'=pure ():=refEq_ok1 hx hy he op ox oy 9999
def rcmp (P:Program) (op:BinOp) (t:TypeId) (x y:Value):Option RRes :=
 match op with
 | .eql=>(refEq P t x y).map fun b=>(.bool b,none)
 | .neq=>(refEq P t x y).map fun b=>(.bool !b,none)
 | _=>none
theorem refEq_kinds {P:Program} {t:TypeId} {x y:Value} {b:Bool} (he:refEq P t x y=some b) {r:Rho} {x' y':Value} (hx:VR r x x') (hy:VR r y y') :
 binOp .eql t x' y'=(do pure (.bool (<- Op.equal t x' y')))/\binOp .neq t x' y'=(do pure (.bool (!(<- Op.equal t x' y')))):=by
 unfold refEq at he
 split at he
 case h_12=>cases he
 all_goals (cases hx<;>cases hy<;>exact ⟨rfl,rfl⟩)
theorem rcmp_ok {P:Program} {r:Rho} {w:World} {op:BinOp} {t:TypeId} {x x' y y':Value} (hx:VR r x x') (hy:VR r y y') (m:Nat) {res:RRes} (he:rcmp P op t x y=some res) (ox oy:Operand) :
 RdV P r w m (do eqGuard op t ox oy x' y';binOp op t x' y') res:=by
 unfold rcmp at he
 split at he
 ·cases hb:refEq P t x y with
  | none=>simp [hb] at he
  | some b =>
    simp [hb] at he;subst he;obtain ⟨h1,h2⟩:=refEq_ok (w:=w) hx hy hb .eql ox oy;refine ⟨.bool b,w,?_,.refl w,.bool b⟩;rw[h2,(refEq_kinds hb hx hy).1];simp [h1]
 ·cases hb:refEq P t x y with
  | none=>simp [hb] at he
  | some b =>
    simp [hb] at he;subst he;obtain ⟨h1,h2⟩:=refEq_ok (w:=w) hx hy hb .neq ox oy;refine ⟨.bool !b,w,?_,.refl w,.bool _⟩;rw[h2,(refEq_kinds hb hx hy).2];simp [h1]
 ·cases he
def entryOf (kv:Value × Value):MapEntry:={ key:=kv.1,val:=kv.2,born:=0 }
def keysScal (es:List (Value × Value)):Bool:=es.all fun kv=>scal 8 kv.1
theorem findNow_congr {kind:TypeDesc} {k:Value}:∀ (es:List (Value × Value)) (ms:List MapEntry) (i:Nat),es.length=ms.length->(∀ (j:Nat) (kv:Value × Value) (m:MapEntry),es[j]?=some kv->ms[j]?=some m->m.key=kv.1) ->
 match Instr.findNow kind k (es.map entryOf) i with
 | some (some (j,_))=>∃ q m,j=i+q/\ms[q]?=some m/\Instr.findNow kind k ms i=some (some (j,m.val))
 | some none=>Instr.findNow kind k ms i=some none
 | none=>Instr.findNow kind k ms i=none:=by
 intro es
 induction es with
 | nil=>intro ms i h _;cases ms with
   | nil=>simp [Instr.findNow]
   | cons=>simp at h
 | cons kv es ih =>
   intro ms i h hk;cases ms with
   | nil=>simp at h
   | cons m ms =>
     have hm:=hk 0 kv m rfl rfl;simp only[List.map_cons,Instr.findNow,entryOf,hm];cases hs:Instr.sameNow kind k kv.1 with
     | none=>simp
     | some b =>
       cases b with
       | true=>simp
       | false =>
         have:=ih ms (i+1) (by simpa using h) (fun j a b ha hb=>hk (j+1) a b (by simpa using ha) (by simpa using hb));simp only
         revert this
         cases hf:Instr.findNow kind k (es.map entryOf) (i+1) with
         | none=>exact fun h=>h
         | some o =>
           cases o with
           | none=>exact fun h=>h
           | some p =>
             obtain ⟨j,v⟩:=p;rintro ⟨q,m',rfl,h1,h2⟩;exact ⟨q+1,m',by omega,by simpa using h1,h2⟩
theorem pureRun_bind {P:Program} {α β:Type} (s:Sem α) (f:α->Sem β):pureRun P (s >>= f)=(pureRun P s).bind fun a=>pureRun P (f a):=by
 show pureRun P (s.bind f)=_
 induction s with
 | pure a=>rfl
 | program k ih=>simp only[Sem.bind,pureRun];exact ih P
 | mark m k ih=>simp only[Sem.bind,pureRun];exact ih
 | _=>simp [Sem.bind,pureRun]
theorem findAsking_congr {P:Program} {w:World} {kt:TypeId} {k:Value}:∀ (es:List (Value × Value)) (ms:List MapEntry) (i:Nat),es.length=ms.length->(∀ (j:Nat) (kv:Value × Value) (m:MapEntry),es[j]?=some kv->ms[j]?=some m->m.key=kv.1) ->
 ∀ o,pureRun P (Instr.findAsking kt k (es.map entryOf) i)=some o ->
 match o with
 | some (j,_)=>∃ q m,j=i+q/\ms[q]?=some m/\(Instr.findAsking kt k ms i).run P w = .ok (some (j,m.val)) w
 | none=>(Instr.findAsking kt k ms i).run P w = .ok none w:=by
 intro es
 induction es with
 | nil=>intro ms i h _ o ho;cases ms with
   | nil=>cases ho;rfl
   | cons=>simp at h
 | cons kv es ih =>
   intro ms i h hk o ho;cases ms with
   | nil=>simp at h
   | cons m ms =>
     have hm:=hk 0 kv m rfl rfl;simp only[List.map_cons,Instr.findAsking,entryOf,pureRun_bind] at ho;cases he:pureRun P (Op.equal kt k kv.1) with
     | none=>simp [he] at ho
     | some b =>
       have hr:=pureRun_run he w;simp only[he,Option.bind_some] at ho;simp only[Instr.findAsking,hm,Sem.run_bind,hr,Result.andThen_ok];cases b with
       | true=>simp only[if_true] at ho ⊢;cases ho;exact ⟨0,m,rfl,rfl,rfl⟩
       | false =>
         simp only[Bool.false_eq_true,if_false] at ho ⊢;have:=ih ms (i+1) (by simpa using h) (fun j a b ha hb=>hk (j+1) a b (by simpa using ha) (by simpa using hb)) o ho
         revert this
         cases o with
         | none=>exact fun h=>h
         | some p =>
           obtain ⟨j,v⟩:=p;rintro ⟨q,m',rfl,h1,h2⟩;exact ⟨q+1,m',by omega,by simpa using h1,h2⟩
def rfind (P:Program) (kt:TypeId) (k:Value) (es:List (Value × Value)):Option (Option Nat) :=
 if scal 8 k && keysScal es then
  match pureRun P (Instr.checkKey es.isEmpty 10000 kt k),pureRun P (Instr.findKey kt k (es.map entryOf)) with
  | some _,some (some (j,_))=>some (some j)
  | some _,some none=>some none
  | _,_=>none
 else none
theorem rfind_ok {P:Program} {r:Rho} {w:World} {kt:TypeId} {k k':Value} (hk:VR r k k') {es:List (Value × Value)} {ms:Array MapEntry} (hlen:es.length=ms.size)
 (hes:∀ (i:Nat) (kv:Value × Value) (m:MapEntry),es[i]?=some kv->ms[i]?=some m->VR r kv.1 m.key/\VR r kv.2 m.val) {o:Option Nat} (he:rfind P kt k es=some o) :
 k'=k/\(Instr.checkKey ms.isEmpty 10000 kt k').run P w = .ok () w /\
 match o with
 | some j=>∃ m,ms[j]?=some m/\(Instr.findKey kt k' ms.toList).run P w = .ok (some (j,m.val)) w
 | none=>(Instr.findKey kt k' ms.toList).run P w = .ok none w:=by
 unfold rfind at he
 split at he
 case isFalse=>cases he
 case isTrue hs =>
  simp only[Bool.and_eq_true] at hs;have hkk:=scal_eq 8 k k' hs.1 hk;subst hkk;have hempty:ms.isEmpty=es.isEmpty:=by
   cases es with
   | nil=>simp at hlen;simp [Array.isEmpty,<- hlen]
   | cons=>simp at hlen;simp [Array.isEmpty,<- hlen]
  have hkeys:∀ (j:Nat) (kv:Value × Value) (m:MapEntry),es[j]?=some kv->ms.toList[j]?=some m->m.key=kv.1:=fun j kv m a b =>
   scal_eq 8 _ _ (List.all_eq_true.1 hs.2 kv (List.mem_of_getElem? a)) (hes j kv m a (by simpa using b)).1
  have hl:es.length=ms.toList.length:=by simpa using hlen
  have main:∀ o',pureRun P (Instr.findKey kt k' (es.map entryOf))=some o' ->
   match o' with
   | some (j,_)=>∃ m,ms[j]?=some m/\(Instr.findKey kt k' ms.toList).run P w = .ok (some (j,m.val)) w
   | none=>(Instr.findKey kt k' ms.toList).run P w = .ok none w:=by
   intro o' ho;simp only[Instr.findKey,pureRun_bind] at ho;cases hu:pureRun P (underlying kt) with
   | none=>simp [hu] at ho
   | some d =>
     have hur:=pureRun_run hu w;simp only[hu,Option.bind_some] at ho;have hn:=findNow_congr (kind:=d) (k:=k') es ms.toList 0 hl hkeys;simp only[Instr.findKey,Sem.run_bind,hur,Result.andThen_ok]
     revert hn ho
     cases hf:Instr.findNow d k' (es.map entryOf) 0 with
     | none =>
       intro ho hn;rw[hn];simp only at ho ⊢;have:=findAsking_congr (P:=P) (w:=w) es ms.toList 0 hl hkeys o' ho
       revert this
       cases o' with
       | none=>exact fun h=>h
       | some p =>
         obtain ⟨j,v⟩:=p;rintro ⟨q,m,rfl,h1,h2⟩;rw[Z9] at h2 ⊢;exact ⟨m,by simpa using h1,h2⟩
     | some fo =>
       cases fo with
       | none=>intro ho hn;cases ho;rw[hn];rfl
       | some p =>
         obtain ⟨j,v⟩:=p;rintro ho ⟨q,m,rfl,h1,h2⟩;cases ho;rw[h2,Z9];exact ⟨m,by simpa using h1,rfl⟩
  refine ⟨rfl,?_⟩
  split at he
  ·rename_i u j v h1 h2
   cases he;rw[hempty];exact ⟨pureRun_run h1 w,main _ h2⟩
  ·rename_i u h1 h2
   cases he;rw[hempty];exact ⟨pureRun_run h1 w,main _ h2⟩
  ·cases he
def hmap (h:AH) (b:Nat):Option (List (Value × Value)) :=
 match h[b]? with
 | some (.map es)=>some es
 | _=>none
theorem hmap_ok {P:Program} {r:Rho} {h:AH} {w:World} (hr:HR P r h w.heap) {b:Nat} {es:List (Value × Value)} (hc:hmap h b=some es) {x:Loc} (hb:r b=some x) :
 ∃ ms clock,w.heap[x.blk]?=some (.map ms clock)/\es.length=ms.size /\ ∀ (i:Nat) (kv:Value × Value) (m:MapEntry),es[i]?=some kv->ms[i]?=some m->VR r kv.1 m.key/\VR r kv.2 m.val:=by
 unfold hmap at hc
 split at hc
 ·rename_i es' hB
  cases hc;obtain ⟨x,hx,ces,clock,h1,h2,h3,h4⟩:=hr.blk b _ hB rfl;rw[hb] at hx;cases hx;exact ⟨ces,clock,h1,h3,h4⟩
 ·cases hc
theorem run_getMap {P:Program} {w:World} {g:Nat} {ms:Array MapEntry} {clock:Nat} (h:w.heap[g]?=some (.map ms clock)):(getObj g).run P w = .ok (.map ms clock) w:=by
 simp [getObj,Sem.run,h]
def rlookup (P:Program) (h:AH) (t:TypeId) (x k:Value) (ok:Bool):Option RRes :=
 match P.underlying t with
 | some (.map kt e) =>
   match (match x with | .map none=>some [] | .map (some b)=>hmap h b|_=>none) with
   | some es =>
     match rfind P kt k es with
     | some (some j)=>(es[j]?).map fun kv=>(if ok then .tuple #[kv.2,.bool true] else kv.2,none)
     | some none=>(zeroT P e).map fun z=>(if ok then .tuple #[z,.bool false] else z,none)
     | none=>none
   | none=>none
 | _=>none
theorem rlookup_end {P:Program} {r:Rho} {w:World} {kt e:TypeId} {k k':Value} (hk:VR r k k') {ok:Bool} {es:List (Value × Value)} {ms:Array MapEntry} (hlen:es.length=ms.size)
 (hent:∀ (i:Nat) (kv:Value × Value) (m:MapEntry),es[i]?=some kv->ms[i]?=some m->VR r kv.1 m.key/\VR r kv.2 m.val) {res:RRes}
 (he:(match rfind P kt k es with
  | some (some j)=>(es[j]?).map fun kv=>(if ok then .tuple #[kv.2,.bool true] else kv.2,none)
  | some none=>(zeroT P e).map fun z=>(if ok then .tuple #[z,.bool false] else z,none)
  | none=>none:Option RRes)=some res) :
 ∃ v',VR r res.1 v'/\res.2=none/\(Instr.checkKey ms.isEmpty 10000 kt k').run P w = .ok () w /\
   ((∃ j u,(Instr.findKey kt k' ms.toList).run P w = .ok (some (j,u)) w/\v'=if ok then .tuple #[u,.bool true] else u) \/
    (∃ z,(Instr.findKey kt k' ms.toList).run P w = .ok none w/\(zeroValue e).run P w = .ok z w/\v'=if ok then .tuple #[z,.bool false] else z)):=by
 split at he
 ·rename_i j hf
  obtain ⟨rfl,hck,mm,hm,hfk⟩:=rfind_ok (w:=w) hk hlen hent hf;cases hkv:es[j]? with
  | none=>simp [hkv] at he
  | some kv =>
    simp only[hkv,Z0,Z1.injEq] at he;subst he;have hv:=(hent j kv mm hkv hm).2;refine ⟨_,?_,rfl,hck,.inl ⟨j,mm.val,hfk,rfl⟩⟩;cases ok with
    | true=>exact VR.tuple_l (.cons hv (.cons (.bool true) (.nil r)))
    | false=>exact hv
 ·rename_i hf
  obtain ⟨rfl,hck,hfk⟩:=rfind_ok (w:=w) hk hlen hent hf;cases hz:zeroT P e with
  | none=>simp [hz] at he
  | some z =>
    simp only[hz,Z0,Z1.injEq] at he;subst he;obtain ⟨hz1,hz2⟩:=run_zeroT hz w;have hv:VR r z z:=scal_refl 8 z hz2;refine ⟨_,?_,rfl,hck,.inr ⟨z,hfk,hz1,rfl⟩⟩;cases ok with
    | true=>exact VR.tuple_l (.cons hv (.cons (.bool false) (.nil r)))
    | false=>exact hv
 ·cases he
theorem rlookup_ok {P:Program} {r:Rho} {h:AH} {w:World} (hr:HR P r h w.heap) {t:TypeId} {x x' k k':Value} (hx:VR r x x') (hk:VR r k k') {ok:Bool} (m:Nat) {res:RRes}
 (he:rlookup P h t x k ok=some res):RdV P r w m (Instr.lookup t x' k' ok) res:=by
 unfold rlookup at he
 split at he
 case h_2=>cases he
 case h_1 kt e hu =>
  split at he
  case h_2=>cases he
  case h_1 es hes =>
   obtain ⟨v,B⟩:=res
   split at hes
   ·cases hx;cases hes
    obtain ⟨v',h1,rfl,h3,⟨j,u,h4,rfl⟩|⟨z,h4,h5,rfl⟩⟩:=rlookup_end (ms:=#[]) (w:=w) hk rfl (fun i kv m a=>by simp at a) he
    ·exact ⟨_,w,by simp only[Instr.lookup,Sem.run_bind,run_underlying hu,Result.andThen_ok,h3,h4,Sem.run_pure],.refl w,h1⟩
    ·exact ⟨_,w,by simp only[Instr.lookup,Sem.run_bind,run_underlying hu,Result.andThen_ok,h3,h4,h5,Sem.run_pure],.refl w,h1⟩
   ·obtain ⟨g,hb,_,rfl⟩:=hx.map_inv
    obtain ⟨ms,clock,g1,g2,g3⟩:=hmap_ok hr hes hb;obtain ⟨v',h1,rfl,h3,⟨j,u,h4,rfl⟩|⟨z,h4,h5,rfl⟩⟩:=rlookup_end (w:=w) hk g2 g3 he
    ·exact ⟨_,w,by simp only[Instr.lookup,Sem.run_bind,run_underlying hu,Result.andThen_ok,run_getMap g1,h3,h4,Sem.run_pure],.refl w,h1⟩
    ·exact ⟨_,w,by simp only[Instr.lookup,Sem.run_bind,run_underlying hu,Result.andThen_ok,run_getMap g1,h3,h4,h5,Sem.run_pure],.refl w,h1⟩
   ·cases hes
end Go.Eng

namespace Go.Eng
def methF (P:Program) (t:TypeId) (name:String):Option FuncId :=
 match P.info? t with
 | some ti=>match ti.methods.find? (·.name == name) with
   | some m=>match m.path.toList,m.func with
     | [],some (f,ptr)=>match P.underlying t with
       | some (.pointer _)=>if ptr then some f else none
       | some _=>if ptr then none else some f
       | none=>none
     | _,_=>none
   | none=>none
 | none=>none
theorem method_run {P:Program} {t:TypeId} {name:String} {g:FuncId} (h:methF P t name=some g) (n:Nat) (v:Value) (w:World):(method (n+1) t v name).run P w = .ok (g,v) w:=by
 unfold methF at h
 split at h
 ·rename_i ti hi
  split at h
  ·rename_i m hm
   split at h
   ·rename_i f ptr hp hf
    split at h
    ·rename_i e hu
     cases ptr with
     | false=>simp at h
     | true =>
       simp at h;subst h;simp [method,typeInfo,hi,hm,hp,follow,hf,receiverAt,underlying,hu,Place.get]
    ·rename_i d hne hu
     cases ptr with
     | true=>simp at h
     | false =>
       simp at h;subst h;cases d<;>first|(exact (hne _ rfl).elim)|(exact (hne _ hu).elim)|simp [method,typeInfo,hi,hm,hp,follow,hf,receiverAt,underlying,hu,Place.get]
    ·cases h
   ·cases h
  ·cases h
 ·cases h
theorem nilAhead_run {P:Program} {t:TypeId} {name:String} (h:(methF P t name).isSome=true) (n:Nat) (v:Value) (w:World):(nilAhead (n+1) t v name).run P w = .ok (some false) w:=by
 obtain ⟨g,h⟩:=Option.isSome_iff_exists.1 h;unfold methF at h
 split at h
 ·rename_i ti hi
  split at h
  ·rename_i m hm
   split at h
   ·rename_i f ptr hp hf
    split at h
    ·rename_i e hu
     cases ptr with
     | false=>simp at h
     | true=>simp [nilAhead,typeInfo,hi,hm,hp,followBlind,hf]
    ·rename_i d hne hu
     cases ptr with
     | true=>simp at h
     | false =>
       cases d<;>first|(exact (hne _ rfl).elim)|(exact (hne _ hu).elim)|simp [nilAhead,typeInfo,hi,hm,hp,followBlind,hf,underlying,hu]
    ·cases h
   ·cases h
  ·cases h
 ·cases h
def notSel:Op->Bool
 | .select _ _=>false
 | _=>true
def okScal:Option Value->Bool
 | some v=>scal 8 v
 | none=>false
def rscal (P:Program) (g:Operand->Option Value) (o:Oper):Option RRes :=
 if notSel o.op && o.op.operands.toList.all (fun x=>okScal (g x)) then
  match pureRun P (execOp (fun x=>(g x).getD undef) o) with
  | some (.value v)=>if scal 8 v then some (v,none) else none
  | _=>none
 else none
theorem rscal_ok {P:Program} {r:Rho} {g:Operand->Option Value} {a:Act} (her:GR r g a) {w:World} {o:Oper} (m:Nat) {res:RRes} (he:rscal P g o=some res) :
 RdOk P r w m (execOp a.eval o) res:=by
 unfold rscal at he
 split at he
 case isFalse=>cases he
 case isTrue hc =>
  simp only[Bool.and_eq_true] at hc;obtain ⟨hsel,hall⟩:=hc
  split at he
  case h_2=>cases he
  case h_1 v hv =>
   split at he
   case isFalse=>cases he
   case isTrue hs =>
    cases he;have hcongr:execOp a.eval o=execOp (fun x=>(g x).getD undef) o:=by
     refine execOp_congr o (fun cs b heq=>by rw[heq] at hsel;cases hsel) fun x hx=>?_
     have h1:=List.all_eq_true.1 hall x (by simpa using hx);cases hxv:g x with
     | none=>simp [okScal,hxv] at h1
     | some u =>
       simp only[okScal,hxv] at h1;exact scal_eq 8 u _ h1 (her _ _ hxv)
    rw[hcongr];exact ⟨v,w,pureRun_run hv w,.refl w,scal_refl 8 v hs⟩
def rlen (P:Program) (h:AH) (t:TypeId):Value->Option RRes
 | .slice _ n _=>match P.underlying t with
   | some (.slice _)=>some (.int .i64 n,none)
   | _=>none
 | .map (some b)=>match P.underlying t,hmap h b with
   | some (.map _ _),some es=>some (.int .i64 es.length,none)
   | _,_=>none
 | _=>none
theorem rlen_ok {P:Program} {r:Rho} {h:AH} {w:World} (hr:HR P r h w.heap) {t ty:TypeId} {v v':Value} (hv:VR r v v') (m:Nat) {res:RRes} (he:rlen P h t v=some res) (ts:Array TypeId) (hts:ts[0]?=some t) :
 RdV P r w m (Builtin.len_ ts ty #[v']) res:=by
 unfold rlen at he
 split at he
 ·rename_i a n c
  split at he
  case h_2=>cases he
  case h_1 e hu =>
   cases he;have:∃ a' c',v' = .slice a' n c':=by
    cases a with
    | none=>obtain ⟨rfl,rfl,rfl⟩:=hv.snil_inv;exact ⟨_,_,rfl⟩
    | some a =>
      rcases hv.slice_inv with ⟨x,c',_,_,rfl,_,_,_⟩|⟨rfl,rfl,a',rfl⟩
      ·exact ⟨_,_,rfl⟩
      ·exact ⟨_,_,rfl⟩
   obtain ⟨a',c',rfl⟩:=this;exact ⟨_,w,by simp [Builtin.len_,hts,run_underlying hu];rfl,.refl w,.int _ _⟩
 ·rename_i b
  split at he
  case h_2=>cases he
  case h_1 k e es hu hm =>
   cases he;obtain ⟨g,hb,_,rfl⟩:=hv.map_inv;obtain ⟨ms,clock,g1,g2,g3⟩:=hmap_ok hr hm hb;exact ⟨_,w,by simp only[Builtin.len_,hts,Z7,List.getElem?_cons_zero,Sem.run_bind,run_underlying hu,Result.andThen_ok,run_getMap g1,Sem.run_pure];rfl,.refl w,by rw[<- g2];exact .int _ _⟩
 ·cases he
def asBytes:List Value->Option (List Int)
 | []=>some []
 | .int .u8 n::l=>(asBytes l).map (n :: ·)
 | _=>none
theorem asBytes_ok {r:Rho}:∀ {l l':List Value} {ns:List Int},asBytes l=some ns->VL r l l'->l'=ns.map (Value.int .u8):=by
 intro l
 induction l with
 | nil=>intro l' ns h k;cases h;rw[k.nil_left];rfl
 | cons v l ih =>
   intro l' ns h k;obtain ⟨v',m,rfl,k1,k2⟩:=k.head;unfold asBytes at h
   split at h
   ·rename_i e;cases e
   ·rename_i n l2 e
    cases e;cases hl:asBytes l with
    | none=>simp [hl] at h
    | some ms=>simp [hl] at h;subst h;rw[ih hl k2,k1.int_inv];rfl
   ·cases h
def pushAll (ns:List Int):ByteArray:=ns.foldl (fun r n=>r.push (UInt8.ofNat n.toNat)) ByteArray.empty
def ruc (P:Program) (h:AH) (src dst:TypeId):Option Addr->Option RRes
 | none=>match P.underlying src,P.underlying dst with
   | some (.pointer _),some .unsafePointer=>some (.pointer none,none)
   | some .unsafePointer,some (.pointer _)=>some (.pointer none,none)
   | _,_=>none
 | some ⟨b,o,none⟩=>match P.underlying src,P.underlying dst with
   | some (.pointer t),some .unsafePointer=>match sizeT P t,hcell h b with
     | some (_+1),some cs=>if o<cs.length then some (.pointer (some ⟨b,o,none⟩),none) else none
     | _,_=>none
   | some .unsafePointer,some (.pointer u)=>match h[b]?,sizeT P u with
     | some (.cells true _ _ _ e cs),some (k+1)=>if o=0/\e=u/\bldT P e=true/\k+1<=cs.length then some (.pointer (some ⟨b,o,none⟩),none) else none
     | _,_=>none
   | _,_=>none
 | _=>none
theorem liesAt_one {P:Program} {e:TypeId} {k count:Nat} (hs:sizeT P e=some (k+1)) (hc:1<=count):liesAt P P.depth e count 0 e 1=true:=by
 have h1:P.cellsOf e=k+1:=by
  unfold sizeT at hs;cases hi:P.info? e with
  | none=>simp [hi] at hs
  | some i=>simp [hi] at hs;simp [Program.cellsOf,hi,hs]
 have hd:P.depth=(2*(P.types.size+Made.depth)+1)+1:=rfl;rw[hd];simp only[liesAt,Bool.or_eq_true]
 left
 rw[hd];simp [rowAt,h1,hc,sameLayout]
theorem ruc_ok {P:Program} {r:Rho} {h:AH} {w:World} (hr:HR P r h w.heap) {src dst:TypeId} {p:Option Addr} {v':Value} (hv:VR r (.pointer p) v') (m:Nat) {res:RRes} (he:ruc P h src dst p=some res) :
 RdV P r w m (convert src dst v') res:=by
 unfold ruc at he
 split at he
 ·cases hv
  split at he
  ·rename_i t hs hd
   cases he;exact ⟨.pointer none,w,by simp [convert,run_underlying hs,run_underlying hd,Conv.unsafePointer],.refl w,.pnil⟩
  ·rename_i t hs hd
   cases he;exact ⟨.pointer none,w,by simp [convert,run_underlying hs,run_underlying hd,Conv.unsafePointer],.refl w,.pnil⟩
  ·cases he
 ·rename_i b o
  obtain ⟨x,hb,rfl⟩:=hv.ptr_inv
  split at he
  ·rename_i t hs hd
   split at he
   ·rename_i k cs hsz hc
    split at he
    ·rename_i hlt
     cases he;unfold hcell at hc
     split at hc
     ·rename_i own solo grp del e cs' hB
      cases hc;obtain ⟨x',hx,cur,e',fr,ho,_,_,hsz2,_⟩:=hr.blk b _ hB rfl;rw[hb] at hx;cases hx;have hsh:w.shape? x.blk=some (e',cur.size):=by simp [World.shape?,ho]
      refine ⟨.pointer (some ⟨x.blk,o+x.off,none⟩),w,?_,.refl w,.ptr hb⟩;have:¬ cur.size<=o+x.off:=by omega
      simp [convert,run_underlying hs,run_underlying hd,Conv.unsafePointer,Conv.seenAt,viewAt,hsh,cellsIn,this,run_sizeT hsz]
     ·cases hc
    ·cases he
   ·cases he
  ·rename_i u hs hd
   split at he
   ·rename_i solo grp del e cs k hB hsz
    split at he
    ·rename_i hlt
     obtain ⟨h0,h1,h2,h3⟩:=hlt;cases he;subst h0;subst h1;obtain ⟨x',hx,cur,e',fr,ho,hown,_,hsz2,_⟩:=hr.blk b _ hB rfl;rw[hb] at hx;cases hx;obtain ⟨rfl,_,_,hoff⟩:=hown rfl;have hsh:w.shape? x.blk=some (e',cur.size):=by simp [World.shape?,ho]
     have h4:P.cellsOf e'=k+1:=by
      unfold sizeT at hsz;cases hi:P.info? e' with
      | none=>simp [hi] at hsz
      | some i=>simp [hi] at hsz;simp [Program.cellsOf,hi,hsz]
     have hl:=liesAt_one (P:=P) (count:=cur.size / P.cellsOf e') hsz (by rw[h4];exact (Nat.one_le_div_iff (by omega)).2 (by omega));refine ⟨.pointer (some ⟨x.blk,0+x.off,none⟩),w,?_,.refl w,.ptr hb⟩;rw[hoff h2];simp [convert,run_underlying hs,run_underlying hd,Conv.unsafePointer,Conv.seenAt,viewAt,hsh,variablesAt,hl,run_sizeT hsz]
    ·cases he
   ·cases he
  ·cases he
 ·cases he
def rconvert (P:Program) (h:AH) (m:Nat) (src dst:TypeId):Value->Option RRes
 | .slice (some ⟨b,o,none⟩) n c =>
   match P.underlying src,P.underlying dst with
   | some (.slice e),some .string =>
     match P.underlying e with
     | some (.int .u8) =>
       if n=0 then some (.string ByteArray.empty,none) else
       match hcell h b with
       | some cs=>if o+n<=cs.length then (asBytes ((cs.drop o).take n)).map fun ns=>(.string (pushAll ns),none) else none
       | none=>none
     | _=>none
   | _,_=>none
 | .string s =>
   match P.underlying src,P.underlying dst with
   | some _,some (.slice e) =>
     match P.underlying e,sizeT P e with
     | some (.int .u8),some 1=>some (.slice (some ⟨m,0,none⟩) s.size s.size,some (.cells false true m 0 e (s.data.toList.map fun b=>Value.int .u8 b.toNat)))
     | _,_=>none
   | _,_=>none
 | .pointer p=>ruc P h src dst p
 | _=>none
theorem grownCap_ge (w:World) (need old:Nat) (e:TypeId):need<=grownCap w need old e:=by
 exact Nat.le_add_right _ _
theorem rconvert_ok {P:Program} {r:Rho} {h:AH} {w:World} (hr:HR P r h w.heap) {src dst:TypeId} {v v':Value} (hv:VR r v v') {m:Nat} (hm:r m=none) {res:RRes} (he:rconvert P h m src dst v=some res) :
 RdV P r w m (convert src dst v') res:=by
 unfold rconvert at he
 split at he
 case h_1 b o n c =>
  split at he
  case h_2=>cases he
  case h_1 e hs hd =>
   split at he
   case h_2=>cases he
   case h_1 hu =>
    split at he
    case isTrue h0 =>
     cases he;subst h0;have:∃ a c',v' = .slice (some a) 0 c':=by
      rcases hv.slice_inv with ⟨x,c',_,_,rfl,_,_,_⟩|⟨_,rfl,a',rfl⟩
      ·exact ⟨_,_,rfl⟩
      ·exact ⟨_,_,rfl⟩
     obtain ⟨a,c',rfl⟩:=this;refine ⟨_,w,?_,.refl w,.string _⟩;rw[run_convert_bytes_string w src dst e (some a) 0 c' hs hu hd,run_bytesToString (ns:=[]) w a 0 c' (by simp [loadCells,loadCellsFrom])]
     rfl
    case isFalse h0 =>
     split at he
     case h_2=>cases he
     case h_1 cs hc =>
      split at he
      case isFalse=>cases he
      case isTrue hl =>
       cases hns:asBytes ((cs.drop o).take n) with
       | none=>simp [hns] at he
       | some ns =>
         simp only[hns,Z0,Z1.injEq] at he;subst he
         rcases hv.slice_inv with ⟨⟨g,d,N,S⟩,c',hb,_,rfl,_,_,_⟩|⟨rfl,_,_⟩
         ·obtain ⟨vs,hvl,hcs⟩:=hcell_ok hr hc hb
          have hlen:((vs.drop o).take n).length=n:=by have:=hvl.1;simp;omega
          have hl2:=loadCells_off (P:=P) (w:=w) (g:=g) (o:=o+d) (vs:=(vs.drop o).take n) (fun j v' hj=>by
           rw[List.getElem?_take] at hj
           split at hj
           ·rw[List.getElem?_drop] at hj
            have:=hcs _ _ hj;rw[show o+d+j=d+(o+j) by omega];exact this
           ·cases hj)
          rw[hlen,asBytes_ok hns ((hvl.drop o).take n)] at hl2;refine ⟨_,w,?_,.refl w,.string _⟩;rw[run_convert_bytes_string w src dst e _ n c' hs hu hd];exact run_bytesToString w _ n c' ns hl2
         ·exact absurd rfl h0
 case h_2 s =>
  cases hv.string_inv
  split at he
  case h_2=>cases he
  case h_1 u e hs hd =>
   split at he
   case h_2=>cases he
   case h_1 hu hsz =>
    cases he;have hrun:=Lib.run_convert_string_bytes (P:=P) w src dst e s hs hd hu;refine ⟨_,_,.cells (Lib.bytesCells w e s) e ((Lib.bytesCells w e s).size,(Lib.bytesCells w e s).size+1),⟨w.heap.size,0,(Lib.bytesCells w e s).size,1⟩,hrun,rfl,rfl,rfl,?_,rfl,?_,rfl,rfl,?_⟩
    ·apply Array.ext_getElem?
     intro i;rw[Array.getElem?_push]
     by_cases hi:i=w.heap.size
     ·subst hi;rw[Lib.bytesWorld_at_new];simp
     ·rw[if_neg hi]
      by_cases hlt:i<w.heap.size
      ·exact Lib.bytesWorld_at_old w e s i hlt
      ·have hsz:=Lib.bytesWorld_size w e s
       rw[Z6 (by omega),Z6 (by omega)]
    ·refine ⟨_,_,_,rfl,fun h=>(by cases h),hsz,?_,fun i v v' a b=>?_⟩
     ·simp [Lib.bytesCells]
     ·simp only[Z9] at b
      have hi:i<s.data.toList.length:=by
       have:=(List.getElem?_eq_some_iff.1 a).1;simpa using this
      have hi':i<s.data.size:=by simpa using hi
      rw[List.getElem?_map,List.getElem?_eq_getElem hi] at a;cases a;rw[Lib.bytesCells,Array.getElem?_append_left (by simpa using hi'),Array.getElem?_map,Array.getElem?_eq_getElem hi'] at b;cases b;exact .int _ _
    ·exact VR.slice (o:=0) (Rho.upd_same _ _ _) (grownCap_ge w s.size 0 e) (Za _) (by have:=grownCap_ge w s.size 0 e;simp [Lib.bytesCells];have h2:s.data.size=s.size:=rfl;omega)
 case h_3 p=>exact ruc_ok hr hv m he
 case h_4=>cases he
def rtypeAssert (P:Program) (asserted:TypeId) (ok:Bool) (x:Value):Option RRes :=
 let holds (v:Value):Option RRes:=some (if ok then .tuple #[v,.bool true] else v,none)
 let fails:Option RRes:=if ok then (zeroT P asserted).map fun z=>(.tuple #[z,.bool false],none) else none
 match P.underlying asserted,x with
 | some (.interface _),.nilIface=>fails
 | some (.interface want),.iface t v =>
   match P.info? t with
   | some i=>match Instr.missingMethod want i.methods with
     | none=>holds (.iface t v)
     | some _=>fails
   | none=>none
 | some _,.nilIface=>fails
 | some _,.iface t v=>if t=asserted then holds v else fails
 | _,_=>none
theorem rtypeAssert_ok {P:Program} {r:Rho} {w:World} {xt asserted:TypeId} {ok:Bool} {x x':Value} (hx:VR r x x') (m:Nat) {res:RRes} (he:rtypeAssert P asserted ok x=some res) :
 RdV P r w m (Instr.typeAssert x' xt asserted ok) res:=by
 have hold:∀ {v v':Value},VR r v v'->RdV P r w m (pure (if ok then .tuple #[v',.bool true] else v')) (if ok then .tuple #[v,.bool true] else v,none):=by
  intro v v' h;refine RdV.pure ?_;cases ok with
  | true=>exact VR.tuple_l (.cons h (.cons (.bool true) (.nil r)))
  | false=>exact h
 have fail:∀ {res:RRes} {s:Sem Value},(if ok then (zeroT P asserted).map fun z=>((.tuple #[z,.bool false]:Value),(none:Option Blk)) else none)=some res->RdV P r w m (if ok then (do pure (.tuple #[<- zeroValue asserted,.bool false])) else s) res:=by
  intro res s h;cases ok with
  | false=>simp at h
  | true =>
    cases hz:zeroT P asserted with
    | none=>simp [hz] at h
    | some z =>
      simp [hz] at h;subst h;obtain ⟨h1,h2⟩:=run_zeroT hz w;exact ⟨_,w,by simp [h1],.refl w,VR.tuple_l (.cons (scal_refl 8 z h2) (.cons (.bool false) (.nil r)))⟩
 have via:∀ {d:TypeDesc} {s:Sem Value} {f:TypeDesc->Sem Value} {res:RRes},P.underlying asserted=some d->f d=s->RdV P r w m s res->RdV P r w m (underlying asserted >>= f) res:=by
  intro d s f res hu hf h;obtain ⟨v,_|B⟩:=res
  ·obtain ⟨v',w',h1,h2⟩:=h
   exact ⟨v',w',by rw[Sem.run_bind,run_underlying hu,Result.andThen_ok,hf,h1],h2⟩
  ·obtain ⟨v',w',o,x,h1,h2⟩:=h
   exact ⟨v',w',o,x,by rw[Sem.run_bind,run_underlying hu,Result.andThen_ok,hf,h1],h2⟩
 unfold rtypeAssert at he
 dsimp only at he
 split at he
 ·rename_i u hu
  cases hx;exact via hu rfl (fail he)
 ·rename_i want t v hu
  obtain ⟨v',rfl,hv⟩:=hx.iface_inv
  split at he
  case h_2=>cases he
  case h_1 i hi =>
   split at he
   ·rename_i hmm
    cases he;refine via hu rfl ?_;have:=hold (VR.iface (t:=t) hv);obtain ⟨a,b,c,d⟩:=this;exact ⟨a,b,by simp [typeInfo,hi,hmm];simpa using c,d⟩
   ·rename_i s hmm
    refine via hu rfl ?_;obtain ⟨vv,_|B⟩:=res
    ·obtain ⟨a,b,c,d⟩:=fail (s:=runtimePanic (.typeAssertion none (some t) asserted s)) he
     exact ⟨a,b,by simp [typeInfo,hi,hmm];simpa using c,d⟩
    ·cases ok<;>simp at he
 ·rename_i d hd hu
  cases hx;refine via hu ?_ (fail (s := runtimePanic (.typeAssertion (some xt) none asserted "")) he)
  cases d<;>first|rfl|exact absurd rfl (hd _)
 ·rename_i d t v hd hu
  obtain ⟨v',rfl,hv⟩:=hx.iface_inv
  split at he
  ·rename_i ht
   cases he;refine via hu (s:=pure (if ok then .tuple #[v',.bool true] else v')) ?_ (hold hv);subst ht;cases d<;>first|(simp;done)|exact absurd rfl (hd _)
  ·rename_i ht
   refine via hu ?_ (fail (s := runtimePanic (.typeAssertion (some xt) (some t) asserted "")) he)
   cases d<;>first|(simp [ht];done)|exact absurd rfl (hd _)
 ·cases he
def orElse (a:Option RRes) (b:Option RRes):Option RRes :=
 match a with
 | some x=>some x
 | none=>b
def plain (v:Option Value):Option RRes:=v.map fun x=>(x,none)
def evo (g:Operand->Option Value):Option Operand->Option (Option Value)
 | none=>some none
 | some x=>(g x).map some
def rsdata:Value->Option RRes
 | .slice none 0 0=>some (.pointer none,none)
 | .slice (some ⟨b,o,none⟩) _ c=>if c=0 then none else some (.pointer (some ⟨b,o,none⟩),none)
 | _=>none
theorem rsdata_ok {P:Program} {r:Rho} {w:World} {v v':Value} (hv:VR r v v') (m:Nat) {res:RRes} (he:rsdata v=some res) (ts:Array TypeId) (ty:TypeId) :
 RdV P r w m (Builtin.unsafeSliceData_ ts ty #[v']) res:=by
 unfold rsdata at he
 split at he
 ·cases he;cases hv
  exact ⟨.pointer none,w,Lib.run_unsafeSliceData_nil w ts ty 0 0,.refl w,.pnil⟩
 ·split at he
  ·cases he
  ·rename_i hc
   cases he
   rcases hv.slice_inv with ⟨x,c',hb,_,rfl,h1,_,_⟩|⟨_,rfl,_⟩
   ·exact ⟨_,w,Lib.run_unsafeSliceData_row w ts ty _ _ _ (by omega),.refl w,.ptr hb⟩
   ·exact absurd rfl hc
 ·cases he
def rcall (P:Program) (g:Operand->Option Value) (h:AH) (o:Oper) (c:Call):Option RRes :=
 match c.callee with
 | .builtin .len=>match c.args.toList,c.argTypes.toList with
   | [x],[t]=>orElse ((g x).bind (rlen P h t)) (rscal P g o)
   | _,_=>none
 | .builtin .min=>rscal P g o
 | .builtin .max=>rscal P g o
 | .builtin .cap=>rscal P g o
 | .builtin .unsafeSliceData=>match c.args.toList with
   | [x]=>(g x).bind rsdata
   | _=>none
 | _=>none
def aread (P:Program) (g:Operand->Option Value) (h:AH) (m:Nat) (o:Oper):Option RRes :=
 match o.op with
 | .move x=>plain (g x)
 | .assign x=>plain (g x)
 | .pick c a b=>match g c with
   | some (.bool true)=>plain (g a)
   | some (.bool false)=>plain (g b)
   | _=>none
 | .alloc t=>ralloc P m t
 | .box t x=>(g x).bind (rbox P m t)
 | .build t parts=>(evp g parts.toList).bind (rbuild P t)
 | .buildSlice t len parts=>(evp g parts.toList).bind (rbuildSlice P m t len)
 | .load t x=>(g x).bind (rload P h t)
 | .nilCheck x=>match g x with
   | some (.pointer (some a))=>some (.pointer (some a),none)
   | some (.func (.func f) a b)=>some (.func (.func f) a b,none)
   | some (.func (.method nm) a b)=>match a.toList with
     | .iface t _::_=>if (methF P t nm).isSome then some (.func (.method nm) a b,none) else none
     | _=>none
   | _=>none
 | .binOp op t x y _=>orElse (rscal P g o) (match g x,g y with
   | some u,some v=>rcmp P op t u v
   | _,_=>none)
 | .unOp _ _ _=>rscal P g o
 | .convert src dst x=>orElse ((g x).bind (rconvert P h m src dst)) (rscal P g o)
 | .makeInterface t x=>(g x).bind (rmakeInterface P t)
 | .makeFunc fn first captured=>match evs g first.toList,evs g captured.toList with
   | some f,some c=>some (.func fn f.toArray c.toArray,none)
   | _,_=>none
 | .makeMap _ none=>some (rmakeMap m)
 | .makeSlice t l c=>match g l,g c with
   | some u,some v=>rmakeSlice P m t u v
   | _,_=>none
 | .slice t x lo hi mx=>orElse (match g x,evo g lo,evo g hi,evo g mx with
   | some v,some l,some hh,some k=>rslice P h t v l hh k
   | _,_,_,_=>none) (rscal P g o)
 | .fieldAddr t x f=>(g x).bind (rfieldAddr P t f)
 | .field t x f=>(g x).bind (rfield P t f)
 | .indexAddr t x i=>match g x,g i with
   | some u,some v=>rindexAddr P t u v
   | _,_=>none
 | .index t x i=>orElse (match g x,g i with
   | some u,some v=>rindexAgg P t u v
   | _,_=>none) (rscal P g o)
 | .lookup t x k ok=>match g x,g k with
   | some u,some v=>rlookup P h t u v ok
   | _,_=>none
 | .typeAssert x _ asserted ok=>(g x).bind (rtypeAssert P asserted ok)
 | .extract x i=>(g x).bind (rextract i)
 | .call c=>rcall P g h o c
 | _=>none
theorem orElse_some {a b:Option RRes} {res:RRes} (h:orElse a b=some res):a=some res\/b=some res:=by
 unfold orElse at h;split at h
 ·exact .inl h
 ·exact .inr h
theorem plain_ok {P:Program} {r:Rho} {g:Operand->Option Value} {a:Act} (her:GR r g a) {w:World} {x:Operand} (m:Nat) {res:RRes} (he:plain (g x)=some res) :
 RdOk P r w m (pure (.value (a.eval x))) res:=by
 unfold plain at he;cases hx:g x with
 | none=>simp [hx] at he
 | some v =>
   simp [hx] at he;subst he;exact ⟨_,w,rfl,.refl w,her _ _ hx⟩
theorem evo_ok {r:Rho} {g:Operand->Option Value} {a:Act} (her:GR r g a) {x:Option Operand} {v:Option Value} (h:evo g x=some v):VO r v (x.map a.eval):=by
 cases x with
 | none=>cases h;trivial
 | some x =>
   simp only[evo] at h;cases hx:g x with
   | none=>simp [hx] at h
   | some u=>simp [hx] at h;subst h;exact her _ _ hx
theorem aread_ok {P:Program} {r:Rho} {g:Operand->Option Value} {a:Act} (her:GR r g a) {h:AH} {w:World} (hr:HR P r h w.heap) {m:Nat} (hm:r m=none) {o:Oper} {res:RRes}
 (he:aread P g h m o=some res):RdOk P r w m (execOp a.eval o) res:=by
 have bnd:∀ {x:Operand} {f:Value->Option RRes},(g x).bind f=some res -> ∃ v,g x=some v/\f v=some res:=fun h=>Z2.1 h
 obtain ⟨dst,op,type,pos,after,guard⟩:=o;unfold aread at he
 dsimp only at he
 split at he
 case h_1 x=>exact plain_ok her m he
 case h_2 x=>exact plain_ok her m he
 case h_3 c x y =>
  split at he
  ·rename_i hc
   have:=(her _ _ hc).bool_inv;have k:=plain_ok (P:=P) (w:=w) her m he;obtain ⟨v,_|B⟩:=res
   ·obtain ⟨v',w',h1,h2,h3⟩:=k
    exact ⟨v',w',by simp only[execOp,this];simpa [asBool] using h1,h2,h3⟩
   ·unfold plain at he;cases hx:g x<;>simp [hx] at he
  ·rename_i hc
   have:=(her _ _ hc).bool_inv;have k:=plain_ok (P:=P) (w:=w) her m he;obtain ⟨v,_|B⟩:=res
   ·obtain ⟨v',w',h1,h2,h3⟩:=k
    exact ⟨v',w',by simp only[execOp,this];simpa [asBool] using h1,h2,h3⟩
   ·unfold plain at he;cases hx:g y<;>simp [hx] at he
  ·cases he
 case h_4 t=>show RdOk P r w m (nv (Instr.alloc t true (.tuple #[]))) res;exact (ralloc_ok hm he).value
 case h_5 t x=>obtain ⟨v,h1,h2⟩:=bnd he;show RdOk P r w m (nv (Instr.box t (a.eval x))) res;exact (rbox_ok hm (her _ _ h1) h2).value
 case h_6 t parts =>
  obtain ⟨ps,h1,h2⟩:=Z2.1 he;have:=evp_ok her h1
  show RdOk P r w m (nv (Instr.build t (parts.map fun (i,x)=>(i,a.eval x)))) res
  exact (rbuild_ok (by simpa using this) m h2).value
 case h_7 t len parts =>
  obtain ⟨ps,h1,h2⟩:=Z2.1 he;have:=evp_ok her h1;have hp:PR r ps (parts.map fun (p:Nat × Operand)=>(p.1,a.eval p.2)).toList:=by simpa using this
  have key:=(rbuildSlice_ok (w:=w) hm hp h2).value;simp only[execOp];exact key
 case h_8 t x=>obtain ⟨v,h1,h2⟩:=bnd he;show RdOk P r w m (nv (Instr.loadAt t (a.eval x))) res;exact (rload_ok hr (her _ _ h1) m h2).value
 case h_9 x =>
  split at he
  ·rename_i p hx
   cases he;have hv:=her _ _ hx;obtain ⟨y,e,_⟩:=hv.some_ptr;refine ⟨a.eval x,w,?_,.refl w,hv⟩;simp only[execOp];rw[e];rfl
  ·rename_i f p q hx
   cases he;have hv:=her _ _ hx;obtain ⟨f',c',e,_,_⟩:=hv.func_inv;refine ⟨a.eval x,w,?_,.refl w,hv⟩;simp only[execOp];rw[e];rfl
  ·rename_i nmm p q hx
   split at he
   ·rename_i t v tl hp
    split at he
    ·rename_i hmm
     cases he;have hv:=her _ _ hx;obtain ⟨f',c',e,hf',_⟩:=hv.func_inv;rw[hp] at hf';obtain ⟨u',hu',hvr⟩:∃ u',f'.toList[0]?=some u'/\VR r (.iface t v) u':=by
      cases hl:f'.toList with
      | nil=>rw[hl] at hf';have:=hf'.1;simp at this
      | cons u' l=>rw[hl] at hf';exact ⟨u',rfl,hf'.2 0 _ _ rfl rfl⟩
     obtain ⟨u2,rfl,_⟩:=hvr.iface_inv;have h0:f'[0]?=some (.iface t u2):=by rw[<- Z3];exact hu'
     refine ⟨a.eval x,w,?_,.refl w,hv⟩;simp only[execOp];rw[e];simp only[h0];have hna:(nilAhead (P.types.size+Made.depth) t u2 nmm).run P w = .ok (some false) w:=nilAhead_run hmm (P.types.size+99) u2 w;have hpp:Sem.run P program w = .ok P w:=rfl;simp only[Sem.run_bind,hpp,Result.andThen_ok,hna];simp
    ·cases he
   ·cases he
  ·cases he
 case h_10 op t x y yt =>
  rcases orElse_some he with h1|h1
  ·exact rscal_ok her m h1
  ·split at h1
   ·rename_i u v hu hv
    show RdOk P r w m (nv (do eqGuard op t x y (a.eval x) (a.eval y);binOp op t (a.eval x) (a.eval y))) res
    exact (rcmp_ok (her _ _ hu) (her _ _ hv) m h1 x y).value
   ·cases h1
 case h_11=>exact rscal_ok her m he
 case h_12 src dst x =>
  rcases orElse_some he with h1|h1
  ·obtain ⟨v,h2,h3⟩:=bnd h1;show RdOk P r w m (nv (convert src dst (a.eval x))) res;exact (rconvert_ok hr (her _ _ h2) hm h3).value
  ·exact rscal_ok her m h1
 case h_13 t x=>obtain ⟨v,h1,h2⟩:=bnd he;show RdOk P r w m (nv (Instr.makeInterface t (a.eval x))) res;exact (rmakeInterface_ok (her _ _ h1) h2).value
 case h_14 fn first captured =>
  split at he
  ·rename_i f c hf hc
   cases he;exact ⟨.func fn (first.map a.eval) (captured.map a.eval),w,rfl,.refl w,VR.func_l (by simpa using evs_ok her hf) (by simpa using evs_ok her hc)⟩
  ·cases he
 case h_15 t=>cases he;show RdOk P r w m (nv (Instr.makeMap t none)) _;exact (rmakeMap_ok hm).value
 case h_16 t l c =>
  split at he
  ·rename_i u v hu hv
   show RdOk P r w m (nv (Instr.makeSlice t (a.eval l) (a.eval c))) res
   exact (rmakeSlice_ok hm (her _ _ hu) (her _ _ hv) he).value
  ·cases he
 case h_17 t x lo hi mx =>
  rcases orElse_some he with h1|h1
  ·split at h1
   ·rename_i v l h' k hv hl hh hk
    show RdOk P r w m (nv (Instr.sliceAt t (a.eval x) (lo.map a.eval) (hi.map a.eval) (mx.map a.eval))) res
    exact (rslice_ok hr (her _ _ hv) (evo_ok her hl) (evo_ok her hh) (evo_ok her hk) m h1).value
   ·cases h1
  ·exact rscal_ok her m h1
 case h_18 t x f=>obtain ⟨v,h1,h2⟩:=bnd he;show RdOk P r w m (nv (Instr.fieldAt t (a.eval x) f)) res;exact (rfieldAddr_ok (her _ _ h1) m h2).value
 case h_19 t x f=>obtain ⟨v,h1,h2⟩:=bnd he;show RdOk P r w m (nv (Instr.field t (a.eval x) f)) res;exact (rfield_ok (her _ _ h1) m h2).value
 case h_20 t x i =>
  split at he
  ·rename_i u v hu hv
   show RdOk P r w m (nv (Instr.indexAt t (a.eval x) (a.eval i))) res
   exact (rindexAddr_ok (her _ _ hu) (her _ _ hv) m he).value
  ·cases he
 case h_21 t x i =>
  rcases orElse_some he with h1|h1
  ·split at h1
   ·rename_i u v hu hv
    show RdOk P r w m (nv (Instr.index t (a.eval x) (a.eval i))) res
    exact (rindexAgg_ok (her _ _ hu) (her _ _ hv) m h1).value
   ·cases h1
  ·exact rscal_ok her m h1
 case h_22 t x k ok =>
  split at he
  ·rename_i u v hu hv
   show RdOk P r w m (nv (Instr.lookup t (a.eval x) (a.eval k) ok)) res
   exact (rlookup_ok hr (her _ _ hu) (her _ _ hv) m he).value
  ·cases he
 case h_23 x xt asserted ok=>obtain ⟨v,h1,h2⟩:=bnd he;show RdOk P r w m (nv (Instr.typeAssert (a.eval x) xt asserted ok)) res;exact (rtypeAssert_ok (her _ _ h1) m h2).value
 case h_24 x i=>obtain ⟨v,h1,h2⟩:=bnd he;show RdOk P r w m (nv (Instr.extract (a.eval x) i)) res;exact (rextract_ok (her _ _ h1) m h2).value
 case h_25 c =>
  obtain ⟨callee,args,argTypes⟩:=c;unfold rcall at he
  dsimp only at he
  split at he
  ·split at he
   ·rename_i x t hx ht
    have hx:args = #[x]:=by rw[<- hx]
    have ht:argTypes = #[t]:=by rw[<- ht]
    subst hx;subst ht
    rcases orElse_some he with h1|h1
    ·obtain ⟨v,h2,h3⟩:=bnd h1
     have e:execOp a.eval ⟨dst,.call ⟨.builtin .len,#[x],#[t]⟩,type,pos,after,guard⟩=nv (Builtin.len_ #[t] type #[a.eval x]):=by
      simp [execOp,resolve,invoke,builtin,nv]
     rw[e];exact (rlen_ok (P:=P) (ty:=type) hr (her _ _ h2) m h3 #[t] rfl).value
    ·exact rscal_ok her m h1
   ·cases he
  ·exact rscal_ok her m he
  ·exact rscal_ok her m he
  ·exact rscal_ok her m he
  ·split at he
   ·rename_i x hx
    have hx:args = #[x]:=by rw[<- hx]
    subst hx;obtain ⟨v,h2,h3⟩:=bnd he;have e:execOp a.eval ⟨dst,.call ⟨.builtin .unsafeSliceData,#[x],argTypes⟩,type,pos,after,guard⟩=nv (Builtin.unsafeSliceData_ argTypes type #[a.eval x]):=by
     simp [execOp,resolve,invoke,builtin,nv]
    rw[e];exact (rsdata_ok (her _ _ h2) m h3 argTypes type).value
   ·cases he
  ·cases he
 case h_26=>cases he
end Go.Eng
