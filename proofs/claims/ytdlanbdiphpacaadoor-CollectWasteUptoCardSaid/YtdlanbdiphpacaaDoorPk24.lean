import Derived.Shelf.Strconv.Itoa3
import Derived.Test.YtdlanbdiphpacaaDoorProg
import Derived.Test.YtdlanbdiphpacaaDoorPk23
import Derived.Test.YtdlanbdiphpacaaDoorPk12
import Derived.Lib.ItoaLen
import Derived.Test.YtdlanbdiphpacaaDoorPk21
set_option linter.unusedVariables false
set_option linter.unusedSimpArgs false
open Nat renaming reduceEqDiff -> ZA,reduceAdd -> ZB,reduceMul -> ZC,reduceLeDiff -> ZD,reduceLT -> ZE
open Int renaming reduceEq -> ZF
open List renaming length_append->Z0,length_cons->Z1,length_nil->Z2,append_assoc->Z3,mem_of_getElem?->Z4,mem_cons_of_mem->Z5,getElem?_eq_some_iff->Z6,mem_cons_self->Z7,mem_cons->Z8,mem_append->Z9,getElem?_append_left->Za,length->Zc,mem_of_mem_take->Zd,flatMap_append->Ze,flatMap_cons->Zf,take_add_one->Zg
open Nat renaming le_refl->Zb
namespace Go.Proofs
open Go.Shelf
def Tryd.laysItoa_ren:Go.Shelf.Ren:=⟨fun|171=>31|243=>65|246=>73|283=>81|284=>82|285=>83|286=>84|129=>95|317=>94|318=>96|319=>97|320=>98|337=>99|338=>100|n=>n,fun|3=>3|9=>9|2=>2|4=>4|171=>138|0=>0|53=>139|37=>66|5=>5|173=>142|212=>149|51=>150|20=>20|213=>151|46=>152|232=>158|233=>159|n=>n,fun|17=>0|18=>1|19=>2|n=>n⟩
theorem Tryd.laysItoa:Go.Proofs.LaysM.n171 Tryd.prog Tryd.laysItoa_ren:={
 mixed:=by kernel_rfl
 f129:=Tryd.func95.trans (congrArg some (by kernel_rfl))
 f171:=Tryd.func31.trans (congrArg some (by kernel_rfl))
 f243:=Tryd.func65.trans (congrArg some (by kernel_rfl))
 f246:=Tryd.func73.trans (congrArg some (by kernel_rfl))
 f283:=Tryd.func81.trans (congrArg some (by kernel_rfl))
 f284:=Tryd.func82.trans (congrArg some (by kernel_rfl))
 f285:=Tryd.func83.trans (congrArg some (by kernel_rfl))
 f286:=Tryd.func84.trans (congrArg some (by kernel_rfl))
 f317:=Tryd.func94.trans (congrArg some (by kernel_rfl))
 f318:=Tryd.func96.trans (congrArg some (by kernel_rfl))
 f319:=Tryd.func97.trans (congrArg some (by kernel_rfl))
 f320:=Tryd.func98.trans (congrArg some (by kernel_rfl))
 f337:=Tryd.func99.trans (congrArg some (by kernel_rfl))
 f338:=Tryd.func100.trans (congrArg some (by kernel_rfl))
 t0:=Tryd.underlying0
 a0:=Tryd.isAgg0
 z0:=Tryd.sizeOf0
 v0:=Tryd.zeroValue0
 t2:=Tryd.underlying2
 a2:=Tryd.isAgg2
 z2:=Tryd.sizeOf2
 v2:=Tryd.zeroValue2
 t3:=Tryd.underlying3
 a3:=Tryd.isAgg3
 z3:=Tryd.sizeOf3
 v3:=Tryd.zeroValue3
 t4:=Tryd.underlying4
 a4:=Tryd.isAgg4
 z4:=Tryd.sizeOf4
 v4:=Tryd.zeroValue4
 t5:=Tryd.underlying5
 a5:=Tryd.isAgg5
 z5:=Tryd.sizeOf5
 v5:=Tryd.zeroValue5
 t9:=Tryd.underlying9
 a9:=Tryd.isAgg9
 z9:=Tryd.sizeOf9
 v9:=Tryd.zeroValue9
 t20:=Tryd.underlying20
 a20:=Tryd.isAgg20
 z20:=Tryd.sizeOf20
 v20:=Tryd.zeroValue20
 t37:=Tryd.underlying66
 a37:=Tryd.isAgg66
 z37:=Tryd.sizeOf66
 v37:=Tryd.zeroValue66
 t46:=Tryd.underlying152
 a46:=Tryd.isAgg152
 z46:=Tryd.sizeOf152
 v46:=Tryd.zeroValue152
 t51:=Tryd.underlying150
 a51:=Tryd.isAgg150
 z51:=Tryd.sizeOf150
 v51:=Tryd.zeroValue150
 t53:=Tryd.underlying139
 a53:=Tryd.isAgg139
 z53:=Tryd.sizeOf139
 v53:=Tryd.zeroValue139
 t171:=Tryd.underlying138
 a171:=Tryd.isAgg138
 z171:=Tryd.sizeOf138
 v171:=Tryd.zeroValue138
 t173:=Tryd.underlying142
 a173:=Tryd.isAgg142
 z173:=Tryd.sizeOf142
 v173:=Tryd.zeroValue142
 t212:=Tryd.underlying149
 a212:=Tryd.isAgg149
 z212:=Tryd.sizeOf149
 v212:=Tryd.zeroValue149
 t213:=Tryd.underlying151
 a213:=Tryd.isAgg151
 z213:=Tryd.sizeOf151
 t232:=Tryd.underlying158
 a232:=Tryd.isAgg158
 z232:=Tryd.sizeOf158
 v232:=Tryd.zeroValue158
 t233:=Tryd.underlying159
 a233:=Tryd.isAgg159
 z233:=Tryd.sizeOf159
 v233:=Tryd.zeroValue159
 g17:=by kernel_rfl
 g18:=by kernel_rfl
 g19:=by kernel_rfl
 i0:=by kernel_rfl
 i2:=by kernel_rfl
 i3:=by kernel_rfl
 i4:=by kernel_rfl
 i5:=by kernel_rfl
 i9:=by kernel_rfl
 i20:=by kernel_rfl
 i37:=by kernel_rfl
 i46:=by kernel_rfl
 i51:=by kernel_rfl
 i53:=by kernel_rfl
 i171:=by kernel_rfl
 i173:=by kernel_rfl
 i212:=by kernel_rfl
 i232:=by kernel_rfl
 i233:=by kernel_rfl
 m17:=by kernel_rfl
 m18:=by kernel_rfl
 m19:=by kernel_rfl }
end Go.Proofs

namespace Go.S19
open Go Go.Eng Go.Proofs Go.Scn
theorem itoa_ok (n:Int) (h0 : -9223372036854775808<=n) (h1:n<=9223372036854775807) (h:AH):Gets Tryd.prog 31 [iv n] h (fun res h'=>h'=h/\res = .ret (tv (Lib.itoa n))):=by
 refine Gets.ofCalls (fn:=Tryd.prog.funcs[31]!) hP (by kernel_rfl) (c:=(Tryd.prog.funcs[31]!).body.getD .skip) (by kernel_rfl) rfl rfl (fun W hT=>?_) h;refine Calls.mono (Any.strconv_Itoa (P := Tryd.prog) Tryd.laysItoa n h0 h1 W (tab_pow hT (by kernel_rfl : Tryd.prog.globalNamed "internal/strconv.uint64pow10" = some 0) (by kernel_rfl))) fun e w' he => ?_
 obtain ⟨rfl,k,os,rfl⟩:=he;exact ⟨rfl,below_grow⟩
end Go.S19

namespace Go.S19
open Go Go.Eng Go.Proofs Go.Scn
abbrev bdT:TypeId:=68
structure Bd (h:AH) (b:Nat) (acc:Bs) (a v:Value):Prop where
 own:Own h b bdT [a,v]
 ad:a = .pointer none\/a = .pointer (some ⟨b,0,none⟩)
 ow:Ows h 5 1 v acc.length (acc.map bv)
 ne:∀ q,bk v q->b<q
 nl:acc=[]->v = .slice none 0 0
theorem noesc_ok (v:Value) (h:AH):Gets Tryd.prog 80 [v] h (fun res h'=>h'=h/\res = .ret v):=by
 refine Gets.extB (h':=h) (res:=.ret v) ?_ (Zb _) ⟨rfl,rfl⟩;have hf:Tryd.prog.funcs[(80:Nat)]?=some (Tryd.prog.funcs[80]!):=by kernel_rfl
 have hb:((Tryd.prog.funcs[80]!).body.isNone && ((Extern.allNextRows.lookup (Tryd.prog.funcs[80]!).origin).isNone))=true:=by kernel_rfl
 have hn : ((Tryd.prog.funcs[80]!).name == "internal/abi.NoEscape") = true := by kernel_rfl
 simp only[aextB,hf,hb,hn,if_true]
theorem copyCheck_ok {h:AH} {b:Nat} {acc:Bs} {a v:Value} (x:Bd h b acc a v):Gets Tryd.prog 72 [.pointer (some ⟨b,0,none⟩)] h
 (fun res h'=>res = .ret (.tuple #[])/\Keep (· = b) h h'/\Bd h' b acc (.pointer (some ⟨b,0,none⟩)) v):=by
 refine Gets.of (keep:=false) hP (draw_ok hM) k72 (by rfl) (fun Ψ hΨ=>?_);obtain ⟨va,vc,rfl⟩:=row_shape x.ow.rds;have o:=x.own;obtain ⟨g,hg⟩:=x.own
 rcases x.ad with rfl|rfl
 ·simp only[ZG,↓reduceIte,ZA,ZB,ZC,r72,YE,YC,YO,YA,YL,YX,YS,Ya,Yb,Yl,Yf,Yg,Yi,Ym,Yk,Yt,Yn,Yz,Yp,Yq,Yd,o.cells.ld,mbl,ZD,ZE,ZF,u_up o.cells (show 0<2 by omega)]
  refine XX_val (noesc_ok _ h) ?_;simp only[ZG,↓reduceIte,ZA,ZB,ZC,u_pu hg (show 2<=2 by omega)];refine XH_own o rfl (by simp [Value.cells]) rfl (fun h' q1 q2 q3=>?_);have o':Own h' b bdT [.pointer (some ⟨b,0,none⟩),.slice va acc.length vc]:=by simpa [Value.cells] using q1
  simp only[ZG,↓reduceIte,ZA,ZB,ZC];exact hΨ _ _ (fin_norm ⟨rfl,q2,o',.inr rfl,x.ow.keep q2 (fun q hq e=>by have:=x.ne q hq;omega),x.ne,x.nl⟩)
 ·simp only[ZG,↓reduceIte,ZA,ZB,ZC,r72,YE,YC,YO,YA,YL,YX,YS,Ya,Yb,Yl,Yf,Yg,Yi,Ym,Yk,Yt,Yn,Yz,Yp,Yq,Yd,o.cells.ld,mbl,ZD,ZE,ZF]
  exact hΨ _ _ (fin_norm ⟨rfl,.refl _ _,o,.inr rfl,x.ow,x.ne,x.nl⟩)
theorem writeByte_ok {h:AH} {b:Nat} {acc:Bs} {a v:Value} (x:Bd h b acc a v) (c:UInt8) (hl:acc.length<=140000000000000):Gets Tryd.prog 60 [.pointer (some ⟨b,0,none⟩),bv c] h
 (fun res h'=>res = .ret .nilIface/\Keep (fun q=>q=b\/bk v q) h h' /\ ∃ v',Bd h' b (acc++[c]) (.pointer (some ⟨b,0,none⟩)) v' /\ ∀ q,bk v' q->bk v q\/h.length<=q):=by
 refine Gets.of (keep:=false) hP (draw_ok hM) k60 (by rfl) (fun Ψ hΨ=>?_);simp only[ZG,↓reduceIte,ZA,ZB,ZC,r60,YE,YC,YO,YA,YL,YX,YS,Ya,Yb,Yl,Yf,Yg,Yi,Ym,Yk,Yt,Yn,Yz,Yp,Yq,Yd];refine XX_of (copyCheck_ok x) (fun res h1 hle hr=>?_);obtain ⟨rfl,k1,x1⟩:=hr;refine .ret ?_;obtain ⟨s',h',a1,a2,a3,a4⟩:=app1 (bytes:=1) x1.ow (xs:=[bv c]) rfl rfl (by omega) (by omega);obtain ⟨va,vc,rfl⟩:=row_shape x1.ow.rds;obtain ⟨sa,sc,rfl⟩:=row_shape a2.rds;simp only[ZG,↓reduceIte,ZA,ZB,ZC,x1.own.cells.ld,mbl,ZD,ZE,ZF,a1];have o2:Own h' b bdT [.pointer (some ⟨b,0,none⟩),.slice va acc.length vc]:=x1.own.keep a3 (fun e=>by have:=x1.ne b e;omega);refine XH_own o2 rfl (by simp [Value.cells]) rfl (fun h2 q1 q2 q3=>?_);have o3:Own h2 b bdT [.pointer (some ⟨b,0,none⟩),.slice sa (acc.length+1) sc]:=by simpa [Value.cells] using q1
 have hb:=x1.own.lt;have hlen:=k1.len;have hbl:=x.own.lt;have fr:∀ q,bk (.slice sa (acc.length+1) sc) q->b<q:=fun q hq=>by
  rcases a4 q hq with e|e
  ·exact x1.ne q e
  ·omega
 simp only[ZG,↓reduceIte,ZA,ZB,ZC];refine hΨ _ _ (fin_ret (rv1 rfl ⟨rfl,?_,_,⟨o3,.inr rfl,?_,fr,fun e=>by simp at e⟩,fun q hq=>?_⟩))
 ·exact ((k1.mono (fun c e=>.inl e)).trans' a3 (fun q hq e=>.inr e)).trans' q2 (fun q hq e=>.inl e)
 ·have:=a2.keep q2 (fun q hq e=>by have:=fr q hq;omega)
  simpa using this
 ·exact (a4 q hq).imp id (fun e=>by omega)
theorem writeString_ok {h:AH} {b:Nat} {acc:Bs} {a v:Value} (x:Bd h b acc a v) (l:Bs) (hl:acc.length+l.length<=140000000000000):Gets Tryd.prog 58 [.pointer (some ⟨b,0,none⟩),tv l] h
 (fun res h'=>res = .ret (.tuple #[iv l.length,.nilIface])/\Keep (fun q=>q=b\/bk v q) h h' /\ ∃ v',Bd h' b (acc++l) (.pointer (some ⟨b,0,none⟩)) v' /\ ∀ q,bk v' q->bk v q\/h.length<=q):=by
 refine Gets.of (keep:=false) hP (draw_ok hM) k58 (by rfl) (fun Ψ hΨ=>?_);simp only[ZG,↓reduceIte,ZA,ZB,ZC,r58,YE,YC,YO,YA,YL,YX,YS,Ya,Yb,Yl,Yf,Yg,Yi,Ym,Yk,Yt,Yn,Yz,Yp,Yq,Yd];refine XX_of (copyCheck_ok x) (fun res h1 hle hr=>?_);obtain ⟨rfl,k1,x1⟩:=hr;refine .ret ?_;obtain ⟨s',h',a1,a2,a3,a4⟩:=x1.ow.app (bytes:=1) (str:=true) (x:=tv l) (m:=l.length) (xs:=l.map bv) (by simp [srcv,tx_size,cells_tx]) (by simp) (by simp [Value.oneCell']) (by omega) (by omega);have nl:acc++l=[]->s' = .slice none 0 0:=fun e=>by
  obtain ⟨e1,e2⟩:=List.append_eq_nil_iff.1 e;have hv:=x1.nl e1;subst e2;rw[hv] at a1;simp [appv,srcv,tx_size] at a1;exact a1.1.symm
 obtain ⟨va,vc,rfl⟩:=row_shape x1.ow.rds;obtain ⟨sa,sc,rfl⟩:=row_shape a2.rds;simp only[ZG,↓reduceIte,ZA,ZB,ZC,x1.own.cells.ld,mbl,ZD,ZE,ZF,a1];have o2:Own h' b bdT [.pointer (some ⟨b,0,none⟩),.slice va acc.length vc]:=x1.own.keep a3 (fun e=>by have:=x1.ne b e;omega);refine XH_own o2 rfl (by simp [Value.cells]) rfl (fun h2 q1 q2 q3=>?_);have o3:Own h2 b bdT [.pointer (some ⟨b,0,none⟩),.slice sa (acc.length+l.length) sc]:=by simpa [Value.cells] using q1
 have hb:=x1.own.lt;have hlen:=k1.len;have hbl:=x.own.lt;have fr:∀ q,bk (.slice sa (acc.length+l.length) sc) q->b<q:=fun q hq=>by
  rcases a4 q hq with e|e
  ·exact x1.ne q e
  ·omega
 simp only[ZG,↓reduceIte,ZA,ZB,ZC,tx_size];refine hΨ _ _ (fin_ret (rv2 rfl rfl ⟨rfl,?_,_,⟨o3,.inr rfl,?_,fr,nl⟩,fun q hq=>?_⟩))
 ·exact ((k1.mono (fun c e=>.inl e)).trans' a3 (fun q hq e=>.inr e)).trans' q2 (fun q hq e=>.inl e)
 ·have:=a2.keep q2 (fun q hq e=>by have:=fr q hq;omega)
  simpa using this
 ·exact (a4 q hq).imp id (fun e=>by omega)
theorem string_ok {h:AH} {b:Nat} {acc:Bs} {a v:Value} (x:Bd h b acc a v) (hl:acc.length<=140000000000000):Gets Tryd.prog 32 [.pointer (some ⟨b,0,none⟩)] h
 (fun res h'=>res = .ret (tv acc)/\Keep (bk v) h h'):=by
 refine Gets.of (keep:=false) hP (draw_ok hM) k32 (by rfl) (fun Ψ hΨ=>?_);have hv:=x.own
 by_cases h0:acc=[]
 ·have e:=x.nl h0
  subst h0 e;have hu:ustv h 5 (.pointer none) (iv 0)=some (.string ByteArray.empty,h):=rfl;simp only[ZG,↓reduceIte,ZA,ZB,ZC,r32,YE,YC,YO,YA,YL,YX,YS,Ya,Yb,Yl,Yf,Yg,Yi,Ym,Yk,Yt,Yn,Yz,Yp,Yq,Yd,hv.cells.ld,mbl,ZD,ZE,ZF,hu];exact hΨ _ _ (fin_ret (rv1 rfl ⟨rfl,.refl _ _⟩))
 ·have hpos:0<acc.length:=List.length_pos_iff.2 h0
  obtain ⟨b2,c,all,e,ob,hall,hnc,htk⟩:=ows_open x.ow hpos;subst e;have hc0:c≠0:=by omega
  obtain ⟨g,hg⟩:=ob;have hu:ustv h 5 (.pointer (some ⟨b2,0,none⟩)) (iv acc.length)=some (.string (tx acc),h.set b2 (.cells false true g 0 5 all)):=by
   have h1:¬ (acc.length:Int)=0:=by omega
   have h2:(0:Int)<(acc.length:Int):=by omega
   have h3:0+acc.length<=all.length:=by omega
   have h4:(acc.length:Int)<=9223372036854775807:=by omega
   simp only[ustv,h1,if_false,hg,Int.toNat_natCast,h2,h3,h4,and_self,if_true,List.drop_zero,htk,asBytes_tx,Option.map_some,pushAll_tx]
  simp only[ZG,↓reduceIte,ZA,ZB,ZC,r32,YE,YC,YO,YA,YL,YX,YS,Ya,Yb,Yl,Yf,Yg,Yi,Ym,Yk,Yt,Yn,Yz,Yp,Yq,Yd,hv.cells.ld,mbl,ZD,ZE,ZF,hc0,hu,ct1];exact hΨ _ _ (fin_ret (rv1 rfl ⟨rfl,(Keep.set _ _ _).mono (fun q e=>e)⟩))
end Go.S19

namespace Go.S19
open Go Go.Eng Go.Proofs Go.Chk Go.Scn
def rgI (n:Int):Prop:=-9223372036854775808<=n/\n<=9223372036854775807
structure Rg (S:HS):Prop where
 now:∀ x∈S.now,rgI x.2
 old:∀ x∈S.old,rgI x.2
 gl:∀ x∈S.globals,rgI x.2
theorem gx_rg {ws:List (Int × Int)} (h:∀ x∈ws,rgI x.2) (i:Int):rgI (gx ws i).2:=by
 unfold gx
 split
 ·rename_i hi
  have:ws[i.toNat]?=some (wat ws i):=wat_at hi.1 hi.2;exact h _ (Z4 this)
 ·exact ⟨by decide,by decide⟩
theorem fol_rg {S:HS} (r:Rg S):∀ {n:Nat} {w y:Int × Int},rgI w.2->S.fol n w=some y->rgI y.2:=by
 intro n
 induction n with
 | zero=>intro w y _ h;cases h
 | succ n ih =>
   intro w y hw h;rw[HS.fol] at h
   split at h
   ·split at h
    ·exact ih (gx_rg r.now _) h
    ·cases h;exact hw
   ·cases h;exact hw
theorem folX_rg {S:HS} (r:Rg S) (v:Inv S) {w:Int × Int} (hw:rgI w.2):rgI (S.folX w).1.2:=by
 by_cases hs:S.sound w
 ·obtain ⟨m,x,hx⟩:=v.tm w hs
  rw[folX_eq hs hx];exact fol_rg r hw hx
 ·rw[folX_no hs];exact ⟨by decide,by decide⟩
noncomputable def HS.lbl (S:HS) (ts:List (Int × Int)) (w:Int × Int):Bs :=
 [32]++(if (S.folX w).1.1=2 then [99] else if (S.folX w).1.1=3 then [102] else if (S.folX w).1.1=4 then [35] else [])++Lib.itoa (if (S.folX w).1.1=4 then (((pos (S.folX w).1 ts).getD 0:Nat):Int) else (S.folX w).1.2)
noncomputable def HS.lineT (S:HS) (ts:List (Int × Int)) (s:Bs) (ws:List (Int × Int)):Bs:=s++ws.flatMap (S.lbl ts)++[10]
theorem lbl_len {S:HS} {ts:List (Int × Int)} (r:Rg S) (v:Inv S) (hl:ts.length<=2000000) {w:Int × Int} (hw:rgI w.2):(S.lbl ts w).length<=23:=by
 have h1:(Lib.itoa (if (S.folX w).1.1=4 then (((pos (S.folX w).1 ts).getD 0:Nat):Int) else (S.folX w).1.2)).length<=21:=by
  split
  ·have:(pos (S.folX w).1 ts).getD 0<=2000000:=by
    cases hp:pos (S.folX w).1 ts with
    | none=>simp
    | some j=>have:=(Z6.1 (pos_get hp)).1;simp;omega
   exact Lib.itoa_length_le _ (by omega) (by omega)
  ·have:=folX_rg r v hw
   exact Lib.itoa_length_le _ this.1 this.2
 unfold HS.lbl;simp only[Z0,Z1,Z2]
 repeat' split
 all_goals simp_all
 all_goals omega
theorem lbls_len {S:HS} {ts:List (Int × Int)} (r:Rg S) (v:Inv S) (hl:ts.length<=2000000):∀ {ws:List (Int × Int)},(∀ w∈ws,rgI w.2)->(ws.flatMap (S.lbl ts)).length<=23*ws.length:=by
 intro ws
 induction ws with
 | nil=>intro _;simp
 | cons w ws ih =>
   intro h;have h1:=lbl_len r v hl (h w Z7);have h2:=ih (fun y hy=>h y (Z5 _ hy));simp only[Zf,Z0,Z1];omega
def Ng (L:Lay) (bg bi bm:Nat) (vi:Value) (q:Nat):Prop:=L.cls q=0 /\ ¬ GOwns bg bi bm vi q
structure Lb (h:AH) (b:Nat) (L:Lay) (S:HS) (bg bi bm:Nat) (vi:Value) (ts:List (Int × Int)) (bo:Nat) (acc:Bs) (v:Value):Prop where
 gr:Gr h b L S bg bi bm vi ts true
 bd:∃ a,Bd h bo acc a v
 nb:Ng L bg bi bm vi bo
 nv:∀ q,bk v q->Ng L bg bi bm vi q
theorem Bd.keep {S:Nat->Prop} {h h':AH} {b:Nat} {acc:Bs} {a v:Value} (x:Bd h b acc a v) (k:Keep S h h') (hb:¬ S b) (hv:∀ q,bk v q -> ¬ S q):Bd h' b acc a v :=
 ⟨x.own.keep k hb,x.ad,x.ow.keep k hv,x.ne,x.nl⟩
theorem xFind_ok {h:AH} {bi bm:Nat} {v:Value} {ts:List (Int × Int)} (s:Ixs h bi bm v ts) (w:Int × Int):Gets Tryd.prog 59 [.pointer (some ⟨bi,0,none⟩),wv w] h (fun res h'=>Keep (fun _=>False) h h' /\ ∃ e,res = .ret (.tuple #[iv (((pos w ts).getD 0:Nat):Int),e])) :=
 (iFind_ok s w).mono fun res h' _ hn=>by
  obtain ⟨k,rfl⟩:=hn;refine ⟨k,?_⟩;cases pos w ts with
  | none=>exact ⟨_,rfl⟩
  | some j=>exact ⟨_,rfl⟩
section
variable {h h':AH} {b:Nat} {L:Lay} {S:HS} {bg bi bm:Nat} {vi:Value} {ts:List (Int × Int)} {bo:Nat} {acc acc':Bs} {v v':Value}
theorem Lb.keepF (l:Lb h b L S bg bi bm vi ts bo acc v) (k:Keep (fun _=>False) h h'):Lb h' b L S bg bi bm vi ts bo acc v:=by
 obtain ⟨a,ba⟩:=l.bd;exact ⟨l.gr.keepF k,⟨a,ba.keep k (fun e=>e) (fun _ _ e=>e)⟩,l.nb,l.nv⟩
theorem Lb.wr (l:Lb h b L S bg bi bm vi ts bo acc v) (k:Keep (fun q=>q=bo\/bk v q) h h') (x:Bd h' bo acc' (.pointer (some ⟨bo,0,none⟩)) v') (nv:∀ q,bk v' q->bk v q\/h.length<=q):Lb h' b L S bg bi bm vi ts bo acc' v' :=
 ⟨l.gr.keepX k (fun q hq e=>e.elim (fun e=>hq (by rw[e];exact l.nb.1)) (fun e=>hq (l.nv q e).1)) (fun q hq e=>e.elim (fun e=>l.nb.2 (by rw[<- e];exact hq)) (fun e=>(l.nv q e).2 hq)),⟨_,x⟩,l.nb,
  fun q e=>(nv q e).elim (l.nv q) (fun e=>⟨l.gr.hp.c0 q e,fun e2=>by have:=l.gr.lt q e2;omega⟩)⟩
def Wt (bo:Nat) (h:AH) (v:Value) (h':AH) (v':Value):Prop:=Keep (fun q=>q=bo\/bk v q) h h' /\ ∀ q,bk v' q->bk v q\/h.length<=q
theorem Wt.refl (bo:Nat) (h:AH) (v:Value):Wt bo h v h v:=⟨.refl _ _,fun q e=>.inl e⟩
theorem Wt.trans {bo:Nat} {h h1 h2:AH} {v v1 v2:Value} (x:Wt bo h v h1 v1) (y:Wt bo h1 v1 h2 v2):Wt bo h v h2 v2:=by
 refine ⟨x.1.trans' y.1 (fun c hc e=>e.imp id (fun e=>(x.2 c e).elim id (fun e=>by omega))),fun q e=>?_⟩
 rcases y.2 q e with e|e
 ·exact x.2 q e
 ·have:=x.1.len;exact .inr (by omega)
theorem Wt.keepF {bo:Nat} {h h1 h2:AH} {v v1:Value} (x:Wt bo h v h1 v1) (k:Keep (fun _=>False) h1 h2):Wt bo h v h2 v1:=⟨x.1.trans (k.mono fun _ e=>e.elim),x.2⟩
set_option maxHeartbeats 4000000 in
theorem line_ok (l:Lb h b L S bg bi bm vi ts bo acc v) (r:Rg S) {s:Bs} {u:Value} {ws:List (Int × Int)} (hu:Rds h 2 u ws.length (ww ws)) (hd:∀ q,rb u q->q≠bo /\ ¬ bk v q) (hr:∀ w∈ws,rgI w.2) (hm:ws.length<=2000000) (hs:acc.length+s.length+23*ws.length+1<=140000000000000) :
 Gets Tryd.prog 27 [.pointer (some ⟨bg,0,none⟩),.pointer (some ⟨bo,0,none⟩),tv s,u] h (fun res h'=>res = .ret (.tuple #[]) /\ ∃ v',Lb h' b L S bg bi bm vi ts bo (acc++S.lineT ts s ws) v'/\Wt bo h v h' v'):=by
 refine Gets.of (keep:=false) hP (draw_ok hM) k27 (by rfl) (fun Ψ hΨ=>?_);have hlen:=l.gr.gd.len l.gr.iv;have hbg:=l.gr.iv.bg;simp only[ZG,↓reduceIte,ZA,ZB,ZC,r27,YE,YC,YO,YA,YL,YX,YS,Ya,Yb,Yl,Yf,Yg,Yi,Ym,Yk,Yt,Yn,Yz,Yp,Yq,Yd,mbl,ZD,ZE,ZF];obtain ⟨a0,b0⟩:=l.bd;refine XX_of (writeString_ok b0 s (by omega)) (fun res h1 hle hn=>?_);obtain ⟨rfl,k1,v1,b1,n1⟩:=hn;refine .ret ?_;have l1:=l.wr k1 b1 n1;have w1:Wt bo h v h1 v1:=⟨k1,n1⟩
 obtain ⟨ua,uc,hue⟩:=row_shape hu;simp only[ZG,↓reduceIte,ZA,ZB,ZC,mbl,ZD,ZE,ZF,hue];rw[<- hue];refine XLo_rule (α:=Nat × Value) (fun a=>[(0,.pointer (some ⟨bg,0,none⟩)),(1,.pointer (some ⟨bo,0,none⟩)),(17,u),(18,iv ws.length),(19,iv a.1)])
  (fun a h'=>a.1<=ws.length/\Lb h' b L S bg bi bm vi ts bo (acc++s++(ws.take a.1).flatMap (S.lbl ts)) a.2/\Wt bo h v h' a.2) (fun a=>ws.length-a.1) (0,v1)
  ⟨Nat.zero_le _,by simpa using l1,w1⟩ ⟨rfl,rfl,by rw[hue];rfl,rfl,rfl,trivial⟩ ?_
 rintro ⟨i,v2⟩ h2 Ψ2 ⟨hi,l2,w2⟩ next out
 simp only at hi l2 w2;have htl:((ws.take i).flatMap (S.lbl ts)).length<=23*i:=by
  have:=lbls_len r l.gr.iv (ts:=ts) (by omega) (ws:=ws.take i) (fun w hw=>hr w (Zd hw));rw[List.length_take] at this;omega
 by_cases hlt:i<ws.length
 case neg =>
  have d1:((i:Int)<((ws.length:Nat):Int))=False:=by simp;omega
  simp only[ZG,↓reduceIte,ZA,ZB,ZC,d1];refine out (.exit 0) _ _ _ _ (by intro e;cases e) ?_;simp only[ZG,↓reduceIte,ZA,ZB,ZC,mbl,ZD,ZE,ZF];obtain ⟨a2,b2⟩:=l2.bd;refine XX_of (writeByte_ok b2 10 (by simp only[Z0];omega)) (fun res h3 hle3 hn3=>?_);obtain ⟨rfl,k3,v3,b3,n3⟩:=hn3;refine .ret ?_;simp only[ZG,↓reduceIte,ZA,ZB,ZC];have l3:=l2.wr k3 b3 n3;rw[List.take_of_length_le (by omega)] at l3;refine hΨ _ _ (fin_norm (rv0 ⟨rfl,v3,?_,w2.trans ⟨k3,n3⟩⟩));rw[HS.lineT,<- Z3,<- Z3];exact l3
 case pos =>
 have d1:((i:Int)<((ws.length:Nat):Int))=True:=by simp;omega
 have d0:(0<=(i:Int))=True:=by simp
 have tn:Int.toNat (i:Int)=i:=by simp
 have hu2:Rds h2 2 u ws.length (ww ws):=hu.keep w2.1 (fun q hq e=>e.elim (hd q hq).1 (hd q hq).2);obtain ⟨bu,o,c,hue2,hnu,hld⟩:=rds_w hu2 (i:=(i:Int)) (by omega) (by omega);rw[tn] at hld;have hwi:ws[i]?=some (wat ws (i:Int)):=by simp [wat,hlt]
 have hrw:=hr _ (Z4 hwi);have htk:(ws.take (i+1)).flatMap (S.lbl ts)=(ws.take i).flatMap (S.lbl ts)++S.lbl ts (wat ws (i:Int)):=by
  rw[Zg,hwi,Ze];simp
 generalize wat ws (i:Int)=w at hld hwi hrw htk;have oW:=Own.new h2 44 h2.length [iv 0,iv 0];have k3:Keep (fun _=>False) h2 (h2++[row 44 h2.length [iv 0,iv 0]]):=Keep.push _ _ _;have l3':(h2++[row 44 h2.length [iv 0,iv 0]]).length=h2.length+1:=by simp
 simp only[ZG,↓reduceIte,ZA,ZB,ZC,d1,hue2,d0,and_self,tn,hld,mbl,ZD,ZE,ZF];rw[<- hue2];generalize h2++[row 44 h2.length [iv 0,iv 0]]=h3 at oW k3 l3' ⊢;refine XH_own oW rfl (by simp [Value.cells]) rfl (fun h4 q1 q2 q3=>?_);have oW4:Own h4 h2.length 44 [iv w.1,iv w.2]:=by simpa [Value.cells] using q1
 have k24:Keep (fun _=>False) h2 h4:=k3.trans' q2 (fun c hc e=>by omega);have l4:=l2.keepF k24;simp only[ZG,↓reduceIte,ZA,ZB,ZC,l4.gr.og.cells.ld,box_ld oW4,mbl,ZD,ZE,ZF];refine XX_of (xFollow_ok l4.gr.hp l4.gr.iv w) (fun res h5 hle5 hn5=>?_);obtain ⟨k5,rfl⟩:=hn5;refine .ret ?_;have l5:=l4.keepF k5;have oX:=Own.new h5 44 h5.length [iv 0,iv 0];have k6:Keep (fun _=>False) h5 (h5++[row 44 h5.length [iv 0,iv 0]]):=Keep.push _ _ _;simp only[ZG,↓reduceIte,ZA,ZB,ZC,wv,mbl,ZD,ZE,ZF];generalize h5++[row 44 h5.length [iv 0,iv 0]]=h6 at oX k6 ⊢;refine XH_own oX rfl (by simp [Value.cells]) rfl (fun h7 p1 p2 p3=>?_);have hrx:=folX_rg r l.gr.iv hrw;have hlb:=lbl_len r l.gr.iv (ts:=ts) (by omega) hrw;have hlbe:S.lbl ts w=[32]++(if (S.folX w).1.1=2 then [99] else if (S.folX w).1.1=3 then [102] else if (S.folX w).1.1=4 then [35] else [])++Lib.itoa (if (S.folX w).1.1=4 then (((pos (S.folX w).1 ts).getD 0:Nat):Int) else (S.folX w).1.2):=rfl;generalize S.lbl ts w=lw at htk hlb hlbe;generalize (S.folX w).1=x at hrx hlbe p1 ⊢;have oX7:Own h7 h5.length 44 [iv x.1,iv x.2]:=by simpa [Value.cells] using p1
 have k57:Keep (fun _=>False) h5 h7:=k6.trans' p2 (fun c hc e=>by omega);have k27:=(k24.trans k5).trans k57;have l7:=l5.keepF k57;have wi:IntKind.i64.wrap ((i:Int)+1)=((i+1:Nat):Int):=by rw[i64w (by omega) (by omega)];omega
 by_cases hk2:x.1=2
 ·have hk3:¬ x.1=3:=by omega
  have hk4:¬ x.1=4:=by omega
  have s1:sbin .add (⟨#[32]⟩:ByteArray) (⟨#[99]⟩:ByteArray)=some (tv ([32]++[99])):=s_add (a:=[32]) (b:=[99]) (by decide);simp only[ZG,↓reduceIte,ZA,ZB,ZC,oX7.cells.ld,mbl,ZD,ZE,ZF,hk2];have hlw:lw=([32]++[99])++Lib.itoa x.2:=by rw[hlbe];simp [hk2,hk3,hk4]
  have hll:=congrArg Zc hlw;simp only[Z0,Z1,Z2] at hll;have s2:sbin .add (tx (([32]++[99]):Bs)) (tx (Lib.itoa x.2))=some (tv (([32]++[99])++Lib.itoa x.2)):=s_add (by simp only[Z0,Z1,Z2];omega);simp only[ZG,↓reduceIte,ZA,ZB,ZC,s1,mbl,ZD,ZE,ZF];refine XX_val (itoa_ok x.2 hrx.1 hrx.2 _) ?_;simp only[ZG,↓reduceIte,ZA,ZB,ZC,s2];obtain ⟨a8,b8⟩:=l7.bd;refine XX_of (writeString_ok b8 (([32]++[99])++Lib.itoa x.2) (by rw[<- hlw];simp only[Z0];omega)) (fun res h9 hle9 hn9=>?_);obtain ⟨rfl,k9,v9,b9,n9⟩:=hn9;refine .ret ?_;simp only[ZG,↓reduceIte,ZA,ZB,ZC,wi];refine next (i+1,v9) _ _ h9 ⟨by omega,?_,(w2.keepF k27).trans ⟨k9,n9⟩⟩ ⟨rfl,rfl,rfl,rfl,rfl,trivial⟩ (by simp;omega)
  have l9:=l7.wr k9 b9 n9
  show Lb h9 b L S bg bi bm vi ts bo (acc++s++(ws.take (i+1)).flatMap (S.lbl ts)) v9
  rw[htk,hlw,<- Z3];exact l9
 by_cases hk3:x.1=3
 ·have hk4:¬ x.1=4:=by omega
  have s1:sbin .add (⟨#[32]⟩:ByteArray) (⟨#[102]⟩:ByteArray)=some (tv ([32]++[102])):=s_add (a:=[32]) (b:=[102]) (by decide);simp only[ZG,↓reduceIte,ZA,ZB,ZC,oX7.cells.ld,mbl,ZD,ZE,ZF,hk2,hk3];have hlw:lw=([32]++[102])++Lib.itoa x.2:=by rw[hlbe];simp [hk2,hk3,hk4]
  have hll:=congrArg Zc hlw;simp only[Z0,Z1,Z2] at hll;have s2:sbin .add (tx (([32]++[102]):Bs)) (tx (Lib.itoa x.2))=some (tv (([32]++[102])++Lib.itoa x.2)):=s_add (by simp only[Z0,Z1,Z2];omega);simp only[ZG,↓reduceIte,ZA,ZB,ZC,s1,mbl,ZD,ZE,ZF];refine XX_val (itoa_ok x.2 hrx.1 hrx.2 _) ?_;simp only[ZG,↓reduceIte,ZA,ZB,ZC,s2];obtain ⟨a8,b8⟩:=l7.bd;refine XX_of (writeString_ok b8 (([32]++[102])++Lib.itoa x.2) (by rw[<- hlw];simp only[Z0];omega)) (fun res h9 hle9 hn9=>?_);obtain ⟨rfl,k9,v9,b9,n9⟩:=hn9;refine .ret ?_;simp only[ZG,↓reduceIte,ZA,ZB,ZC,wi];refine next (i+1,v9) _ _ h9 ⟨by omega,?_,(w2.keepF k27).trans ⟨k9,n9⟩⟩ ⟨rfl,rfl,rfl,rfl,rfl,trivial⟩ (by simp;omega)
  have l9:=l7.wr k9 b9 n9
  show Lb h9 b L S bg bi bm vi ts bo (acc++s++(ws.take (i+1)).flatMap (S.lbl ts)) v9
  rw[htk,hlw,<- Z3];exact l9
 by_cases hk4:x.1=4
 ·have s1:sbin .add (⟨#[32]⟩:ByteArray) (⟨#[35]⟩:ByteArray)=some (tv ([32]++[35])):=s_add (a:=[32]) (b:=[35]) (by decide)
  have hpl:(pos x ts).getD 0<=2000000:=by
   cases hp:pos x ts with
   | none=>simp
   | some j=>have:=(Z6.1 (pos_get hp)).1;simp;omega
  simp only[ZG,↓reduceIte,ZA,ZB,ZC,oX7.cells.ld,box_ld oX7,l7.gr.og.cells.ld,mbl,ZD,ZE,ZF,hk2,hk3,hk4];have hw4:(.agg #[iv 4,iv x.2]:Value)=wv x:=by simp [wv,hk4]
  rw[hw4];refine XX_of (xFind_ok l7.gr.ix x) (fun res h8 hle8 hn8=>?_);obtain ⟨k8,e8,rfl⟩:=hn8;refine .ret ?_;have l8:=l7.keepF k8;have k28:=k27.trans k8;simp only[ZG,↓reduceIte,ZA,ZB,ZC,mbl,ZD,ZE,ZF];have hlw:lw=([32]++[35])++Lib.itoa (((pos x ts).getD 0:Nat):Int):=by rw[hlbe];simp [hk2,hk3,hk4]
  have hll:=congrArg Zc hlw;simp only[Z0,Z1,Z2] at hll;have s2:sbin .add (tx (([32]++[35]):Bs)) (tx (Lib.itoa (((pos x ts).getD 0:Nat):Int)))=some (tv (([32]++[35])++Lib.itoa (((pos x ts).getD 0:Nat):Int))):=s_add (by simp only[Z0,Z1,Z2];omega);simp only[ZG,↓reduceIte,ZA,ZB,ZC,s1,mbl,ZD,ZE,ZF];refine XX_val (itoa_ok (((pos x ts).getD 0:Nat):Int) (by omega) (by omega) _) ?_;simp only[ZG,↓reduceIte,ZA,ZB,ZC,s2];obtain ⟨a8,b8⟩:=l8.bd;refine XX_of (writeString_ok b8 (([32]++[35])++Lib.itoa (((pos x ts).getD 0:Nat):Int)) (by rw[<- hlw];simp only[Z0];omega)) (fun res h9 hle9 hn9=>?_);obtain ⟨rfl,k9,v9,b9,n9⟩:=hn9;refine .ret ?_;simp only[ZG,↓reduceIte,ZA,ZB,ZC,wi];refine next (i+1,v9) _ _ h9 ⟨by omega,?_,(w2.keepF k28).trans ⟨k9,n9⟩⟩ ⟨rfl,rfl,rfl,rfl,rfl,trivial⟩ (by simp;omega)
  have l9:=l8.wr k9 b9 n9
  show Lb h9 b L S bg bi bm vi ts bo (acc++s++(ws.take (i+1)).flatMap (S.lbl ts)) v9
  rw[htk,hlw,<- Z3];exact l9
 ·have s1:sbin .add (⟨#[32]⟩:ByteArray) (⟨#[]⟩:ByteArray)=some (tv [32]):=s_add (a:=[32]) (b:=[]) (by decide)
  simp only[ZG,↓reduceIte,ZA,ZB,ZC,oX7.cells.ld,mbl,ZD,ZE,ZF,hk2,hk3,hk4];have hlw:lw=([32]:Bs)++Lib.itoa x.2:=by rw[hlbe];simp [hk2,hk3,hk4]
  have hll:=congrArg Zc hlw;simp only[Z0,Z1,Z2] at hll;have s2:sbin .add (tx (([32]:Bs):Bs)) (tx (Lib.itoa x.2))=some (tv (([32]:Bs)++Lib.itoa x.2)):=s_add (by simp only[Z0,Z1,Z2];omega);simp only[ZG,↓reduceIte,ZA,ZB,ZC,s1,mbl,ZD,ZE,ZF];refine XX_val (itoa_ok x.2 hrx.1 hrx.2 _) ?_;simp only[ZG,↓reduceIte,ZA,ZB,ZC,s2];obtain ⟨a8,b8⟩:=l7.bd;refine XX_of (writeString_ok b8 (([32]:Bs)++Lib.itoa x.2) (by rw[<- hlw];simp only[Z0];omega)) (fun res h9 hle9 hn9=>?_);obtain ⟨rfl,k9,v9,b9,n9⟩:=hn9;refine .ret ?_;simp only[ZG,↓reduceIte,ZA,ZB,ZC,wi];refine next (i+1,v9) _ _ h9 ⟨by omega,?_,(w2.keepF k27).trans ⟨k9,n9⟩⟩ ⟨rfl,rfl,rfl,rfl,rfl,trivial⟩ (by simp;omega)
  have l9:=l7.wr k9 b9 n9
  show Lb h9 b L S bg bi bm vi ts bo (acc++s++(ws.take (i+1)).flatMap (S.lbl ts)) v9
  rw[htk,hlw,<- Z3];exact l9
end
end Go.S19

namespace Go.S19
open Go Go.Eng Go.Proofs Go.Chk Go.Scn
def nmd (k:Int):Bs:=if k=6 then [105,110,102,111] else if k=7 then [99,111,110] else if k=8 then [112,97,112] else if k=9 then [116,101,120,116] else if k=10 then [105,110,112,117,116] else [104,111,108,101]
theorem nmd_len (k:Int):(nmd k).length<=5:=by
 unfold nmd
 repeat' split
 all_goals decide
theorem named_ok (k:Int) (h:AH):Gets Tryd.prog 30 [iv k] h (fun res h'=>h'=h/\res = .ret (tv (nmd k))):=by
 refine Gets.of (keep:=false) hP (draw_ok hM) k30 (by rfl) (fun Ψ hΨ=>?_)
 by_cases h6:k=6
 ·simp only[ZG,↓reduceIte,ZA,ZB,ZC,r30,YE,YC,YO,YA,YL,YX,YS,Ya,Yb,Yl,Yf,Yg,Yi,Ym,Yk,Yt,Yn,Yz,Yp,Yq,Yd,h6,mbl,ZD,ZE,ZF]
  exact hΨ _ _ (fin_ret (rv1 rfl ⟨rfl,by subst_vars;rfl⟩))
 by_cases h7:k=7
 ·simp only[ZG,↓reduceIte,ZA,ZB,ZC,r30,YE,YC,YO,YA,YL,YX,YS,Ya,Yb,Yl,Yf,Yg,Yi,Ym,Yk,Yt,Yn,Yz,Yp,Yq,Yd,h6,h7,mbl,ZD,ZE,ZF]
  exact hΨ _ _ (fin_ret (rv1 rfl ⟨rfl,by subst_vars;rfl⟩))
 by_cases h8:k=8
 ·simp only[ZG,↓reduceIte,ZA,ZB,ZC,r30,YE,YC,YO,YA,YL,YX,YS,Ya,Yb,Yl,Yf,Yg,Yi,Ym,Yk,Yt,Yn,Yz,Yp,Yq,Yd,h6,h7,h8,mbl,ZD,ZE,ZF]
  exact hΨ _ _ (fin_ret (rv1 rfl ⟨rfl,by subst_vars;rfl⟩))
 by_cases h9:k=9
 ·simp only[ZG,↓reduceIte,ZA,ZB,ZC,r30,YE,YC,YO,YA,YL,YX,YS,Ya,Yb,Yl,Yf,Yg,Yi,Ym,Yk,Yt,Yn,Yz,Yp,Yq,Yd,h6,h7,h8,h9,mbl,ZD,ZE,ZF]
  exact hΨ _ _ (fin_ret (rv1 rfl ⟨rfl,by subst_vars;rfl⟩))
 by_cases hx:k=10
 ·simp only[ZG,↓reduceIte,ZA,ZB,ZC,r30,YE,YC,YO,YA,YL,YX,YS,Ya,Yb,Yl,Yf,Yg,Yi,Ym,Yk,Yt,Yn,Yz,Yp,Yq,Yd,h6,h7,h8,h9,hx,mbl,ZD,ZE,ZF]
  exact hΨ _ _ (fin_ret (rv1 rfl ⟨rfl,by subst_vars;rfl⟩))
 simp only[ZG,↓reduceIte,ZA,ZB,ZC,r30,YE,YC,YO,YA,YL,YX,YS,Ya,Yb,Yl,Yf,Yg,Yi,Ym,Yk,Yt,Yn,Yz,Yp,Yq,Yd,h6,h7,h8,h9,hx,mbl,ZD,ZE,ZF];have e:nmd k=[104,111,108,101]:=by simp [nmd,h6,h7,h8,h9,hx]
 exact hΨ _ _ (fin_ret (rv1 rfl ⟨rfl,by rw[e];rfl⟩))
noncomputable def HS.hdT (S:HS) (w:Int × Int):Bs:=nmd (S.head w).1.1++[32]++Lib.itoa (S.head w).1.2
noncomputable def HS.objT (S:HS) (ts:List (Int × Int)) (w:Int × Int):Bs:=S.lineT ts (S.hdT w) (S.flds w)
noncomputable def HS.shapeT (S:HS) (roots ts:List (Int × Int)):Bs:=S.lineT ts [114,111,111,116,115] roots++S.lineT ts [103,108,111,98,97,108,115] S.globals++ts.flatMap (S.objT ts)
theorem head_rg {S:HS} (r:Rg S) (w:Int × Int):rgI (S.head w).1.2:=by
 unfold HS.head;split
 ·exact gx_rg r.now _
 ·exact ⟨by decide,by decide⟩
theorem hdT_len {S:HS} (r:Rg S) (w:Int × Int):(S.hdT w).length<=27:=by
 have h1:=nmd_len (S.head w).1.1;have h2:=head_rg r w;have h3:=Lib.itoa_length_le _ h2.1 h2.2;simp only[HS.hdT,Z0,Z1,Z2];omega
theorem flds_rg {S:HS} (r:Rg S) (w:Int × Int):∀ x∈S.flds w,rgI x.2:=by
 intro x hx;simp only[HS.flds,List.mem_map] at hx;obtain ⟨i,_,rfl⟩:=hx;exact gx_rg r.now _
theorem objT_len {S:HS} (r:Rg S) (v:Inv S) {ts:List (Int × Int)} (hl:ts.length<=2000000) {w:Int × Int} (hf:(S.flds w).length<=1048576):(S.objT ts w).length<=25000000:=by
 have h1:=hdT_len r w;have h2:=lbls_len r v hl (flds_rg r w);simp only[HS.objT,HS.lineT,Z0,Z1,Z2];omega
theorem objs_len {S:HS} (r:Rg S) (v:Inv S) {ts:List (Int × Int)} (hl:ts.length<=2000000):∀ {ws:List (Int × Int)},(∀ w∈ws,(S.flds w).length<=1048576)->(ws.flatMap (S.objT ts)).length<=25000000*ws.length:=by
 intro ws
 induction ws with
 | nil=>intro _;simp
 | cons w ws ih =>
   intro h;have h1:=objT_len r v hl (h w Z7);have h2:=ih (fun y hy=>h y (Z5 _ hy));simp only[Zf,Z0,Z1];omega
theorem ct4:([0,4]:List Nat).contains 4=true:=rfl
theorem ct2:([0,4]:List Nat).contains 2=false:=rfl
theorem ct0:([0,4]:List Nat).contains 0=true:=rfl
section
variable {h:AH} {b:Nat} {L:Lay} {S:HS}
set_option maxHeartbeats 4000000 in
theorem Shape_ok (s:Hp h b L S) (v:Inv S) (r:Rg S) (hg:S.globals.length<=2000000) {u:Value} {roots:List (Int × Int)} (hu:Rds h 2 u roots.length (ww roots)) (hm:roots.length<=2000000) (hr:∀ w∈roots,rgI w.2) :
 Gets Tryd.prog 9 [.pointer (some ⟨b,0,none⟩),u] h (fun res h'=>Keep (fun _=>False) h h'/\res = .ret (if (S.graph roots).2=true then .tuple #[tv (S.shapeT roots (S.graph roots).1),iv 0] else .tuple #[tv [],iv 1])):=by
 refine Gets.ofI (keep:=false) hP hM k9 (by rfl) (fun Ψ hΨ=>?_);have oH:=Own.new h 30 h.length [.pointer (some ⟨b,0,none⟩)];have k1:Keep (fun _=>False) h (h++[row 30 h.length [.pointer (some ⟨b,0,none⟩)]]):=Keep.push _ _ _;have l1:(h++[row 30 h.length [.pointer (some ⟨b,0,none⟩)]]).length=h.length+1:=by simp
 simp only[ZG,↓reduceIte,ZA,ZB,ZC,r9,YE,YC,YO,YA,YL,YX,YS,Ya,Yb,Yl,Yf,Yg,Yi,Ym,Yk,Yt,Yn,Yz,Yp,Yq,Yd,mbl,ZD,ZE,ZF];generalize h++[row 30 h.length [.pointer (some ⟨b,0,none⟩)]]=h1 at oH k1 l1 ⊢;simp only[ZG,↓reduceIte,ZA,ZB,ZC,mbl,ZD,ZE,ZF,oH.cells.ld];refine XX_of (graphOf_ok (s.keepF k1) v hg (hu.keep k1 (fun _ _ e=>e)) (by omega)) (fun res h2 hle hn=>?_);obtain ⟨k2,bg,bi,bm,v2,rfl,g2⟩:=hn;refine .ret ?_;have k02:=k1.trans k2;have o6:=Own.new h2 62 h2.length [.pointer none];have k3:Keep (fun _=>False) h2 (h2++[row 62 h2.length [.pointer none]]):=Keep.push _ _ _;have l3:(h2++[row 62 h2.length [.pointer none]]).length=h2.length+1:=by simp
 simp only[ZG,↓reduceIte,ZA,ZB,ZC,mbl,ZD,ZE,ZF];generalize h2++[row 62 h2.length [.pointer none]]=h3 at o6 k3 l3 ⊢;refine XH_own o6 rfl (by simp [Value.cells]) rfl (fun h4 q1 q2 q3=>?_);have o64:Own h4 h2.length 62 [.pointer (some ⟨bg,0,none⟩)]:=by simpa [Value.cells] using q1
 have k24:Keep (fun _=>False) h2 h4:=k3.trans' q2 (fun c hc e=>by omega);have g4:=g2.keepF k24;have oH4:=(oH.keep k2 (fun e=>e)).keep k24 (fun e=>e);have k04:=k02.trans k24
 by_cases hok:(S.graph roots).2=true
 case neg =>
  have hok':(S.graph roots).2=false:=by simpa using hok
  rw[hok'];simp only[ZG,↓reduceIte,ZA,ZB,ZC,mbl,ZD,ZE,ZF];exact hΨ _ _ (finI_ret (.inl rfl) (rv2 rfl rfl ⟨k04,by rw[if_neg hok];rfl⟩))
 rw[hok] at g4 ⊢;generalize hts:(S.graph roots).1=ts at g4;have hlen:=g4.gd.len v;have hbg:=v.bg;have oB:=Own.new h4 bdT h4.length [.pointer none,.slice none 0 0];have k5:Keep (fun _=>False) h4 (h4++[row bdT h4.length [.pointer none,.slice none 0 0]]):=Keep.push _ _ _;have l5:(h4++[row bdT h4.length [.pointer none,.slice none 0 0]]).length=h4.length+1:=by simp
 simp only[ZG,↓reduceIte,ZA,ZB,ZC,mbl,ZD,ZE,ZF];generalize h4++[row bdT h4.length [.pointer none,.slice none 0 0]]=h5 at oB k5 l5 ⊢;have k05:=k04.trans k5;have lb5:Lb h5 b L S bg bi bm v2 ts h4.length [] (.slice none 0 0) :=
  ⟨g4.keepF k5,⟨_,oB,.inl rfl,.nil,fun q e=>e.elim,fun _=>rfl⟩,⟨g4.hp.c0 _ (Zb _),fun e=>by have:=g4.lt _ e;omega⟩,fun q e=>e.elim⟩
 have o65:=o64.keep k5 (fun e=>e);have oH5:=oH4.keep k5 (fun e=>e);simp only[ZG,↓reduceIte,ZA,ZB,ZC,o65.cells.ld,oH5.cells.ld,mbl,ZD,ZE,ZF];have hlt4:=k04.len;have sl:([114,111,111,116,115]:Bs).length=5:=rfl;refine XX_of (line_ok lb5 r (s:=[114,111,111,116,115]) (hu.keep k05 (fun _ _ e=>e)) (fun q hq=>⟨fun e=>by have:=hu.lt q hq;omega,fun e=>e⟩) hr hm (by rw[sl,Z2];omega)) (fun res h6 hle6 hn6=>?_);obtain ⟨rfl,v6,lb6,w6⟩:=hn6;refine .ret ?_;have hn6:∀ q,bk v6 q->h4.length<q:=fun q e=>(w6.2 q e).elim (fun e=>e.elim) (fun e=>by omega)
 have kk6:Keep (fun _=>False) h4 h6:=k5.trans' w6.1 (fun c hc e=>e.elim (fun e=>by omega) (fun e=>e.elim));have o66:=o64.keep kk6 (fun e=>e);have oH6:=oH4.keep kk6 (fun e=>e);simp only[ZG,↓reduceIte,ZA,ZB,ZC,o66.cells.ld,oH6.cells.ld,mbl,ZD,ZE,ZF];refine XX_of (Globals_ok lb6.gr.hp (by omega)) (fun res h7 hle7 hn7=>?_);obtain ⟨k7,vg,rfl,og7,fg7⟩:=hn7;refine .ret ?_;have kk7:=kk6.trans k7;have lb7:=lb6.keepF k7;have o67:=o64.keep kk7 (fun e=>e);have oH7:=oH4.keep kk7 (fun e=>e);simp only[ZG,↓reduceIte,ZA,ZB,ZC,ct1,o66.cells.ld,oH6.cells.ld,o67.cells.ld,oH7.cells.ld,mbl,ZD,ZE,ZF];have sl2:([103,108,111,98,97,108,115]:Bs).length=7:=rfl;have hll6:(S.lineT ts [114,111,111,116,115] roots).length<=6+23*roots.length:=by
  have:=lbls_len r v (ts:=ts) (by omega) hr;simp only[HS.lineT,Z0,Z1,Z2];omega
 have hl6:=kk6.len;refine XX_of (line_ok lb7 r (s:=[103,108,111,98,97,108,115]) og7.rds (fun q hq=>⟨fun e=>by have:=(fg7 q hq.bk).1;omega,fun e=>by have:=(fg7 q hq.bk).1;obtain ⟨a,ba⟩:=lb6.bd;have:=ba.ow.lt q e;omega⟩) r.gl hg (by rw[sl2,List.nil_append];omega)) (fun res h8 hle8 hn8=>?_);obtain ⟨rfl,v8,lb8,w8⟩:=hn8;refine .ret ?_;rw[List.nil_append] at lb8;have hn8:∀ q,bk v8 q->h4.length<q:=fun q e=>(w8.2 q e).elim (hn6 q) (fun e=>by have:=kk7.len;have:=k5.len;omega)
 have kk8:Keep (fun _=>False) h4 h8:=kk7.trans' w8.1 (fun c hc e=>e.elim (fun e=>by omega) (fun e=>by have:=hn6 c e;omega));have o68:=o64.keep kk8 (fun e=>e);have oH8:=oH4.keep kk8 (fun e=>e);have hll8:(S.lineT ts [103,108,111,98,97,108,115] S.globals).length<=8+23*S.globals.length:=by
  have:=lbls_len r v (ts:=ts) (by omega) r.gl;simp only[HS.lineT,Z0,Z1,Z2];omega
 simp only[ZG,↓reduceIte,ZA,ZB,ZC,ct1,o66.cells.ld,o67.cells.ld,o68.cells.ld,oH8.cells.ld,mbl,ZD,ZE,ZF];refine XX_of (each_ok lb8.gr.og.lt) (fun res h9 hle9 hn9=>?_);obtain ⟨k9,bx,ty,rfl,ox,fx⟩:=hn9;refine .ret ?_;simp only[ZG,↓reduceIte,ZA,ZB,ZC,XC_rf,rx_n,look_cons];have kk9:=kk8.trans k9;have hbx:h4.length<bx:=by have:=k5.len;have:=w6.1.len;have:=k7.len;have:=w8.1.len;omega
 have hfn:∀ w∈ts,(S.flds w).length<=1048576:=fun w hw=>by
  obtain ⟨n,f⟩:=v.ok.fc (g4.gd.1 w hw).1 (by have:=v.ln;have:=v.sz;omega);simp [HS.flds];omega
 generalize hA:S.lineT ts [114,111,111,116,115] roots++S.lineT ts [103,108,111,98,97,108,115] S.globals=A at lb8;have hAl:A.length<=100000000:=by rw[<- hA,Z0];omega
 refine XRf_each (M:=1048577) (St:=fun i h'=>i<=ts.length /\ ∃ vb,Lb h' b L S bg bi bm v2 ts h4.length (A++(ts.take i).flatMap (S.objT ts)) vb/\Own h' bx ty [.pointer (some ⟨bg,0,none⟩)]/\(∀ q,bk vb q->h4.length<q/\q≠bx)/\Keep (fun _=>False) h4 h')
  (Fin:=fun out h'=>out = .norm /\ ∃ vb,Lb h' b L S bg bi bm v2 ts h4.length (A++ts.flatMap (S.objT ts)) vb/\(∀ q,bk vb q->h4.length<q)/\Keep (fun _=>False) h4 h') (by omega)
  ⟨Nat.zero_le _,v8,by simpa using lb8.keepF k9,ox,fun q e=>⟨hn8 q e,fun c=>by obtain ⟨a,ba⟩:=lb8.bd;have:=ba.ow.lt q e;omega⟩,kk9⟩ ?_ ?_
 ·rintro i hh ⟨hi,vb,lb,oxh,fb,kk⟩
  refine ⟨by omega,ty,bg,_,_,bi,bm,v2,ts,oxh,lb.gr.og,lb.gr.ix,hi,fun he=>?_,fun w hw hx kx=>?_⟩
  ·refine ⟨rfl,vb,?_,fun q e=>(fb q e).1,kk⟩
   rw[he,List.take_length] at lb;exact lb
  ·have hlt:i<ts.length:=(Z6.1 hw).1
   have hmem:=Z4 hw;have hlies:=(lb.gr.gd.1 w hmem).1;have htk:(ts.take (i+1)).flatMap (S.objT ts)=(ts.take i).flatMap (S.objT ts)++S.objT ts w:=by
    rw[Zg,hw,Ze];simp
   have hal:=objs_len r v (ts:=ts) (by omega) (ws:=ts.take i) (fun w hw=>hfn w (Zd hw));have hal2:(ts.take i).length<=1048577:=by rw[List.length_take];omega
   have hfw:=hfn w hmem;have hhd:=hdT_len r w;have kx0:=kk.trans kx;refine RndH.go (fun o hz=>o = .norm /\ ∃ vz,Lb hz b L S bg bi bm v2 ts h4.length (A++(ts.take (i+1)).flatMap (S.objT ts)) vz/\Wt h4.length hx vb hz vz)
    rfl (by decide) (by intro o ho;simp only[Z8,List.not_mem_nil,or_false] at ho;rcases ho with rfl|rfl<;>(intro f vs e;cases e)) (by rintro v h ⟨e,_⟩;cases e) (fun Ψ hΨ=>?_) (fun hz hlz hQ=>?_) (fun j hz hlz hj hQ=>absurd hQ.1 hj)
   ·simp only[ZG,↓reduceIte,ZA,ZB,ZC,updps]
    have oW:=Own.new hx 44 hx.length [iv 0,iv 0];have kp1:Keep (fun _=>False) hx (hx++[row 44 hx.length [iv 0,iv 0]]):=Keep.push _ _ _;generalize hx++[row 44 hx.length [iv 0,iv 0]]=hy at oW kp1 ⊢;refine XH_own oW rfl (by simp [Value.cells,wv]) rfl (fun hy2 p1 p2 p3=>?_);have oW2:Own hy2 hx.length 44 [iv w.1,iv w.2]:=by simpa [Value.cells,wv] using p1
    have kp2:Keep (fun _=>False) hx hy2:=kp1.trans' p2 (fun c hc e=>by omega);have lby:=(lb.keepF kx).keepF kp2;have oHy:=oH4.keep (kx0.trans kp2) (fun e=>e);simp only[ZG,↓reduceIte,ZA,ZB,ZC,oHy.cells.ld,oW2.cells.lds 0 2 (by simp),mbl,ZD,ZE,ZF];refine XX_of (Head_ok lby.gr.hp w) (fun res h13 hle13 hn13=>?_);obtain ⟨k13,rfl⟩:=hn13;refine .ret ?_;have oX:=Own.new h13 44 h13.length [iv 0,iv 0];have k14:Keep (fun _=>False) h13 (h13++[row 44 h13.length [iv 0,iv 0]]):=Keep.push _ _ _;simp only[ZG,↓reduceIte,ZA,ZB,ZC,wv,mbl,ZD,ZE,ZF];generalize h13++[row 44 h13.length [iv 0,iv 0]]=h14 at oX k14 ⊢;refine XH_own oX rfl (by simp [Value.cells]) rfl (fun h15 r1 r2 r3=>?_);have oX5:Own h15 h13.length 44 [iv (S.head w).1.1,iv (S.head w).1.2]:=by simpa [Value.cells] using r1
    have k15:Keep (fun _=>False) h13 h15:=k14.trans' r2 (fun c hc e=>by omega);have ky5:=k13.trans k15;have kx5:=kp2.trans ky5;have lb15:=lby.keepF ky5;have oW5:=oW2.keep ky5 (fun e=>e);have oH5':=oHy.keep ky5 (fun e=>e);simp only[ZG,↓reduceIte,ZA,ZB,ZC,oH5'.cells.ld,oW5.cells.lds 0 2 (by simp),mbl,ZD,ZE,ZF];refine XX_of (Fields_ok lb15.gr.hp v.ok w) (fun res h16 hle16 hn16=>?_);obtain ⟨k16,hn16⟩:=hn16;rw[if_pos hlies] at hn16;obtain ⟨vf,rfl,of,ff⟩:=hn16;refine .ret ?_;have kx6:=kx5.trans k16;have lb16:=lb15.keepF k16;have oX6:=oX5.keep k16 (fun e=>e);have o616:=o64.keep (kx0.trans kx6) (fun e=>e);have hrh:=head_rg r w;simp only[ZG,↓reduceIte,ZA,ZB,ZC,o616.cells.ld,oX6.cells.ld,mbl,ZD,ZE,ZF];refine XX_val (named_ok _ _) ?_;have hnl:=nmd_len (S.head w).1.1;have hil:=Lib.itoa_length_le _ hrh.1 hrh.2;have s1:sbin .add (tx (nmd (S.head w).1.1)) (⟨#[32]⟩:ByteArray)=some (tv (nmd (S.head w).1.1++[32])):=s_add (a:=nmd (S.head w).1.1) (b:=[32]) (by simp only[Z0,Z1,Z2];omega);have s2:sbin .add (tx (nmd (S.head w).1.1++[32])) (tx (Lib.itoa (S.head w).1.2))=some (tv (S.hdT w)):=s_add (by simp only[Z0,Z1,Z2];omega);simp only[ZG,↓reduceIte,ZA,ZB,ZC,ct4,ct2,ct0,ct1,o616.cells.ld,oX6.cells.ld,s1,mbl,ZD,ZE,ZF];refine XX_val (itoa_ok _ hrh.1 hrh.2 _) ?_;simp only[ZG,↓reduceIte,ZA,ZB,ZC,ct4,ct2,ct0,ct1,o616.cells.ld,oX6.cells.ld,s2,mbl,ZD,ZE,ZF];have hlb:=lb16.bd.choose_spec;refine XX_of (line_ok lb16 r of.rds (fun q hq=>⟨fun e=>by have:=(ff q hq.bk).1;have:=kx0.len;have:=kx5.len;have:=oxh.lt;have:=kx.len;omega,fun e=>by have:=(ff q hq.bk).1;have:=hlb.ow.lt q e;have:=lb15.bd.choose_spec.ow.lt q e;omega⟩) (flds_rg r w) (by omega) (by rw[Z0];omega)) (fun res h17 hle17 hn17=>?_);obtain ⟨rfl,vz,lbz,wz⟩:=hn17;refine .ret ?_;simp only[ZG,↓reduceIte,ZA,ZB,ZC,ct1];refine hΨ _ _ _ _ _ ⟨rfl,vz,?_,?_⟩
    ·rw[htk,<- Z3];exact lbz
    ·exact (Wt.refl h4.length hx vb).keepF kx6 |>.trans wz
   ·obtain ⟨_,vz,lbz,wz⟩:=hQ
    refine ⟨by omega,vz,lbz,(oxh.keep kx (fun e=>e)).keep wz.1 (fun e=>e.elim (fun e=>by omega) (fun e=>(fb _ e).2 rfl)),fun q e=>(wz.2 q e).elim (fb q) (fun e=>⟨by have:=oxh.lt;have:=kx.len;omega,fun c=>by have:=oxh.lt;have:=kx.len;omega⟩),kx0.trans' wz.1 (fun c hc e=>e.elim (fun e=>by omega) (fun e=>by have:=(fb c e).1;omega))⟩
 ·rintro out h' ⟨rfl,vb,lb,fb,kk⟩ hle
  obtain ⟨a,ba⟩:=lb.bd;simp only[ZG,↓reduceIte,ZA,ZB,ZC,mbl,ZD,ZE,ZF];refine XX_of (string_ok ba (by have:=objs_len r v (ts:=ts) (by omega) hfn;rw[Z0];omega)) (fun res h10 hle10 hn10=>?_);obtain ⟨rfl,k10⟩:=hn10;refine .ret ?_;simp only[ZG,↓reduceIte,ZA,ZB,ZC,mbl,ZD,ZE,ZF];exact hΨ _ _ (finI_ret (.inr rfl) (rv2 rfl rfl ⟨k04.trans (kk.trans' k10 (fun c hc e=>by have:=fb c e;omega)),by rw[if_pos hok,hts,HS.shapeT,hA];rfl⟩))
end
end Go.S19

namespace Go.S19
open Go Go.Eng Go.Proofs Go.Chk Go.Scn
def HS.meetC (S:HS) (n:Nat):List (Int × Int)->List (Int × Int)->Option (List (Int × Int) × Bool)
 | [],ts=>some (ts,true)
 | w::ws,ts=>if S.sound w then (match S.fol n w with
   | some x=>S.meetC n ws (if x.1=4 then num ts x else ts)
   | none=>none) else some (ts,false)
theorem meetC_eq {S:HS} {n:Nat}:∀ {ws ts:List (Int × Int)} {r:List (Int × Int) × Bool},S.meetC n ws ts=some r->S.meetT ws ts=r:=by
 intro ws
 induction ws with
 | nil=>intro ts r h;rw[HS.meetC] at h;cases h;rfl
 | cons w ws ih =>
   intro ts r h;rw[HS.meetC] at h;rw[HS.meetT]
   split at h
   ·rename_i hs
    rw[if_pos hs]
    split at h
    ·rename_i x hx
     rw[folX_eq hs hx];exact ih h
    ·cases h
   ·rename_i hs
    rw[if_neg hs];cases h;rfl
def HS.bfsC (S:HS) (m:Nat):Nat->Nat->List (Int × Int)->Bool->Option (List (Int × Int) × Bool)
 | 0,_,ts,sd=>some (ts,sd)
 | n+1,i,ts,sd=>match ts[i]? with
   | none=>some (ts,sd)
   | some w=>match S.meetC m (S.flds w) ts with
     | none=>none
     | some r=>if sd && r.2 then S.bfsC m n (i+1) r.1 true else some (r.1,false)
theorem bfsC_eq {S:HS} {m:Nat}:∀ {n i:Nat} {ts:List (Int × Int)} {sd:Bool} {r:List (Int × Int) × Bool},S.bfsC m n i ts sd=some r->S.bfsT n i ts sd=r:=by
 intro n
 induction n with
 | zero=>intro i ts sd r h;rw[HS.bfsC] at h;cases h;rfl
 | succ n ih =>
   intro i ts sd r h;rw[HS.bfsC] at h;rw[HS.bfsT]
   split at h
   ·rename_i e;rw[e];cases h;rfl
   ·rename_i w e
    rw[e]
    split at h
    ·cases h
    ·rename_i q hq
     simp only[meetC_eq hq]
     split at h
     ·rename_i c;rw[if_pos c];exact ih h
     ·rename_i c;rw[if_neg c];cases h;rfl
def HS.graphC (S:HS) (m:Nat) (roots:List (Int × Int)):Option (List (Int × Int) × Bool) :=
 match S.meetC m roots [] with
 | none=>none
 | some r=>match S.meetC m S.globals r.1 with
   | none=>none
   | some q=>S.bfsC m (S.begins.length+1) 0 q.1 (r.2 && q.2)
theorem graphC_eq {S:HS} {m:Nat} {roots:List (Int × Int)} {r:List (Int × Int) × Bool} (h:S.graphC m roots=some r):S.graph roots=r:=by
 unfold HS.graphC at h
 split at h
 ·cases h
 ·rename_i q hq
  split at h
  ·cases h
  ·rename_i q2 hq2
   rw[HS.graph,meetC_eq hq];simp only[meetC_eq hq2];exact bfsC_eq h
theorem lbl_eq {S:HS} {n:Nat} {ts:List (Int × Int)} {w x:Int × Int} (hs:S.sound w) (hx:S.fol n w=some x):S.lbl ts w=[32]++(if x.1=2 then [99] else if x.1=3 then [102] else if x.1=4 then [35] else [])++Lib.itoa (if x.1=4 then (((pos x ts).getD 0:Nat):Int) else x.2):=by
 unfold HS.lbl;rw[folX_eq hs hx]
theorem ren_eq {S:HS} {n:Nat} {ts:List (Int × Int)} {w x:Int × Int} (hs:S.sound w) (hx:S.fol n w=some x):S.ren ts w=if x.1=4 then (4,S.adr ts ((pos x ts).getD 0)) else x:=by
 unfold HS.ren;rw[folX_eq hs hx]
structure Wk (h:AH) (b:Nat) (L:Lay) (S:HS) (l:List (Nat × (Int × Int))):Prop where
 hp:Hp h b L S
 bx:∀ p,p∈l->Own h p.1 44 [iv p.2.1,iv p.2.2]/\L.cls p.1=0
section
variable {h h':AH} {b:Nat} {L L':Lay} {S S':HS} {l:List (Nat × (Int × Int))}
theorem Wk.step (w:Wk h b L S l) (k:Keep (Mine L) h h') (hp':Hp h' b L' S') (sm:Same h.length L L'):Wk h' b L' S' l :=
 ⟨hp',fun p hp=>⟨(w.bx p hp).1.keep k (by simp [Mine,(w.bx p hp).2]),(sm _ (w.bx p hp).1.lt).2 (w.bx p hp).2⟩⟩
theorem Wk.keepF (w:Wk h b L S l) (k:Keep (fun _=>False) h h'):Wk h' b L S l :=
 w.step (k.mono fun _ e=>e.elim) (w.hp.keepF k) (Same.refl _ _)
theorem Wk.ld2 (w:Wk h b L S l) {i:Nat} {p:Nat × (Int × Int)} (hp:l[i]?=some p):ldcs h p.1 0 2=some [iv p.2.1,iv p.2.2]:=by
 have:=(w.bx p (Z4 hp)).1.cells.lds 0 2 (by simp)
 simpa using this
theorem XH_box {keep:Bool} {nm:List Nat} {Φ:Out->PS->Prop} {cn:Cn} {k:List Fm} {e ll:PE} {ds:List Dfr} {d:D} (w:Wk h b L S l) {a c:Int}
 (hk:∀ h',h.length<h'.length->Wk h' b L S ((h.length,(a,c))::l)->Keep (fun _=>False) h h'->XV Tryd.prog keep nm Φ undef d cn k e ll h' ds):XH Tryd.prog keep nm Φ (stv (h++[row 44 h.length [.int .i64 0,.int .i64 0]]) 2 (.pointer (some ⟨h.length,0,none⟩)) (.agg #[iv a,iv c])) d cn k e ll ds:=by
 have on:=Own.new h 44 h.length [iv 0,iv 0];have kp:Keep (fun _=>False) h (h++[row 44 h.length [iv 0,iv 0]]):=Keep.push _ _ _;refine XH_own on rfl (by simp [Value.cells]) rfl (fun h2 q1 q2 q3=>?_);have on2:Own h2 h.length 44 [iv a,iv c]:=by simpa [Value.cells] using q1
 have k2:Keep (fun _=>False) h h2:=kp.trans' q2 (fun c hc e=>by omega);refine hk h2 (by rw[q3];simp) ⟨w.hp.keepF k2,fun p hp=>?_⟩ k2
 rcases Z8.1 hp with rfl|hp
 ·exact ⟨on2,w.hp.c0 _ (Zb _)⟩
 ·exact (w.keepF k2).bx p hp
end
def tinyS (sz:Int) (now begins:List (Int × Int)):HS:={ infos:=tinyC.infos,texts:=[],cons:=tinyC.cons,now:=now,old:=[],begins:=begins,oldm:=[],globals:=[(3,0),(4,0)],size:=sz,side:=0 }
theorem tiny_ends:(ends tinyC).isSome=true:=by rfl
theorem tiny_new20:(HS.start tinyC [] 20).gls tinyC.tops.length=some (tinyS 20 [(6,1),(1,0)] [(0,2)]):=by rfl
theorem tiny_put (v:Int):(tinyS 20 [(6,1),(1,0)] [(0,2)]).put (7,4) [(1,v),(4,0)]=((4,2),0,tinyS 20 [(6,1),(1,0),(7,4),(1,v),(4,0)] [(0,2),(2,3)]):=by rfl
abbrev TK (v:Int):HS:=tinyS 20 [(6,1),(1,0),(7,4),(1,v),(4,0)] [(0,2),(2,3)]
theorem tk_graph:(TK 97).graph [(4,2)]=([(4,2),(4,0)],true):=graphC_eq (m:=3) (by rfl)
theorem tk_reach:(TK 97).reach [(4,2),(4,0)]=5:=by rfl
theorem it97:Lib.itoa 97=[57,55]:=by decide +kernel
theorem it0:Lib.itoa 0=[48]:=by decide +kernel
theorem it1:Lib.itoa 1=[49]:=by decide +kernel
theorem it4:Lib.itoa 4=[52]:=by decide +kernel
theorem tk_shape:(TK 97).shapeT [(4,2)] [(4,2),(4,0)]=[114,111,111,116,115,32,35,48,10,103,108,111,98,97,108,115,32,102,48,32,35,49,10,99,111,110,32,52,32,57,55,32,35,49,10,105,110,102,111,32,49,10]:=by
 have e1:(TK 97).lbl [(4,2),(4,0)] (4,2)=[32,35,48]:=by
  rw[lbl_eq (n:=3) (x:=(4,2)) (of_decide_eq_true rfl) rfl,show (pos (4,2) [(4,2),(4,0)])=some 0 from rfl];simp [it0]
 have e2:(TK 97).lbl [(4,2),(4,0)] (3,0)=[32,102,48]:=by
  rw[lbl_eq (n:=3) (x:=(3,0)) (of_decide_eq_true rfl) rfl];simp [it0]
 have e3:(TK 97).lbl [(4,2),(4,0)] (4,0)=[32,35,49]:=by
  rw[lbl_eq (n:=3) (x:=(4,0)) (of_decide_eq_true rfl) rfl,show (pos (4,0) [(4,2),(4,0)])=some 1 from rfl];simp [it1]
 have e4:(TK 97).lbl [(4,2),(4,0)] (1,97)=[32,57,55]:=by
  rw[lbl_eq (n:=3) (x:=(1,97)) (of_decide_eq_true rfl) rfl];simp [it97]
 have f1:(TK 97).flds (4,2)=[(1,97),(4,0)]:=by rfl
 have f2:(TK 97).flds (4,0)=[]:=by rfl
 have g1:(TK 97).head (4,2)=((7,4),0):=by rfl
 have g2:(TK 97).head (4,0)=((6,1),0):=by rfl
 have gg:(TK 97).globals=[(3,0),(4,0)]:=rfl;simp [HS.shapeT,HS.lineT,HS.objT,HS.hdT,e1,e2,e3,e4,f1,f2,g1,g2,gg,nmd,it4,it1]
theorem tk_inv:Inv (TK 97):=by
 have h:=((Inv.start (C:=tinyC) (texts:=[]) (words:=20) (by decide) (by omega) (by omega)).gls tiny_new20).put (7,4) [(1,97),(4,0)];rw[tiny_put] at h;exact h
instance (n:Int):Decidable (rgI n):=by unfold rgI;infer_instance
theorem tk_rg:Rg (TK 97):=⟨by decide,by decide,by decide⟩
theorem tk_tx:Tx (TK 97):=by unfold Tx;decide
set_option maxHeartbeats 2000000 in
theorem wakes_ok (h:AH):Gets Tryd.prog 7 [] h (fun res h'=>Keep (fun _=>False) h h'/\res = .ret (.bool true)):=by
 refine Gets.of (keep:=false) hP (draw_ok hM) k7 (by rfl) (fun Ψ hΨ=>?_);simp only[ZG,↓reduceIte,ZA,ZB,ZC,r7,YE,YC,YO,YA,YL,YX,YS,Ya,Yb,Yl,Yf,Yg,Yi,Ym,Yk,Yt,Yn,Yz,Yp,Yq,Yd,mbl,ZD,ZE,ZF];refine XX_of (tiny_ok h) (fun res h1 hle1 hn=>?_);obtain ⟨k1,vi,vc,vp,vk,rfl,im,_,_,_⟩:=hn;refine .ret ?_;simp only[ZG,↓reduceIte,ZA,ZB,ZC,mbl,ZD,ZE,ZF];refine XX_of (New_ok (C:=tinyC) (texts:=[]) im (by refine ⟨?_,?_,?_,?_⟩<;>decide) .nil (by decide) (by decide) 20) (fun res h2 hle2 hn=>?_);obtain ⟨k2,hn⟩:=hn;unfold NewO at hn;rw[if_pos ⟨tiny_ends,by omega,by omega⟩,tiny_new20] at hn;obtain ⟨b,L0,rfl,hp0,z0⟩:=hn;refine .ret ?_;have k02:=k1.trans k2;have w:Wk h2 b L0 (tinyS 20 [(6,1),(1,0)] [(0,2)]) []:=⟨hp0,fun p hp=>by cases hp⟩
 simp only[ZG,↓reduceIte,ZA,ZB,ZC,mbl,ZD,ZE,ZF];have oR:=Own.new h2 44 h2.length [iv 1,iv 97,iv 4,iv 0];have kR:Keep (fun _=>False) h2 (h2++[row 44 h2.length [iv 1,iv 97,iv 4,iv 0]]):=Keep.push _ _ _;generalize h2++[row 44 h2.length [iv 1,iv 97,iv 4,iv 0]]=h3 at oR kR ⊢
 replace w:=w.keepF kR
 refine XX_of (Put_ok w.hp (by rfl) (7,4) (ys:=[(1,97),(4,0)]) (.mk oR.cells (by simp) rfl) (by decide) (fun _=>by decide)) (fun res h4 hle4 hn=>?_);rw[tiny_put] at hn;obtain ⟨kc,rfl,L1,s1,sm⟩:=hn;refine .ret ?_;have z1:∀ q,q<h1.length->L1.cls q=0:=fun q hq=>(sm q (by have:=k2.len;have:=kR.len;omega)).2 (z0 q hq)
 have k04:Keep (fun _=>False) h h4:=(k02.trans kR).trans' kc (fun c hc e=>e (z0 c (by have:=k1.len;omega)))
 replace w:=w.step kc s1 sm
 simp only[ZG,↓reduceIte,ZA,ZB,ZC,wv,mbl,ZD,ZE,ZF];refine XH_box w (fun h5 hlt w5 kb=>?_);have k05:=k04.trans kb;simp only[ZG,↓reduceIte,ZA,ZB,ZC,mbl,ZD,ZE,ZF,w5.ld2 (i:=0) rfl];have oU:=Own.new h5 44 h5.length [iv 4,iv 2];have kU:Keep (fun _=>False) h5 (h5++[row 44 h5.length [iv 4,iv 2]]):=Keep.push _ _ _;generalize h5++[row 44 h5.length [iv 4,iv 2]]=h6 at oU kU ⊢;have w6:=w5.keepF kU;have s6:Hp h6 b L1 (TK 97):=w6.hp;refine XX_of (Shape_ok s6 tk_inv tk_rg (by decide) (roots:=[(4,2)]) (.mk oU.cells (by simp) rfl) (by decide) (by decide)) (fun res h7 hle7 hn=>?_);rw[tk_graph,tk_shape] at hn;obtain ⟨k67,rfl⟩:=hn;refine .ret ?_;have w7:=w6.keepF k67;have k07:=(k05.trans kU).trans k67;simp only[ZG,↓reduceIte,ZA,ZB,ZC,mbl,ZD,ZE,ZF,w7.ld2 (i:=0) rfl];have oV:=Own.new h7 44 h7.length [iv 4,iv 2];have kV:Keep (fun _=>False) h7 (h7++[row 44 h7.length [iv 4,iv 2]]):=Keep.push _ _ _;generalize h7++[row 44 h7.length [iv 4,iv 2]]=h8 at oV kV ⊢;have w8:=w7.keepF kV;have s8:Hp h8 b L1 (TK 97):=w8.hp;refine XX_of (Reach_ok s8 tk_inv (by decide) (roots:=[(4,2)]) (.mk oV.cells (by simp) rfl) (by decide)) (fun res h9 hle9 hn=>?_);rw[tk_graph,tk_reach] at hn;obtain ⟨k89,rfl⟩:=hn;refine .ret ?_;have w9:=w8.keepF k89;have k09:=(k07.trans kV).trans k89;simp only[ZG,↓reduceIte,ZA,ZB,ZC,mbl,ZD,ZE,ZF,w9.ld2 (i:=0) rfl];have oX:=Own.new h9 44 h9.length [iv 4,iv 2];have kX:Keep (fun _=>False) h9 (h9++[row 44 h9.length [iv 4,iv 2]]):=Keep.push _ _ _;have zX:L1.cls h9.length=0:=w9.hp.c0 _ (Zb _);have eX:∀ q,rb (.slice (some ⟨h9.length,0,none⟩) 1 1) q->q=h9.length:=fun q e=>e.bk
 generalize h9++[row 44 h9.length [iv 4,iv 2]]=h10 at oX kX ⊢;have w10:=w9.keepF kX;have s10:Hp h10 b L1 (TK 97):=w10.hp;refine XX_of (Collect_ok s10 tk_inv (by decide) (roots:=[(4,2)]) (.mk oX.cells (by simp) rfl) (by decide) (fun q hq=>by rw[eX q hq];exact zX)) (fun res h11 hle11 hn=>?_);obtain ⟨kc2,hn⟩:=hn;rw[if_pos (by rw[tk_graph])] at hn;obtain ⟨v',news,S',L2,rfl,cr,s11,iv11,sm2,rw11⟩:=hn;refine .ret ?_;have cd:=coll_cd tk_inv tk_tx (by rw[tk_graph]) cr iv11;rw[tk_graph] at cd;have hnw:news=[(4,0)]:=by
  rw[cd.nw,List.map_cons,List.map_nil,ren_eq (n:=3) (x:=(4,2)) (of_decide_eq_true rfl) rfl];rfl
 subst hnw;have k011:Keep (fun _=>False) h h11:=(k09.trans kX).trans' kc2 (fun c hc e=>e (z1 c (by have:=k1.len;omega)));obtain ⟨b1,o1,c1,e1,_,hl1⟩:=rds_w rw11.o.rds (i:=0) (by decide) (by decide);subst e1;have tr:((tx ([114,111,111,116,115,32,35,48,10,103,108,111,98,97,108,115,32,102,48,32,35,49,10,99,111,110,32,52,32,57,55,32,35,49,10,105,110,102,111,32,49,10]:Bs)).toList == (⟨#[114,111,111,116,115,32,35,48,10,103,108,111,98,97,108,115,32,102,48,32,35,49,10,99,111,110,32,52,32,57,55,32,35,49,10,105,110,102,111,32,49,10]⟩:ByteArray).toList)=true:=by decide +kernel
 have dl:(((([((4:Int),(0:Int))]:List (Int × Int)).length:Nat):Int)=1)=True:=by simp
 have d0:((0:Int)<((([((4:Int),(0:Int))]:List (Int × Int)).length:Nat):Int))=True:=by simp
 have d00:((0:Int)<=0)=True:=by simp
 rw[show wat [((4:Int),(0:Int))] 0=(4,0) from rfl] at hl1;simp only[ZG,↓reduceIte,ZA,ZB,ZC,mbl,ZD,ZE,ZF,hl1,tr,dl,d0,d00,and_self];exact hΨ _ _ (fin_ret (rv1 rfl ⟨k011,rfl⟩))
end Go.S19

namespace Go.S19
open Go Go.Eng Go.Proofs Go.Chk Go.Scn
section
variable {h:AH} {b:Nat} {L:Lay} {S:HS}
noncomputable def HS.becX (S:HS) (w x:Int × Int):Int × HS:=open Classical in S.become w x (if h:∃ y m,S.fol m x=some y then h.choose else w)
theorem becX_eq {w x y:Int × Int} (hy:S.lies w/\(S.hd w).1=11/\S.sound x -> ∃ m,S.fol m x=some y):S.become w x y=S.becX w x:=by
 classical
 unfold HS.becX
 by_cases c:S.lies w/\(S.hd w).1=11/\S.sound x
 ·obtain ⟨m,hm⟩:=hy c
  have hex:∃ y m,S.fol m x=some y:=⟨y,m,hm⟩
  rw[dif_pos hex];obtain ⟨m2,hm2⟩:=hex.choose_spec;rw[<- fol_one hm hm2]
 ·have no:∀ z,S.become w x z=(1,S):=fun z=>by rw[HS.become,if_neg (fun e=>c ⟨e.1,e.2.1,e.2.2.1⟩)]
  rw[no,no]
theorem xHole_ok (s:Hp h b L S) (v:Inv S) (w:Int × Int):Gets Tryd.prog 18 [.pointer (some ⟨b,0,none⟩),wv w] h (fun res h'=>Keep (Mine L) h h'/\res = .ret (iv (S.hole w).1) /\ ∃ L',Hp h' b L' (S.hole w).2/\Same h.length L L') :=
 (Hole_ok s v.ok w).mono fun res h' _ ⟨a,c,d⟩=>⟨a,c,L,d,Same.refl _ _⟩
theorem xBecome_ok (s:Hp h b L S) (v:Inv S) (w x:Int × Int):Gets Tryd.prog 19 [.pointer (some ⟨b,0,none⟩),wv w,wv x] h (fun res h'=>Keep (Mine L) h h'/\res = .ret (iv (S.becX w x).1) /\ ∃ L',Hp h' b L' (S.becX w x).2/\Same h.length L L') :=
 (Become_ok s w x (fun _ _ hs=>v.tm x hs)).mono fun res h' _ ⟨a,y,c,d,e⟩=>by
  rw[becX_eq c] at d e;exact ⟨a,d,L,e,Same.refl _ _⟩
theorem inv_becX (v:Inv S) (w x:Int × Int):Inv (S.becX w x).2:=by
 by_cases c:S.lies w/\(S.hd w).1=11/\S.sound x
 ·obtain ⟨m,y,hy⟩:=v.tm x c.2.2
  rw[<- becX_eq (y:=y) (fun _=>⟨m,hy⟩)]
  rcases become_cases v w x y with ⟨h1,_⟩|⟨k,hc,_,hm,h2,_,_,h1⟩
  ·rw[h1];exact v
  ·rw[h1];exact v.bec hc hy hm h2
 ·rw[<- becX_eq (y:=w) (fun e=>absurd e c),HS.become,if_neg (fun e=>c ⟨e.1,e.2.1,e.2.2.1⟩)];exact v
end
def bgs (n:Nat):List (Int × Int):=(List.range (n+1)).map fun j:Nat=>(2*(j:Int),2)
structure Ch1 (S:HS) (i:Nat):Prop where
 e:∃ now,S=tinyS 300 now (bgs i)
 v:Inv S
 ln:S.now.length=2+2*i
 h0:gx S.now 0=(6,1)
 h1:∀ j:Nat,j<i->gx S.now (2+2*j)=(11,2)
section
variable {S:HS} {n i:Nat}
theorem gx_old {a c:List (Int × Int)} {j:Int} (h0:0<=j) (h:j<a.length):gx (a++c) j=gx a j:=by
 unfold gx;rw[if_pos (by simp;omega),if_pos ⟨h0,h⟩];unfold wat;rw[Za (by omega)]
structure Ch2 (S:HS) (n i:Nat) (v:Int):Prop where
 e:∃ now,S=tinyS 300 now (bgs n++[(2+2*(n:Int),3)])
 iv:Inv S
 ln:S.now.length=5+2*n
 h0:gx S.now 0=(6,1)
 hj:∀ j:Nat,j<n->gx S.now (2+2*j)=if j<i then (12,0) else (11,2)
 hn:∀ j:Nat,j<i->gx S.now (3+2*j)=(4,4+2*(j:Int))
 he:gx S.now (2+2*n)=(7,4)
 he1:gx S.now (3+2*n)=(1,v)
 he2:gx S.now (4+2*n)=(4,2)
variable {v:Int}
end
end Go.S19

namespace Go.S19
open Go Go.Eng Go.Proofs Go.Chk Go.Scn
def Tc (bs ws:List (Int × Int)):Prop:=∀ q∈bs,(gx ws q.1).1=9->(gx ws (q.1+1)).1=1
def T2 (bs ws:List (Int × Int)):Prop:=∀ q∈bs,(gx ws q.1).1=9->q.2=2
theorem Tc.set {bs ws:List (Int × Int)} {e:Int} (tn:tiles 0 bs e) (he:e<=ws.length) (k:T2 bs ws) (t:Tc bs ws) {p n i:Int} {x:Int × Int} (hm:(p,n)∈bs) (hi:p<=i/\i<p+n) (h9:(gx (ws.set i.toNat x) p).1=9->(gx (ws.set i.toNat x) (p+1)).1=1):Tc bs (ws.set i.toNat x):=by
 intro q hq hh;have t0:=tiles_in tn hm;simp only at t0
 rcases tiles_apart tn hq hm with rfl|d|d
 ·exact h9 hh
 all_goals
  have tq:=tiles_in tn hq;simp only at d;rw[gx_set ⟨by omega,by omega⟩,if_neg (by omega)] at hh;have:=k q hq hh;rw[gx_set ⟨by omega,by omega⟩,if_neg (by omega)];exact t q hq hh
theorem T2.set {bs ws:List (Int × Int)} (k:T2 bs ws) {i:Int} {x:Int × Int} (hi:0<=i/\i<ws.length) (hx:x.1≠9):T2 bs (ws.set i.toNat x):=by
 intro q hq hh;rw[gx_set hi] at hh
 split at hh
 ·exact absurd hh hx
 ·exact k q hq hh
theorem Tc.laid {bs ws zs:List (Int × Int)} (tn:tiles 0 bs ws.length) (k:T2 bs ws) (t:Tc bs ws) (h1:(gx zs 0).1=9->(gx zs 1).1=1) (h0:1<=zs.length) (h2:(gx zs 0).1=9->2<=zs.length):Tc (bs++[((ws.length:Int),(zs.length:Int))]) (ws++zs):=by
 intro q hq hh
 rcases Z9.1 hq with e|e
 ·have tq:=tiles_in tn e
  have o:∀ j:Int,0<=j->j<ws.length->gx (ws++zs) j=gx ws j:=fun j h0 h=>by
   unfold gx;rw[if_pos (by simp;omega),if_pos ⟨h0,h⟩];unfold wat;rw[Za (by omega)]
  rw[o _ (by omega) (by omega)] at hh;have:=k q e hh;rw[o _ (by omega) (by omega)];exact t q e hh
 ·cases List.mem_singleton.1 e
  have e0:=gx_laid (a:=ws) (c:=zs) (j:=0) (by omega) (by omega);simp only at hh ⊢;rw[Int.add_zero] at e0;rw[e0] at hh;have:=h2 hh;rw[gx_laid (by omega) (by omega)];exact h1 hh
structure Gs (S:HS):Prop where
 v:Inv S
 r:Rg S
 tx:Tx S
 to:Tc S.oldm S.old
theorem Gs.k2 {S:HS} (g:Gs S):T2 S.begins S.now:=fun q hq h=>(g.v.kn q hq).k9 h
theorem Gs.o2 {S:HS} (g:Gs S):T2 S.oldm S.old:=fun q hq h=>((g.v.ko q hq).resolve_left (by omega)).k9 h
theorem rg_set {ws:List (Int × Int)} {i:Nat} {x:Int × Int} (h:∀ y∈ws,rgI y.2) (hx:rgI x.2):∀ y∈ws.set i x,rgI y.2:=fun y hy=>(List.mem_or_eq_of_mem_set hy).elim (h y) (fun e=>e ▸ hx)
theorem rg0:rgI 0:=⟨by decide,by decide⟩
theorem Gs.start {S:HS} (v:Inv S) (r:Rg S) (h9:∀ q∈S.begins,(gx S.now q.1).1≠9) (ho:S.oldm=[]):Gs S:=⟨v,r,fun q hq h=>absurd h (h9 q hq),fun q hq=>by rw[ho] at hq;cases hq⟩
section
variable {S:HS}
theorem all_rg {hd:Int × Int} {ys:List (Int × Int)} (h1:rgI hd.2) (h2:∀ y∈ys,rgI y.2):∀ y∈S.all hd ys,rgI y.2:=by
 intro y hy;unfold HS.all at hy
 split at hy
 ·simp only[List.cons_append,Z8,Z9,List.not_mem_nil,or_false] at hy
  rcases hy with rfl|e|rfl
  ·exact h1
  ·exact h2 y e
  ·exact rg0
 ·rcases Z8.1 hy with rfl|e
  ·exact h1
  ·exact h2 y e
theorem Gs.put (g:Gs S) {hd:Int × Int} {ys:List (Int × Int)} (h1:rgI hd.2) (h2:∀ y∈ys,rgI y.2):Gs (S.put hd ys).2.2:=by
 have v2:=g.v.put hd ys;unfold HS.put at v2 ⊢
 split at v2
 ·rename_i c
  split at v2
  ·rename_i c2;rw[if_pos c,if_pos c2];exact g
  ·rename_i c2
   rw[if_pos c,if_neg c2];refine ⟨v2,⟨fun x hx=>(Z9.1 hx).elim (g.r.now x) (all_rg h1 h2 x),g.r.old,g.r.gl⟩,?_,g.to⟩;have hl:=all_len S hd ys;have h9:(gx (S.all hd ys) 0).1=9->hd.1=9:=fun e=>by
    unfold HS.all at e
    split at e
    ·rw[gx_zero (by simp)] at e;exact e
    ·rw[gx_zero (by simp)] at e;exact e
   refine Tc.laid g.v.tn g.k2 g.tx (fun e=>?_) (by omega) (fun e=>?_)
   ·have e9:=h9 e
    rcases c.1 with k|k|k|k|k
    ·omega
    ·omega
    ·omega
    ·obtain ⟨_,_,_,k4,k5,_⟩:=k
     have np:¬ S.pad hd ys.length:=fun e=>by
      rcases e with e|e<;>omega
     obtain ⟨y,rfl⟩:∃ y,ys=[y]:=List.length_eq_one_iff.1 (by omega);unfold HS.all;rw[if_neg np];exact k5
    ·omega
   ·have e9:=h9 e
    rcases c.1 with k|k|k|k|k
    ·omega
    ·omega
    ·omega
    ·obtain ⟨_,_,_,k4,_⟩:=k
     unfold HS.all
     split<;>simp<;>omega
    ·omega
 ·rename_i c;rw[if_neg c];exact g
theorem Gs.sete (g:Gs S) (w:Int × Int) (k:Int) {x:Int × Int} (hx:rgI x.2):Gs (S.sete w k x).2:=by
 have v2:=g.v.sete w k x
 rcases sete_cases g.v w k x with ⟨e,h,_⟩|⟨n,hl,hs,hn,hm,h0,h9,h12,hk,hi,g0,g1,h⟩
 ·rw[h];exact g
 rw[h] at v2 ⊢;refine ⟨v2,⟨rg_set g.r.now hx,g.r.old,g.r.gl⟩,Tc.set g.v.tn (by omega) g.k2 g.tx hm ⟨by omega,by omega⟩ (fun e=>?_),g.to⟩;rw[gx_set ⟨by omega,by omega⟩,if_neg (by omega)] at e;exact absurd e h9
theorem Gs.hole (g:Gs S) (w:Int × Int):Gs (S.hole w).2:=by
 have v2:=g.v.hole w
 rcases hole_cases g.v w with ⟨h,_⟩|⟨n,hc,hn,hm,h2,g0,g1,h⟩
 ·rw[h];exact g
 rw[h] at v2 ⊢;have:=g.v.ln;have:=g.v.sz;refine ⟨v2,⟨rg_set g.r.now ⟨by show _<=n;omega,by show n<=_;omega⟩,g.r.old,g.r.gl⟩,Tc.set g.v.tn (by omega) g.k2 g.tx hm ⟨by omega,by omega⟩ (fun e=>?_),g.to⟩;rw[gx_set ⟨by omega,by omega⟩,if_pos rfl] at e;cases e
theorem Gs.becX (g:Gs S) (w:Int × Int) {x:Int × Int} (hx:rgI x.2):Gs (S.becX w x).2:=by
 have v2:=inv_becX g.v w x
 by_cases c:S.lies w/\(S.hd w).1=11/\S.sound x
 ·obtain ⟨m,y,hy⟩:=g.v.tm x c.2.2
  rw[<- becX_eq (y:=y) (fun _=>⟨m,hy⟩)] at v2 ⊢
  rcases become_cases g.v w x y with ⟨h1,_⟩|⟨k,hc,_,hm,h2,g0,g1,h1⟩
  ·rw[h1];exact g
  ·rw[h1] at v2 ⊢
   have t1:Tc S.begins (S.now.set w.2.toNat (12,0)):=Tc.set g.v.tn (by omega) g.k2 g.tx hm ⟨by omega,by omega⟩ (fun e=>by
    rw[gx_set ⟨by omega,by omega⟩,if_pos rfl] at e;cases e)
   have k1:T2 S.begins (S.now.set w.2.toNat (12,0)):=g.k2.set ⟨by omega,by omega⟩ (by decide);refine ⟨v2,⟨rg_set (rg_set g.r.now rg0) hx,g.r.old,g.r.gl⟩,Tc.set g.v.tn (by rw[List.length_set];omega) k1 t1 hm ⟨by omega,by omega⟩ (fun e=>?_),g.to⟩;rw[gx_set ⟨by omega,by rw[List.length_set];omega⟩,if_neg (by omega),gx_set ⟨by omega,by omega⟩,if_pos rfl] at e;cases e
 ·rw[<- becX_eq (y:=w) (fun e=>absurd e c),HS.become,if_neg (fun e=>c ⟨e.1,e.2.1,e.2.2.1⟩)];exact g
theorem Gs.setg (g:Gs S) {ys:List (Int × Int)} (h:∀ y∈ys,rgI y.2):Gs (S.setg ys).2:=by
 have v2:=g.v.setg ys;unfold HS.setg at v2 ⊢
 split at v2
 ·rename_i c;rw[if_pos c];exact ⟨v2,⟨g.r.now,g.r.old,h⟩,g.tx,g.to⟩
 ·rename_i c;rw[if_neg c];exact g
theorem Gs.flip (g:Gs S):Gs S.flip:=⟨g.v.flip,⟨fun x hx=>(by cases hx),g.r.now,g.r.gl⟩,fun q hq=>(by cases hq),g.tx⟩
theorem Gs.mv (g:Gs S) {w:Int × Int} {r:(Int × Int) × Int × HS} (hw:rgI w.2) (h:Mv S w r):Gs r.2.2/\rgI r.1.2:=by
 have v2:=g.v.mv h
 induction h with
 | plain=>exact ⟨g,hw⟩
 | none=>exact ⟨g,rg0⟩
 | was=>exact ⟨g,gx_rg g.r.old _⟩
 | ind _ _ _ _ _ ih=>exact ih (gx_rg g.r.old _) v2
 | full=>exact ⟨g,rg0⟩
 | @new w n h h1 hn h13 h12 hf =>
   have hm:=mget_in hn;have t:=tiles_in g.v.to hm;simp only at t;have ln:=g.v.ln;have lo:=g.v.lo;have sz:=g.v.sz;have el:=owords_len hn (by omega);have kd:=(g.v.ko _ hm).resolve_left h13;have e0:=owords_at hn (j:=0) (by omega) (by omega);rw[Int.add_zero] at e0;have hr:rgI ((S.now.length:Nat):Int):=⟨by omega,by omega⟩
   refine ⟨⟨v2,⟨fun x hx=>(Z9.1 hx).elim (g.r.now x) (fun e=>?_),rg_set g.r.old hr,g.r.gl⟩,?_,?_⟩,hr⟩
   ·unfold HS.owords at e
    obtain ⟨i,_,rfl⟩:=List.mem_map.1 e;exact gx_rg g.r.old _
   ·refine Tc.laid g.v.tn g.k2 g.tx (fun e=>?_) (by omega) (fun e=>?_)
    ·rw[e0] at e
     have:=kd.k9 e;rw[owords_at hn (by omega) (by omega)];exact g.to _ hm e
    ·rw[e0] at e
     have:=kd.k9 e;omega
   ·exact Tc.set g.v.to (by omega) g.o2 g.to hm ⟨by omega,by omega⟩ (fun e=>by
     rw[gx_set ⟨by omega,by omega⟩,if_pos rfl] at e;cases e)
theorem Gs.mvl {ws xs:List (Int × Int)} {T:HS} (g:Gs S) (hw:∀ w∈ws,rgI w.2) (h:MvL S ws xs T):Gs T /\ ∀ x∈xs,rgI x.2:=by
 induction h with
 | nil=>exact ⟨g,fun x hx=>by cases hx⟩
 | cons h t ih =>
   obtain ⟨g1,r1⟩:=g.mv (hw _ Z7) h;obtain ⟨g2,r2⟩:=ih g1 (fun w e=>hw w (Z5 _ e));exact ⟨g2,fun x hx=>(Z8.1 hx).elim (fun e=>e ▸ r1) (r2 x)⟩
theorem Gs.setl (w:Int × Int):∀ (xs:List (Int × Int)) (k:Nat) {S:HS},Gs S->(∀ x∈xs,rgI x.2)->Gs (S.setl w k xs):=by
 intro xs
 induction xs with
 | nil=>intro k S g _;exact g
 | cons x xs ih=>intro k S g h;exact ih _ (g.sete w k (h x Z7)) (fun y e=>h y (Z5 _ e))
theorem Gs.scan {T:HS} {i:Int} (g:Gs S) (h:Scan S i T):Gs T:=by
 induction h with
 | done=>exact g
 | step _ m _ ih =>
   obtain ⟨g1,r1⟩:=g.mvl (flds_rg g.r _) m;exact ih (Gs.setl _ _ _ g1 r1)
theorem Gs.coll {roots news:List (Int × Int)} {T:HS} (g:Gs S) (hr:∀ w∈roots,rgI w.2) (h:CollR S roots news T):Gs T /\ ∀ x∈news,rgI x.2:=by
 obtain ⟨S2,gs,S3,S4,m1,m2,sc,rfl⟩:=h;obtain ⟨g2,r2⟩:=g.flip.mvl hr m1;obtain ⟨g3,r3⟩:=g2.mvl g.r.gl m2;exact ⟨(g3.scan sc).setg r3,r2⟩
end
end Go.S19

namespace Go.S19
open Go Go.Eng Go.Proofs Go.Chk Go.Scn
section
variable {S T:HS} {roots ts news:List (Int × Int)}
end
end Go.S19

namespace Go.S19
open Go Go.Eng Go.Proofs Go.Chk Go.Scn
def Stp (S:HS) (o:Op) (T:HS):Prop :=
 if o.k=1 then T=(S.put o.w o.ys).2.2 else if o.k=2 then T=(S.sete o.w o.n o.x).2 else if o.k=3 then T=(S.hole o.w).2 else if o.k=4 then T=(S.becX o.w o.x).2 else if o.k=5 then T=(S.setg o.ys).2
 else if o.k=6 then (if (S.graph o.ys).2=true then ∃ news,CollR S o.ys news T else T=S) else if o.k=7 then T=S.flip else if o.k=8 then ∃ r,Mv S o.w r/\T=r.2.2 else T=S
def Op.R (o:Op):Prop:=rgI o.w.2/\rgI o.x.2 /\ ∀ y∈o.ys,rgI y.2
theorem gl_put {S:HS} (hd:Int × Int) (ys:List (Int × Int)):(S.put hd ys).2.2.globals=S.globals:=(put_img S hd ys).2.2.2.2.1
theorem gl_sete {S:HS} (w:Int × Int) (k:Int) (x:Int × Int):(S.sete w k x).2.globals=S.globals:=(sete_same S w k x).2.2.1
theorem gl_hole {S:HS} (w:Int × Int):(S.hole w).2.globals=S.globals:=by
 unfold HS.hole;split
 ·unfold HS.setp;split<;>rfl
 ·rfl
theorem gl_becX {S:HS} (w x:Int × Int):(S.becX w x).2.globals=S.globals:=by
 unfold HS.becX HS.become
 split<;>split
 ·unfold HS.setp;split<;>split<;>rfl
 ·rfl
 ·unfold HS.setp;split<;>split<;>rfl
 ·rfl
theorem gl_setg {S:HS} (ys:List (Int × Int)):(S.setg ys).2.globals.length=S.globals.length:=by
 unfold HS.setg;split
 ·rename_i c;have:=c.1;show ys.length=_;omega
 ·rfl
theorem gl_mv {S:HS} {w:Int × Int} {r:(Int × Int) × Int × HS} (h:Mv S w r):r.2.2.globals=S.globals:=by
 induction h with
 | plain=>rfl
 | none=>rfl
 | was=>rfl
 | ind _ _ _ _ _ ih=>exact ih
 | full=>rfl
 | new=>rfl
theorem Gs.stp {S T:HS} {o:Op} (g:Gs S) (r:o.R) (h:Stp S o T):Gs T/\T.globals.length=S.globals.length:=by
 unfold Stp at h
 split at h
 ·subst h;exact ⟨g.put r.1 r.2.2,by rw[gl_put]⟩
 split at h
 ·subst h;exact ⟨g.sete _ _ r.2.1,by rw[gl_sete]⟩
 split at h
 ·subst h;exact ⟨g.hole _,by rw[gl_hole]⟩
 split at h
 ·subst h;exact ⟨g.becX _ r.2.1,by rw[gl_becX]⟩
 split at h
 ·subst h;exact ⟨g.setg r.2.2,gl_setg _⟩
 split at h
 ·split at h
  ·rename_i hg
   obtain ⟨news,cr⟩:=h;obtain ⟨g2,_⟩:=g.coll r.2.2 cr;refine ⟨g2,?_⟩;rw[(coll_cd g.v g.tx hg cr g2.v).gl,List.length_map]
  ·subst h;exact ⟨g,rfl⟩
 split at h
 ·subst h;exact ⟨g.flip,rfl⟩
 split at h
 ·obtain ⟨r',hm,rfl⟩:=h;exact ⟨(g.mv r.1 hm).1,by rw[gl_mv hm]⟩
 ·subst h;exact ⟨g,rfl⟩
inductive Run:HS->List Op->HS->Prop where
 | nil {S}:Run S [] S
 | snoc {S os T o U} (h:Run S os T) (s:Stp T o U):Run S (os++[o]) U
end Go.S19
