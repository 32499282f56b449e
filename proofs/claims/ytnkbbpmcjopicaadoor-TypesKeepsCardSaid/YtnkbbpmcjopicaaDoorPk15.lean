import Derived.Test.YtnkbbpmcjopicaaDoorPk14
import Derived.Shelf.Strconv.Itoa3
import Derived.Shelf.Small.Wraps
import Derived.Shelf.Strings.Repeat
import Derived.Test.YtnkbbpmcjopicaaDoorProg
import Derived.Test.YtnkbbpmcjopicaaDoorPk12
import Derived.Lib.ItoaMem
import Derived.Lib.ItoaNum
import Derived.Lib.Strings
import Derived.Test.YtnkbbpmcjopicaaDoorPk13
set_option linter.unusedVariables false
set_option linter.unusedSimpArgs false
open Nat renaming reduceEqDiff -> ZA,reduceAdd -> ZB,reduceMul -> ZC,reduceLeDiff -> ZD,reduceLT -> ZE
open Int renaming reduceEq -> ZF
open List renaming mem_cons_of_mem->Z0,getElem?_eq_some_iff->Z1,mem_cons_self->Z2,getElem?_eq_getElem->Z3,mem_singleton->Z4,getElem?_append_left->Z6,mem_append->Z7,mem_append_left->Z8,append_assoc->Z9,mem_append_right->Za,lookup_cons->Zb,length_append->Zd,getElem?_set_self->Zi,getElem?_of_mem->Zj,getElem?_set_ne->Zk,getElem?_map->Zm
open Int renaming toNat_natCast->Z5,toNat_zero->Zc,le_refl->Zg
open Option renaming isSome_iff_exists->Ze,map_some->Zf
open Nat renaming le_refl->Zh,le_trans->Zl
namespace Go.S11
open Go Go.Eng Go.Proofs Go.Scn
abbrev fv (f:FuncId):Value:=.func (.func f) #[] #[]
theorem sl_from {l:Bs} {p:Nat} (hp:p<=l.length):slsv (.string (tx l)) (some (iv p)) none=some (.string (tx (l.drop p)),none):=by
 have h1:(0:Int)<=(p:Int)/\(p:Int)<=(l.length:Int):=by omega
 simp only[slsv,bnd,tx_size,Option.bind_some,if_pos h1,Zf,Z5,tx_ext,List.take_length]
theorem sl_to {l:Bs} {n:Nat} (hn:n<=l.length):slsv (.string (tx l)) none (some (iv n))=some (.string (tx (l.take n)),none):=by
 have h1:(0:Int)<=(n:Int)/\(n:Int)<=(l.length:Int):=by omega
 simp only[slsv,bnd,tx_size,Option.bind_some,if_pos h1,Zf,Z5,tx_ext,List.drop_zero]
theorem isKey_ok (l:Bs) (h:AH):Gets Tryd.prog 68 [tv l] h (fun res h'=>h'=h/\res = .ret (.bool (keyL.contains l))):=by
 refine Gets.of (keep:=false) hP (draw_ok hM) k68 (by rfl) (fun Ψ hΨ=>?_);cases a0:(l == [100,97,116,97]) with
 | true =>
   simp only[ZG,↓reduceIte,ZA,ZB,ZC,r68,YE,YC,YO,YA,YL,YX,YS,Ya,Yb,Yl,Yf,Yg,Yi,Ym,Yk,Yt,Yn,Yz,Yp,Yq,Yd,tx_toList,mk_toList,a0];exact hΨ _ _ (fin_ret (rv1 rfl ⟨rfl,by rw[eq_of_beq a0];rfl⟩))
 | false =>
 cases a1:(l == [108,101,116]) with
 | true =>
   simp only[ZG,↓reduceIte,ZA,ZB,ZC,r68,YE,YC,YO,YA,YL,YX,YS,Ya,Yb,Yl,Yf,Yg,Yi,Ym,Yk,Yt,Yn,Yz,Yp,Yq,Yd,tx_toList,mk_toList,a0,a1];exact hΨ _ _ (fin_ret (rv1 rfl ⟨rfl,by rw[eq_of_beq a1];rfl⟩))
 | false =>
 cases a2:(l == [105,110]) with
 | true =>
   simp only[ZG,↓reduceIte,ZA,ZB,ZC,r68,YE,YC,YO,YA,YL,YX,YS,Ya,Yb,Yl,Yf,Yg,Yi,Ym,Yk,Yt,Yn,Yz,Yp,Yq,Yd,tx_toList,mk_toList,a0,a1,a2];exact hΨ _ _ (fin_ret (rv1 rfl ⟨rfl,by rw[eq_of_beq a2];rfl⟩))
 | false =>
 cases a3:(l == [119,104,101,114,101]) with
 | true =>
   simp only[ZG,↓reduceIte,ZA,ZB,ZC,r68,YE,YC,YO,YA,YL,YX,YS,Ya,Yb,Yl,Yf,Yg,Yi,Ym,Yk,Yt,Yn,Yz,Yp,Yq,Yd,tx_toList,mk_toList,a0,a1,a2,a3];exact hΨ _ _ (fin_ret (rv1 rfl ⟨rfl,by rw[eq_of_beq a3];rfl⟩))
 | false =>
 cases a4:(l == [99,97,115,101]) with
 | true =>
   simp only[ZG,↓reduceIte,ZA,ZB,ZC,r68,YE,YC,YO,YA,YL,YX,YS,Ya,Yb,Yl,Yf,Yg,Yi,Ym,Yk,Yt,Yn,Yz,Yp,Yq,Yd,tx_toList,mk_toList,a0,a1,a2,a3,a4];exact hΨ _ _ (fin_ret (rv1 rfl ⟨rfl,by rw[eq_of_beq a4];rfl⟩))
 | false =>
 cases a5:(l == [111,102]) with
 | true =>
   simp only[ZG,↓reduceIte,ZA,ZB,ZC,r68,YE,YC,YO,YA,YL,YX,YS,Ya,Yb,Yl,Yf,Yg,Yi,Ym,Yk,Yt,Yn,Yz,Yp,Yq,Yd,tx_toList,mk_toList,a0,a1,a2,a3,a4,a5];exact hΨ _ _ (fin_ret (rv1 rfl ⟨rfl,by rw[eq_of_beq a5];rfl⟩))
 | false =>
 cases a6:(l == [105,102]) with
 | true =>
   simp only[ZG,↓reduceIte,ZA,ZB,ZC,r68,YE,YC,YO,YA,YL,YX,YS,Ya,Yb,Yl,Yf,Yg,Yi,Ym,Yk,Yt,Yn,Yz,Yp,Yq,Yd,tx_toList,mk_toList,a0,a1,a2,a3,a4,a5,a6];exact hΨ _ _ (fin_ret (rv1 rfl ⟨rfl,by rw[eq_of_beq a6];rfl⟩))
 | false =>
 cases a7:(l == [116,104,101,110]) with
 | true =>
   simp only[ZG,↓reduceIte,ZA,ZB,ZC,r68,YE,YC,YO,YA,YL,YX,YS,Ya,Yb,Yl,Yf,Yg,Yi,Ym,Yk,Yt,Yn,Yz,Yp,Yq,Yd,tx_toList,mk_toList,a0,a1,a2,a3,a4,a5,a6,a7];exact hΨ _ _ (fin_ret (rv1 rfl ⟨rfl,by rw[eq_of_beq a7];rfl⟩))
 | false =>
 cases a8:(l == [101,108,115,101]) with
 | true =>
   simp only[ZG,↓reduceIte,ZA,ZB,ZC,r68,YE,YC,YO,YA,YL,YX,YS,Ya,Yb,Yl,Yf,Yg,Yi,Ym,Yk,Yt,Yn,Yz,Yp,Yq,Yd,tx_toList,mk_toList,a0,a1,a2,a3,a4,a5,a6,a7,a8];exact hΨ _ _ (fin_ret (rv1 rfl ⟨rfl,by rw[eq_of_beq a8];rfl⟩))
 | false =>
 simp only[ZG,↓reduceIte,ZA,ZB,ZC,r68,YE,YC,YO,YA,YL,YX,YS,Ya,Yb,Yl,Yf,Yg,Yi,Ym,Yk,Yt,Yn,Yz,Yp,Yq,Yd,tx_toList,mk_toList,a0,a1,a2,a3,a4,a5,a6,a7,a8];exact hΨ _ _ (fin_ret (rv1 rfl ⟨rfl,by simp only[keyL,List.contains_cons,a0,a1,a2,a3,a4,a5,a6,a7,a8];rfl⟩))
theorem span_ok {f:FuncId} {p:UInt8->Bool} (hf:Says f p) (l:Bs) (hl:l.length<=9223372036854775807) (h:AH):Gets Tryd.prog 65 [tv l,fv f] h (fun res h'=>h'=h/\res = .ret (iv (spn p l))):=by
 refine Gets.of (keep:=false) hP (draw_ok hM) k65 (by rfl) (fun Ψ hΨ=>?_);simp only[ZG,↓reduceIte,ZA,ZB,ZC,r65,YE,YC,YO,YA,YL,YX,YS,Ya,Yb,Yl,Yf,Yg,Yi,Ym,Yk,Yt,Yn,Yz,Yp,Yq,Yd,tx_size];refine XLo_rule (α:=Nat) (fun i=>[(0,tv l),(1,fv f),(7,iv l.length),(8,iv i)]) (fun i h'=>i<=l.length/\h'=h /\ ∀ j c,j<i->l[j]?=some c->p c=true) (fun i=>l.length-i) 0 ⟨Nat.zero_le _,rfl,fun j c hj=>by omega⟩ ⟨rfl,rfl,rfl,rfl,trivial⟩ ?_;rintro i h1 Ψ2 ⟨i1,rfl,hall⟩ next out
 by_cases hi:(i:Int)<(l.length:Int)
 ·have h0:0<=(i:Int):=by omega
  have hw:IntKind.i64.wrap ((i:Int)+1)=((i+1:Nat):Int):=by rw[i64w (by omega) (by omega)];omega
  have hc:l[i]?=some l[i]:=Z3 (by omega);simp only[ZG,↓reduceIte,ZA,ZB,ZC,hi,h0,Z5,tx_get,hc];refine XX_val (hf _ _) ?_;cases hp:p l[i] with
  | true =>
    simp only[ZG,↓reduceIte,ZA,ZB,ZC,hw];refine next (i+1) _ _ _ ⟨by omega,rfl,fun j c hj hjc=>?_⟩ ⟨rfl,rfl,rfl,rfl,trivial⟩ (by omega)
    by_cases hji:j<i
    ·exact hall j c hji hjc
    ·have:j=i:=by omega
     subst this;rw[hc] at hjc;cases hjc;exact hp
  | false =>
    simp only[ZG,↓reduceIte,ZA,ZB,ZC];refine out .ret _ _ _ _ (by intro e;cases e) ?_;simp only[ZG,↓reduceIte,ZA,ZB,ZC];exact hΨ _ _ (fin_ret (rv1 rfl ⟨rfl,by rw[spn_eq (n:=i) (by omega) hall (fun c hcc=>by rw[hc] at hcc;cases hcc;exact hp)];rfl⟩))
 ·have hie:i=l.length:=by omega
  simp only[ZG,↓reduceIte,ZA,ZB,ZC,hi];refine out (.exit 0) _ _ _ _ (by intro e;cases e) ?_;simp only[ZG,↓reduceIte,ZA,ZB,ZC,tx_size];exact hΨ _ _ (fin_ret (rv1 rfl ⟨rfl,by rw[spn_eq (n:=l.length) (by omega) (fun j c hj hc=>hall j c (by omega) hc) (fun c hc=>by simp at hc)];rfl⟩))
set_option maxHeartbeats 1000000 in
theorem name_ok (l:Bs) (hl:l.length<=9223372036854775807) (h:AH):Gets Tryd.prog 52 [tv l] h (fun res h'=>h'=h/\res = .ret (iv (nameK l))):=by
 refine Gets.of (keep:=false) hP (draw_ok hM) k52 (by rfl) (fun Ψ hΨ=>?_);cases l with
 | nil =>
   simp only[ZG,↓reduceIte,ZA,ZB,ZC,r52,YE,YC,YO,YA,YL,YX,YS,Ya,Yb,Yl,Yf,Yg,Yi,Ym,Yk,Yt,Yn,Yz,Yp,Yq,Yd,tx_toList,mk_toList,beq_self_eq_true];exact hΨ _ _ (fin_ret (rv1 rfl ⟨rfl,rfl⟩))
 | cons c r =>
 have hne:((c::r) == ([]:Bs))=false:=rfl;have hc:(c::r)[0]?=some c:=rfl;have zero:∀ {k:Int},(32<(c::r).length\/digit c=true\/c.toNat=39\/spn inner (c::r)<(c::r).length)->k=0->k=nameK (c::r):=by
  intro k hk e;rw[nameK_zero hk,e]
 by_cases h1:(32:Int)<((c::r).length:Int)
 ·simp only[ZG,↓reduceIte,ZA,ZB,ZC,r52,YE,YC,YO,YA,YL,YX,YS,Ya,Yb,Yl,Yf,Yg,Yi,Ym,Yk,Yt,Yn,Yz,Yp,Yq,Yd,tx_toList,mk_toList,hne,tx_size,h1]
  exact hΨ _ _ (fin_ret (rv1 rfl ⟨rfl,congrArg (fun k=>Res.ret (iv k)) (zero (.inl (by omega)) rfl)⟩))
 simp only[ZG,↓reduceIte,ZA,ZB,ZC,r52,YE,YC,YO,YA,YL,YX,YS,Ya,Yb,Yl,Yf,Yg,Yi,Ym,Yk,Yt,Yn,Yz,Yp,Yq,Yd,tx_toList,mk_toList,hne,tx_size,h1,tx_get,hc,Zc,Zg];refine XX_val (isDigit_ok c h) ?_;cases h2:digit c with
 | true =>
   simp only[ZG,↓reduceIte,ZA,ZB,ZC];exact hΨ _ _ (fin_ret (rv1 rfl ⟨rfl,congrArg (fun k=>Res.ret (iv k)) (zero (.inr (.inl h2)) rfl)⟩))
 | false =>
 by_cases h3:(c.toNat:Int)=39
 ·simp only[ZG,↓reduceIte,ZA,ZB,ZC,tx_get,hc,Zc,Zg,eq_true h3]
  exact hΨ _ _ (fin_ret (rv1 rfl ⟨rfl,congrArg (fun k=>Res.ret (iv k)) (zero (.inr (.inr (.inl (by omega)))) rfl)⟩))
 simp only[ZG,↓reduceIte,ZA,ZB,ZC,tx_get,hc,Zc,Zg,h3];refine XX_val (span_ok isInner_ok (c::r) hl h) ?_
 by_cases h4:(spn inner (c::r):Int)<((c::r).length:Int)
 ·simp only[ZG,↓reduceIte,ZA,ZB,ZC,tx_size,h4]
  exact hΨ _ _ (fin_ret (rv1 rfl ⟨rfl,congrArg (fun k=>Res.ret (iv k)) (zero (.inr (.inr (.inr (by omega)))) rfl)⟩))
 simp only[ZG,↓reduceIte,ZA,ZB,ZC,tx_size,h4,tx_get,hc,Zc,Zg];have hz:¬ (32<(c::r).length\/digit c=true\/c.toNat=39\/spn inner (c::r)<(c::r).length):=by
  rw[h2];simp only[Bool.false_eq_true,false_or];omega
 refine XX_val (isLarge_ok c h) ?_;cases h5:large c with
 | true =>
   simp only[ZG,↓reduceIte,ZA,ZB,ZC];exact hΨ _ _ (fin_ret (rv1 rfl ⟨rfl,by rw[nameK_else hz,h5];rfl⟩))
 | false =>
 simp only[ZG,↓reduceIte,ZA,ZB,ZC];refine XX_val (isKey_ok (c::r) h) ?_;cases h6:keyL.contains (c::r) with
 | true =>
   simp only[ZG,↓reduceIte,ZA,ZB,ZC];exact hΨ _ _ (fin_ret (rv1 rfl ⟨rfl,by rw[nameK_else hz,h5,h6];rfl⟩))
 | false =>
 cases h7:((c::r) == [95]) with
 | true =>
   simp only[ZG,↓reduceIte,ZA,ZB,ZC,tx_toList,mk_toList,h7];exact hΨ _ _ (fin_ret (rv1 rfl ⟨rfl,by rw[nameK_else hz,h5,h6,h7];rfl⟩))
 | false =>
 simp only[ZG,↓reduceIte,ZA,ZB,ZC,tx_toList,mk_toList,h7];exact hΨ _ _ (fin_ret (rv1 rfl ⟨rfl,by rw[nameK_else hz,h5,h6,h7];rfl⟩))
end Go.S11

namespace Go.S11
open Go Go.Eng Go.Proofs Go.Scn
theorem cells_tx (l:Bs):byteCells (tx l)=l.map bv:=rfl
theorem asBytes_tx:∀ (l:Bs),asBytes (l.map bv)=some (l.map fun c=>(c.toNat:Int)):=by
 intro l
 induction l with
 | nil=>rfl
 | cons c l ih=>show (asBytes (l.map bv)).map ((c.toNat:Int) :: ·)=_;rw[ih];rfl
theorem pushAll_tx (l:Bs):pushAll (l.map fun c=>(c.toNat:Int))=tx l:=by
 have:∀ (l:Bs) (b:ByteArray),(l.map fun c=>(c.toNat:Int)).foldl (fun r n=>r.push (UInt8.ofNat n.toNat)) b=⟨b.data++l.toArray⟩:=by
  intro l
  induction l with
  | nil=>intro b;simp
  | cons c l ih =>
    intro b;rw[List.map_cons,List.foldl_cons,ih]
    apply ByteArray.ext
    simp [ByteArray.push]
 rw[pushAll,this]
 apply ByteArray.ext;simp [tx]
theorem s_add {a b:Bs} (h:a.length+b.length<=9223372036854775807):sbin .add (tx a) (tx b)=some (.string (tx (a++b))):=by
 have:¬ (((tx a).size+(tx b).size:Nat):Int) > IntKind.i64.max:=by
  rw[tx_size,tx_size];have:IntKind.i64.max=9223372036854775807:=by decide
  omega
 simp only[sbin,if_neg this,tx_app]
end Go.S11

namespace Go.Proofs
open Go.Shelf
def Tryd.laysItoa_ren:Go.Shelf.Ren:=⟨fun|171=>59|243=>71|246=>80|283=>86|284=>87|285=>88|286=>89|129=>92|317=>91|318=>93|319=>94|320=>95|337=>96|338=>97|n=>n,fun|3=>3|9=>9|2=>2|4=>4|171=>128|0=>0|53=>125|37=>56|5=>5|173=>131|212=>136|51=>122|20=>20|213=>137|46=>116|232=>140|233=>141|n=>n,fun|17=>0|18=>2|19=>3|n=>n⟩
theorem Tryd.laysItoa:Go.Proofs.LaysM.n171 Tryd.prog Tryd.laysItoa_ren:={
 mixed:=by kernel_rfl
 f129:=Tryd.func92.trans (congrArg some (by kernel_rfl))
 f171:=Tryd.func59.trans (congrArg some (by kernel_rfl))
 f243:=Tryd.func71.trans (congrArg some (by kernel_rfl))
 f246:=Tryd.func80.trans (congrArg some (by kernel_rfl))
 f283:=Tryd.func86.trans (congrArg some (by kernel_rfl))
 f284:=Tryd.func87.trans (congrArg some (by kernel_rfl))
 f285:=Tryd.func88.trans (congrArg some (by kernel_rfl))
 f286:=Tryd.func89.trans (congrArg some (by kernel_rfl))
 f317:=Tryd.func91.trans (congrArg some (by kernel_rfl))
 f318:=Tryd.func93.trans (congrArg some (by kernel_rfl))
 f319:=Tryd.func94.trans (congrArg some (by kernel_rfl))
 f320:=Tryd.func95.trans (congrArg some (by kernel_rfl))
 f337:=Tryd.func96.trans (congrArg some (by kernel_rfl))
 f338:=Tryd.func97.trans (congrArg some (by kernel_rfl))
 t0:=Tryd.underlying0
 a0:=Tryd.isAgg0
 z0:=Tryd.sizeOf0
 v0:=Tryd.zeroValue0
 t2:=Tryd.underlying2
 a2:=Tryd.isAgg2
 z2:=Tryd.sizeOf2
 v2:=Tryd.zeroValue2
 t3:=Tryd.underlying3
 a3:=Tryd.isAgg3
 z3:=Tryd.sizeOf3
 v3:=Tryd.zeroValue3
 t4:=Tryd.underlying4
 a4:=Tryd.isAgg4
 z4:=Tryd.sizeOf4
 v4:=Tryd.zeroValue4
 t5:=Tryd.underlying5
 a5:=Tryd.isAgg5
 z5:=Tryd.sizeOf5
 v5:=Tryd.zeroValue5
 t9:=Tryd.underlying9
 a9:=Tryd.isAgg9
 z9:=Tryd.sizeOf9
 v9:=Tryd.zeroValue9
 t20:=Tryd.underlying20
 a20:=Tryd.isAgg20
 z20:=Tryd.sizeOf20
 v20:=Tryd.zeroValue20
 t37:=Tryd.underlying56
 a37:=Tryd.isAgg56
 z37:=Tryd.sizeOf56
 v37:=Tryd.zeroValue56
 t46:=Tryd.underlying116
 a46:=Tryd.isAgg116
 z46:=Tryd.sizeOf116
 v46:=Tryd.zeroValue116
 t51:=Tryd.underlying122
 a51:=Tryd.isAgg122
 z51:=Tryd.sizeOf122
 v51:=Tryd.zeroValue122
 t53:=Tryd.underlying125
 a53:=Tryd.isAgg125
 z53:=Tryd.sizeOf125
 v53:=Tryd.zeroValue125
 t171:=Tryd.underlying128
 a171:=Tryd.isAgg128
 z171:=Tryd.sizeOf128
 v171:=Tryd.zeroValue128
 t173:=Tryd.underlying131
 a173:=Tryd.isAgg131
 z173:=Tryd.sizeOf131
 v173:=Tryd.zeroValue131
 t212:=Tryd.underlying136
 a212:=Tryd.isAgg136
 z212:=Tryd.sizeOf136
 v212:=Tryd.zeroValue136
 t213:=Tryd.underlying137
 a213:=Tryd.isAgg137
 z213:=Tryd.sizeOf137
 t232:=Tryd.underlying140
 a232:=Tryd.isAgg140
 z232:=Tryd.sizeOf140
 v232:=Tryd.zeroValue140
 t233:=Tryd.underlying141
 a233:=Tryd.isAgg141
 z233:=Tryd.sizeOf141
 v233:=Tryd.zeroValue141
 g17:=by kernel_rfl
 g18:=by kernel_rfl
 g19:=by kernel_rfl
 i0:=by kernel_rfl
 i2:=by kernel_rfl
 i3:=by kernel_rfl
 i4:=by kernel_rfl
 i5:=by kernel_rfl
 i9:=by kernel_rfl
 i20:=by kernel_rfl
 i37:=by kernel_rfl
 i46:=by kernel_rfl
 i51:=by kernel_rfl
 i53:=by kernel_rfl
 i171:=by kernel_rfl
 i173:=by kernel_rfl
 i212:=by kernel_rfl
 i232:=by kernel_rfl
 i233:=by kernel_rfl
 m17:=by kernel_rfl
 m18:=by kernel_rfl
 m19:=by kernel_rfl }
def Tryd.laysCutPrefix_ren:Go.Shelf.Ren:=⟨fun|103=>63|210=>74|206=>82|n=>n,fun|9=>9|4=>4|24=>107|3=>3|n=>n,fun|n=>n⟩
theorem Tryd.laysCutPrefix:Go.Proofs.Lays.n103 Tryd.prog Tryd.laysCutPrefix_ren:={
 mixed:=by kernel_rfl
 f103:=Tryd.func63.trans (congrArg some (by kernel_rfl))
 f206:=Tryd.func82.trans (congrArg some (by kernel_rfl))
 f210:=Tryd.func74.trans (congrArg some (by kernel_rfl))
 t3:=Tryd.underlying3
 a3:=Tryd.isAgg3
 z3:=Tryd.sizeOf3
 v3:=Tryd.zeroValue3
 t4:=Tryd.underlying4
 a4:=Tryd.isAgg4
 z4:=Tryd.sizeOf4
 v4:=Tryd.zeroValue4
 t9:=Tryd.underlying9
 a9:=Tryd.isAgg9
 z9:=Tryd.sizeOf9
 v9:=Tryd.zeroValue9
 t24:=Tryd.underlying107
 a24:=Tryd.isAgg107
 z24:=Tryd.sizeOf107
 v24:=Tryd.zeroValue107 }
def Tryd.laysRepeat_ren:Go.Shelf.Ren:=⟨fun|105=>69|212=>76|99=>77|165=>78|166=>44|170=>79|169=>28|263=>83|264=>84|206=>82|240=>58|241=>85|276=>70|277=>90|n=>n,fun|9=>9|3=>3|4=>4|20=>20|0=>0|46=>116|109=>117|5=>5|72=>58|76=>88|51=>122|146=>123|53=>125|148=>126|70=>55|37=>56|75=>87|127=>95|164=>112|80=>61|n=>n,fun|n=>n⟩
theorem Tryd.laysRepeat:Go.Proofs.Lays.n105 Tryd.prog Tryd.laysRepeat_ren:={
 mixed:=by kernel_rfl
 f99:=Tryd.func77.trans (congrArg some (by kernel_rfl))
 f105:=Tryd.func69.trans (congrArg some (by kernel_rfl))
 f165:=Tryd.func78.trans (congrArg some (by kernel_rfl))
 f166:=Tryd.func44.trans (congrArg some (by kernel_rfl))
 f169:=Tryd.func28.trans (congrArg some (by kernel_rfl))
 f170:=Tryd.func79.trans (congrArg some (by kernel_rfl))
 f206:=Tryd.func82.trans (congrArg some (by kernel_rfl))
 f212:=Tryd.func76.trans (congrArg some (by kernel_rfl))
 f240:=Tryd.func58.trans (congrArg some (by kernel_rfl))
 f241:=Tryd.func85.trans (congrArg some (by kernel_rfl))
 f263:=Tryd.func83.trans (congrArg some (by kernel_rfl))
 f264:=Tryd.func84.trans (congrArg some (by kernel_rfl))
 f276:=Tryd.func70.trans (congrArg some (by kernel_rfl))
 f277:=Tryd.func90.trans (congrArg some (by kernel_rfl))
 t0:=Tryd.underlying0
 a0:=Tryd.isAgg0
 z0:=Tryd.sizeOf0
 v0:=Tryd.zeroValue0
 t3:=Tryd.underlying3
 a3:=Tryd.isAgg3
 z3:=Tryd.sizeOf3
 v3:=Tryd.zeroValue3
 t4:=Tryd.underlying4
 a4:=Tryd.isAgg4
 z4:=Tryd.sizeOf4
 v4:=Tryd.zeroValue4
 t5:=Tryd.underlying5
 a5:=Tryd.isAgg5
 z5:=Tryd.sizeOf5
 v5:=Tryd.zeroValue5
 t9:=Tryd.underlying9
 a9:=Tryd.isAgg9
 z9:=Tryd.sizeOf9
 v9:=Tryd.zeroValue9
 t20:=Tryd.underlying20
 a20:=Tryd.isAgg20
 z20:=Tryd.sizeOf20
 v20:=Tryd.zeroValue20
 t37:=Tryd.underlying56
 a37:=Tryd.isAgg56
 z37:=Tryd.sizeOf56
 v37:=Tryd.zeroValue56
 t46:=Tryd.underlying116
 a46:=Tryd.isAgg116
 z46:=Tryd.sizeOf116
 v46:=Tryd.zeroValue116
 t51:=Tryd.underlying122
 a51:=Tryd.isAgg122
 z51:=Tryd.sizeOf122
 v51:=Tryd.zeroValue122
 t53:=Tryd.underlying125
 a53:=Tryd.isAgg125
 z53:=Tryd.sizeOf125
 v53:=Tryd.zeroValue125
 t70:=Tryd.underlying55
 a70:=Tryd.isAgg55
 z70:=Tryd.sizeOf55
 v70:=Tryd.zeroValue55
 t72:=Tryd.underlying58
 a72:=Tryd.isAgg58
 z72:=Tryd.sizeOf58
 v72:=Tryd.zeroValue58
 t75:=Tryd.underlying87
 a75:=Tryd.isAgg87
 z75:=Tryd.sizeOf87
 v75:=Tryd.zeroValue87
 t76:=Tryd.underlying88
 a76:=Tryd.isAgg88
 z76:=Tryd.sizeOf88
 v76:=Tryd.zeroValue88
 t109:=Tryd.underlying117
 a109:=Tryd.isAgg117
 z109:=Tryd.sizeOf117
 v109:=Tryd.zeroValue117
 t127:=Tryd.underlying95
 a127:=Tryd.isAgg95
 z127:=Tryd.sizeOf95
 v127:=Tryd.zeroValue95
 t146:=Tryd.underlying123
 a146:=Tryd.isAgg123
 z146:=Tryd.sizeOf123
 v146:=Tryd.zeroValue123
 t148:=Tryd.underlying126
 a148:=Tryd.isAgg126
 z148:=Tryd.sizeOf126
 v148:=Tryd.zeroValue126
 t164:=Tryd.underlying112
 a164:=Tryd.isAgg112
 z164:=Tryd.sizeOf112
 v164:=Tryd.zeroValue112 }
end Go.Proofs

namespace Go.S11
open Go Go.Eng Go.Proofs Go.Scn
theorem itoa_ok (n:Int) (h0 : -9223372036854775808<=n) (h1:n<=9223372036854775807) (h:AH):Gets Tryd.prog 59 [iv n] h (fun res h'=>h'=h/\res = .ret (tv (Lib.itoa n))):=by
 refine Gets.ofCalls (fn:=Tryd.prog.funcs[59]!) hP (by kernel_rfl) (c:=(Tryd.prog.funcs[59]!).body.getD .skip) (by kernel_rfl) rfl rfl (fun W hT=>?_) h;refine Calls.mono (Any.strconv_Itoa (P := Tryd.prog) Tryd.laysItoa n h0 h1 W (tab_pow hT (by kernel_rfl : Tryd.prog.globalNamed "internal/strconv.uint64pow10" = some 0) (by kernel_rfl))) fun e w' he => ?_
 obtain ⟨rfl,k,os,rfl⟩:=he;exact ⟨rfl,below_grow⟩
end Go.S11

namespace Go.S11
open Go Go.Eng Go.Proofs Go.Scn
abbrev bdT:TypeId:=58
structure Bd (h:AH) (b:Nat) (acc:Bs) (a v:Value):Prop where
 own:Own h b bdT [a,v]
 ad:a = .pointer none\/a = .pointer (some ⟨b,0,none⟩)
 ow:Ows h 5 1 v acc.length (acc.map bv)
 ne:∀ q,bk v q->b<q
 nl:acc=[]->v = .slice none 0 0
theorem noesc_ok (v:Value) (h:AH):Gets Tryd.prog 70 [v] h (fun res h'=>h'=h/\res = .ret v):=by
 refine Gets.extB (h':=h) (res:=.ret v) ?_ (Zh _) ⟨rfl,rfl⟩;have hf:Tryd.prog.funcs[(70:Nat)]?=some (Tryd.prog.funcs[70]!):=by kernel_rfl
 have hb:((Tryd.prog.funcs[70]!).body.isNone && ((Extern.allNextRows.lookup (Tryd.prog.funcs[70]!).origin).isNone))=true:=by kernel_rfl
 have hn : ((Tryd.prog.funcs[70]!).name == "internal/abi.NoEscape") = true := by kernel_rfl
 simp only[aextB,hf,hb,hn,if_true]
theorem copyCheck_ok {h:AH} {b:Nat} {acc:Bs} {a v:Value} (x:Bd h b acc a v):Gets Tryd.prog 58 [.pointer (some ⟨b,0,none⟩)] h
 (fun res h'=>res = .ret (.tuple #[])/\Keep (· = b) h h'/\Bd h' b acc (.pointer (some ⟨b,0,none⟩)) v):=by
 refine Gets.of (keep:=false) hP (draw_ok hM) k58 (by rfl) (fun Ψ hΨ=>?_);obtain ⟨va,vc,rfl⟩:=row_shape x.ow.rds;have o:=x.own;obtain ⟨g,hg⟩:=x.own
 rcases x.ad with rfl|rfl
 ·simp only[ZG,↓reduceIte,ZA,ZB,ZC,r58,YE,YC,YO,YA,YL,YX,YS,Ya,Yb,Yl,Yf,Yg,Yi,Ym,Yk,Yt,Yn,Yz,Yp,Yq,Yd,o.cells.ld,mbl,ZD,ZE,ZF,u_up o.cells (show 0<2 by omega)]
  refine XX_val (noesc_ok _ h) ?_;simp only[ZG,↓reduceIte,ZA,ZB,ZC,u_pu hg (show 2<=2 by omega)];refine XH_own o rfl (by simp [Value.cells]) rfl (fun h' q1 q2 q3=>?_);have o':Own h' b bdT [.pointer (some ⟨b,0,none⟩),.slice va acc.length vc]:=by simpa [Value.cells] using q1
  simp only[ZG,↓reduceIte,ZA,ZB,ZC];exact hΨ _ _ (fin_norm ⟨rfl,q2,o',.inr rfl,x.ow.keep q2 (fun q hq e=>by have:=x.ne q hq;omega),x.ne,x.nl⟩)
 ·simp only[ZG,↓reduceIte,ZA,ZB,ZC,r58,YE,YC,YO,YA,YL,YX,YS,Ya,Yb,Yl,Yf,Yg,Yi,Ym,Yk,Yt,Yn,Yz,Yp,Yq,Yd,o.cells.ld,mbl,ZD,ZE,ZF]
  exact hΨ _ _ (fin_norm ⟨rfl,.refl _ _,o,.inr rfl,x.ow,x.ne,x.nl⟩)
theorem writeByte_ok {h:AH} {b:Nat} {acc:Bs} {a v:Value} (x:Bd h b acc a v) (c:UInt8) (hl:acc.length<=140000000000000):Gets Tryd.prog 47 [.pointer (some ⟨b,0,none⟩),bv c] h
 (fun res h'=>res = .ret .nilIface/\Keep (fun q=>q=b\/bk v q) h h' /\ ∃ v',Bd h' b (acc++[c]) (.pointer (some ⟨b,0,none⟩)) v' /\ ∀ q,bk v' q->bk v q\/h.length<=q):=by
 refine Gets.of (keep:=false) hP (draw_ok hM) k47 (by rfl) (fun Ψ hΨ=>?_);simp only[ZG,↓reduceIte,ZA,ZB,ZC,r47,YE,YC,YO,YA,YL,YX,YS,Ya,Yb,Yl,Yf,Yg,Yi,Ym,Yk,Yt,Yn,Yz,Yp,Yq,Yd];refine XX_of (copyCheck_ok x) (fun res h1 hle hr=>?_);obtain ⟨rfl,k1,x1⟩:=hr;refine .ret ?_;obtain ⟨s',h',a1,a2,a3,a4⟩:=app1 (bytes:=1) x1.ow (xs:=[bv c]) rfl rfl (by omega) (by omega);obtain ⟨va,vc,rfl⟩:=row_shape x1.ow.rds;obtain ⟨sa,sc,rfl⟩:=row_shape a2.rds;simp only[ZG,↓reduceIte,ZA,ZB,ZC,x1.own.cells.ld,mbl,ZD,ZE,ZF,a1];have o2:Own h' b bdT [.pointer (some ⟨b,0,none⟩),.slice va acc.length vc]:=x1.own.keep a3 (fun e=>by have:=x1.ne b e;omega);refine XH_own o2 rfl (by simp [Value.cells]) rfl (fun h2 q1 q2 q3=>?_);have o3:Own h2 b bdT [.pointer (some ⟨b,0,none⟩),.slice sa (acc.length+1) sc]:=by simpa [Value.cells] using q1
 have hb:=x1.own.lt;have hlen:=k1.len;have hbl:=x.own.lt;have fr:∀ q,bk (.slice sa (acc.length+1) sc) q->b<q:=fun q hq=>by
  rcases a4 q hq with e|e
  ·exact x1.ne q e
  ·omega
 simp only[ZG,↓reduceIte,ZA,ZB,ZC];refine hΨ _ _ (fin_ret (rv1 rfl ⟨rfl,?_,_,⟨o3,.inr rfl,?_,fr,fun e=>by simp at e⟩,fun q hq=>?_⟩))
 ·exact ((k1.mono (fun c e=>.inl e)).trans' a3 (fun q hq e=>.inr e)).trans' q2 (fun q hq e=>.inl e)
 ·have:=a2.keep q2 (fun q hq e=>by have:=fr q hq;omega)
  simpa using this
 ·exact (a4 q hq).imp id (fun e=>by omega)
theorem writeString_ok {h:AH} {b:Nat} {acc:Bs} {a v:Value} (x:Bd h b acc a v) (l:Bs) (hl:acc.length+l.length<=140000000000000):Gets Tryd.prog 44 [.pointer (some ⟨b,0,none⟩),tv l] h
 (fun res h'=>res = .ret (.tuple #[iv l.length,.nilIface])/\Keep (fun q=>q=b\/bk v q) h h' /\ ∃ v',Bd h' b (acc++l) (.pointer (some ⟨b,0,none⟩)) v' /\ ∀ q,bk v' q->bk v q\/h.length<=q):=by
 refine Gets.of (keep:=false) hP (draw_ok hM) k44 (by rfl) (fun Ψ hΨ=>?_);simp only[ZG,↓reduceIte,ZA,ZB,ZC,r44,YE,YC,YO,YA,YL,YX,YS,Ya,Yb,Yl,Yf,Yg,Yi,Ym,Yk,Yt,Yn,Yz,Yp,Yq,Yd];refine XX_of (copyCheck_ok x) (fun res h1 hle hr=>?_);obtain ⟨rfl,k1,x1⟩:=hr;refine .ret ?_;obtain ⟨s',h',a1,a2,a3,a4⟩:=x1.ow.app (bytes:=1) (str:=true) (x:=tv l) (m:=l.length) (xs:=l.map bv) (by simp [srcv,tx_size,cells_tx]) (by simp) (by simp [Value.oneCell']) (by omega) (by omega);have nl:acc++l=[]->s' = .slice none 0 0:=fun e=>by
  obtain ⟨e1,e2⟩:=List.append_eq_nil_iff.1 e;have hv:=x1.nl e1;subst e2;rw[hv] at a1;simp [appv,srcv,tx_size] at a1;exact a1.1.symm
 obtain ⟨va,vc,rfl⟩:=row_shape x1.ow.rds;obtain ⟨sa,sc,rfl⟩:=row_shape a2.rds;simp only[ZG,↓reduceIte,ZA,ZB,ZC,x1.own.cells.ld,mbl,ZD,ZE,ZF,a1];have o2:Own h' b bdT [.pointer (some ⟨b,0,none⟩),.slice va acc.length vc]:=x1.own.keep a3 (fun e=>by have:=x1.ne b e;omega);refine XH_own o2 rfl (by simp [Value.cells]) rfl (fun h2 q1 q2 q3=>?_);have o3:Own h2 b bdT [.pointer (some ⟨b,0,none⟩),.slice sa (acc.length+l.length) sc]:=by simpa [Value.cells] using q1
 have hb:=x1.own.lt;have hlen:=k1.len;have hbl:=x.own.lt;have fr:∀ q,bk (.slice sa (acc.length+l.length) sc) q->b<q:=fun q hq=>by
  rcases a4 q hq with e|e
  ·exact x1.ne q e
  ·omega
 simp only[ZG,↓reduceIte,ZA,ZB,ZC,tx_size];refine hΨ _ _ (fin_ret (rv2 rfl rfl ⟨rfl,?_,_,⟨o3,.inr rfl,?_,fr,nl⟩,fun q hq=>?_⟩))
 ·exact ((k1.mono (fun c e=>.inl e)).trans' a3 (fun q hq e=>.inr e)).trans' q2 (fun q hq e=>.inl e)
 ·have:=a2.keep q2 (fun q hq e=>by have:=fr q hq;omega)
  simpa using this
 ·exact (a4 q hq).imp id (fun e=>by omega)
theorem string_ok {h:AH} {b:Nat} {acc:Bs} {a v:Value} (x:Bd h b acc a v) (hl:acc.length<=140000000000000):Gets Tryd.prog 28 [.pointer (some ⟨b,0,none⟩)] h
 (fun res h'=>res = .ret (tv acc)/\Keep (bk v) h h'):=by
 refine Gets.of (keep:=false) hP (draw_ok hM) k28 (by rfl) (fun Ψ hΨ=>?_);have hv:=x.own
 by_cases h0:acc=[]
 ·have e:=x.nl h0
  subst h0 e;have hu:ustv h 5 (.pointer none) (iv 0)=some (.string ByteArray.empty,h):=rfl;simp only[ZG,↓reduceIte,ZA,ZB,ZC,r28,YE,YC,YO,YA,YL,YX,YS,Ya,Yb,Yl,Yf,Yg,Yi,Ym,Yk,Yt,Yn,Yz,Yp,Yq,Yd,hv.cells.ld,mbl,ZD,ZE,ZF,hu];exact hΨ _ _ (fin_ret (rv1 rfl ⟨rfl,.refl _ _⟩))
 ·have hpos:0<acc.length:=List.length_pos_iff.2 h0
  obtain ⟨b2,c,all,e,ob,hall,hnc,htk⟩:=ows_open x.ow hpos;subst e;have hc0:c≠0:=by omega
  obtain ⟨g,hg⟩:=ob;have hu:ustv h 5 (.pointer (some ⟨b2,0,none⟩)) (iv acc.length)=some (.string (tx acc),h.set b2 (.cells false true g 0 5 all)):=by
   have h1:¬ (acc.length:Int)=0:=by omega
   have h2:(0:Int)<(acc.length:Int):=by omega
   have h3:0+acc.length<=all.length:=by omega
   have h4:(acc.length:Int)<=9223372036854775807:=by omega
   simp only[ustv,h1,if_false,hg,Z5,h2,h3,h4,and_self,if_true,List.drop_zero,htk,asBytes_tx,Zf,pushAll_tx]
  simp only[ZG,↓reduceIte,ZA,ZB,ZC,r28,YE,YC,YO,YA,YL,YX,YS,Ya,Yb,Yl,Yf,Yg,Yi,Ym,Yk,Yt,Yn,Yz,Yp,Yq,Yd,hv.cells.ld,mbl,ZD,ZE,ZF,hc0,hu,ct1];exact hΨ _ _ (fin_ret (rv1 rfl ⟨rfl,(Keep.set _ _ _).mono (fun q e=>e)⟩))
end Go.S11

namespace Go.Typ
open Go Go.Scn
inductive Ty where
 | var (n:Nat)
 | con (nm:Bs) (ags:List Ty)
structure Tm where
 nm:Bs
 ags:List Nat
theorem Ty.ind {p:Ty->Prop} (hv:∀ n,p (.var n)) (hc:∀ nm ags,(∀ t∈ags,p t)->p (.con nm ags)):∀ t,p t:=by
 refine Ty.rec (motive_1:=p) (motive_2:=fun ags=>∀ t∈ags,p t) hv hc (fun t ht=>by cases ht) (fun t l h1 h2 s hs=>?_)
 rcases List.mem_cons.1 hs with rfl|hs
 ·exact h1
 ·exact h2 s hs
mutual
def sz:Ty->Nat
 | .var _=>1
 | .con _ ags=>1+szs ags
def szs:List Ty->Nat
 | []=>0
 | t::l=>sz t+szs l
end
theorem sz_pos (t:Ty):1<=sz t:=by cases t<;>simp [sz]
mutual
def vs:Ty->List Nat->List Nat
 | .var n,l=>if l.contains n then l else l++[n]
 | .con _ ags,l=>vss ags l
def vss:List Ty->List Nat->List Nat
 | [],l=>l
 | t::ts,l=>vss ts (vs t l)
end
mutual
def fv:Ty->List Nat
 | .var n=>[n]
 | .con _ ags=>fvs ags
def fvs:List Ty->List Nat
 | []=>[]
 | t::l=>fv t++fvs l
end
theorem mem_fvs {n:Nat}:∀ {l:List Ty},n∈fvs l ↔ ∃ t∈l,n∈fv t:=by
 intro l
 induction l with
 | nil=>simp [fvs]
 | cons t l ih=>simp [fvs,ih]
theorem mem_vss {ags:List Ty} (ih:∀ t∈ags,∀ (l:List Nat) (n:Nat),n∈vs t l ↔ n∈l\/n∈fv t):∀ (l:List Nat) (n:Nat),n∈vss ags l ↔ n∈l\/n∈fvs ags:=by
 induction ags with
 | nil=>intro l n;simp [vss,fvs]
 | cons t ts ih2 =>
   intro l n;rw[vss,fvs,ih2 (fun s hs=>ih s (Z0 _ hs)),ih t Z2,Z7,or_assoc]
theorem mem_vs (t:Ty):∀ (l:List Nat) (n:Nat),n∈vs t l ↔ n∈l\/n∈fv t:=by
 induction t using Ty.ind with
 | hv m =>
   intro l n;rw[vs,fv]
   split
   ·rename_i h
    have h:m∈l:=by simpa using h
    constructor
    ·intro a;exact .inl a
    ·rintro (a|a)
     ·exact a
     ·cases Z4.1 a;exact h
   ·rw[Z7]
 | hc nm ags ih=>intro l n;rw[vs,fv];exact mem_vss ih l n
theorem len_vss {ags:List Ty} (ih:∀ t∈ags,∀ l:List Nat,(vs t l).length<=l.length+sz t):∀ l:List Nat,(vss ags l).length<=l.length+szs ags:=by
 induction ags with
 | nil=>intro l;simp [vss,szs]
 | cons t ts ih2 =>
   intro l;rw[vss,szs];have h1:=ih2 (fun s hs=>ih s (Z0 _ hs)) (vs t l);have h2:=ih t Z2 l;omega
theorem len_vs (t:Ty):∀ l:List Nat,(vs t l).length<=l.length+sz t:=by
 induction t using Ty.ind with
 | hv m =>
   intro l;rw[vs,sz]
   split
   ·omega
   ·simp
 | hc nm ags ih=>intro l;rw[vs,sz];have:=len_vss ih l;omega
theorem vss_apart {ags:List Ty} (ih:∀ t∈ags,∀ l m:List Nat,(∀ n∈fv t,n ∉ l)->vs t (l++m)=l++vs t m):∀ l m:List Nat,(∀ n∈fvs ags,n ∉ l)->vss ags (l++m)=l++vss ags m:=by
 induction ags with
 | nil=>intro l m _;rfl
 | cons t ts ih2 =>
   intro l m h;rw[vss,vss,ih t Z2 l m (fun n hn=>h n (by rw[fvs];exact Z8 _ hn)),ih2 (fun s hs=>ih s (Z0 _ hs)) l _ (fun n hn=>h n (by rw[fvs];exact Za _ hn))]
theorem vs_apart (t:Ty):∀ l m:List Nat,(∀ n∈fv t,n ∉ l)->vs t (l++m)=l++vs t m:=by
 induction t using Ty.ind with
 | hv k =>
   intro l m h;have hk:k ∉ l:=h k (by simp [fv]);rw[vs,vs]
   by_cases hm:k∈m
   ·rw[if_pos (by simp [hm]),if_pos (by simp [hm])]
   ·rw[if_neg (by simp [hm,hk]),if_neg (by simp [hm]),Z9]
 | hc nm ags ih=>intro l m h;rw[vs,vs];exact vss_apart ih l m (by rw[fv] at h;exact h)
mutual
def ren (f:Nat->Nat):Ty->Ty
 | .var n=>.var (f n)
 | .con nm ags=>.con nm (rens f ags)
def rens (f:Nat->Nat):List Ty->List Ty
 | []=>[]
 | t::l=>ren f t::rens f l
end
theorem rens_map (f:Nat->Nat):∀ ags:List Ty,rens f ags=ags.map (ren f):=by
 intro ags
 induction ags with
 | nil=>rfl
 | cons t l ih=>rw[rens,ih];rfl
theorem rens_len (f:Nat->Nat) (ags:List Ty):(rens f ags).length=ags.length:=by rw[rens_map,List.length_map]
theorem szs_ren (f:Nat->Nat) {ags:List Ty} (ih:∀ t∈ags,sz (ren f t)=sz t):szs (rens f ags)=szs ags:=by
 induction ags with
 | nil=>rfl
 | cons t l ih2=>rw[rens,szs,szs,ih t Z2,ih2 (fun s hs=>ih s (Z0 _ hs))]
theorem sz_ren (f:Nat->Nat) (t:Ty):sz (ren f t)=sz t:=by
 induction t using Ty.ind with
 | hv n=>simp [ren,sz]
 | hc nm ags ih=>rw[ren,sz,sz,szs_ren f ih]
theorem fvs_ren (f:Nat->Nat) {ags:List Ty} (ih:∀ t∈ags,fv (ren f t)=(fv t).map f):fvs (rens f ags)=(fvs ags).map f:=by
 induction ags with
 | nil=>rfl
 | cons t l ih2=>rw[rens,fvs,fvs,ih t Z2,ih2 (fun s hs=>ih s (Z0 _ hs)),List.map_append]
theorem fv_ren (f:Nat->Nat) (t:Ty):fv (ren f t)=(fv t).map f:=by
 induction t using Ty.ind with
 | hv n=>simp [ren,fv]
 | hc nm ags ih=>rw[ren,fv,fv,fvs_ren f ih]
theorem rens_congr {f g:Nat->Nat} {ags:List Ty} (ih:∀ t∈ags,(∀ n∈fv t,f n=g n)->ren f t=ren g t) (h:∀ n∈fvs ags,f n=g n):rens f ags=rens g ags:=by
 induction ags with
 | nil=>rfl
 | cons t l ih2=>rw[rens,rens,ih t Z2 (fun n hn=>h n (by rw[fvs];exact Z8 _ hn)),ih2 (fun s hs=>ih s (Z0 _ hs)) (fun n hn=>h n (by rw[fvs];exact Za _ hn))]
theorem ren_congr {f g:Nat->Nat} (t:Ty):(∀ n∈fv t,f n=g n)->ren f t=ren g t:=by
 induction t using Ty.ind with
 | hv n=>intro h;rw[ren,ren,h n (by simp [fv])]
 | hc nm ags ih=>intro h;rw[ren,ren,rens_congr ih (by rw[fv] at h;exact h)]
theorem rens_id {ags:List Ty} (ih:∀ t∈ags,ren (fun n=>n) t=t):rens (fun n=>n) ags=ags:=by
 induction ags with
 | nil=>rfl
 | cons t l ih2=>rw[rens,ih t Z2,ih2 (fun s hs=>ih s (Z0 _ hs))]
theorem ren_id (t:Ty):ren (fun n=>n) t=t:=by
 induction t using Ty.ind with
 | hv n=>rw[ren]
 | hc nm ags ih=>rw[ren,rens_id ih]
def Inj (f:Nat->Nat) (p:Nat->Prop):Prop:=∀ a b,p a->p b->f a=f b->a=b
theorem mem_map_inj {f:Nat->Nat} {p:Nat->Prop} (hi:Inj f p) {l:List Nat} (hl:∀ a∈l,p a) {n:Nat} (hn:p n):f n∈l.map f ↔ n∈l:=by
 rw[List.mem_map];exact ⟨fun ⟨a,ha,e⟩=>hi a n (hl a ha) hn e ▸ ha,fun h=>⟨n,h,rfl⟩⟩
theorem vss_ren {f:Nat->Nat} {p:Nat->Prop} (hi:Inj f p) {ags:List Ty} (ih:∀ t∈ags,∀ l:List Nat,(∀ a∈l,p a)->(∀ a∈fv t,p a)->vs (ren f t) (l.map f)=(vs t l).map f) :
 ∀ l:List Nat,(∀ a∈l,p a)->(∀ a∈fvs ags,p a)->vss (rens f ags) (l.map f)=(vss ags l).map f:=by
 induction ags with
 | nil=>intro l _ _;rfl
 | cons t ts ih2 =>
   intro l hl hf;rw[rens,vss,vss,ih t Z2 l hl (fun a ha=>hf a (by rw[fvs];exact Z8 _ ha))];refine ih2 (fun s hs=>ih s (Z0 _ hs)) _ (fun a ha=>?_) (fun a ha=>hf a (by rw[fvs];exact Za _ ha))
   rcases (mem_vs t l a).1 ha with h|h
   ·exact hl a h
   ·exact hf a (by rw[fvs];exact Z8 _ h)
theorem vs_ren {f:Nat->Nat} {p:Nat->Prop} (hi:Inj f p) (t:Ty):∀ l:List Nat,(∀ a∈l,p a)->(∀ a∈fv t,p a)->vs (ren f t) (l.map f)=(vs t l).map f:=by
 induction t using Ty.ind with
 | hv n =>
   intro l hl hf;have hn:=hf n (by simp [fv]);rw[ren,vs,vs];have:=mem_map_inj hi hl hn
   by_cases h:n∈l
   ·rw[if_pos (by simpa using this.2 h),if_pos (by simpa using h)]
   ·rw[if_neg (by simpa using (fun e=>h (this.1 e):f n ∉ l.map f)),if_neg (by simpa using h)];simp
 | hc nm ags ih=>intro l hl hf;rw[ren,vs,vs];exact vss_ren hi ih l hl (by rw[fv] at hf;exact hf)
def lett (i:Nat):Bs:=if i<26 then [UInt8.ofNat (97+i % 26)] else UInt8.ofNat (97+i % 26)::Lib.itoa ((i / 26:Nat):Int)
def arrow:Bs:=[45,62]
def par (nm:Bs) (n hold:Nat):Bool:=(nm == arrow && hold != 0) || (hold == 2 && decide (0<n) && (nm.head?.map large).getD false)
def tupT:Nat->List Bs->Bs
 | _,[]=>[]
 | i,a::l=>(if i=0 then [40] else [44,32])++(a++tupT (i+1) l)
def body (nm:Bs) (l0 l1 l2:List Bs):Bs :=
 if nm=[40,41] then [40,41]
 else if nm=[91,93] then 91::(l0.headD []++[93])
 else if nm=arrow then l1.headD []++([32,45,62,32]++(l0[1]?.getD []))
 else if nm.head?=some 40 then tupT 0 l0++[41]
 else nm++l2.flatMap (fun a=>32::a)
def wrap (b:Bool) (x:Bs):Bs:=if b then 40::(x++[41]) else x
mutual
def wrt (V:List Nat):Nat->Ty->Bs
 | _,.var n=>lett (V.idxOf n)
 | hold,.con nm ags=>wrap (par nm ags.length hold) (body nm (wrts V 0 ags) (wrts V 1 ags) (wrts V 2 ags))
def wrts (V:List Nat):Nat->List Ty->List Bs
 | _,[]=>[]
 | hold,t::l=>wrt V hold t::wrts V hold l
end
theorem wrts_map (V:List Nat) (hold:Nat):∀ ags:List Ty,wrts V hold ags=ags.map (wrt V hold):=by
 intro ags
 induction ags with
 | nil=>rw[wrts];rfl
 | cons t l ih=>rw[wrts,ih];rfl
theorem idxOf_map {f:Nat->Nat} {p:Nat->Prop} (hi:Inj f p) {n:Nat} (hn:p n):∀ {V:List Nat},(∀ a∈V,p a)->(V.map f).idxOf (f n)=V.idxOf n:=by
 intro V
 induction V with
 | nil=>intro _;rfl
 | cons a V ih =>
   intro h;rw[List.map_cons,List.idxOf_cons,List.idxOf_cons,ih (fun b hb=>h b (Z0 _ hb))]
   by_cases e:a=n
   ·subst e;rw[show (f a == f a)=true from beq_self_eq_true _,show (a == a)=true from beq_self_eq_true _]
   ·have:f a≠f n:=fun e2=>e (hi a n (h a Z2) hn e2)
    rw[show (f a == f n)=false from beq_eq_false_iff_ne.2 this,show (a == n)=false from beq_eq_false_iff_ne.2 e]
theorem wrts_ren {f:Nat->Nat} {p:Nat->Prop} (hi:Inj f p) {V:List Nat} (hV:∀ a∈V,p a) {ags:List Ty} (ih:∀ t∈ags,(∀ a∈fv t,p a) -> ∀ hold,wrt (V.map f) hold (ren f t)=wrt V hold t) (hf:∀ a∈fvs ags,p a):∀ hold,wrts (V.map f) hold (rens f ags)=wrts V hold ags:=by
 induction ags with
 | nil=>intro hold;rw[rens,wrts,wrts]
 | cons t l ih2 =>
   intro hold;rw[rens,wrts,wrts,ih t Z2 (fun a ha=>hf a (by rw[fvs];exact Z8 _ ha)),ih2 (fun s hs=>ih s (Z0 _ hs)) (fun a ha=>hf a (by rw[fvs];exact Za _ ha))]
theorem wrt_ren {f:Nat->Nat} {p:Nat->Prop} (hi:Inj f p) {V:List Nat} (hV:∀ a∈V,p a) (t:Ty):(∀ a∈fv t,p a) -> ∀ hold,wrt (V.map f) hold (ren f t)=wrt V hold t:=by
 induction t using Ty.ind with
 | hv n=>intro hf hold;rw[ren,wrt,wrt,idxOf_map hi (hf n (by simp [fv])) hV]
 | hc nm ags ih =>
   intro hf hold;rw[fv] at hf;rw[ren,wrt,wrt,rens_len,wrts_ren hi hV ih hf,wrts_ren hi hV ih hf,wrts_ren hi hV ih hf]
def txt (t:Ty):Bs:=wrt (vs t []) 0 t
theorem txt_ren {f:Nat->Nat} {p:Nat->Prop} (hi:Inj f p) {t:Ty} (hf:∀ a∈fv t,p a):txt (ren f t)=txt t:=by
 have h:=vs_ren hi t [] (fun a ha=>by cases ha) hf;rw[List.map_nil] at h;unfold txt;rw[h];exact wrt_ren hi (fun a ha=>hf a (by rcases (mem_vs t [] a).1 ha with h|h;cases h;exact h)) t hf 0
theorem nvars_ren {f:Nat->Nat} {p:Nat->Prop} (hi:Inj f p) {t:Ty} (hf:∀ a∈fv t,p a):(vs (ren f t) []).length=(vs t []).length:=by
 have h:=vs_ren hi t [] (fun a ha=>by cases ha) hf;rw[List.map_nil] at h;rw[h,List.length_map]
mutual
def eqT:Ty->Ty->Bool
 | .var a,.var b=>a == b
 | .con n ags,.con m bs=>n == m && eqTs ags bs
 | _,_=>false
def eqTs:List Ty->List Ty->Bool
 | [],[]=>true
 | a::l,b::m=>eqT a b && eqTs l m
 | _,_=>false
end
theorem eqTs_iff {ags:List Ty} (ih:∀ t∈ags,∀ u,eqT t u=true ↔ t=u):∀ bs,eqTs ags bs=true ↔ ags=bs:=by
 induction ags with
 | nil=>intro bs;cases bs<;>simp [eqTs]
 | cons t l ih2 =>
   intro bs;cases bs with
   | nil=>simp [eqTs]
   | cons u m=>rw[eqTs,Bool.and_eq_true,ih t Z2,ih2 (fun s hs=>ih s (Z0 _ hs))];simp
theorem eqT_iff (t:Ty):∀ u,eqT t u=true ↔ t=u:=by
 induction t using Ty.ind with
 | hv n=>intro u;cases u<;>simp [eqT]
 | hc nm ags ih=>intro u;cases u with
   | var m=>simp [eqT]
   | con m bs=>rw[eqT,Bool.and_eq_true,eqTs_iff ih];simp
theorem eqT_self (t:Ty):eqT t t=true:=(eqT_iff t t).2 rfl
end Go.Typ

namespace Go.Typ
open Go Go.Scn
inductive Tr (T:List Tm) (ρ:Nat->Nat):Nat->Ty->Prop
 | var {n:Nat} (hn:n<T.length) (h:T[ρ n]?=some ⟨[],[]⟩):Tr T ρ n (.var (ρ n))
 | con {n:Nat} {nm:Bs} {ags:List Nat} {ts:List Ty} (hn:n<T.length) (h:T[ρ n]?=some ⟨nm,ags⟩) (h0:nm≠[]) (hl:ts.length=ags.length)
  (ha:∀ (i a:Nat) (t:Ty),ags[i]?=some a->ts[i]?=some t->Tr T ρ a t):Tr T ρ n (.con nm ts)
theorem Tr.lt {T:List Tm} {ρ:Nat->Nat} {n:Nat} {t:Ty} (h:Tr T ρ n t):n<T.length:=by cases h<;>assumption
theorem Tr.det {T:List Tm} {ρ:Nat->Nat} {n:Nat} {t:Ty} (h:Tr T ρ n t):∀ {u:Ty},Tr T ρ n u->t=u:=by
 induction h with
 | var hn h =>
   intro u hu;cases hu with
   | var=>rfl
   | con _ h2 h0=>rw[h] at h2;cases h2;exact absurd rfl h0
 | con hn h h0 hl ha ih =>
   intro u hu;cases hu with
   | var _ h2=>rw[h] at h2;cases h2;exact absurd rfl h0
   | con _ h2 h02 hl2 ha2 =>
     rw[h] at h2;cases h2
     congr 1
     refine List.ext_getElem (by omega) (fun i h1 h2=>?_);exact ih i _ _ (Z3 (by omega)) (Z3 h1) (ha2 i _ _ (Z3 (by omega)) (Z3 h2))
def okN (t:Tm):Prop:=(t.nm=[]->t.ags=[])/\(t.nm=[91,93]->t.ags.length=1)/\(t.nm=arrow->t.ags.length=2)/\t.nm.length<=32/\t.ags.length<=8
def AC (T:List Tm):Prop:=∀ (i:Nat) (t:Tm),T[i]?=some t->okN t /\ ∀ a∈t.ags,a<i
theorem list_of {α β:Type} {R:α->β->Prop}:∀ {l:List α},(∀ a∈l,∃ b,R a b) -> ∃ m:List β,m.length=l.length /\ ∀ (i:Nat) (a:α) (b:β),l[i]?=some a->m[i]?=some b->R a b:=by
 intro l
 induction l with
 | nil=>intro _;exact ⟨[],rfl,fun i a b h=>by simp at h⟩
 | cons x l ih =>
   intro h;obtain ⟨b,hb⟩:=h x Z2;obtain ⟨m,h1,h2⟩:=ih (fun a ha=>h a (Z0 _ ha));refine ⟨b::m,by simp [h1],fun i a c h3 h4=>?_⟩;cases i with
   | zero=>simp at h3 h4;subst h3;subst h4;exact hb
   | succ i=>simp at h3 h4;exact h2 i a c h3 h4
theorem AC.tree {T:List Tm} (ac:AC T):∀ n,n<T.length -> ∃ t,Tr T id n t:=by
 intro n
 induction n using Nat.strongRecOn with
 | ind n ih =>
   intro hn;obtain ⟨t,ht⟩:∃ t,T[n]?=some t:=⟨_,Z3 hn⟩
   obtain ⟨ok,hlt⟩:=ac n t ht;obtain ⟨nm,ags⟩:=t
   by_cases h0:nm=[]
   ·subst h0
    have:=ok.1 rfl;simp only at this;subst this;exact ⟨_,.var hn ht⟩
   ·obtain ⟨ts,h1,h2⟩:=list_of (R:=fun a t=>Tr T id a t) (fun a ha=>ih a (hlt a ha) (by have:=hlt a ha;omega))
    exact ⟨_,.con hn ht h0 h1 h2⟩
theorem Tr.ext {T:List Tm} {n:Nat} {t:Ty} (h:Tr T id n t) (X:List Tm):Tr (T++X) id n t:=by
 induction h with
 | var hn h=>exact .var (by simp;omega) ((Z6 (show id _<T.length from hn)).trans h)
 | con hn h h0 hl ha ih=>exact .con (by simp;omega) ((Z6 (show id _<T.length from hn)).trans h) h0 hl ih
theorem AC.snoc {T:List Tm} (ac:AC T) {x:Tm} (hx:okN x) (ha:∀ a∈x.ags,a<T.length):AC (T++[x]):=by
 intro i t ht
 by_cases h:i<T.length
 ·rw[Z6 h] at ht;exact ac i t ht
 ·rw[List.getElem?_append_right (by omega)] at ht
  have:i=T.length:=by
   have:=(Z1.1 ht).1;simp at this;omega
  subst this;simp at ht;subst ht;exact ⟨hx,ha⟩
theorem AC.nil:AC []:=fun i t h=>by simp at h
theorem Tr.fv {T:List Tm} {n:Nat} {t:Ty} (h:Tr T id n t):∀ v∈fv t,T[v]?=some ⟨[],[]⟩:=by
 induction h with
 | var hn h=>intro v hv;rw[Typ.fv] at hv;cases Z4.1 hv;exact h
 | con hn h h0 hl ha ih =>
   intro v hv;rw[Typ.fv] at hv;obtain ⟨t,ht,hv⟩:=mem_fvs.1 hv;obtain ⟨i,hi⟩:=Zj ht;have:=(Z1.1 hi).1;exact ih i _ _ (Z3 (by omega)) hi v hv
structure Cs where
 T:List Tm
 ags:List (Nat × Nat)
mutual
def cp:Ty->Cs->Nat × Cs
 | .var v,s=>match s.ags.lookup v with
   | some a=>(a,s)
   | none=>(s.T.length,⟨s.T++[⟨[],[]⟩],s.ags++[(v,s.T.length)]⟩)
 | .con nm ags,s=>((cps ags s).2.T.length,⟨(cps ags s).2.T++[⟨nm,(cps ags s).1⟩],(cps ags s).2.ags⟩)
def cps:List Ty->Cs->List Nat × Cs
 | [],s=>([],s)
 | t::l,s=>((cp t s).1::(cps l (cp t s).2).1,(cps l (cp t s).2).2)
end
theorem lookup_app {l m:List (Nat × Nat)} {k:Nat}:(l++m).lookup k=match l.lookup k with
 | some v=>some v
 | none=>m.lookup k:=by
 induction l with
 | nil=>rfl
 | cons p l ih =>
   obtain ⟨a,b⟩:=p;rw[List.cons_append,Zb,Zb]
   split
   ·rfl
   ·exact ih
theorem lookup_mem {l:List (Nat × Nat)} {k v:Nat} (h:l.lookup k=some v):(k,v)∈l:=by
 induction l with
 | nil=>cases h
 | cons p l ih =>
   obtain ⟨a,b⟩:=p;rw[Zb] at h
   split at h
   ·rename_i e
    have e:k=a:=by simpa using e
    cases h;subst e;exact Z2
   ·exact Z0 _ (ih h)
structure Cok (s:Cs):Prop where
 ac:AC s.T
 va:∀ p∈s.ags,s.T[p.2]?=some ⟨[],[]⟩
 nj:∀ p∈s.ags,∀ q∈s.ags,p.2=q.2->p.1=q.1
structure Cst (s s':Cs) (k:Nat):Prop where
 t:∃ X,s'.T=s.T++X/\X.length<=k
 a:∃ Y,s'.ags=s.ags++Y /\ ∀ p∈Y,s.T.length<=p.2
 ok:Cok s'
theorem Cst.trans {s s1 s2:Cs} {k l:Nat} (a:Cst s s1 k) (b:Cst s1 s2 l):Cst s s2 (k+l):=by
 obtain ⟨X,x1,x2⟩:=a.t;obtain ⟨Y,y1,y2⟩:=a.a;obtain ⟨Z,z1,z2⟩:=b.t;obtain ⟨W,w1,w2⟩:=b.a;refine ⟨⟨X++Z,by rw[z1,x1,Z9],by simp;omega⟩,⟨Y++W,by rw[w1,y1,Z9],fun p hp=>?_⟩,b.ok⟩
 rcases Z7.1 hp with h|h
 ·exact y2 p h
 ·have:=w2 p h;rw[x1,Zd] at this;omega
theorem Cst.refl {s:Cs} (h:Cok s):Cst s s 0:=⟨⟨[],by simp,by simp⟩,⟨[],by simp,fun p hp=>by cases hp⟩,h⟩
theorem Cst.look {s s':Cs} {k v a:Nat} (c:Cst s s' k) (h:s.ags.lookup v=some a):s'.ags.lookup v=some a:=by
 obtain ⟨Y,y1,_⟩:=c.a;rw[y1,lookup_app,h]
theorem Cst.tr {s s':Cs} {k n:Nat} {t:Ty} (c:Cst s s' k) (h:Tr s.T id n t):Tr s'.T id n t:=by
 obtain ⟨X,x1,_⟩:=c.t;rw[x1];exact h.ext X
def Cs.f (s:Cs) (v:Nat):Nat:=(s.ags.lookup v).getD 0
def okT:Ty->Prop:=fun t=>∃ T n,AC T/\Tr T id n t
theorem okT.cell {nm:Bs} {ts:List Ty} (h:okT (.con nm ts)) {ags:List Nat} (hl:ags.length=ts.length):okN ⟨nm,ags⟩/\nm≠[]:=by
 obtain ⟨T,n,ac,tr⟩:=h;cases tr with
 | con hn h h0 hl2 ha =>
   obtain ⟨⟨a,b,c,d,e⟩,_⟩:=ac _ _ h;simp only at a b c d e;exact ⟨⟨fun e=>absurd e h0,fun e=>by have:=b e;simp only;omega,fun e=>by have:=c e;simp only;omega,d,by simp only;omega⟩,h0⟩
theorem okT.arg {nm:Bs} {ts:List Ty} (h:okT (.con nm ts)):∀ t∈ts,okT t:=by
 obtain ⟨T,n,ac,tr⟩:=h;cases tr with
 | con hn h h0 hl2 ha =>
   intro t ht;obtain ⟨i,hi⟩:=Zj ht;have:=(Z1.1 hi).1;exact ⟨T,_,ac,ha i _ t (Z3 (by omega)) hi⟩
def Cp (t:Ty):Prop:=okT t -> ∀ s,Cok s->Cst s (cp t s).2 (sz t)/\(cp t s).1<(cp t s).2.T.length/\(∀ v∈fv t,((cp t s).2.ags.lookup v).isSome=true)/\Tr (cp t s).2.T id (cp t s).1 (ren (cp t s).2.f t)
theorem cps_ok {ts:List Ty} (ih:∀ t∈ts,Cp t) (ho:∀ t∈ts,okT t):∀ s,Cok s->Cst s (cps ts s).2 (szs ts)/\(cps ts s).1.length=ts.length/\(∀ a∈(cps ts s).1,a<(cps ts s).2.T.length)/\(∀ v∈fvs ts,((cps ts s).2.ags.lookup v).isSome=true) /\
 ∀ (i a:Nat) (t:Ty),(cps ts s).1[i]?=some a->ts[i]?=some t->Tr (cps ts s).2.T id a (ren (cps ts s).2.f t):=by
 induction ts with
 | nil=>intro s h;simp only[cps,szs,fvs];exact ⟨.refl h,rfl,fun a ha=>(by cases ha),fun v hv=>(by cases hv),fun i a t h=>(by simp at h)⟩
 | cons t l ih2 =>
   intro s h;obtain ⟨c1,d1,e1,f1⟩:=ih t Z2 (ho t Z2) s h;obtain ⟨c2,d2,e2,f2,g2⟩:=ih2 (fun u hu=>ih u (Z0 _ hu)) (fun u hu=>ho u (Z0 _ hu)) _ c1.ok;have le:(cp t s).2.T.length<=(cps l (cp t s).2).2.T.length:=by
    obtain ⟨X,x1,_⟩:=c2.t;rw[x1];simp
   have hf:∀ v∈fv t,(cp t s).2.f v=(cps l (cp t s).2).2.f v:=by
    intro v hv;obtain ⟨a,ha⟩:=Ze.1 (e1 v hv);rw[Cs.f,Cs.f,ha,c2.look ha]
   simp only[cps,szs,fvs];refine ⟨c1.trans c2,by simp [d2],fun a ha=>?_,fun v hv=>?_,fun i a u hi hu=>?_⟩
   ·rcases List.mem_cons.1 ha with rfl|ha
    ·omega
    ·exact e2 a ha
   ·rcases Z7.1 hv with hv|hv
    ·obtain ⟨a,ha⟩:=Ze.1 (e1 v hv)
     rw[c2.look ha];rfl
    ·exact f2 v hv
   ·cases i with
    | zero =>
      simp at hi hu;subst hi;subst hu;rw[<- ren_congr t hf];exact c2.tr f1
    | succ i=>simp at hi hu;exact g2 i a u hi hu
theorem cp_ok (t:Ty):Cp t:=by
 induction t using Ty.ind with
 | hv v =>
   intro ho s h;simp only[cp]
   split
   ·rename_i a ha
    have hva:=h.va _ (lookup_mem ha);refine ⟨?_,(Z1.1 hva).1,fun w hw=>?_,?_⟩
    ·have:=Cst.refl h;rw[sz];exact ⟨let ⟨X,a,b⟩:=this.t;⟨X,a,by omega⟩,this.a,this.ok⟩
    ·rw[fv] at hw;cases Z4.1 hw;simp [ha]
    ·have e:ren s.f (.var v) = .var (id a):=by rw[ren,Cs.f];simp [ha]
     rw[e];exact .var (Z1.1 hva).1 hva
   ·rename_i ha
    have ht:(s.T++[(⟨[],[]⟩:Tm)])[s.T.length]?=some ⟨[],[]⟩:=by simp
    have hl:∀ w,(s.ags++[(v,s.T.length)]).lookup w=match s.ags.lookup w with
     | some x=>some x
     | none=>if w=v then some s.T.length else none:=by
     intro w;rw[lookup_app]
     split
     ·rfl
     ·rw[Zb]
      by_cases e:w=v
      ·simp [e]
      ·rw[if_neg e]
       have:(w == v)=false:=by simpa using e
       simp [this]
    have ok':Cok ⟨s.T++[⟨[],[]⟩],s.ags++[(v,s.T.length)]⟩:=by
     refine ⟨h.ac.snoc ⟨fun _=>rfl,fun e=>(by cases e),fun e=>(by cases e),by simp,by simp⟩ (fun a ha=>by cases ha),fun p hp=>?_,fun p hp q hq e=>?_⟩
     ·rcases Z7.1 hp with hp|hp
      ·have:=h.va p hp
       simp only;rw[Z6 (Z1.1 this).1];exact this
      ·cases Z4.1 hp;exact ht
     ·have big:∀ p∈s.ags,p.2<s.T.length:=fun p hp=>(Z1.1 (h.va p hp)).1
      rcases Z7.1 hp with hp|hp<;>rcases Z7.1 hq with hq|hq
      ·exact h.nj p hp q hq e
      ·cases Z4.1 hq;have:=big p hp;simp only at e;omega
      ·cases Z4.1 hp;have:=big q hq;simp only at e;omega
      ·cases Z4.1 hp;cases Z4.1 hq;rfl
    refine ⟨⟨⟨_,rfl,by simp [sz]⟩,⟨_,rfl,fun p hp=>by cases Z4.1 hp;exact Zh _⟩,ok'⟩,by simp,fun w hw=>?_,?_⟩
    ·rw[fv] at hw;cases Z4.1 hw
     rw[hl,ha];simp
    ·have e:ren (Cs.f ⟨s.T++[⟨[],[]⟩],s.ags++[(v,s.T.length)]⟩) (.var v) = .var (id s.T.length):=by rw[ren,Cs.f];simp only;rw[hl,ha];simp
     rw[e];exact .var (by simp) ht
 | hc nm ts ih =>
   intro ho s h;obtain ⟨c1,d1,e1,f1,g1⟩:=cps_ok ih ho.arg s h;obtain ⟨o1,o2⟩:=ho.cell d1;have ok':Cok ⟨(cps ts s).2.T++[⟨nm,(cps ts s).1⟩],(cps ts s).2.ags⟩:=by
    refine ⟨c1.ok.ac.snoc o1 e1,fun p hp=>?_,c1.ok.nj⟩;have:=c1.ok.va p hp;simp only;rw[Z6 (Z1.1 this).1];exact this
   simp only[cp,fv];refine ⟨?_,by simp,f1,?_⟩
   ·have c2:Cst (cps ts s).2 ⟨(cps ts s).2.T++[⟨nm,(cps ts s).1⟩],(cps ts s).2.ags⟩ 1:=⟨⟨_,rfl,by simp⟩,⟨[],by simp,fun p hp=>by cases hp⟩,ok'⟩
    have:=c1.trans c2;rw[sz,Nat.add_comm];exact this
   ·rw[ren,rens_map]
    refine .con (ags:=(cps ts s).1) (by simp) (by simp) o2 (by simp [d1]) (fun i a u hi hu=>?_);rw[Zm] at hu;obtain ⟨w,hw,rfl⟩:=Option.map_eq_some_iff.1 hu;exact (g1 i a w hi hw).ext _
end Go.Typ

namespace Go.Typ
open Go Go.Scn
def pre (s p:Bs):Bool:=Lib.hasPrefix s p
theorem pre_len {s p:Bs} (h:pre s p=true):p.length<=s.length:=(List.IsPrefix.length_le (List.isPrefixOf_iff_prefix.1 h))
theorem trim_pos {s p:Bs} (h:pre s p=true):Lib.trimPrefix s p=s.drop p.length:=by unfold pre at h;rw[Lib.trimPrefix,if_pos h]
theorem trim_neg {s p:Bs} (h:pre s p=false):Lib.trimPrefix s p=s:=by unfold pre at h;rw[Lib.trimPrefix,if_neg (by simp [h])]
def conN (s:Bs):Bool:=nameK s == 2
def tuple (n:Nat):Bs:=40::(List.replicate (n-1) 44++[41])
def snd (nm:Bs) (n:Nat):Bool :=
 if conN nm then decide (n<=8) else (decide (2<=n/\n<=8/\nm=tuple n)) || (decide (nm=[40,41]/\n=0) || (decide (nm=[91,93]/\n=1) || decide (nm=arrow/\n=2)))
theorem conN_head {nm:Bs} (h:conN nm=true):∃ c l,nm=c::l/\large c=true/\nm.length<=32:=by
 have h:nameK nm=2:=by simpa [conN] using h
 cases nm with
 | nil=>cases h
 | cons c l =>
   refine ⟨c,l,rfl,?_⟩
   by_cases hc:32<(c::l).length\/digit c=true\/c.toNat=39\/spn inner (c::l)<(c::l).length
   ·rw[nameK_zero hc] at h;cases h
   ·rw[nameK_else hc] at h
    refine ⟨?_,by omega⟩
    split at h
    ·assumption
    ·split at h
     ·cases h
     ·split at h<;>cases h
theorem tuple_len (n:Nat):(tuple n).length=(n-1)+2:=by simp [tuple]
theorem snd_ok {nm:Bs} {ags:List Nat} (h:snd nm ags.length=true):okN ⟨nm,ags⟩/\nm≠[]:=by
 unfold snd at h
 split at h
 ·rename_i hc
  obtain ⟨c,l,rfl,hl,hn⟩:=conN_head hc;have h8:ags.length<=8:=by simpa using h
  refine ⟨⟨fun e=>(by cases e),fun e=>?_,fun e=>?_,hn,h8⟩,by simp⟩
  ·cases e;exact absurd hl (by decide)
  ·cases e;exact absurd hl (by decide)
 ·simp only[Bool.or_eq_true,decide_eq_true_eq] at h
  rcases h with ⟨h1,h2,rfl⟩|⟨rfl,h1⟩|⟨rfl,h1⟩|⟨rfl,h1⟩
  ·refine ⟨⟨fun e=>(by cases e),fun e=>?_,fun e=>?_,by simp only[tuple_len];omega,h2⟩,by simp [tuple]⟩
   ·simp [tuple] at e
   ·simp [tuple,arrow] at e
  ·exact ⟨⟨fun e=>(by cases e),fun e=>(by simp at e),fun e=>(by simp [arrow] at e),by simp,by simp only;omega⟩,by simp⟩
  ·exact ⟨⟨fun e=>(by cases e),fun e=>h1,fun e=>(by simp [arrow] at e),by simp,by simp only;omega⟩,by simp⟩
  ·exact ⟨⟨fun e=>(by cases e),fun e=>(by simp [arrow] at e),fun e=>h1,by simp [arrow],by simp only;omega⟩,by simp [arrow]⟩
structure Rs where
 T:List Tm
 rest:Bs
 vars:List (Bs × Nat)
def isLg (l:Bs):Bool:=match l with
 | []=>false
 | c::_=>large c
def mkR (nm:Bs) (ags:List Nat) (s:Rs):Option (Nat × Rs):=if snd nm ags.length then some (s.T.length,{ s with T:=s.T++[⟨nm,ags⟩] }) else none
def Rs.to (s:Rs) (r:Bs):Rs:={ s with rest:=r }
def wlen (l:Bs):Nat:=spn inner l
def nameR (s:Rs):Option (Nat × Rs) :=
 if wlen s.rest=0 then none else match s.vars.lookup (s.rest.take (wlen s.rest)) with
  | some n=>some (n,s.to (s.rest.drop (wlen s.rest)))
  | none=>some (s.T.length,⟨s.T++[⟨[],[]⟩],s.rest.drop (wlen s.rest),s.vars++[(s.rest.take (wlen s.rest),s.T.length)]⟩)
def moreA (l:Bs):Bool:=match l with
 | a::b::_=>a == 32 && b != 45
 | _=>false
mutual
def whole:Nat->Rs->Option (Nat × Rs)
 | 0,_=>none
 | f+1,s=>match named f s with
   | none=>none
   | some r=>if pre r.2.rest [32,45,62,32] then match whole f (r.2.to (r.2.rest.drop 4)) with
    | none=>none
    | some p=>mkR arrow [r.1,p.1] p.2
     else some r
def named:Nat->Rs->Option (Nat × Rs)
 | 0,_=>none
 | f+1,s=>if isLg s.rest then match argR f (s.to (s.rest.drop (wlen s.rest))) [] with
     | none=>none
     | some r=>mkR (s.rest.take (wlen s.rest)) r.1 r.2
   else held f s
def argR:Nat->Rs->List Nat->Option (List Nat × Rs)
 | 0,_,_=>none
 | f+1,s,l=>if moreA s.rest then match held f (s.to (s.rest.drop 1)) with
     | none=>none
     | some r=>argR f r.2 (l++[r.1])
   else some (l,s)
def held:Nat->Rs->Option (Nat × Rs)
 | 0,_=>none
 | f+1,s =>
   if pre s.rest [40,41] then mkR [40,41] [] (s.to (s.rest.drop 2))
   else if pre s.rest [91] then match whole f (s.to (s.rest.drop 1)) with
    | none=>none
    | some r=>if pre r.2.rest [93] then mkR [91,93] [r.1] (r.2.to (r.2.rest.drop 1)) else none
   else if pre s.rest [40] then match whole f (s.to (s.rest.drop 1)) with
    | none=>none
    | some r=>match tupR f r.2 [r.1] with
      | none=>none
      | some p=>if pre p.2.rest [41] then (if p.1.length=1 then some (p.1.headD 0,p.2.to (p.2.rest.drop 1)) else mkR (tuple p.1.length) p.1 (p.2.to (p.2.rest.drop 1))) else none
   else if isLg s.rest then mkR (s.rest.take (wlen s.rest)) [] (s.to (s.rest.drop (wlen s.rest)))
   else nameR s
def tupR:Nat->Rs->List Nat->Option (List Nat × Rs)
 | 0,_,_=>none
 | f+1,s,l=>if pre s.rest [44,32] then match whole f (s.to (s.rest.drop 2)) with
     | none=>none
     | some r=>tupR f r.2 (l++[r.1])
   else some (l,s)
end
structure RI (s:Rs):Prop where
 ac:AC s.T
 vr:∀ p∈s.vars,p.2<s.T.length
structure RS (s s':Rs) (k:Nat):Prop where
 t:∃ X,s'.T=s.T++X
 ri:RI s'
 sum:s'.T.length+s'.rest.length<=s.T.length+s.rest.length
 len:s'.rest.length+k<=s.rest.length
theorem RS.le {s s':Rs} {k:Nat} (h:RS s s' k):s.T.length<=s'.T.length:=by obtain ⟨X,e⟩:=h.t;rw[e];simp
theorem RS.trans {s s1 s2:Rs} {k l:Nat} (a:RS s s1 k) (b:RS s1 s2 l):RS s s2 (k+l):=by
 obtain ⟨X,x⟩:=a.t;obtain ⟨Y,y⟩:=b.t;exact ⟨⟨X++Y,by rw[y,x,Z9]⟩,b.ri,by have:=a.sum;have:=b.sum;omega,by have:=a.len;have:=b.len;omega⟩
theorem RS.mono {s s':Rs} {k l:Nat} (a:RS s s' k) (h:l<=k):RS s s' l:=⟨a.t,a.ri,a.sum,by have:=a.len;omega⟩
theorem RI.to {s:Rs} (h:RI s) (k:Nat) (hk:k<=s.rest.length):RS s (s.to (s.rest.drop k)) k :=
 ⟨⟨[],by simp [Rs.to]⟩,⟨h.ac,h.vr⟩,by simp only[Rs.to,List.length_drop];omega,by simp only[Rs.to,List.length_drop];omega⟩
theorem mkR_ok {s0 s s':Rs} {k n:Nat} {nm:Bs} {ags:List Nat} (h:RS s0 s (k+1)) (hs:s.T.length+s.rest.length+1<=s0.T.length+s0.rest.length) (ha:∀ a∈ags,a<s.T.length) (e:mkR nm ags s=some (n,s')):RS s0 s' (k+1)/\n<s'.T.length:=by
 unfold mkR at e
 split at e
 ·rename_i hsn
  cases e;obtain ⟨X,x⟩:=h.t;refine ⟨⟨⟨X++[⟨nm,ags⟩],by simp only;rw[x,Z9]⟩,⟨h.ri.ac.snoc (snd_ok hsn).1 ha,fun p hp=>?_⟩,?_,h.len⟩,by simp⟩
  ·have:=h.ri.vr p hp;simp only[Zd];omega
  ·simp only[Zd,List.length_singleton];omega
 ·cases e
theorem isLg_pos {l:Bs} (h:isLg l=true):1<=wlen l:=by
 unfold isLg at h
 split at h
 ·cases h
 ·rename_i c l
  unfold wlen;rw[spn_cons,if_pos (by simp [inner,h])];omega
end Go.Typ

namespace Go.S11
open Go Go.Eng Go.Proofs Go.Scn Go.Typ
def nn (l:List Nat):List Value:=l.map fun (a:Nat)=>iv (a:Int)
theorem nn_len (l:List Nat):(nn l).length=l.length:=by simp [nn]
theorem nn_one (l:List Nat):(nn l).all Value.oneCell'=true:=by simp [nn,Value.oneCell']
theorem nn_app (l m:List Nat):nn (l++m)=nn l++nn m:=by simp [nn]
theorem nn_at {h:AH} {v:Value} {l:List Nat} (r:Rds h 1 v l.length (nn l)) {i a:Nat} (hx:l[i]?=some a):∃ b o c,v = .slice (some ⟨b,o,none⟩) l.length c/\ldc h b (o+i)=some (iv (a:Int)):=by
 have hi:=(Z1.1 hx).1;obtain ⟨b,o,c,e,hl⟩:=r.at hi;refine ⟨b,o,c,e,?_⟩;have h0:=hl 0 (by omega);rw[Nat.mul_one,Nat.add_zero,Nat.add_zero] at h0;rw[h0,nn,Zm,hx];rfl
structure Ce where
 up:Nat
 nx:Nat
 nm:Bs
 v:Value
def Ce.cells (c:Ce):List Value:=[iv (c.up:Int),iv (c.nx:Int),tv c.nm,c.v]
abbrev ceT:TypeId:=106
structure TL where
 bs:Nat
 vc:Value
 cls:Nat->Nat
structure TH (h:AH) (b:Nat) (L:TL) (cs:List Ce) (T:List Tm) (ρ:Nat->Nat) (sp:Bool):Prop where
 own:Own h b 48 [.pointer (some ⟨L.bs,0,none⟩),.bool sp]
 os:∃ k,Own h L.bs 79 [L.vc,iv k]
 oc:Ows h ceT 4 L.vc cs.length (cs.flatMap Ce.cells)
 len:cs.length=T.length
 lt:T.length<=1000000000
 ok:∀ (i:Nat) (t:Tm),T[i]?=some t->okN t
 tm:∀ (i:Nat) (c:Ce) (t:Tm),cs[i]?=some c->T[i]?=some t->c.nm=t.nm/\Rds h 1 c.v t.ags.length (nn t.ags) /\ ∀ q,rb c.v q->L.cls q=4
 uf:∀ (i:Nat) (c:Ce),cs[i]?=some c->c.up<=i/\ρ c.up=ρ i/\(c.up=i ↔ ρ i=i)
 rf:∀ i,T.length<=i->ρ i=i
 c1:L.cls b=1
 c2:L.cls L.bs=2
 c3:∀ q,bk L.vc q->L.cls q=3
 c0:∀ q,h.length<=q->L.cls q=0
def TMine (L:TL) (q:Nat):Prop:=L.cls q=2\/L.cls q=3
theorem TMine.z {L:TL} {q:Nat} (h:L.cls q=0):¬ TMine L q:=by unfold TMine;omega
section
variable {h h':AH} {b:Nat} {L:TL} {cs:List Ce} {T:List Tm} {ρ:Nat->Nat} {sp:Bool}
theorem TH.keep {X:Nat->Prop} (s:TH h b L cs T ρ sp) (k:Keep X h h') (hx:∀ q,L.cls q≠0 -> ¬ X q):TH h' b L cs T ρ sp:=by
 obtain ⟨kk,hk⟩:=s.os;exact ⟨s.own.keep k (hx b (by rw[s.c1];omega)),⟨kk,hk.keep k (hx _ (by rw[s.c2];omega))⟩,s.oc.keep k (fun q e=>hx q (by rw[s.c3 q e];omega)),s.len,s.lt,s.ok,
  fun i c t a d=>let ⟨x,y,z⟩:=s.tm i c t a d;⟨x,y.keep k (fun q e=>hx q (by rw[z q e];omega)),z⟩,s.uf,s.rf,s.c1,s.c2,s.c3,fun q e=>s.c0 q (Zl k.len e)⟩
theorem TH.keepF (s:TH h b L cs T ρ sp) (k:Keep (fun _=>False) h h'):TH h' b L cs T ρ sp:=s.keep k (fun _ _ e=>e)
theorem TH.cell (s:TH h b L cs T ρ sp) {i:Nat} (hi:i<T.length):∃ c,cs[i]?=some c:=⟨_,Z3 (by rw[s.len];exact hi)⟩
theorem TH.root (s:TH h b L cs T ρ sp):∀ i,i<T.length->ρ i<=i/\ρ (ρ i)=ρ i:=by
 intro i
 induction i using Nat.strongRecOn with
 | ind i ih =>
   intro hi;obtain ⟨c,hc⟩:=s.cell hi;obtain ⟨u1,u2,u3⟩:=s.uf i c hc
   by_cases e:c.up=i
   ·have:=u3.1 e;exact ⟨by omega,by rw[this,this]⟩
   ·obtain ⟨a,d⟩:=ih c.up (by omega) (by omega)
    rw[u2] at a d;exact ⟨by omega,d⟩
theorem TH.at (s:TH h b L cs T ρ sp) {i:Nat} {c:Ce} (hc:cs[i]?=some c):∃ bc cc,L.vc = .slice (some ⟨bc,0,none⟩) cs.length cc/\ldc h bc (i*4)=some (iv (c.up:Int))/\ldc h bc (i*4+1)=some (iv (c.nx:Int))/\ldcs h bc (i*4+2) 2=some [tv c.nm,c.v]:=by
 obtain ⟨bc,o,cc,e,hl⟩:=s.oc.rds.cellAt (f:=Ce.cells) (k:=4) (fun _=>rfl) hc;obtain ⟨b2,o2,c2,e2,hl2⟩:=s.oc.rds.cellsAt (f:=Ce.cells) (k:=4) (fun _=>rfl) hc (j:=2) (m:=2) (by omega);rw[e] at e2;cases e2;have o0:o=0:=by
  have h3:=s.oc;rw[e] at h3;generalize cs.length=n at h3;cases h3 with
  | mk=>rfl
 subst o0;refine ⟨bc,cc,e,?_,?_,?_⟩
 ·have:=hl 0 (by omega);simpa [Ce.cells] using this
 ·have:=hl 1 (by omega);simpa [Ce.cells] using this
 ·simpa [Ce.cells] using hl2
theorem TH.hang (s:TH h b L cs T ρ sp) {i:Nat} {c:Ce} (hc:cs[i]?=some c) (o:Ows h' ceT 4 L.vc (cs.set i { c with up:=ρ i }).length ((cs.set i { c with up:=ρ i }).flatMap Ce.cells)) (k:Keep (bk L.vc) h h'):TH h' b L (cs.set i { c with up:=ρ i }) T ρ sp:=by
 have hi:=(Z1.1 hc).1;have n3:∀ q,L.cls q≠3 -> ¬ bk L.vc q:=fun q e1 e2=>e1 (s.c3 q e2)
 obtain ⟨kk,hk⟩:=s.os;obtain ⟨r1,r2⟩:=s.root i (by rw[<- s.len];exact hi);refine ⟨s.own.keep k (n3 b (by rw[s.c1];omega)),⟨kk,hk.keep k (n3 _ (by rw[s.c2];omega))⟩,o,by rw[List.length_set];exact s.len,s.lt,s.ok,fun j d t hd ht=>?_,fun j d hd=>?_,s.rf,s.c1,s.c2,s.c3,fun q e=>s.c0 q (Zl k.len e)⟩
 ·by_cases e:i=j
  ·subst e
   rw[Zi hi] at hd;cases hd;obtain ⟨x,y,z⟩:=s.tm i c t hc ht;exact ⟨x,y.keep k (fun q e=>n3 q (by rw[z q e];omega)),z⟩
  ·rw[Zk e] at hd
   obtain ⟨x,y,z⟩:=s.tm j d t hd ht;exact ⟨x,y.keep k (fun q e=>n3 q (by rw[z q e];omega)),z⟩
 ·by_cases e:i=j
  ·subst e
   rw[Zi hi] at hd;cases hd;exact ⟨r1,r2,Iff.rfl⟩
  ·rw[Zk e] at hd
   exact s.uf j d hd
set_option maxHeartbeats 2000000 in
theorem least_ok (s:TH h b L cs T ρ sp) {i:Nat} (hi:i<T.length):Gets Tryd.prog 57 [.pointer (some ⟨L.bs,0,none⟩),iv (i:Int)] h
 (fun res h'=>Keep (bk L.vc) h h'/\res = .ret (.tuple #[iv (ρ i:Int),iv 0]) /\ ∃ cs',TH h' b L cs' T ρ sp):=by
 refine Gets.of (keep:=false) hP (draw_ok hM) k57 (by rfl) (fun Ψ hΨ=>?_);have hl:=s.len;have hlt:=s.lt;obtain ⟨k0,os⟩:=s.os;obtain ⟨c,hc⟩:=s.cell hi;obtain ⟨bc,cc,hv,l1,l2,l3⟩:=s.at hc;have d0:((i:Int)<0)=False:=by simp
 have d1:((cs.length:Int)<=(i:Int))=False:=by simp;omega
 simp only[ZG,↓reduceIte,ZA,ZB,ZC,r57,YE,YC,YO,YA,YL,YX,YS,Ya,Yb,Yl,Yf,Yg,Yi,Ym,Yk,Yt,Yn,Yz,Yp,Yq,Yd,d0,os.cells.ld,hv,mbl,ZD,ZE,ZF,d1];refine XLo_rule (α:=Nat) (fun a=>[(0,.pointer (some ⟨L.bs,0,none⟩)),(1,iv (i:Int)),(6,iv (a:Int))]) (fun a h'=>a<T.length/\ρ a=ρ i/\h'=h) (fun a=>a) i ⟨hi,rfl,rfl⟩ ⟨rfl,rfl,rfl,trivial⟩ ?_;rintro a h1 Ψ2 ⟨ha,hr,rfl⟩ next out
 obtain ⟨ca,hca⟩:=s.cell ha;obtain ⟨b1,c1,hv1,l11,_,_⟩:=s.at hca;rw[hv] at hv1;cases hv1;obtain ⟨u1,u2,u3⟩:=s.uf a ca hca;have e0:(0<=(a:Int))=True:=by simp
 have e1:((a:Int)<(cs.length:Int))=True:=by simp;omega
 by_cases hup:ca.up=a
 case neg =>
  have e2:((ca.up:Int)=(a:Int))=False:=by simp;omega
  simp only[ZG,↓reduceIte,ZA,ZB,ZC,os.cells.ld,hv,mbl,ZD,ZE,ZF,e0,e1,and_self,Z5,l11,e2];exact next ca.up _ _ _ ⟨by omega,by rw[u2,hr],rfl⟩ ⟨rfl,rfl,rfl,trivial⟩ (by omega)
 case pos =>
 have e2:((ca.up:Int)=(a:Int))=True:=by simp;omega
 simp only[ZG,↓reduceIte,ZA,ZB,ZC,os.cells.ld,hv,mbl,ZD,ZE,ZF,e0,e1,and_self,Z5,l11,e2];have hra:a=ρ i:=by rw[<- hr];exact (u3.1 hup).symm
 subst hra;refine out (.exit 1) _ _ _ _ (by intro e;cases e) ?_;simp only[ZG,↓reduceIte,ZA,ZB,ZC];clear next out
 refine XLo_rule (α:=Nat × List Ce) (fun a=>[(0,.pointer (some ⟨L.bs,0,none⟩)),(1,iv (a.1:Int)),(6,iv ((ρ i:Nat):Int))]) (fun a h'=>a.1<T.length/\ρ a.1=ρ i/\TH h' b L a.2 T ρ sp/\Keep (bk L.vc) h1 h') (fun a=>a.1) (i,cs) ⟨hi,rfl,s,.refl _ _⟩ ⟨rfl,rfl,rfl,trivial⟩ ?_;rintro ⟨a,cs1⟩ h2 Ψ3 ⟨hb,hr2,s2,k2⟩ next out
 simp only at hb hr2 s2;obtain ⟨rt1,rt2⟩:=s.root i hi
 by_cases he:a=ρ i
 case pos =>
  have e3:((a:Int)=((ρ i:Nat):Int))=True:=by simp;omega
  simp only[ZG,↓reduceIte,ZA,ZB,ZC,e3];refine out (.exit 3) _ _ _ _ (by intro e;cases e) ?_;simp only[ZG,↓reduceIte,ZA,ZB,ZC];exact hΨ _ _ (fin_ret (rv2 rfl rfl ⟨k2,rfl,cs1,s2⟩))
 case neg =>
 have e3:((a:Int)=((ρ i:Nat):Int))=False:=by simp;omega
 obtain ⟨k3,os2⟩:=s2.os;obtain ⟨cb,hcb⟩:=s2.cell hb;obtain ⟨b2,c2,hv2,l21,_,_⟩:=s2.at hcb;obtain ⟨w1,w2,w3⟩:=s2.uf a cb hcb;have f0:(0<=(a:Int))=True:=by simp
 have f1:((a:Int)<(cs1.length:Int))=True:=by have:=s2.len;simp;omega
 have hne:cb.up≠a:=fun e=>he (by rw[<- hr2];exact (w3.1 e).symm)
 simp only[ZG,↓reduceIte,ZA,ZB,ZC,e3,os2.cells.ld,hv2,mbl,ZD,ZE,ZF,f0,f1,and_self,Z5,l21];refine XH_row (f:=Ce.cells) (k:=4) (x:=cb) (x':={ cb with up:=ρ a }) (j:=0) (i:=a) (fun _=>rfl) s2.oc hv2 hcb rfl rfl (by simp [Value.cells]) (by simp [Ce.cells,Value.cells,hr2]) rfl (fun h3 q1 q2 q3=>?_);have s3:=s2.hang hcb (by rw[List.length_set];exact q1) q2;simp only[ZG,↓reduceIte,ZA,ZB,ZC];exact next (cb.up,_) _ _ _ ⟨by simp only;omega,by simp only;rw[w2,hr2],s3,k2.trans q2⟩ ⟨rfl,rfl,rfl,trivial⟩ (by simp only;omega)
end
end Go.S11

namespace Go.S11
open Go Go.Eng Go.Proofs Go.Scn Go.Typ
theorem own_ld {h:AH} {q:Nat} {t:TypeId} {a b:Value} (o:Own h q t [a,b]):uval Tryd.prog h h.length (.ldn 2) (.pointer (some ⟨q,0,none⟩))=some (.agg #[a,b],none):=by
 simp only[uval];rw[show hcell h q=some [a,b] from o.cells];rfl
theorem rv_cv {e l:PE} {h:AH} {ds:List Dfr} {x y:RX} {u:U} {p v w:Value} {K:List Value->Prop} (hx:rx e l x=some p) (hu:uval Tryd.prog h h.length u p=some (v,none)) (hy:rx e l y=some w) (hk:K [v,w]):rvK Tryd.prog ⟨e,l,h,ds⟩ [.c x u,.v y] K:=by
 simp only[rvK,hx,vK,hu,rK,hy];exact hk
theorem rv_vc {e l:PE} {h:AH} {ds:List Dfr} {x y:RX} {u:U} {p v w:Value} {K:List Value->Prop} (hy:rx e l y=some w) (hx:rx e l x=some p) (hu:uval Tryd.prog h h.length u p=some (v,none)) (hk:K [w,v]):rvK Tryd.prog ⟨e,l,h,ds⟩ [.v y,.c x u] K:=by
 simp only[rvK,hx,vK,hu,rK,hy];exact hk
section
variable {h h':AH} {b:Nat} {L:TL} {cs:List Ce} {T:List Tm} {ρ:Nat->Nat} {sp:Bool}
theorem TH.one (s:TH h b L cs T ρ sp) {i:Nat} {c:Ce} (hc:cs[i]?=some c):c.v.oneCell'=true:=by
 have hi:=(Z1.1 hc).1;obtain ⟨t,ht⟩:∃ t,T[i]?=some t:=⟨_,Z3 (by rw[<- s.len];exact hi)⟩
 obtain ⟨_,r1,_⟩:=s.tm i c t hc ht;obtain ⟨va,vcc,e⟩:=row_shape r1;rw[e];rfl
theorem find_ok (s:TH h b L cs T ρ sp) {i:Nat} (hi:i<T.length):Gets Tryd.prog 55 [.pointer (some ⟨L.bs,0,none⟩),iv (i:Int)] h
 (fun res h'=>Keep (bk L.vc) h h'/\res = .ret (.tuple #[iv (ρ i:Int),iv 0]) /\ ∃ cs',TH h' b L cs' T ρ sp):=by
 refine Gets.of (keep:=false) hP (draw_ok hM) k55 (by rfl) (fun Ψ hΨ=>?_);simp only[ZG,↓reduceIte,ZA,ZB,ZC,r55,YE,YC,YO,YA,YL,YX,YS,Ya,Yb,Yl,Yf,Yg,Yi,Ym,Yk,Yt,Yn,Yz,Yp,Yq,Yd];refine XX_of (least_ok s hi) (fun res h1 hle hn=>?_);obtain ⟨k1,rfl,cs1,s1⟩:=hn;refine .ret ?_;simp only[ZG,↓reduceIte,ZA,ZB,ZC];exact hΨ _ _ (fin_ret (rv2 rfl rfl ⟨k1,rfl,cs1,s1⟩))
theorem get_ok (s:TH h b L cs T ρ sp) {i:Nat} (hi:i<T.length):Gets Tryd.prog 56 [.pointer (some ⟨L.bs,0,none⟩),iv (i:Int)] h
 (fun res h'=>Keep (bk L.vc) h h' /\ ∃ cs' c,TH h' b L cs' T ρ sp/\cs'[ρ i]?=some c/\res = .ret (.tuple #[.agg #[tv c.nm,c.v],iv 0])):=by
 refine Gets.of (keep:=false) hP (draw_ok hM) k56 (by rfl) (fun Ψ hΨ=>?_);simp only[ZG,↓reduceIte,ZA,ZB,ZC,r56,YE,YC,YO,YA,YL,YX,YS,Ya,Yb,Yl,Yf,Yg,Yi,Ym,Yk,Yt,Yn,Yz,Yp,Yq,Yd,mbl,ZD,ZE,ZF];have oN:=Own.new h 46 h.length [.string ⟨#[]⟩,.slice none 0 0];have kN:Keep (fun _=>False) h (h++[row 46 h.length [.string ⟨#[]⟩,.slice none 0 0]]):=Keep.push _ _ _;generalize h++[row 46 h.length [.string ⟨#[]⟩,.slice none 0 0]]=h1 at oN kN ⊢;have s1:=s.keepF kN;refine XX_of (least_ok s1 hi) (fun res h2 hle hn=>?_);obtain ⟨k2,rfl,cs2,s2⟩:=hn;refine .ret ?_;have z0:L.cls h.length=0:=s.c0 _ (Zh _);have oN2:=oN.keep k2 (fun e=>by have:=s.c3 _ e;omega);obtain ⟨rt1,rt2⟩:=s.root i hi;obtain ⟨c,hc⟩:=s2.cell (show ρ i<T.length by omega);obtain ⟨bc,cc,hv,l1,l2,l3⟩:=s2.at hc;obtain ⟨k0,os⟩:=s2.os;have e0:(0<=((ρ i:Nat):Int))=True:=by simp
 have e1:(((ρ i:Nat):Int)<(cs2.length:Int))=True:=by have:=s2.len;simp;omega
 simp only[ZG,↓reduceIte,ZA,ZB,ZC,mbl,ZD,ZE,ZF,os.cells.ld,hv,e0,e1,and_self,Z5,l3];have hone:=s2.one hc;refine XH_own oN2 rfl (by simp [Value.cells]) (by show (true && (c.v.oneCell' && true))=true;rw[hone];rfl) (fun h3 q1 q2 q3=>?_);have oN3:Own h3 h.length 46 [tv c.nm,c.v]:=by simpa [Value.cells] using q1
 have k3:Keep (bk L.vc) h h3:=((kN.mono (fun _ e=>e.elim)).trans k2).trans' q2 (fun q hq e=>by omega);have s3:TH h3 b L cs2 T ρ sp:=s2.keep q2 (fun q hq e=>by subst e;exact hq z0);simp only[ZG,↓reduceIte,ZA,ZB,ZC];refine hΨ _ _ (fin_ret (rv_cv rfl (own_ld oN3) rfl ⟨k3,cs2,c,s3,hc,rfl⟩))
theorem at_ok (s:TH h b L cs T ρ sp) {i:Nat} (hi:i<T.length):Gets Tryd.prog 40 [.pointer (some ⟨b,0,none⟩),iv (i:Int)] h
 (fun res h'=>Keep (bk L.vc) h h' /\ ∃ cs' c,TH h' b L cs' T ρ sp/\cs'[ρ i]?=some c/\res = .ret (.tuple #[iv (ρ i:Int),.agg #[tv c.nm,c.v]])):=by
 refine Gets.of (keep:=false) hP (draw_ok hM) k40 (by rfl) (fun Ψ hΨ=>?_);obtain ⟨rt1,rt2⟩:=s.root i hi;simp only[ZG,↓reduceIte,ZA,ZB,ZC,r40,YE,YC,YO,YA,YL,YX,YS,Ya,Yb,Yl,Yf,Yg,Yi,Ym,Yk,Yt,Yn,Yz,Yp,Yq,Yd,mbl,ZD,ZE,ZF];have oN:=Own.new h 46 h.length [.string ⟨#[]⟩,.slice none 0 0];have kN:Keep (fun _=>False) h (h++[row 46 h.length [.string ⟨#[]⟩,.slice none 0 0]]):=Keep.push _ _ _;generalize h++[row 46 h.length [.string ⟨#[]⟩,.slice none 0 0]]=h1 at oN kN ⊢;have s1:=s.keepF kN;have z0:L.cls h.length=0:=s.c0 _ (Zh _);simp only[ZG,↓reduceIte,ZA,ZB,ZC,s1.own.cells.ld,mbl,ZD,ZE,ZF];refine XX_of (find_ok s1 hi) (fun res h2 hle hn=>?_);obtain ⟨k2,rfl,cs2,s2⟩:=hn;refine .ret ?_;have oN2:=oN.keep k2 (fun e=>by have:=s.c3 _ e;omega);simp only[ZG,↓reduceIte,ZA,ZB,ZC,s2.own.cells.ld,mbl,ZD,ZE,ZF];refine XX_of (get_ok s2 (show ρ i<T.length by omega)) (fun res h3 hle3 hn=>?_);obtain ⟨k3,cs3,c,s3,hc,rfl⟩:=hn;refine .ret ?_;have oN3:=oN2.keep k3 (fun e=>by have:=s.c3 _ e;omega);have oM:=Own.new h3 46 h3.length [.string ⟨#[]⟩,.slice none 0 0];have kM:Keep (fun _=>False) h3 (h3++[row 46 h3.length [.string ⟨#[]⟩,.slice none 0 0]]):=Keep.push _ _ _;simp only[ZG,↓reduceIte,ZA,ZB,ZC,mbl,ZD,ZE,ZF];generalize h3++[row 46 h3.length [.string ⟨#[]⟩,.slice none 0 0]]=h4 at oM kM ⊢;have hone:=s3.one hc;have h13:h1.length<=h3.length:=Zl k2.len k3.len;have h1l:=oN.lt;refine XH_own oM rfl (by simp [Value.cells]) (by show (true && (c.v.oneCell' && true))=true;rw[hone];rfl) (fun h5 q1 q2 q3=>?_);have oM5:Own h5 h3.length 46 [tv c.nm,c.v]:=by simpa [Value.cells] using q1
 have k35:Keep (fun _=>False) h3 h5:=kM.trans' q2 (fun q hq e=>by omega);have oN5:=oN3.keep k35 (fun e=>e);have s5:=s3.keepF k35;simp only[ZG,↓reduceIte,ZA,ZB,ZC,mbl,ZD,ZE,ZF,oM5.cells.lds 0 2 (by simp)];refine XH_own oN5 rfl (by simp [Value.cells]) (by show (true && (c.v.oneCell' && true))=true;rw[hone];rfl) (fun h6 w1 w2 w3=>?_);have oN6:Own h6 h.length 46 [tv c.nm,c.v]:=by simpa [Value.cells] using w1
 have k6:Keep (bk L.vc) h h6:=((((kN.mono (fun _ e=>e.elim)).trans k2).trans k3).trans (k35.mono (fun _ e=>e.elim))).trans' w2 (fun q hq e=>by omega);have s6:TH h6 b L cs3 T ρ sp:=s5.keep w2 (fun q hq e=>by subst e;exact hq z0);simp only[ZG,↓reduceIte,ZA,ZB,ZC];rw[rt2] at hc;exact hΨ _ _ (fin_ret (rv_vc rfl rfl (own_ld oN6) ⟨k6,cs3,c,s6,hc,rfl⟩))
end
end Go.S11
