import Derived.Test.YtnkbbpmcjopicaaDoorPk10
set_option linter.unusedVariables false
set_option linter.unusedSimpArgs false
open Nat renaming reduceEqDiff -> ZA,reduceAdd -> ZB,reduceMul -> ZC,reduceLeDiff -> ZD,reduceLT -> ZE
open Int renaming reduceEq -> ZF
open Bool renaming false_eq_true->Z0
open Nat renaming mul_le_mul_right->Z1,zero_add->Z4,le_refl->Z5,add_mul->Z6,lt_of_lt_of_le->Za
open Option renaming bind_some->Z2
open List renaming getElem?_eq_some_iff->Z3,getElem?_append_left->Z7,take_of_length_le->Z8,getElem?_set_ne->Z9,contains_nil->Zb
namespace Go.Eng
def look1 (P:Program) (f:FuncId) (nm:List Nat) (D:Array Oper->Bool):Option (RC × List RV) :=
 match P.funcs[f]? with
 | some fn=>match fn.body with
   | some c=>match resC P nm fn.ntmps D c,resRVs P nm fn.results.toList with
     | some rc,some rvs=>some (rc,rvs)
     | _,_=>none
   | none=>none
 | none=>none
section
variable {P:Program} {keep:Bool} {nm:List Nat}
theorem Gets.go (hP:noGoroutines P=true) {D:Array Oper->Bool} (hD:∀ N,DrawOk P keep nm N D) {f:FuncId} {rc:RC} {rvs:List RV} (hk:look1 P f nm D=some (rc,rvs)) {args:List Value}
 (hnm:((List.range args.length).all nm.contains)=true) {h:AH} {Φ:Res->AH->Prop} (hw:wpc P keep nm rc (finK P rvs Φ) ⟨argE 0 args,[],h,[]⟩):Gets P f args h Φ:=by
 unfold look1 at hk
 split at hk
 case h_2=>cases hk
 case h_1 fn hf =>
  split at hk
  case h_2=>cases hk
  case h_1 c hb =>
   split at hk
   case h_2=>cases hk
   case h_1 rc' rvs' h1 h2 =>
    cases hk;exact Gets.fn hP hf hb (hD _) h1 h2 hnm hw
theorem rr {α:Sort _} {a b:α} (h:a=b):a=b:=h
def ldcs (h:AH) (b o n:Nat):Option (List Value):=(hcell h b).bind fun cs=>if o+n<=cs.length then some ((cs.drop o).take n) else none
inductive Fm where
 | sq (c:RC)
 | blk (id:Nat)
 | np
 | ep (e:PE)
def den (P:Program) (keep:Bool) (nm:List Nat) (Φ:Out->PS->Prop):List Fm->Out->PS->Prop
 | []=>Φ
 | .sq c::k=>seqK (wpc P keep nm c (den P keep nm Φ k)) (den P keep nm Φ k)
 | .blk id::k=>blkK id (den P keep nm Φ k)
 | .np::k=>npK (den P keep nm Φ k)
 | .ep e0::k=>drK e0 (den P keep nm Φ k)
inductive Cn where
 | ro (os:List RO)
 | dr (i:Nat) (w:Bool) (chk old:List Nat) (kk:RK) (h0:AH) (dl:List DO) (hs:List (Nat × AH)) (rs:List Rd)
def peC (c:Cn) (e:PE):PE:=match c with
 | .ro _=>e
 | .dr _ _ _ _ _ _ _ _ _=>[]
theorem peC_ro {os:List RO} {e:PE}:peC (.ro os) e=e:=rr rfl
theorem peC_dr {i:Nat} {w:Bool} {chk old:List Nat} {kk:RK} {h0:AH} {dl:List DO} {hs:List (Nat × AH)} {rs:List Rd} {e:PE}:peC (.dr i w chk old kk h0 dl hs rs) e=[]:=rr rfl
variable (P keep nm) (Φ:Out->PS->Prop)
def XC (c:RC) (k:List Fm) (e l:PE) (h:AH) (ds:List Dfr):Prop:=wpc P keep nm c (den P keep nm Φ k) ⟨e,l,h,ds⟩
def XO (os:List RO) (k:List Fm) (e l:PE) (h:AH) (ds:List Dfr):Prop:=wpr P keep nm (den P keep nm Φ k) os e l h ds
def XDo (dl:List DO) (hs:List (Nat × AH)) (rs:List Rd) (k:List Fm) (e l:PE) (h:AH) (ds:List Dfr):Prop:=wpd P keep nm (den P keep nm Φ k) dl hs rs e l h ds
def XQ1 (rr:List Rd) (chk:List Nat) (hh:List (Nat × AH)) (old:List Nat) (r:List Rd) (dl:List DO) (hs:List (Nat × AH)) (rs:List Rd) (k:List Fm) (e l:PE) (h:AH) (ds:List Dfr):Prop :=
 chkK P h rr chk (oldK P hh old r (wpd P keep nm (den P keep nm Φ k) dl hs rs e l h ds))
def XQ1b (b:Bool) (x:Option RRes) (v:Value) (rr:List Rd) (chk:List Nat) (hh:List (Nat × AH)) (old:List Nat) (r:List Rd) (dl:List DO) (hs:List (Nat × AH)) (rs:List Rd) (k:List Fm) (e l:PE) (h:AH) (ds:List Dfr):Prop :=
 if b then x=some (v,none)/\XQ1 P keep nm Φ rr chk hh old r dl hs rs k e l h ds else XQ1 P keep nm Φ rr chk hh old r dl hs rs k e l h ds
def XQ2 (hh:List (Nat × AH)) (old:List Nat) (r:List Rd) (dl:List DO) (hs:List (Nat × AH)) (rs:List Rd) (k:List Fm) (e l:PE) (h:AH) (ds:List Dfr):Prop :=
 oldK P hh old r (wpd P keep nm (den P keep nm Φ k) dl hs rs e l h ds)
def XQ2b (b:Bool) (hj:AH) (rr:List Rd) (hh:List (Nat × AH)) (old:List Nat) (r:List Rd) (dl:List DO) (hs:List (Nat × AH)) (rs:List Rd) (k:List Fm) (e l:PE) (h:AH) (ds:List Dfr):Prop :=
 if b then (∀ x∈rr,uval P hj hj.length x.2.1 x.2.2.1=some (x.2.2.2,none))/\XQ2 P keep nm Φ hh old r dl hs rs k e l h ds else XQ2 P keep nm Φ hh old r dl hs rs k e l h ds
def XQ3 (x:Option RRes) (v:Value) (hj:AH) (rr:List Rd) (hh:List (Nat × AH)) (old:List Nat) (r:List Rd) (dl:List DO) (hs:List (Nat × AH)) (rs:List Rd) (k:List Fm) (e l:PE) (h:AH) (ds:List Dfr):Prop :=
 x=some (v,none)/\XQ2b P keep nm Φ true hj rr hh old r dl hs rs k e l h ds
def XE (out:Out) (k:List Fm) (e l:PE) (h:AH) (ds:List Dfr):Prop:=den P keep nm Φ k out ⟨e,l,h,ds⟩
def XN (v:Value) (d:D) (c:Cn) (k:List Fm) (e l:PE) (h:AH) (ds:List Dfr):Prop:=match c with
 | .ro os=>XO P keep nm Φ os k (pe d e v) (pl d l v) h ds
 | .dr i w chk old kk h0 dl hs rs=>XQ1 P keep nm Φ rs chk hs old (rdOf e l i kk v []) dl (if w then (i,h0)::hs else hs) (rdOf e l i kk v rs) k (pe d e v) (pl d l v) h ds
def XK (d:D) (o:RK) (c:Cn) (k:List Fm) (e l:PE) (h:AH) (ds:List Dfr):Prop:=match c with
 | .ro os=>wpo P keep nm e l h ds (fun dd=>XN P keep nm Φ undef d c k e l h (dd::ds)) (fun v h'=>XN P keep nm Φ v d c k e l h' ds) (fun v h'=>XE P keep nm Φ (.pan v) k e [] h' ds) o
 | .dr _ _ _ _ _ _ _ _ _=>wpk P keep nm e l h (fun v h'=>XN P keep nm Φ v d c k e l h' ds) (fun v h'=>XE P keep nm Φ (.pan v) k [] [] h' ds) o
def XSk (d:D) (c:Cn) (k:List Fm) (e l:PE) (h:AH) (ds:List Dfr):Prop:=match c with
 | .ro os=>XO P keep nm Φ os k (pe d e undef) (pl d l undef) h ds
 | .dr _ _ _ _ _ _ dl hs rs=>XDo P keep nm Φ dl hs rs k (pe d e undef) (pl d l undef) h ds
def XG (x:Option Value) (w:Bool) (d:D) (o:RK) (c:Cn) (k:List Fm) (e l:PE) (h:AH) (ds:List Dfr):Prop :=
 vK x fun v=>gB v w (XK P keep nm Φ d o c k e l h ds) (XSk P keep nm Φ d c k e l h ds)
def XGb (b:Bool) (d:D) (o:RK) (c:Cn) (k:List Fm) (e l:PE) (h:AH) (ds:List Dfr):Prop :=
 br b (XK P keep nm Φ d o c k e l h ds) (XSk P keep nm Φ d c k e l h ds)
def XI (x:Option Value) (a b:RC) (k:List Fm) (e l:PE) (h:AH) (ds:List Dfr):Prop:=vK x fun v=>bK v fun t=>br t (XC P keep nm Φ a k e l h ds) (XC P keep nm Φ b k e l h ds)
def XIb (t:Bool) (a b:RC) (k:List Fm) (e l:PE) (h:AH) (ds:List Dfr):Prop:=br t (XC P keep nm Φ a k e l h ds) (XC P keep nm Φ b k e l h ds)
def XV (v:Value) (d:D) (c:Cn) (k:List Fm) (e l:PE) (h:AH) (ds:List Dfr):Prop:=XN P keep nm Φ v d c k e l h ds
def XR (x:Option RRes) (d:D) (c:Cn) (k:List Fm) (e l:PE) (h:AH) (ds:List Dfr):Prop:=rK x h fun v h'=>XV P keep nm Φ v d c k e l h' ds
def XU (f:U) (x:Option Value) (d:D) (c:Cn) (k:List Fm) (e l:PE) (h:AH) (ds:List Dfr):Prop:=vK x fun v=>XR P keep nm Φ (uval P h h.length f v) d c k e l h ds
def XB (f:B) (x y:Option Value) (d:D) (c:Cn) (k:List Fm) (e l:PE) (h:AH) (ds:List Dfr):Prop:=vK x fun u=>vK y fun v=>XR P keep nm Φ (bval P h f u v) d c k e l h ds
def XP (x a b:Option Value) (d:D) (c:Cn) (k:List Fm) (e l:PE) (h:AH) (ds:List Dfr):Prop :=
 vK x fun v=>bK v fun t=>br t (vK a fun v=>XV P keep nm Φ v d c k e l h ds) (vK b fun v=>XV P keep nm Φ v d c k e l h ds)
def XPb (t:Bool) (a b:Option Value) (d:D) (c:Cn) (k:List Fm) (e l:PE) (h:AH) (ds:List Dfr):Prop :=
 br t (vK a fun v=>XV P keep nm Φ v d c k e l h ds) (vK b fun v=>XV P keep nm Φ v d c k e l h ds)
def XVo (a:Option Value) (d:D) (c:Cn) (k:List Fm) (e l:PE) (h:AH) (ds:List Dfr):Prop:=vK a fun v=>XV P keep nm Φ v d c k e l h ds
def XL (t:Option (Nat × Nat)) (x:Option (List (Nat × Nat × Value))) (z:List Value) (d:D) (c:Cn) (k:List Fm) (e l:PE) (h:AH) (ds:List Dfr):Prop :=
 pK x z fun cs=>match t with
  | none=>XV P keep nm Φ (.agg cs.toArray) d c k e l h ds
  | some (t,n)=>XV P keep nm Φ (.slice (some ⟨h.length,0,none⟩) n n) d c k e l (h++[row t h.length cs]) ds
def XLb (t:Option (Nat × Nat)) (x:Option (List Value)) (d:D) (c:Cn) (k:List Fm) (e l:PE) (h:AH) (ds:List Dfr):Prop :=
 vsK x fun cs=>match t with
  | none=>XV P keep nm Φ (.agg cs.toArray) d c k e l h ds
  | some (t,n)=>XV P keep nm Φ (.slice (some ⟨h.length,0,none⟩) n n) d c k e l (h++[row t h.length cs]) ds
def XF (fn:Fn) (a b:Option (List Value)) (d:D) (c:Cn) (k:List Fm) (e l:PE) (h:AH) (ds:List Dfr):Prop:=vsK a fun f=>vsK b fun cc=>XV P keep nm Φ (.func fn f.toArray cc.toArray) d c k e l h ds
def XM (t:TypeId) (z:List Value) (bytes:Nat) (x y:Option Value) (d:D) (c:Cn) (k:List Fm) (e l:PE) (h:AH) (ds:List Dfr):Prop:=vK x fun u=>vK y fun v=>XR P keep nm Φ (mslv h.length t z bytes u v) d c k e l h ds
def XS (f:Value->Option Value->Option Value->Option RRes) (x:Option Value) (lo hi:Option (Option Value)) (d:D) (c:Cn) (k:List Fm) (e l:PE) (h:AH) (ds:List Dfr):Prop :=
 vK x fun u=>XR P keep nm Φ (lo.bind fun lo=>hi.bind fun hi=>f u lo hi) d c k e l h ds
def XW (x:Option (Value × AH)) (d:D) (c:Cn) (k:List Fm) (e l:PE) (ds:List Dfr):Prop:=wK x fun v h'=>XV P keep nm Φ v d c k e l h' ds
def XH (x:Option AH) (d:D) (c:Cn) (k:List Fm) (e l:PE) (ds:List Dfr):Prop:=hK x fun v h'=>XV P keep nm Φ v d c k e l h' ds
def XSt (n:Nat) (a x:Option Value) (d:D) (c:Cn) (k:List Fm) (e l:PE) (h:AH) (ds:List Dfr):Prop:=vK a fun u=>vK x fun v=>XH P keep nm Φ (stv h n u v) d c k e l ds
def XAp (str:Bool) (t:TypeId) (sz bytes:Nat) (s x:Option Value) (d:D) (c:Cn) (k:List Fm) (e l:PE) (h:AH) (ds:List Dfr):Prop:=vK s fun u=>vK x fun v=>XW P keep nm Φ (appv keep h str t sz bytes u v) d c k e l ds
def XCl (z:List Value) (x:Option Value) (d:D) (c:Cn) (k:List Fm) (e l:PE) (h:AH) (ds:List Dfr):Prop:=vK x fun u=>XW P keep nm Φ ((clrv h z u).map fun h'=>(.tuple #[],h')) d c k e l ds
def XUs (t:TypeId) (x y:Option Value) (d:D) (c:Cn) (k:List Fm) (e l:PE) (h:AH) (ds:List Dfr):Prop:=vK x fun u=>vK y fun v=>XW P keep nm Φ (ustv h t u v) d c k e l ds
def XCp (sz:Nat) (str:Bool) (x y:Option Value) (d:D) (c:Cn) (k:List Fm) (e l:PE) (h:AH) (ds:List Dfr):Prop:=vK x fun u=>vK y fun v=>XW P keep nm Φ (cpyv h sz str u v) d c k e l ds
def XMu (t:TypeId) (m x y:Option Value) (d:D) (c:Cn) (k:List Fm) (e l:PE) (h:AH) (ds:List Dfr):Prop:=vK m fun u=>vK x fun kv=>vK y fun v=>XH P keep nm Φ (wmapUpdate P h t u kv v) d c k e l ds
def XCa (f:Option Value) (args:Option (List Value)) (d:D) (c:Cn) (k:List Fm) (e l:PE) (h:AH) (ds:List Dfr):Prop :=
 vK f fun fv=>vsK args fun ags=>cK P fv ags h (fun v h'=>XV P keep nm Φ v d c k e l h' ds) (fun v h'=>XE P keep nm Φ (.pan v) k (peC c e) [] h' ds)
def XX (f:FuncId) (args:List Value) (d:D) (c:Cn) (k:List Fm) (e l:PE) (h:AH) (ds:List Dfr):Prop :=
 ∃ res h',Holds P f args h res h'/\h.length<=h'.length/\RP (fun v h'=>XV P keep nm Φ v d c k e l h' ds) (fun v h'=>XE P keep nm Φ (.pan v) k (peC c e) [] h' ds) res h'
def XD (f:Option Value) (args:Option (List Value)) (d:D) (c:Cn) (k:List Fm) (e l:PE) (h:AH) (ds:List Dfr):Prop:=vK f fun fv=>vsK args fun ags=>dK fv ags fun dd=>XN P keep nm Φ undef d c k e l h (dd::ds)
def XPa (x:Option Value) (c:Cn) (k:List Fm) (e l:PE) (h:AH) (ds:List Dfr):Prop:=vK x fun v=>match v with
    | .iface t v=>XE P keep nm Φ (.pan (.iface t v)) k (peC c e) [] h ds
    | _=>False
def XDr (x:Option (List Value)) (np:Bool) (dl:List DO) (k:List Fm) (e l:PE) (h:AH) (ds:List Dfr):Prop:=vsK x fun _=>XDo P keep nm Φ dl [] [] (.ep (keepN (wrN dl) e)::(if np then .np::k else k)) e l h ds
def XLo (b:RC) (k:List Fm) (e l:PE) (h:AH) (ds:List Dfr):Prop:=∃ n,loopN (wpc P keep nm b) (den P keep nm Φ k) n ⟨e,l,h,ds⟩
variable {P keep nm Φ}
variable {os:List RO} {c:Cn} {k:List Fm} {e l:PE} {h:AH} {ds:List Dfr} {d:D}
theorem XC_skip:XC P keep nm Φ .skip k e l h ds=XE P keep nm Φ .norm k e l h ds:=rr rfl
theorem XC_ret:XC P keep nm Φ .ret k e l h ds=XE P keep nm Φ .ret k e l h ds:=rr rfl
theorem XC_exit {id:Nat}:XC P keep nm Φ (.exit id) k e l h ds=XE P keep nm Φ (.exit id) k e l h ds:=rr rfl
theorem XC_rg:XC P keep nm Φ (.rg os) k e l h ds=XO P keep nm Φ os k e l h ds:=rr rfl
theorem XC_dr {need:List RX} {np:Bool} {dl:List DO}:XC P keep nm Φ (.dr need np dl) k e l h ds=XDr P keep nm Φ (rxs e l need) np dl k e l h ds:=by cases np<;>rfl
theorem XDr_true {vs:List Value} {dl:List DO}:XDr P keep nm Φ (some vs) true dl k e l h ds=XDo P keep nm Φ dl [] [] (.ep (keepN (wrN dl) e) :: .np::k) e l h ds:=rr rfl
theorem XDr_false {vs:List Value} {dl:List DO}:XDr P keep nm Φ (some vs) false dl k e l h ds=XDo P keep nm Φ dl [] [] (.ep (keepN (wrN dl) e)::k) e l h ds:=rr rfl
theorem XE_ep_norm {e0:PE}:XE P keep nm Φ .norm (.ep e0::k) e l h ds=XE P keep nm Φ .norm k e l h ds:=rr rfl
theorem XE_ep_ret {e0:PE}:XE P keep nm Φ .ret (.ep e0::k) e l h ds=XE P keep nm Φ .ret k e l h ds:=rr rfl
theorem XE_ep_pan {e0:PE} {v:Value}:XE P keep nm Φ (.pan v) (.ep e0::k) e l h ds=XE P keep nm Φ (.pan v) k e0 [] h ds:=rr rfl
theorem XE_np_norm:XE P keep nm Φ .norm (.np::k) e l h ds=XE P keep nm Φ .norm k e l h ds:=rr rfl
theorem XDo_nil {hs:List (Nat × AH)} {rs:List Rd}:XDo P keep nm Φ [] hs rs k e l h ds=XE P keep nm Φ .norm k e (l.take 1) h ds:=rr rfl
theorem XDo_none {o:RK} {i:Nat} {w:Bool} {chk old:List Nat} {dl:List DO} {hs:List (Nat × AH)} {rs:List Rd}:XDo P keep nm Φ (⟨⟨d,none,o⟩,i,w,chk,old⟩::dl) hs rs k e l h ds=XK P keep nm Φ d o (.dr i w chk old o h dl hs rs) k e l h ds:=rr rfl
theorem XDo_some {x:RX} {b:Bool} {o:RK} {i:Nat} {w:Bool} {chk old:List Nat} {dl:List DO} {hs:List (Nat × AH)} {rs:List Rd}:XDo P keep nm Φ (⟨⟨d,some (x,b),o⟩,i,w,chk,old⟩::dl) hs rs k e l h ds=XG P keep nm Φ (rx e l x) b d o (.dr i w chk old o h dl hs rs) k e l h ds:=rr rfl
theorem chkK_nil {h:AH} {K:Prop}:∀ {rs:List Rd},chkK P h rs [] K=K:=by
 intro rs
 induction rs with
 | nil=>rfl
 | cons r rs ih=>obtain ⟨i,f,p,v⟩:=r;simp only[chkK,Zb,Z0,if_false];exact ih
theorem oldK_nil {r:List Rd} {K:Prop}:∀ {hs:List (Nat × AH)},oldK P hs [] r K=K:=by
 intro hs
 induction hs with
 | nil=>rfl
 | cons x hs ih=>obtain ⟨j,h⟩:=x;simp only[oldK,Zb,Z0,if_false];exact ih
section
variable {rq r rs:List Rd} {chk old:List Nat} {hh hs:List (Nat × AH)} {dl:List DO}
theorem XQ1_nil:XQ1 P keep nm Φ rq [] hh old r dl hs rs k e l h ds=XQ2 P keep nm Φ hh old r dl hs rs k e l h ds:=by unfold XQ1 XQ2;rw[chkK_nil]
theorem XQ1_end:XQ1 P keep nm Φ [] chk hh old r dl hs rs k e l h ds=XQ2 P keep nm Φ hh old r dl hs rs k e l h ds:=rr rfl
theorem XQ1_cons {i:Nat} {f:U} {p v:Value}:XQ1 P keep nm Φ ((i,f,p,v)::rq) chk hh old r dl hs rs k e l h ds=XQ1b P keep nm Φ (chk.contains i) (uval P h h.length f p) v rq chk hh old r dl hs rs k e l h ds:=rr rfl
theorem XQ1b_false {x:Option RRes} {v:Value}:XQ1b P keep nm Φ false x v rq chk hh old r dl hs rs k e l h ds=XQ1 P keep nm Φ rq chk hh old r dl hs rs k e l h ds:=rr rfl
theorem XQ1b_true {v:Value}:XQ1b P keep nm Φ true (some (v,none)) v rq chk hh old r dl hs rs k e l h ds=XQ1 P keep nm Φ rq chk hh old r dl hs rs k e l h ds:=by simp [XQ1b]
theorem XQ2_nil:XQ2 P keep nm Φ hh [] r dl hs rs k e l h ds=XDo P keep nm Φ dl hs rs k e l h ds:=by unfold XQ2;rw[oldK_nil];rfl
theorem XQ2_end:XQ2 P keep nm Φ [] old r dl hs rs k e l h ds=XDo P keep nm Φ dl hs rs k e l h ds:=rr rfl
theorem XQ2b_false {hj:AH}:XQ2b P keep nm Φ false hj rq hh old r dl hs rs k e l h ds=XQ2 P keep nm Φ hh old r dl hs rs k e l h ds:=rr rfl
theorem XQ2b_end {hj:AH}:XQ2b P keep nm Φ true hj [] hh old r dl hs rs k e l h ds=XQ2 P keep nm Φ hh old r dl hs rs k e l h ds:=by simp [XQ2b]
theorem XQ2b_cons {hj:AH} {i:Nat} {f:U} {p v:Value}:XQ2b P keep nm Φ true hj ((i,f,p,v)::rq) hh old r dl hs rs k e l h ds=XQ3 P keep nm Φ (uval P hj hj.length f p) v hj rq hh old r dl hs rs k e l h ds:=by
 simp [XQ2b,XQ3,and_assoc]
theorem XQ3_ok {hj:AH} {v:Value}:XQ3 P keep nm Φ (some (v,none)) v hj rq hh old r dl hs rs k e l h ds=XQ2b P keep nm Φ true hj rq hh old r dl hs rs k e l h ds:=by simp [XQ3]
theorem chkK_all {hj:AH} {K:Prop} {is:List Nat}:∀ {rq:List Rd},(∀ x∈rq,is.contains x.1=true)->chkK P hj rq is K=((∀ x∈rq,uval P hj hj.length x.2.1 x.2.2.1=some (x.2.2.2,none))/\K):=by
 intro rq
 induction rq with
 | nil=>intro _;simp [chkK]
 | cons x rq ih =>
   intro hx;obtain ⟨i,f,p,v⟩:=x;have h1:=hx (i,f,p,v) List.mem_cons_self;simp only at h1;simp only[chkK,h1,if_true];rw[ih (fun x h=>hx x (List.mem_cons_of_mem _ h))];simp [and_assoc]
theorem XQ2_cons {j:Nat} {hj:AH}:XQ2 P keep nm Φ ((j,hj)::hh) old r dl hs rs k e l h ds=XQ2b P keep nm Φ (old.contains j) hj r hh old r dl hs rs k e l h ds:=by
 unfold XQ2 XQ2b;simp only[oldK];cases hc:old.contains j with
 | false=>rfl
 | true =>
   simp only[if_true];rw[chkK_all (fun x hx=>by rw[List.contains_iff_mem];exact List.mem_map.2 ⟨x,hx,rfl⟩)]
   rfl
end
theorem XC_sq {a b:RC}:XC P keep nm Φ (.sq a b) k e l h ds=XC P keep nm Φ a (.sq b::k) e l h ds:=rr rfl
theorem XC_ite {x:RX} {a b:RC}:XC P keep nm Φ (.ite x a b) k e l h ds=XI P keep nm Φ (rx e l x) a b k e l h ds:=rr rfl
theorem XC_blk {id:Nat} {b:RC}:XC P keep nm Φ (.blk id b) k e l h ds=XC P keep nm Φ b (.blk id::k) e l h ds:=rr rfl
theorem XC_loop {b:RC}:XC P keep nm Φ (.loop b) k e l h ds=XLo P keep nm Φ b k e l h ds:=rr rfl
theorem XE_sq_norm {c:RC}:XE P keep nm Φ .norm (.sq c::k) e l h ds=XC P keep nm Φ c k e l h ds:=rr rfl
theorem XE_sq_ret {c:RC}:XE P keep nm Φ .ret (.sq c::k) e l h ds=XE P keep nm Φ .ret k e l h ds:=rr rfl
theorem XE_sq_exit {c:RC} {i:Nat}:XE P keep nm Φ (.exit i) (.sq c::k) e l h ds=XE P keep nm Φ (.exit i) k e l h ds:=rr rfl
theorem XE_sq_pan {c:RC} {v:Value}:XE P keep nm Φ (.pan v) (.sq c::k) e l h ds=XE P keep nm Φ (.pan v) k e l h ds:=rr rfl
theorem XE_blk_norm {i:Nat}:XE P keep nm Φ .norm (.blk i::k) e l h ds=XE P keep nm Φ .norm k e l h ds:=rr rfl
theorem XE_blk_ret {i:Nat}:XE P keep nm Φ .ret (.blk i::k) e l h ds=XE P keep nm Φ .ret k e l h ds:=rr rfl
theorem XE_blk_pan {i:Nat} {v:Value}:XE P keep nm Φ (.pan v) (.blk i::k) e l h ds=XE P keep nm Φ (.pan v) k e l h ds:=rr rfl
theorem XE_blk_exit {i j:Nat}:XE P keep nm Φ (.exit j) (.blk i::k) e l h ds=if j=i then XE P keep nm Φ .norm k e l h ds else XE P keep nm Φ (.exit j) k e l h ds:=rr rfl
theorem XE_nil {out:Out}:XE P keep nm Φ out [] e l h ds=Φ out ⟨e,l,h,ds⟩:=rr rfl
theorem XO_nil:XO P keep nm Φ [] k e l h ds=XE P keep nm Φ .norm k e (l.take 1) h ds:=rr rfl
theorem XO_none {o:RK}:XO P keep nm Φ (⟨d,none,o⟩::os) k e l h ds=XK P keep nm Φ d o (.ro os) k e l h ds:=rr rfl
theorem XO_some {x:RX} {w:Bool} {o:RK}:XO P keep nm Φ (⟨d,some (x,w),o⟩::os) k e l h ds=XG P keep nm Φ (rx e l x) w d o (.ro os) k e l h ds:=rr rfl
theorem XG_bool {b w:Bool} {o:RK}:XG P keep nm Φ (some (.bool b)) w d o c k e l h ds=XGb P keep nm Φ (b == w) d o c k e l h ds:=rr rfl
theorem XG_undef {w:Bool} {o:RK}:XG P keep nm Φ (some undef) w d o c k e l h ds=XSk P keep nm Φ d c k e l h ds:=rr rfl
theorem XGb_true {o:RK}:XGb P keep nm Φ true d o c k e l h ds=XK P keep nm Φ d o c k e l h ds:=rr rfl
theorem XGb_false {o:RK}:XGb P keep nm Φ false d o c k e l h ds=XSk P keep nm Φ d c k e l h ds:=rr rfl
theorem XSk_rn {i:Nat}:XSk P keep nm Φ (.n i) (.ro os) k e l h ds=XO P keep nm Φ os k (upd e i undef) l h ds:=rr rfl
theorem XSk_rt {i:Nat}:XSk P keep nm Φ (.t i) (.ro os) k e l h ds=XO P keep nm Φ os k e ((i,undef)::l) h ds:=rr rfl
theorem XSk_rz:XSk P keep nm Φ .z (.ro os) k e l h ds=XO P keep nm Φ os k e l h ds:=rr rfl
theorem XSk_dn {i j:Nat} {w:Bool} {chk old:List Nat} {kk:RK} {h0:AH} {dl:List DO} {hs:List (Nat × AH)} {rs:List Rd}:XSk P keep nm Φ (.n i) (.dr j w chk old kk h0 dl hs rs) k e l h ds=XDo P keep nm Φ dl hs rs k (upd e i undef) l h ds:=rr rfl
theorem XSk_dt {i j:Nat} {w:Bool} {chk old:List Nat} {kk:RK} {h0:AH} {dl:List DO} {hs:List (Nat × AH)} {rs:List Rd}:XSk P keep nm Φ (.t i) (.dr j w chk old kk h0 dl hs rs) k e l h ds=XDo P keep nm Φ dl hs rs k e ((i,undef)::l) h ds:=rr rfl
theorem XSk_dz {j:Nat} {w:Bool} {chk old:List Nat} {kk:RK} {h0:AH} {dl:List DO} {hs:List (Nat × AH)} {rs:List Rd}:XSk P keep nm Φ .z (.dr j w chk old kk h0 dl hs rs) k e l h ds=XDo P keep nm Φ dl hs rs k e l h ds:=rr rfl
theorem XI_bool {t:Bool} {a b:RC}:XI P keep nm Φ (some (.bool t)) a b k e l h ds=XIb P keep nm Φ t a b k e l h ds:=rr rfl
theorem XIb_true {a b:RC}:XIb P keep nm Φ true a b k e l h ds=XC P keep nm Φ a k e l h ds:=rr rfl
theorem XIb_false {a b:RC}:XIb P keep nm Φ false a b k e l h ds=XC P keep nm Φ b k e l h ds:=rr rfl
theorem XK_u {f:U} {x:RX}:XK P keep nm Φ d (.u f x) c k e l h ds=XU P keep nm Φ f (rx e l x) d c k e l h ds:=by cases c<;>rfl
theorem XK_b {f:B} {x y:RX}:XK P keep nm Φ d (.b f x y) c k e l h ds=XB P keep nm Φ f (rx e l x) (rx e l y) d c k e l h ds:=by cases c<;>rfl
theorem XK_pk {x a b:RX}:XK P keep nm Φ d (.pk x a b) c k e l h ds=XP P keep nm Φ (rx e l x) (rx e l a) (rx e l b) d c k e l h ds:=by cases c<;>rfl
theorem XK_bld {z:List Value} {ps:List (Nat × Nat × RX)}:XK P keep nm Φ d (.bld z ps) c k e l h ds=XL P keep nm Φ none (rxp e l ps) z d c k e l h ds:=by cases c<;>rfl
theorem XK_bsl {t n:Nat} {z:List Value} {ps:List (Nat × Nat × RX)}:XK P keep nm Φ d (.bsl t n z ps) c k e l h ds=XL P keep nm Φ (some (t,n)) (rxp e l ps) z d c k e l h ds:=by cases c<;>rfl
theorem XK_mkf {fn:Fn} {a b:List RX}:XK P keep nm Φ d (.mkf fn a b) c k e l h ds=XF P keep nm Φ fn (rxs e l a) (rxs e l b) d c k e l h ds:=by cases c<;>rfl
theorem XK_al {t:TypeId} {z:List Value}:XK P keep nm Φ d (.al t z) c k e l h ds=XV P keep nm Φ (.pointer (some ⟨h.length,0,none⟩)) d c k e l (h++[row t h.length z]) ds:=by cases c<;>rfl
theorem XK_mm:XK P keep nm Φ d .mm c k e l h ds=XV P keep nm Φ (.map (some h.length)) d c k e l (h++[.map []]) ds:=by cases c<;>rfl
theorem XK_msl {t:TypeId} {z:List Value} {bytes:Nat} {x y:RX}:XK P keep nm Φ d (.msl t z bytes x y) c k e l h ds=XM P keep nm Φ t z bytes (rx e l x) (rx e l y) d c k e l h ds:=by cases c<;>rfl
theorem XK_sls {x:RX} {lo hi:Option RX}:XK P keep nm Φ d (.sls x lo hi) c k e l h ds=XS P keep nm Φ slsv (rx e l x) (ob e l lo) (ob e l hi) d c k e l h ds:=by cases c<;>rfl
theorem XK_sll {t sz:Nat} {x:RX} {lo hi:Option RX}:XK P keep nm Φ d (.sll t sz x lo hi) c k e l h ds=XS P keep nm Φ (sllv h t sz) (rx e l x) (ob e l lo) (ob e l hi) d c k e l h ds:=by cases c<;>rfl
theorem XK_st {n:Nat} {a x:RX}:XK P keep nm Φ d (.st n a x) c k e l h ds=XSt P keep nm Φ n (rx e l a) (rx e l x) d c k e l h ds:=by cases c<;>rfl
theorem XK_app {str:Bool} {t sz bytes:Nat} {z:List Value} {s x:RX}:XK P keep nm Φ d (.app str t sz bytes z s x) c k e l h ds=XAp P keep nm Φ str t sz bytes (rx e l s) (rx e l x) d c k e l h ds:=by cases c<;>rfl
theorem XK_clr {t:TypeId} {z:List Value} {x:RX}:XK P keep nm Φ d (.clr t z x) c k e l h ds=XCl P keep nm Φ z (rx e l x) d c k e l h ds:=by cases c<;>rfl
theorem XK_ust {t:TypeId} {x y:RX}:XK P keep nm Φ d (.ust t x y) c k e l h ds=XUs P keep nm Φ t (rx e l x) (rx e l y) d c k e l h ds:=by cases c<;>rfl
theorem XK_cpy {sz:Nat} {str:Bool} {x y:RX}:XK P keep nm Φ d (.cpy sz str x y) c k e l h ds=XCp P keep nm Φ sz str (rx e l x) (rx e l y) d c k e l h ds:=by cases c<;>rfl
theorem XK_mup {t:TypeId} {m x y:RX}:XK P keep nm Φ d (.mup t m x y) c k e l h ds=XMu P keep nm Φ t (rx e l m) (rx e l x) (rx e l y) d c k e l h ds:=by cases c<;>rfl
theorem XK_call {f:RX} {ags:List RX}:XK P keep nm Φ d (.call f ags) c k e l h ds=XCa P keep nm Φ (rx e l f) (rxs e l ags) d c k e l h ds:=by cases c<;>rfl
theorem XK_dfr {f:RX} {ags:List RX}:XK P keep nm Φ d (.dfr f ags) (.ro os) k e l h ds=XD P keep nm Φ (rx e l f) (rxs e l ags) d (.ro os) k e l h ds:=rr rfl
theorem XK_pan {x:RX}:XK P keep nm Φ d (.pan x) c k e l h ds=XPa P keep nm Φ (rx e l x) c k e l h ds:=by cases c<;>rfl
theorem XK_raw {o:Oper}:XK P keep nm Φ d (.raw o) c k e l h ds=XR P keep nm Φ (aread P (gof nm e l) h h.length o) d c k e l h ds:=by cases c<;>rfl
theorem XV_rn {v:Value} {i:Nat}:XV P keep nm Φ v (.n i) (.ro os) k e l h ds=XO P keep nm Φ os k (upd e i v) l h ds:=rr rfl
theorem XV_rt {v:Value} {i:Nat}:XV P keep nm Φ v (.t i) (.ro os) k e l h ds=XO P keep nm Φ os k e ((i,v)::l) h ds:=rr rfl
theorem XV_rz {v:Value}:XV P keep nm Φ v .z (.ro os) k e l h ds=XO P keep nm Φ os k e l h ds:=rr rfl
def XVd (b:Bool) (f:U) (x:Option Value) (v:Value) (d:D) (i:Nat) (chk old:List Nat) (dl:List DO) (hs hs':List (Nat × AH)) (rs:List Rd) (k:List Fm) (e l:PE) (h:AH) (ds:List Dfr):Prop :=
 XQ1 P keep nm Φ rs chk hs old (if b then (match x with
  | some p=>[(i,f,p,v)]
  | none=>[]) else []) dl hs' (if b then (match x with
  | some p=>(i,f,p,v)::rs
  | none=>rs) else rs) k (pe d e v) (pl d l v) h ds
section
variable {v p:Value} {i:Nat} {w:Bool} {chk old:List Nat} {h0:AH} {dl:List DO} {hs hs':List (Nat × AH)} {rs:List Rd}
theorem XV_du {f:U} {x:RX}:XV P keep nm Φ v d (.dr i false chk old (.u f x) h0 dl hs rs) k e l h ds=XVd (P:=P) (keep:=keep) (nm:=nm) (Φ:=Φ) (isLd f) f (rx e l x) v d i chk old dl hs hs rs k e l h ds:=by
 simp only[XV,XN,XVd,rdOf,Z0,if_false];cases rx e l x<;>rfl
theorem XVd_false {f:U} {x:Option Value} {e' l':PE}:XVd (P:=P) (keep:=keep) (nm:=nm) (Φ:=Φ) false f x v d i chk old dl hs hs' rs k e l h ds=XQ1 P keep nm Φ rs chk hs old [] dl hs' rs k (pe d e v) (pl d l v) h ds:=rr rfl
theorem XVd_true {f:U}:XVd (P:=P) (keep:=keep) (nm:=nm) (Φ:=Φ) true f (some p) v d i chk old dl hs hs' rs k e l h ds=XQ1 P keep nm Φ rs chk hs old [(i,f,p,v)] dl hs' ((i,f,p,v)::rs) k (pe d e v) (pl d l v) h ds:=rr rfl
theorem XV_dw {kk:RK} (hk:ldK kk=false):XV P keep nm Φ v d (.dr i true chk old kk h0 dl hs rs) k e l h ds=XQ1 P keep nm Φ rs chk hs old [] dl ((i,h0)::hs) rs k (pe d e v) (pl d l v) h ds:=by
 have:∀ rs,rdOf e l i kk v rs=rs:=by intro rs;cases kk<;>first|rfl|(simp only[ldK] at hk;simp [rdOf,hk])
 unfold XV XN;simp only[this,if_true]
theorem XV_dr {kk:RK} (hk:ldK kk=false):XV P keep nm Φ v d (.dr i false chk old kk h0 dl hs rs) k e l h ds=XQ1 P keep nm Φ rs chk hs old [] dl hs rs k (pe d e v) (pl d l v) h ds:=by
 have:∀ rs,rdOf e l i kk v rs=rs:=by intro rs;cases kk<;>first|rfl|(simp only[ldK] at hk;simp [rdOf,hk])
 unfold XV XN;simp only[this,Z0,if_false]
theorem ldK_b {f:B} {x y:RX}:ldK (.b f x y)=false:=rr rfl
theorem ldK_pk {x y z:RX}:ldK (.pk x y z)=false:=rr rfl
theorem ldK_bld {z:List Value} {ps:List (Nat × Nat × RX)}:ldK (.bld z ps)=false:=rr rfl
theorem ldK_bsl {t n:Nat} {z:List Value} {ps:List (Nat × Nat × RX)}:ldK (.bsl t n z ps)=false:=rr rfl
theorem ldK_mkf {fn:Fn} {a b:List RX}:ldK (.mkf fn a b)=false:=rr rfl
theorem ldK_al {t:Nat} {z:List Value}:ldK (.al t z)=false:=rr rfl
theorem ldK_mm:ldK .mm=false:=rr rfl
theorem ldK_msl {t:Nat} {z:List Value} {n:Nat} {x y:RX}:ldK (.msl t z n x y)=false:=rr rfl
theorem ldK_sls {x:RX} {a b:Option RX}:ldK (.sls x a b)=false:=rr rfl
theorem ldK_sll {t n:Nat} {x:RX} {a b:Option RX}:ldK (.sll t n x a b)=false:=rr rfl
theorem ldK_st {n:Nat} {x y:RX}:ldK (.st n x y)=false:=rr rfl
theorem ldK_app {s:Bool} {t n m:Nat} {z:List Value} {x y:RX}:ldK (.app s t n m z x y)=false:=rr rfl
theorem ldK_clr {t:Nat} {z:List Value} {x:RX}:ldK (.clr t z x)=false:=rr rfl
theorem ldK_ust {t:TypeId} {x y:RX}:ldK (.ust t x y)=false:=rr rfl
theorem isLd_up:isLd .up=false:=rr rfl
theorem isLd_pu {u n:Nat}:isLd (.pu u n)=false:=rr rfl
theorem isLd_sd:isLd .sd=false:=rr rfl
theorem ldK_cpy {n:Nat} {s:Bool} {x y:RX}:ldK (.cpy n s x y)=false:=rr rfl
theorem ldK_mup {t:Nat} {x y z:RX}:ldK (.mup t x y z)=false:=rr rfl
theorem ldK_call {f:RX} {ags:List RX}:ldK (.call f ags)=false:=rr rfl
theorem ldK_u {f:U} {x:RX}:ldK (.u f x)=isLd f:=rr rfl
theorem isLd_ld:isLd .ld=true:=rr rfl
theorem isLd_ldn {n:Nat}:isLd (.ldn n)=true:=rr rfl
theorem isLd_mv:isLd .mv=false:=rr rfl
theorem isLd_fa {n:Nat}:isLd (.fa n)=false:=rr rfl
theorem isLd_fd {n:Nat}:isLd (.fd n)=false:=rr rfl
theorem isLd_fdn {n m:Nat}:isLd (.fdn n m)=false:=rr rfl
theorem isLd_ex {n:Nat}:isLd (.ex n)=false:=rr rfl
theorem isLd_nk:isLd .nk=false:=rr rfl
theorem isLd_nt:isLd .nt=false:=rr rfl
theorem isLd_ng:isLd .ng=false:=rr rfl
theorem isLd_cv {k:IntKind}:isLd (.cv k)=false:=rr rfl
theorem isLd_lenS:isLd .lenS=false:=rr rfl
theorem isLd_lenL:isLd .lenL=false:=rr rfl
theorem isLd_ifc {t:Nat}:isLd (.ifc t)=false:=rr rfl
theorem isLd_bx {t:Nat}:isLd (.bx t)=false:=rr rfl
theorem isLd_b2s:isLd .b2s=true:=rr rfl
theorem isLd_s2b {t:Nat}:isLd (.s2b t)=false:=rr rfl
theorem isLd_asn {t:Nat} {b:Bool} {z:Value}:isLd (.asn t b z)=false:=rr rfl
theorem pe_n {i:Nat} {v:Value}:pe (.n i) e v=upd e i v:=rr rfl
theorem pe_t {i:Nat} {v:Value}:pe (.t i) e v=e:=rr rfl
theorem pe_z {v:Value}:pe .z e v=e:=rr rfl
theorem pl_n {i:Nat} {v:Value}:pl (.n i) l v=l:=rr rfl
theorem pl_t {i:Nat} {v:Value}:pl (.t i) l v=(i,v)::l:=rr rfl
theorem pl_z {v:Value}:pl .z l v=l:=rr rfl
end
theorem XR_v {v:Value}:XR P keep nm Φ (some (v,none)) d c k e l h ds=XV P keep nm Φ v d c k e l h ds:=rr rfl
theorem XR_b {v:Value} {B:Blk}:XR P keep nm Φ (some (v,some B)) d c k e l h ds=XV P keep nm Φ v d c k e l (h++[B]) ds:=rr rfl
theorem XU_some {f:U} {v:Value}:XU P keep nm Φ f (some v) d c k e l h ds=XR P keep nm Φ (uval P h h.length f v) d c k e l h ds:=rr rfl
theorem XB_some {f:B} {u v:Value}:XB P keep nm Φ f (some u) (some v) d c k e l h ds=XR P keep nm Φ (bval P h f u v) d c k e l h ds:=rr rfl
theorem XP_some {t:Bool} {a b:Option Value}:XP P keep nm Φ (some (.bool t)) a b d c k e l h ds=XPb P keep nm Φ t a b d c k e l h ds:=rr rfl
theorem XPb_true {a b:Option Value}:XPb P keep nm Φ true a b d c k e l h ds=XVo P keep nm Φ a d c k e l h ds:=rr rfl
theorem XPb_false {a b:Option Value}:XPb P keep nm Φ false a b d c k e l h ds=XVo P keep nm Φ b d c k e l h ds:=rr rfl
theorem XVo_some {v:Value}:XVo P keep nm Φ (some v) d c k e l h ds=XV P keep nm Φ v d c k e l h ds:=rr rfl
theorem XL_some {t:Option (Nat × Nat)} {ps:List (Nat × Nat × Value)} {z:List Value}:XL P keep nm Φ t (some ps) z d c k e l h ds=XLb P keep nm Φ t (bldv z ps) d c k e l h ds:=by
 unfold XL XLb pK vsK;simp only
theorem XLb_none {cs:List Value}:XLb P keep nm Φ none (some cs) d c k e l h ds=XV P keep nm Φ (.agg cs.toArray) d c k e l h ds:=rr rfl
theorem XLb_some {t n:Nat} {cs:List Value}:XLb P keep nm Φ (some (t,n)) (some cs) d c k e l h ds=XV P keep nm Φ (.slice (some ⟨h.length,0,none⟩) n n) d c k e l (h++[row t h.length cs]) ds:=rr rfl
theorem XF_some {fn:Fn} {a b:List Value}:XF P keep nm Φ fn (some a) (some b) d c k e l h ds=XV P keep nm Φ (.func fn a.toArray b.toArray) d c k e l h ds:=rr rfl
theorem XM_some {t:TypeId} {z:List Value} {bytes:Nat} {u v:Value}:XM P keep nm Φ t z bytes (some u) (some v) d c k e l h ds=XR P keep nm Φ (mslv h.length t z bytes u v) d c k e l h ds:=rr rfl
theorem XS_some {f:Value->Option Value->Option Value->Option RRes} {u:Value} {lo hi:Option Value}:XS P keep nm Φ f (some u) (some lo) (some hi) d c k e l h ds=XR P keep nm Φ (f u lo hi) d c k e l h ds:=rr rfl
theorem XW_some {v:Value} {h':AH}:XW P keep nm Φ (some (v,h')) d c k e l ds=XV P keep nm Φ v d c k e l h' ds:=rr rfl
theorem XH_some {h':AH}:XH P keep nm Φ (some h') d c k e l ds=XV P keep nm Φ undef d c k e l h' ds:=rr rfl
theorem XSt_some {n:Nat} {u v:Value}:XSt P keep nm Φ n (some u) (some v) d c k e l h ds=XH P keep nm Φ (stv h n u v) d c k e l ds:=rr rfl
theorem XAp_some {str:Bool} {t sz bytes:Nat} {u v:Value}:XAp P keep nm Φ str t sz bytes (some u) (some v) d c k e l h ds=XW P keep nm Φ (appv keep h str t sz bytes u v) d c k e l ds:=rr rfl
theorem XCl_some {z:List Value} {u:Value}:XCl P keep nm Φ z (some u) d c k e l h ds=XW P keep nm Φ ((clrv h z u).map fun h'=>(.tuple #[],h')) d c k e l ds:=rr rfl
theorem XUs_some {t:TypeId} {u v:Value}:XUs P keep nm Φ t (some u) (some v) d c k e l h ds=XW P keep nm Φ (ustv h t u v) d c k e l ds:=rr rfl
theorem XCp_some {sz:Nat} {str:Bool} {u v:Value}:XCp P keep nm Φ sz str (some u) (some v) d c k e l h ds=XW P keep nm Φ (cpyv h sz str u v) d c k e l ds:=rr rfl
theorem XMu_some {t:TypeId} {u x v:Value}:XMu P keep nm Φ t (some u) (some x) (some v) d c k e l h ds=XH P keep nm Φ (wmapUpdate P h t u x v) d c k e l ds:=rr rfl
theorem XD_some {fn:Fn} {first cap:Array Value} {ags:List Value}:XD P keep nm Φ (some (.func fn first cap)) (some ags) d (.ro os) k e l h ds=XV P keep nm Φ undef d (.ro os) k e l h (⟨fn,cap.toList,first.toList++ags⟩::ds):=rr rfl
theorem XPa_some {t:TypeId} {v:Value}:XPa P keep nm Φ (some (.iface t v)) c k e l h ds=XE P keep nm Φ (.pan (.iface t v)) k (peC c e) [] h ds:=rr rfl
theorem XCa_some {f:FuncId} {first cap:Array Value} {ags:List Value}:XCa P keep nm Φ (some (.func (.func f) first cap)) (some ags) d c k e l h ds=XX P keep nm Φ f (first.toList++ags++cap.toList) d c k e l h ds:=by
 apply propext
 constructor
 ·rintro ⟨g,a,b,res,h',e,h1,h2,h3⟩
  cases e;exact ⟨res,h',h1,h2,h3⟩
 ·rintro ⟨res,h',h1,h2,h3⟩
  exact ⟨f,first,cap,res,h',rfl,h1,h2,h3⟩
theorem rx_n {i:Nat}:rx e l (.n i)=look e i:=rr rfl
theorem rx_t {i:Nat}:rx e l (.t i)=look l i:=rr rfl
theorem rx_c {v:Value}:rx e l (.c v)=some v:=rr rfl
theorem rx_g {i:Nat}:rx e l (.g i)=some (.pointer (some ⟨i,0,some 0⟩)):=rr rfl
theorem rx_mn {i:Nat} {tb:List (TypeId × FuncId)}:rx e l (.m true i tb)=(look e i).bind (mfv tb):=rr rfl
theorem rx_mt {i:Nat} {tb:List (TypeId × FuncId)}:rx e l (.m false i tb)=(look l i).bind (mfv tb):=rr rfl
theorem mfv_some {tb:List (TypeId × FuncId)} {t:TypeId} {v:Value}:mfv tb (.iface t v)=(mlk tb t).map fun g=>.func (.func g) #[v] #[]:=rr rfl
theorem mlk_cons {tb:List (TypeId × FuncId)} {t a:TypeId} {g:FuncId}:mlk ((a,g)::tb) t=if a=t then some g else mlk tb t:=rr rfl
theorem rx_f {f:FuncId}:rx e l (.f f)=some (.func (.func f) #[] #[]):=rr rfl
theorem look_cons {t k:Nat} {v:Value}:look ((t,v)::e) k=if t=k then some v else look e k:=rr rfl
theorem upd_cons {t k:Nat} {u v:Value}:upd ((t,u)::e) k v=if t=k then (k,v)::e else (t,u)::upd e k v:=rr rfl
theorem upd_nil {k:Nat} {v:Value}:upd [] k v=[(k,v)]:=rr rfl
theorem rxs_nil:rxs e l []=some []:=rr rfl
theorem rxs_cons {x:RX} {xs:List RX}:rxs e l (x::xs)=(rx e l x).bind fun v=>(rxs e l xs).map fun vs=>v::vs:=rr rfl
theorem rxp_nil:rxp e l []=some []:=rr rfl
theorem rxp_cons {i n:Nat} {x:RX} {xs:List (Nat × Nat × RX)}:rxp e l ((i,n,x)::xs)=(rx e l x).bind fun v=>(rxp e l xs).map fun vs=>(i,n,v)::vs:=rr rfl
theorem ob_none:ob e l none=some none:=rr rfl
theorem ob_some {x:RX}:ob e l (some x)=(rx e l x).map some:=rr rfl
theorem argE_nil {k:Nat}:argE k []=[]:=rr rfl
theorem argE_cons {k:Nat} {v:Value} {l:List Value}:argE k (v::l)=(k,v)::argE (k+1) l:=rr rfl
end
section
variable {P:Program} {h:AH} {m:Nat}
theorem u_mv {v:Value}:uval P h m .mv v=some (v,none):=rr rfl
theorem u_ld {b o:Nat}:uval P h m .ld (.pointer (some ⟨b,o,none⟩))=(ldc h b o).map fun v=>(v,none):=rr rfl
theorem u_ldg {g o n:Nat}:uval P h m .ld (.pointer (some ⟨g,o,some n⟩))=((Tab P g).bind fun cs=>cs[o]?).map fun v=>(v,none):=rr rfl
theorem u_up {b o:Nat} {cs:List Value} (hc:hcell h b=some cs) (ho:o<cs.length):uval P h m .up (.pointer (some ⟨b,o,none⟩))=some (.pointer (some ⟨b,o,none⟩),none):=by simp only[uval,hc,Z2,ho,if_true]
theorem u_pu {b u n:Nat} {s:Bool} {g d:Nat} {cs:List Value} (hc:h[b]?=some (.cells true s g d u cs)) (ho:n<=cs.length):uval P h m (.pu u n) (.pointer (some ⟨b,0,none⟩))=some (.pointer (some ⟨b,0,none⟩),none):=by simp only[uval,hc,ho,and_self,if_true]
theorem u_sd {b o n c:Nat}:uval P h m .sd (.slice (some ⟨b,o,none⟩) n c)=if c=0 then none else some (.pointer (some ⟨b,o,none⟩),none):=rr rfl
theorem u_sdn:uval P h m .sd (.slice none 0 0)=some (.pointer none,none):=rr rfl
theorem b_aag {len sz g o n:Nat} {k:IntKind} {i:Int}:bval P h (.aa len sz) (.pointer (some ⟨g,o,some n⟩)) (.int k i)=if 0<=i/\i<len then some (.pointer (some ⟨g,o+i.toNat*sz,some n⟩),none) else none:=rr rfl
theorem u_ldn {n b o:Nat}:uval P h m (.ldn n) (.pointer (some ⟨b,o,none⟩))=(ldcs h b o n).map fun cs=>(.agg cs.toArray,none):=by
 simp only[uval,ldcs];cases hcell h b with
 | none=>rfl
 | some cs=>simp only[Z2];split<;>rfl
theorem u_fa {off b o:Nat}:uval P h m (.fa off) (.pointer (some ⟨b,o,none⟩))=some (.pointer (some ⟨b,o+off,none⟩),none):=rr rfl
theorem u_fd {off:Nat} {cs:List Value}:uval P h m (.fd off) (.agg cs.toArray)=(cs[off]?).map fun v=>(v,none):=rr rfl
theorem u_fdn {off n:Nat} {cs:List Value}:uval P h m (.fdn off n) (.agg cs.toArray)=some (.agg ((cs.drop off).take n).toArray,none):=rr rfl
theorem u_ex {i:Nat} {vs:List Value}:uval P h m (.ex i) (.tuple vs.toArray)=(vs[i]?).map fun v=>(v,none):=rr rfl
theorem u_nk {a:Addr}:uval P h m .nk (.pointer (some a))=some (.pointer (some a),none):=rr rfl
theorem u_nkf {f:FuncId} {a b:Array Value}:uval P h m .nk (.func (.func f) a b)=some (.func (.func f) a b,none):=rr rfl
theorem u_nkm {nm:String} {t:TypeId} {v:Value} {l:List Value} {b:Array Value}:uval P h m .nk (.func (.method nm) (.iface t v::l).toArray b)=if (methF P t nm).isSome then some (.func (.method nm) (.iface t v::l).toArray b,none) else none:=rr rfl
theorem u_nt {b:Bool}:uval P h m .nt (.bool b)=some (.bool !b,none):=rr rfl
theorem u_ng {k:IntKind} {a:Int}:uval P h m .ng (.int k a)=some (.int k (k.wrap (0-a)),none):=rr rfl
theorem u_cv {k k':IntKind} {a:Int}:uval P h m (.cv k) (.int k' a)=some (.int k (k.wrap a),none):=rr rfl
theorem u_lenS {s:ByteArray}:uval P h m .lenS (.string s)=some (.int .i64 s.size,none):=rr rfl
theorem u_lenL {a:Option Addr} {n c:Nat}:uval P h m .lenL (.slice a n c)=some (.int .i64 n,none):=rr rfl
theorem u_ifc {t:TypeId} {v:Value}:uval P h m (.ifc t) v=some (.iface t v,none):=rr rfl
theorem u_bx {e:TypeId} {v:Value}:uval P h m (.bx e) v=some (.pointer (some ⟨m,0,none⟩),some (row e m v.cells.toList)):=rr rfl
theorem u_asn {t t':TypeId} {ok:Bool} {v z:Value}:uval P h m (.asn t ok z) (.iface t' v)=if t'=t then some (if ok then .tuple #[v,.bool true] else v,none) else if ok then some (.tuple #[z,.bool false],none) else none:=rr rfl
theorem u_asn_nil {t:TypeId} {ok:Bool} {z:Value}:uval P h m (.asn t ok z) .nilIface=if ok then some (.tuple #[z,.bool false],none) else none:=rr rfl
theorem b_int {op:BinOp} {k:IntKind} {a b:Int}:bval P h (.ar op) (.int k a) (.int k b)=(ibin op k a b).map fun v=>(v,none):=by simp [bval]
theorem b_str {op:BinOp} {a b:ByteArray}:bval P h (.ar op) (.string a) (.string b)=(sbin op a b).map fun v=>(v,none):=rr rfl
theorem b_eb {neg a b:Bool}:bval P h (.eb neg) (.bool a) (.bool b)=some (.bool ((a == b) != neg),none):=rr rfl
theorem b_es {neg:Bool} {ks:List Nat} {a b:List Value}:bval P h (.es neg ks) (.agg a.toArray) (.agg b.toArray)=(ceq ks a b).map fun r=>(.bool (r != neg),none):=rr rfl
theorem b_er {neg:Bool} {t:Nat} {x y:Value}:bval P h (.er neg t) x y=(refV t x y).map fun r=>(.bool (r != neg),none):=rr rfl
theorem b_ei {neg:Bool} {t:Nat} {x y:Value}:bval P h (.ei neg t) x y=(eiV P t x y).map fun r=>(.bool (r != neg),none):=rr rfl
theorem b_ein {t:Nat} {y:Value}:eiV P t .nilIface y=refV t .nilIface y:=by rfl
theorem b_eni {t:Nat} {x:Value}:eiV P t x .nilIface=refV t x .nilIface:=by
 unfold eiV
 split
 ·rename_i h;cases h
 ·rfl
theorem b_eii {t:Nat} {tx ty:TypeId} {ka kb:IntKind} {a b:Int}:eiV P t (.iface tx (.int ka a)) (.iface ty (.int kb b))=iiV P tx ty ka kb a b:=rr rfl
theorem r_pnn {b:Option Addr}:refV 0 (.pointer none) (.pointer b)=some b.isNone:=rr rfl
theorem r_ppn {a:Addr}:refV 0 (.pointer (some a)) (.pointer none)=some false:=rr rfl
theorem r_ppp {ab ao bb bo:Nat}:refV 0 (.pointer (some ⟨ab,ao,none⟩)) (.pointer (some ⟨bb,bo,none⟩))=if ab=bb then some (ao == bo) else none:=rr rfl
theorem r_snn {n c m d:Nat} {b:Option Addr}:refV 1 (.slice none n c) (.slice b m d)=some b.isNone:=rr rfl
theorem r_ssn {a:Addr} {n c m d:Nat}:refV 1 (.slice (some a) n c) (.slice none m d)=some false:=rr rfl
theorem r_mnn {b:Option Nat}:refV 2 (.map none) (.map b)=some b.isNone:=rr rfl
theorem r_mmn {a:Nat}:refV 2 (.map (some a)) (.map none)=some false:=rr rfl
theorem r_fn {f:Fn} {a b:Array Value}:refV 3 (.func f a b) .nilFunc=some false:=rr rfl
theorem r_nf {f:Fn} {a b:Array Value}:refV 3 .nilFunc (.func f a b)=some false:=rr rfl
theorem r_6nn:refV 6 .nilIface .nilIface=some true:=rr rfl
theorem r_6ni {t:TypeId} {v:Value}:refV 6 .nilIface (.iface t v)=some false:=rr rfl
theorem r_6in {t:TypeId} {v:Value}:refV 6 (.iface t v) .nilIface=some false:=rr rfl
theorem r_5nn:refV 5 .nilIface .nilIface=some true:=rr rfl
theorem r_5ni {t:TypeId} {v:Value}:refV 5 .nilIface (.iface t v)=some false:=rr rfl
theorem r_5in {t:TypeId} {v:Value}:refV 5 (.iface t v) .nilIface=some false:=rr rfl
theorem r_ni {t:TypeId} {v:Value}:refV 4 .nilIface (.iface t v)=some false:=rr rfl
theorem r_in {t:TypeId} {v:Value}:refV 4 (.iface t v) .nilIface=some false:=rr rfl
theorem isNone_none {α:Type}:(none:Option α).isNone=true:=rr rfl
theorem isNone_some {α:Type} {a:α}:(some a).isNone=false:=rr rfl
theorem bne_f {b:Bool}:(b != false)=b:=by cases b<;>rfl
theorem bne_t {b:Bool}:(b != true) = !b:=by cases b<;>rfl
theorem b_ia {sz b o len c:Nat} {k:IntKind} {i:Int}:bval P h (.ia sz) (.slice (some ⟨b,o,none⟩) len c) (.int k i)=if 0<=i/\i<len then some (.pointer (some ⟨b,o+i.toNat*sz,none⟩),none) else none:=rr rfl
theorem b_aa {len sz b o:Nat} {k:IntKind} {i:Int}:bval P h (.aa len sz) (.pointer (some ⟨b,o,none⟩)) (.int k i)=if 0<=i/\i<len then some (.pointer (some ⟨b,o+i.toNat*sz,none⟩),none) else none:=rr rfl
theorem b_ixs {s:ByteArray} {k:IntKind} {i:Int}:bval P h .ixs (.string s) (.int k i)=if 0<=i then (s[i.toNat]?).map fun b=>(.int .u8 b.toNat,none) else none:=rr rfl
theorem i_add {k:IntKind} {a b:Int}:ibin .add k a b=some (.int k (k.wrap (a+b))):=rr rfl
theorem i_sub {k:IntKind} {a b:Int}:ibin .sub k a b=some (.int k (k.wrap (a-b))):=rr rfl
theorem i_mul {k:IntKind} {a b:Int}:ibin .mul k a b=some (.int k (k.wrap (a*b))):=rr rfl
theorem i_quo {k:IntKind} {a b:Int}:ibin .quo k a b=if b=0 then none else some (.int k (k.wrap (a.tdiv b))):=rr rfl
theorem i_rem {k:IntKind} {a b:Int}:ibin .rem k a b=if b=0 then none else some (.int k (a.tmod b)):=rr rfl
theorem i_eql {k:IntKind} {a b:Int}:ibin .eql k a b=some (.bool (decide (a=b))):=by simp [ibin];rfl
theorem i_neq {k:IntKind} {a b:Int}:ibin .neq k a b=some (.bool (!decide (a=b))):=by simp [ibin,bne];rfl
theorem i_lss {k:IntKind} {a b:Int}:ibin .lss k a b=some (.bool (decide (a<b))):=rr rfl
theorem i_leq {k:IntKind} {a b:Int}:ibin .leq k a b=some (.bool (decide (a<=b))):=rr rfl
theorem i_gtr {k:IntKind} {a b:Int}:ibin .gtr k a b=some (.bool (decide (b<a))):=rr rfl
theorem i_geq {k:IntKind} {a b:Int}:ibin .geq k a b=some (.bool (decide (b<=a))):=rr rfl
theorem s_eql {a b:ByteArray}:sbin .eql a b=some (.bool (a.toList == b.toList)):=rr rfl
theorem s_neq {a b:ByteArray}:sbin .neq a b=some (.bool !(a.toList == b.toList)):=rr rfl
theorem op_map_some {α β:Type} {f:α->β} {a:α}:(some a).map f=some (f a):=rr rfl
theorem op_bind_some {α β:Type} {f:α->Option β} {a:α}:(some a).bind f=f a:=rr rfl
theorem take1 {α:Type} {x:α} {l:List α}:(x::l).take 1=[x]:=rr rfl
theorem take1n {α:Type}:([]:List α).take 1=[]:=rr rfl
theorem bt {b:Bool}:(b == true)=b:=by cases b<;>rfl
theorem bf {b:Bool}:(b == false) = !b:=by cases b<;>rfl
end
section
variable {P:Program} {keep:Bool} {nm:List Nat}
theorem Gets.of (hP:noGoroutines P=true) {D:Array Oper->Bool} (hD:∀ N,DrawOk P keep nm N D) {f:FuncId} {rc:RC} {rvs:List RV} (hk:look1 P f nm D=some (rc,rvs)) {args:List Value}
 (hnm:((List.range args.length).all nm.contains)=true) {h:AH} {Φ:Res->AH->Prop} (hw:∀ Ψ:Out->PS->Prop,(∀ o s,finK P rvs Φ o s->Ψ o s)->XC P keep nm Ψ rc [] (argE 0 args) [] h []):Gets P f args h Φ :=
 Gets.go hP hD hk hnm (hw _ fun _ _ h=>h)
theorem fin_norm {rvs:List RV} {Φ:Res->AH->Prop} {e l:PE} {h:AH} (hr:rvK P ⟨e,l,h,[]⟩ rvs fun vs=>Φ (.ret (tup vs)) h):finK P rvs Φ .norm ⟨e,l,h,[]⟩:=⟨rfl,hr⟩
theorem fin_ret {rvs:List RV} {Φ:Res->AH->Prop} {e l:PE} {h:AH} (hr:rvK P ⟨e,l,h,[]⟩ rvs fun vs=>Φ (.ret (tup vs)) h):finK P rvs Φ .ret ⟨e,l,h,[]⟩:=⟨rfl,hr⟩
theorem fin_pan {rvs:List RV} {Φ:Res->AH->Prop} {v:Value} {e l:PE} {h:AH} (hr:Φ (.pan v) h):finK P rvs Φ (.pan v) ⟨e,l,h,[]⟩:=⟨rfl,hr⟩
theorem rv0 {s:PS} {K:List Value->Prop} (h:K []):rvK P s [] K:=h
theorem rv1 {e l:PE} {h:AH} {ds:List Dfr} {x:RX} {v:Value} {K:List Value->Prop} (hx:rx e l x=some v) (hk:K [v]):rvK P ⟨e,l,h,ds⟩ [.v x] K:=by simp only[rvK,hx,vK];exact hk
theorem rv2 {e l:PE} {h:AH} {ds:List Dfr} {x y:RX} {u v:Value} {K:List Value->Prop} (hx:rx e l x=some u) (hy:rx e l y=some v) (hk:K [u,v]):rvK P ⟨e,l,h,ds⟩ [.v x,.v y] K:=by simp only[rvK,hx,hy,vK];exact hk
theorem rv3 {e l:PE} {h:AH} {ds:List Dfr} {x y z:RX} {u v w:Value} {K:List Value->Prop} (hx:rx e l x=some u) (hy:rx e l y=some v) (hz:rx e l z=some w) (hk:K [u,v,w]):rvK P ⟨e,l,h,ds⟩ [.v x,.v y,.v z] K:=by
 simp only[rvK,hx,hy,hz,vK];exact hk
theorem XX_of {f:FuncId} {args:List Value} {h:AH} {Φ:Out->PS->Prop} {c:Cn} {k:List Fm} {e l:PE} {ds:List Dfr} {d:D} {Ψ:Res->AH->Prop} (hg:Gets P f args h Ψ)
 (hk:∀ res h',h.length<=h'.length->Ψ res h'->RP (fun v h'=>XV P keep nm Φ v d c k e l h' ds) (fun v h'=>XE P keep nm Φ (.pan v) k (peC c e) [] h' ds) res h'):XX P keep nm Φ f args d c k e l h ds :=
 let ⟨res,h',h1,h2,h3⟩:=hg;⟨res,h',h1,h2,hk res h' h2 h3⟩
theorem XX_val {f:FuncId} {args:List Value} {h:AH} {Φ:Out->PS->Prop} {c:Cn} {k:List Fm} {e l:PE} {ds:List Dfr} {d:D} {v:Value} (hg:Gets P f args h fun res h'=>h'=h/\res = .ret v)
 (hk:XV P keep nm Φ v d c k e l h ds):XX P keep nm Φ f args d c k e l h ds :=
 XX_of hg fun res h' _ ⟨h1,h2⟩=>by subst h1;subst h2;exact .ret hk
end
def subE (e:PE):PE->Prop
 | []=>True
 | (t,v)::r=>look e t=some v/\subE e r
theorem subE_look {e:PE}:∀ {r:PE},subE e r -> ∀ t v,look r t=some v->look e t=some v:=by
 intro r
 induction r with
 | nil=>intro _ t v h;cases h
 | cons p r ih =>
   obtain ⟨t0,v0⟩:=p;intro h t v hv;simp only[look] at hv
   split at hv
   ·rename_i e;subst e;cases hv;exact h.1
   ·exact ih h.2 t v hv
theorem XLo_rule {P:Program} {keep:Bool} {nm:List Nat} {Φ:Out->PS->Prop} {b:RC} {k:List Fm} {e l:PE} {h:AH} {ds:List Dfr} {α:Type} (en:α->PE) (inv:α->AH->Prop) (μ:α->Nat) (a0:α) (h0:inv a0 h) (s0:subE e (en a0))
 (round:∀ (a:α) (h:AH) (Ψ:Out->PS->Prop),inv a h->(∀ (a':α) (e' l':PE) (h':AH),inv a' h'->subE e' (en a')->μ a'<μ a->Ψ .norm ⟨e',l',h',ds⟩) ->
  (∀ (out:Out) (e' l':PE) (h':AH) (ds':List Dfr),out ≠ .norm->XE P keep nm Φ out k e' l' h' ds'->Ψ out ⟨e',l',h',ds'⟩)->XC P keep nm Ψ b [] (en a) [] h ds):XLo P keep nm Φ b k e l h ds:=by
 have main:∀ (n:Nat) (a:α) (e l:PE) (h:AH),μ a<n->inv a h->subE e (en a)->loopN (wpc P keep nm b) (den P keep nm Φ k) n ⟨e,l,h,ds⟩:=by
  intro n
  induction n with
  | zero=>intro a e l h hn;omega
  | succ n ih =>
    intro a e l h hn hi hs;refine ⟨⟨en a,[],h,ds⟩,⟨subE_look hs,(fun t v hv=>by cases hv),rfl,rfl⟩,?_⟩;refine round a h _ hi (fun a' e' l' h' hi' hs' hlt=>ih a' e' l' h' (by omega) hi' hs') (fun out e' l' h' ds' hne hx=>?_);cases out with
    | norm=>exact absurd rfl hne
    | exit id=>exact hx
    | ret=>exact hx
    | pan v=>exact hx
 exact ⟨_,main _ a0 e l h (Nat.lt_succ_self _) h0 s0⟩
theorem mach:type_of% @r_pnn/\type_of% @r_ppn/\type_of% @r_ppp/\type_of% @r_snn/\type_of% @r_ssn/\type_of% @r_mnn/\type_of% @r_mmn/\type_of% @r_fn/\type_of% @r_nf/\type_of% @r_5nn/\type_of% @r_5ni/\type_of% @r_5in/\type_of% @r_ni/\type_of% @r_in/\type_of% @isNone_none/\type_of% @isNone_some/\type_of% @bne_f/\type_of% @bne_t /\
 type_of% @XC_skip /\
 type_of% @XC_ret /\
 type_of% @XC_exit /\
 type_of% @XC_rg /\
 type_of% @XC_dr /\
 type_of% @XDr_true /\
 type_of% @XDr_false /\
 type_of% @XE_np_norm /\
 type_of% @XE_ep_norm /\
 type_of% @XE_ep_ret /\
 type_of% @XE_ep_pan /\
 type_of% @XDo_nil /\
 type_of% @XDo_none /\
 type_of% @XDo_some /\
 type_of% @XQ1_nil /\
 type_of% @XQ1_end /\
 type_of% @XQ1_cons /\
 type_of% @XQ1b_false /\
 type_of% @XQ1b_true /\
 type_of% @XQ2_nil /\
 type_of% @XQ2_end /\
 type_of% @XQ2b_false /\
 type_of% @XQ2b_end /\
 type_of% @XQ2b_cons /\
 type_of% @XQ3_ok /\
 type_of% @XQ2_cons /\
 type_of% @XC_sq /\
 type_of% @XC_ite /\
 type_of% @XC_blk /\
 type_of% @XC_loop /\
 type_of% @XE_sq_norm /\
 type_of% @XE_sq_ret /\
 type_of% @XE_sq_exit /\
 type_of% @XE_sq_pan /\
 type_of% @XE_blk_norm /\
 type_of% @XE_blk_ret /\
 type_of% @XE_blk_pan /\
 type_of% @XE_blk_exit /\
 type_of% @XE_nil /\
 type_of% @XO_nil /\
 type_of% @XO_none /\
 type_of% @XO_some /\
 type_of% @XG_bool /\
 type_of% @XG_undef /\
 type_of% @XGb_true /\
 type_of% @XGb_false /\
 type_of% @XSk_rn /\
 type_of% @XSk_rt /\
 type_of% @XSk_rz /\
 type_of% @XSk_dn /\
 type_of% @XSk_dt /\
 type_of% @XSk_dz /\
 type_of% @XI_bool /\
 type_of% @XIb_true /\
 type_of% @XIb_false /\
 type_of% @XK_u /\
 type_of% @XK_b /\
 type_of% @XK_pk /\
 type_of% @XK_bld /\
 type_of% @XK_bsl /\
 type_of% @XK_mkf /\
 type_of% @XK_al /\
 type_of% @XK_mm /\
 type_of% @XK_msl /\
 type_of% @XK_sls /\
 type_of% @XK_sll /\
 type_of% @XK_st /\
 type_of% @XK_app /\
 type_of% @XK_clr /\
 type_of% @XK_cpy /\
 type_of% @XK_mup /\
 type_of% @XK_call /\
 type_of% @XK_dfr /\
 type_of% @XK_pan /\
 type_of% @XK_raw /\
 type_of% @XV_rn /\
 type_of% @XV_rt /\
 type_of% @XV_rz /\
 type_of% @XV_du /\
 type_of% @XVd_false /\
 type_of% @XVd_true /\
 type_of% @XV_dw /\
 type_of% @XV_dr /\
 type_of% @ldK_b /\
 type_of% @ldK_pk /\
 type_of% @ldK_bld /\
 type_of% @ldK_bsl /\
 type_of% @ldK_mkf /\
 type_of% @ldK_al /\
 type_of% @ldK_mm /\
 type_of% @ldK_msl /\
 type_of% @ldK_sls /\
 type_of% @ldK_sll /\
 type_of% @ldK_st /\
 type_of% @ldK_app /\
 type_of% @ldK_clr /\
 type_of% @ldK_cpy /\
 type_of% @ldK_mup /\
 type_of% @ldK_call /\
 type_of% @ldK_u /\
 type_of% @isLd_ld /\
 type_of% @isLd_ldn /\
 type_of% @isLd_mv /\
 type_of% @isLd_fa /\
 type_of% @isLd_fd /\
 type_of% @isLd_fdn /\
 type_of% @isLd_ex /\
 type_of% @isLd_nk /\
 type_of% @isLd_nt /\
 type_of% @isLd_ng /\
 type_of% @isLd_cv /\
 type_of% @isLd_lenS /\
 type_of% @isLd_lenL /\
 type_of% @isLd_ifc /\
 type_of% @isLd_bx /\
 type_of% @isLd_b2s /\
 type_of% @isLd_s2b /\
 type_of% @isLd_asn /\
 type_of% @pe_n /\
 type_of% @pe_t /\
 type_of% @pe_z /\
 type_of% @pl_n /\
 type_of% @pl_t /\
 type_of% @pl_z /\
 type_of% @XR_v /\
 type_of% @XR_b /\
 type_of% @XU_some /\
 type_of% @XB_some /\
 type_of% @XP_some /\
 type_of% @XPb_true /\
 type_of% @XPb_false /\
 type_of% @XVo_some /\
 type_of% @XL_some /\
 type_of% @XLb_none /\
 type_of% @XLb_some /\
 type_of% @XF_some /\
 type_of% @XM_some /\
 type_of% @XS_some /\
 type_of% @XW_some /\
 type_of% @XH_some /\
 type_of% @XSt_some /\
 type_of% @XAp_some /\
 type_of% @XCl_some /\
 type_of% @XCp_some /\
 type_of% @XMu_some /\
 type_of% @XD_some /\
 type_of% @XPa_some /\
 type_of% @peC_ro /\
 type_of% @peC_dr /\
 type_of% @XCa_some /\
 type_of% @rx_n /\
 type_of% @rx_t /\
 type_of% @rx_c /\
 type_of% @rx_f /\
 type_of% @look_cons /\
 type_of% @upd_cons /\
 type_of% @upd_nil /\
 type_of% @rxs_nil /\
 type_of% @rxs_cons /\
 type_of% @rxp_nil /\
 type_of% @rxp_cons /\
 type_of% @ob_none /\
 type_of% @ob_some /\
 type_of% @argE_nil /\
 type_of% @argE_cons /\
 type_of% @u_mv /\
 type_of% @u_ld /\
 type_of% @u_ldn /\
 type_of% @u_fa /\
 type_of% @u_fd /\
 type_of% @u_fdn /\
 type_of% @u_ex /\
 type_of% @u_nk /\
 type_of% @u_nkf /\
 type_of% @u_nt /\
 type_of% @u_ng /\
 type_of% @u_cv /\
 type_of% @u_lenS /\
 type_of% @u_lenL /\
 type_of% @u_ifc /\
 type_of% @u_bx /\
 type_of% @u_asn /\
 type_of% @u_asn_nil /\
 type_of% @b_int /\
 type_of% @b_str /\
 type_of% @b_eb /\
 type_of% @b_es /\
 type_of% @b_er /\
 type_of% @b_ia /\
 type_of% @b_aa /\
 type_of% @b_ixs /\
 type_of% @i_add /\
 type_of% @i_sub /\
 type_of% @i_mul /\
 type_of% @i_quo /\
 type_of% @i_rem /\
 type_of% @i_eql /\
 type_of% @i_neq /\
 type_of% @i_lss /\
 type_of% @i_leq /\
 type_of% @i_gtr /\
 type_of% @i_geq /\
 type_of% @s_eql /\
 type_of% @s_neq /\
 type_of% @op_map_some /\
 type_of% @op_bind_some /\
 type_of% @take1 /\
 type_of% @take1n /\
 type_of% @bt /\
 type_of% @bf :=
 ⟨@r_pnn,@r_ppn,@r_ppp,@r_snn,@r_ssn,@r_mnn,@r_mmn,@r_fn,@r_nf,@r_5nn,@r_5ni,@r_5in,@r_ni,@r_in,@isNone_none,@isNone_some,@bne_f,@bne_t,@XC_skip,@XC_ret,@XC_exit,@XC_rg,@XC_dr,@XDr_true,@XDr_false,@XE_np_norm,@XE_ep_norm,@XE_ep_ret,@XE_ep_pan,@XDo_nil,@XDo_none,@XDo_some,@XQ1_nil,@XQ1_end,@XQ1_cons,@XQ1b_false,@XQ1b_true,@XQ2_nil,@XQ2_end,@XQ2b_false,@XQ2b_end,@XQ2b_cons,@XQ3_ok,@XQ2_cons,@XC_sq,@XC_ite,@XC_blk,@XC_loop,@XE_sq_norm,@XE_sq_ret,@XE_sq_exit,@XE_sq_pan,@XE_blk_norm,@XE_blk_ret,@XE_blk_pan,@XE_blk_exit,@XE_nil,@XO_nil,@XO_none,@XO_some,@XG_bool,@XG_undef,@XGb_true,@XGb_false,@XSk_rn,@XSk_rt,@XSk_rz,@XSk_dn,@XSk_dt,@XSk_dz,@XI_bool,@XIb_true,@XIb_false,@XK_u,@XK_b,@XK_pk,@XK_bld,@XK_bsl,@XK_mkf,@XK_al,@XK_mm,@XK_msl,@XK_sls,@XK_sll,@XK_st,@XK_app,@XK_clr,@XK_cpy,@XK_mup,@XK_call,@XK_dfr,@XK_pan,@XK_raw,@XV_rn,@XV_rt,@XV_rz,@XV_du,@XVd_false,@XVd_true,@XV_dw,@XV_dr,@ldK_b,@ldK_pk,@ldK_bld,@ldK_bsl,@ldK_mkf,@ldK_al,@ldK_mm,@ldK_msl,@ldK_sls,@ldK_sll,@ldK_st,@ldK_app,@ldK_clr,@ldK_cpy,@ldK_mup,@ldK_call,@ldK_u,@isLd_ld,@isLd_ldn,@isLd_mv,@isLd_fa,@isLd_fd,@isLd_fdn,@isLd_ex,@isLd_nk,@isLd_nt,@isLd_ng,@isLd_cv,@isLd_lenS,@isLd_lenL,@isLd_ifc,@isLd_bx,@isLd_b2s,@isLd_s2b,@isLd_asn,@pe_n,@pe_t,@pe_z,@pl_n,@pl_t,@pl_z,@XR_v,@XR_b,@XU_some,@XB_some,@XP_some,@XPb_true,@XPb_false,@XVo_some,@XL_some,@XLb_none,@XLb_some,@XF_some,@XM_some,@XS_some,@XW_some,@XH_some,@XSt_some,@XAp_some,@XCl_some,@XCp_some,@XMu_some,@XD_some,@XPa_some,@peC_ro,@peC_dr,@XCa_some,@rx_n,@rx_t,@rx_c,@rx_f,@look_cons,@upd_cons,@upd_nil,@rxs_nil,@rxs_cons,@rxp_nil,@rxp_cons,@ob_none,@ob_some,@argE_nil,@argE_cons,@u_mv,@u_ld,@u_ldn,@u_fa,@u_fd,@u_fdn,@u_ex,@u_nk,@u_nkf,@u_nt,@u_ng,@u_cv,@u_lenS,@u_lenL,@u_ifc,@u_bx,@u_asn,@u_asn_nil,@b_int,@b_str,@b_eb,@b_es,@b_er,@b_ia,@b_aa,@b_ixs,@i_add,@i_sub,@i_mul,@i_quo,@i_rem,@i_eql,@i_neq,@i_lss,@i_leq,@i_gtr,@i_geq,@s_eql,@s_neq,@op_map_some,@op_bind_some,@take1,@take1n,@bt,@bf⟩
theorem mach2 :
 type_of% @ldK_ust /\
 type_of% @isLd_up /\
 type_of% @isLd_pu /\
 type_of% @isLd_sd /\
 type_of% @XUs_some /\
 type_of% @XK_ust /\
 type_of% @rx_g /\
 type_of% @rx_mn /\
 type_of% @u_nkm /\
 type_of% @rx_mt /\
 type_of% @mfv_some /\
 type_of% @mlk_cons /\
 type_of% @u_ldg /\
 type_of% @u_sd /\
 type_of% @u_sdn /\
 type_of% @b_ei /\
 type_of% @r_6nn /\
 type_of% @r_6ni /\
 type_of% @r_6in /\
 type_of% @b_ein /\
 type_of% @b_eni /\
 type_of% @b_eii /\
 type_of% @b_aag :=
 ⟨@ldK_ust,@isLd_up,@isLd_pu,@isLd_sd,@XUs_some,@XK_ust,@rx_g,@rx_mn,@u_nkm,@rx_mt,@mfv_some,@mlk_cons,@u_ldg,@u_sd,@u_sdn,@b_ei,@r_6nn,@r_6ni,@r_6in,@b_ein,@b_eni,@b_eii,@b_aag⟩
end Go.Eng

namespace Go.Eng
structure Keep (S:Nat->Prop) (h h':AH):Prop where
 len:h.length<=h'.length
 same:∀ b,b<h.length -> ¬ S b->h'[b]?=h[b]?
theorem Keep.refl (S:Nat->Prop) (h:AH):Keep S h h:=⟨Z5 _,fun _ _ _=>rfl⟩
theorem Keep.trans {S:Nat->Prop} {h h1 h2:AH} (a:Keep S h h1) (b:Keep S h1 h2):Keep S h h2 :=
 ⟨Nat.le_trans a.len b.len,fun c hc hs=>by rw[b.same c (Za hc a.len) hs,a.same c hc hs]⟩
theorem Keep.trans' {S T:Nat->Prop} {h h1 h2:AH} (a:Keep S h h1) (b:Keep T h1 h2) (hT:∀ c,c<h.length->T c->S c):Keep S h h2 :=
 ⟨Nat.le_trans a.len b.len,fun c hc hs=>by rw[b.same c (Za hc a.len) (fun t=>hs (hT c hc t)),a.same c hc hs]⟩
theorem Keep.mono {S T:Nat->Prop} {h h':AH} (a:Keep S h h') (hST:∀ b,S b->T b):Keep T h h':=⟨a.len,fun b hb hs=>a.same b hb fun s=>hs (hST b s)⟩
theorem Keep.push (S:Nat->Prop) (h:AH) (B:Blk):Keep S h (h++[B]):=⟨by simp,fun b hb _=>Z7 hb⟩
theorem Keep.get {S:Nat->Prop} {h h':AH} (a:Keep S h h') {b:Nat} {B:Blk} (hb:h[b]?=some B) (hs:¬ S b):h'[b]?=some B:=by
 rw[a.same b (Z3.1 hb).1 hs,hb]
theorem Keep.set (h:AH) (b:Nat) (B:Blk):Keep (· = b) h (h.set b B):=⟨by simp,fun c hc hs=>by rw[Z9 (Ne.symm hs)]⟩
def Cells (h:AH) (b:Nat) (cs:List Value):Prop:=hcell h b=some cs
def Own (h:AH) (b:Nat) (e:TypeId) (cs:List Value):Prop:=∃ g,h[b]?=some (.cells true true g 0 e cs)
theorem Own.cells {h:AH} {b:Nat} {e:TypeId} {cs:List Value} (hb:Own h b e cs):Cells h b cs:=by obtain ⟨g,hb⟩:=hb;simp [Cells,hcell,hb]
theorem Own.lt {h:AH} {b:Nat} {e:TypeId} {cs:List Value} (hb:Own h b e cs):b<h.length:=by obtain ⟨g,hb⟩:=hb;exact (Z3.1 hb).1
theorem Cells.lt {h:AH} {b:Nat} {cs:List Value} (hb:Cells h b cs):b<h.length:=by
 unfold Cells hcell at hb
 split at hb
 ·rename_i h1;exact (Z3.1 h1).1
 ·cases hb
theorem Own.keep {S:Nat->Prop} {h h':AH} {b:Nat} {e:TypeId} {cs:List Value} (hb:Own h b e cs) (k:Keep S h h') (hs:¬ S b):Own h' b e cs:=by obtain ⟨g,hb⟩:=hb;exact ⟨g,k.get hb hs⟩
theorem Cells.keep {S:Nat->Prop} {h h':AH} {b:Nat} {cs:List Value} (hb:Cells h b cs) (k:Keep S h h') (hs:¬ S b):Cells h' b cs:=by
 have hl:=hb.lt;unfold Cells hcell at hb ⊢;rw[k.same b hl hs];exact hb
theorem Own.new (h:AH) (e:TypeId) (m:Nat) (cs:List Value):Own (h++[row e m cs]) h.length e cs:=⟨m,by simp [row]⟩
theorem Cells.ld {h:AH} {b:Nat} {cs:List Value} (hb:Cells h b cs) (o:Nat):ldc h b o=cs[o]?:=by unfold Cells at hb;simp [ldc,hb]
theorem Cells.lds {h:AH} {b:Nat} {cs:List Value} (hb:Cells h b cs) (o n:Nat) (hl:o+n<=cs.length):ldcs h b o n=some ((cs.drop o).take n):=by unfold Cells at hb;simp [ldcs,hb,hl]
theorem Own.store {h:AH} {b:Nat} {e:TypeId} {cs:List Value} (hb:Own h b e cs) {i:Nat} {vs:List Value} (hl:i+vs.length<=cs.length) (ho:vs.all Value.oneCell'=true) :
 ∃ h',hstore h b i vs=some h'/\Own h' b e (cs.take i++vs++cs.drop (i+vs.length))/\Keep (· = b) h h'/\h'.length=h.length:=by
 have hlt:=hb.lt;obtain ⟨g,hb⟩:=hb;refine ⟨h.set b (.cells true true g 0 e (cs.take i++vs++cs.drop (i+vs.length))),?_,⟨g,by simp [hlt]⟩,.set h b _,by simp⟩;simp [hstore,hb,hl,ho]
def bk:Value->Nat->Prop
 | .slice (some ⟨b,_,_⟩) _ _,c=>c=b
 | _,_=>False
def rb:Value->Nat->Prop
 | .slice (some ⟨b,_,_⟩) n _,c=>c=b/\0<n
 | _,_=>False
theorem rb.bk {v:Value} {q:Nat} (h:rb v q):bk v q:=by
 unfold rb at h
 split at h
 ·exact h.1
 ·exact h.elim
inductive Rds (h:AH) (sz:Nat):Value->Nat->List Value->Prop where
 | nil:Rds h sz (.slice none 0 0) 0 []
 | emp {b o c:Nat}:Rds h sz (.slice (some ⟨b,o,none⟩) 0 c) 0 []
 | mk {b o n c:Nat} {all cs:List Value} (hb:Cells h b all) (hl:o+n*sz<=all.length) (hx:(all.drop o).take (n*sz)=cs):Rds h sz (.slice (some ⟨b,o,none⟩) n c) n cs
inductive Ows (h:AH) (e:TypeId) (sz:Nat):Value->Nat->List Value->Prop where
 | nil:Ows h e sz (.slice none 0 0) 0 []
 | mk {b n c:Nat} {all cs:List Value} (hb:Own h b e all) (hl:all.length=c*sz) (hn:n<=c) (hx:all.take (n*sz)=cs):Ows h e sz (.slice (some ⟨b,0,none⟩) n c) n cs
theorem Rds.len {h:AH} {sz n:Nat} {v:Value} {cs:List Value} (hr:Rds h sz v n cs):cs.length=n*sz:=by
 cases hr with
 | nil=>simp
 | emp=>simp
 | mk hb hl hx=>rw[<- hx];simp;omega
theorem Ows.rds {h:AH} {e:TypeId} {sz n:Nat} {v:Value} {cs:List Value} (ho:Ows h e sz v n cs):Rds h sz v n cs:=by
 cases ho with
 | nil=>exact .nil
 | mk hb hl hn hx=>exact .mk hb.cells (by rw[hl,Z4];exact Z1 _ hn) (by simpa using hx)
theorem Rds.keep {S:Nat->Prop} {h h':AH} {sz n:Nat} {v:Value} {cs:List Value} (hr:Rds h sz v n cs) (k:Keep S h h') (hs:∀ b,rb v b -> ¬ S b):Rds h' sz v n cs:=by
 cases hr with
 | nil=>exact .nil
 | emp=>exact .emp
 | mk hb hl hx =>
   rcases Nat.eq_zero_or_pos n with h0|h0
   ·subst h0
    simp only[Nat.zero_mul,List.take_zero] at hx;subst hx;exact .emp
   ·exact .mk (hb.keep k (hs _ ⟨rfl,h0⟩)) hl hx
theorem Ows.keep {S:Nat->Prop} {h h':AH} {e:TypeId} {sz n:Nat} {v:Value} {cs:List Value} (hr:Ows h e sz v n cs) (k:Keep S h h') (hs:∀ b,bk v b -> ¬ S b):Ows h' e sz v n cs:=by
 cases hr with
 | nil=>exact .nil
 | mk hb hl hn hx=>exact .mk (hb.keep k (hs _ rfl)) hl hn hx
theorem Rds.lt {h:AH} {sz n:Nat} {v:Value} {cs:List Value} (hr:Rds h sz v n cs):∀ b,rb v b->b<h.length:=by
 cases hr with
 | nil=>intro b hb;exact hb.elim
 | emp=>intro b hb;exact absurd hb.2 (by omega)
 | mk hb hl hx=>intro b e;obtain ⟨rfl,_⟩:=e;exact hb.lt
theorem Ows.lt {h:AH} {e:TypeId} {sz n:Nat} {v:Value} {cs:List Value} (hr:Ows h e sz v n cs):∀ b,bk v b->b<h.length:=by
 cases hr with
 | nil=>intro b hb;exact hb.elim
 | mk hb hl hn hx=>intro b e;cases e;exact hb.lt
theorem Rds.at {h:AH} {sz n:Nat} {v:Value} {cs:List Value} (hr:Rds h sz v n cs) {i:Nat} (hi:i<n):∃ b o c,v = .slice (some ⟨b,o,none⟩) n c /\ ∀ j,j<sz->ldc h b (o+i*sz+j)=cs[i*sz+j]?:=by
 cases hr with
 | nil=>omega
 | emp=>omega
 | @mk b o n c all cs hb hl hx =>
   refine ⟨b,o,c,rfl,fun j hj=>?_⟩;rw[hb.ld,<- hx,List.getElem?_take,if_pos,List.getElem?_drop,Nat.add_assoc];have:i*sz+sz<=n*sz:=by
    have:=Z1 sz (show i+1<=n by omega);rw[Z6,Nat.one_mul] at this;exact this
   omega
theorem Rds.src {h:AH} {sz n:Nat} {v:Value} {cs:List Value} (hr:Rds h sz v n cs) (ho:cs.all Value.oneCell'=true):∃ cs',srcv h sz false v=some (n,cs')/\cs'=cs:=by
 cases hr with
 | nil=>exact ⟨[],rfl,rfl⟩
 | emp=>exact ⟨[],rfl,rfl⟩
 | @mk b o n c all cs hb hl hx =>
   by_cases h0:n=0
   ·subst h0
    refine ⟨[],by simp [srcv],?_⟩;rw[<- hx];simp
   ·have hb':hcell h b=some all:=hb
    refine ⟨cs,?_,rfl⟩;subst hx;simp only[srcv,Z0,if_false,h0,hb',Z2];simp only[hl,decide_true,Bool.true_and,ho,if_true]
theorem Ows.app {h:AH} {e:TypeId} {sz n m bytes:Nat} {str:Bool} {s x:Value} {cs xs:List Value} (ho:Ows h e sz s n cs) (hx:srcv h sz str x=some (m,xs)) (hl:xs.length=m*sz) (h1:xs.all Value.oneCell'=true)
 (hb:(n+m)*bytes<=140737488355328) (hb2:n+m<=9223372036854775807) :
 ∃ s' h',appv false h str e sz bytes s x=some (s',h')/\Ows h' e sz s' (n+m) (cs++xs)/\Keep (bk s) h h'/\(∀ b,bk s' b->bk s b\/h.length<=b):=by
 by_cases h0:m=0
 ·subst h0
  have:xs=[]:=List.length_eq_zero_iff.1 (by simpa using hl);subst this;refine ⟨s,h,?_,by simpa using ho,.refl _ _,fun b hb=>.inl hb⟩;cases ho with
  | nil=>simp [appv,hx]
  | mk hb=>simp [appv,hx]
 cases ho with
 | nil =>
   refine ⟨.slice (some ⟨h.length,0,none⟩) m m,h++[row e h.length xs],?_,?_,.push _ h _,fun b hb=>by cases hb;exact .inr (Z5 _)⟩
   ·simp only[Z4] at hb hb2
    simp [appv,hx,h0,hb,hb2]
   ·rw[Z4,List.nil_append]
    exact .mk (Own.new h e _ xs) hl (Z5 _) (by rw[<- hl];simp)
 | @mk b n c all cs hbl hlen hn hcs =>
   have hlt:=hbl.lt
   by_cases hroom:n+m<=c
   ·have hle:n*sz+xs.length<=all.length:=by
     rw[hl,hlen,<- Z6];exact Z1 _ hroom
    obtain ⟨h',k1,k2,k3,k4⟩:=hbl.store hle h1;obtain ⟨g,hbg⟩:=hbl;refine ⟨.slice (some ⟨b,0,none⟩) (n+m) c,h',?_,?_,k3.mono fun q hq=>hq,fun q hq=>.inl hq⟩
    ·simp only[appv,hx,Z2,h0,if_false,hbg,hroom,if_true,Z4,k1,Option.map_some]
     rw[if_pos (by simp;rw[hlen];exact Z1 _ hn)]
    ·refine .mk k2 ?_ hroom ?_
     ·simp only[List.length_append,List.length_take,List.length_drop]
      omega
     ·have e1:(all.take (n*sz)).length=n*sz:=by simp;omega
      rw[Z6,List.take_append_of_le_length (by simp;omega),<- hl];rw[Z8 (by simp;omega)];rw[hcs]
   ·obtain ⟨g,hbg⟩:=hbl
    have hle:n*sz<=all.length:=by rw[hlen];exact Z1 _ hn
    refine ⟨.slice (some ⟨h.length,0,none⟩) (n+m) (n+m),hprep false h b true g 0 e all (n*sz)++[.cells true true h.length 0 e (cs++xs)],?_,?_,?_,fun q hq=>by cases hq;exact .inr (Z5 _)⟩
    ·simp only[appv,hx,Z2,h0,if_false,hbg,hroom,Z4]
     rw[if_pos (by simp;exact hle)];simp [hb,hb2,hcs]
    ·refine .mk (all:=cs++xs) ⟨h.length,?_⟩ ?_ (Z5 _) ?_
     ·rw[List.getElem?_append_right (by simp [hprep_len])]
      simp [hprep_len]
     ·have:cs.length=n*sz:=by rw[<- hcs];simp;omega
      simp [this,hl,Z6]
     ·have:cs.length=n*sz:=by rw[<- hcs];simp;omega
      rw[Z8 (by simp [this,hl,Z6])]
    ·refine ⟨by simp [hprep_len],fun q hq hs=>?_⟩
     rw[Z7 (by rw[hprep_len];exact hq)];simp only[hprep,if_true,Z0,if_false];rw[Z9 (fun h=>hs h.symm)]
end Go.Eng
