/- part -/
import Derived.Test.YtcldpmkhpmlcbaaGreatDoorJ10
import Derived.BigQuiet
import Derived.Test.YtcldpmkhpmlcbaaGreatDoorJ8
import Derived.Test.YtcldpmkhpmlcbaaGreatDoorJ4
import Derived.WalkSpells
import Derived.WalkLawsBesides
import Derived.Test.YtcldpmkhpmlcbaaGreatDoorJ5
import Derived.Test.YtcldpmkhpmlcbaaGreatDoorJ2
import Derived.Orders
set_option linter.unusedVariables false
set_option linter.unusedSimpArgs false
namespace Go.Proofs.YtcldpmkhpmlcbaaGreatDoor
open Go.RowKit Go.Shelf Go.Lib
theorem QmL {l:List Qz} {i:Qp} {k:Nat} (hk:k<l.length) (he:(l.getD k XY).id=i) (hb:∀ j,j<k->(l.getD j XY).id ≠ i):ZA l i=k:=by
 rw [ZA,List.findIdx_eq hk]
 constructor
 ·rw [List.getD_eq_getElem?_getD,List.getElem?_eq_getElem hk] at he
  exact decide_eq_true he
 ·intro j hj
  have:=hb j hj
  rw [List.getD_eq_getElem?_getD,List.getElem?_eq_getElem (by omega)] at this
  exact decide_eq_false this
theorem Qle {l:List Qz} {i:Qp} (hb:∀ j,j<l.length->(l.getD j XY).id ≠ i):¬ ZA l i<l.length:=fun h=>hb _ h (QgH h)
theorem QfE {a b:Value} (h:a=b):Ending.returned b = .returned a:=by rw [h]
theorem Qbh {a b:Bool} (h:a=b):Ending.returned (.bool b) = .returned (.bool a):=by rw [h]
theorem QnS {w:World} {B p mb b:Nat} {gv:Value} {o:Qz} {i:Qp} (h:Z4 w B p mb gv o) (d0:w.cell? ⟨b,0,none⟩=some (.int .i64 i.ses)) (d1:w.cell? ⟨b,1,none⟩=some (.int .i64 i.seq)) :
  Calls Tryz.prog 185 #[.pointer (some ⟨p,0,none⟩),.pointer (some ⟨b,0,none⟩)] w fun e w'=>e = .returned (.bool (decide (o.id=i)))/\Below w.heap.size w w':=by
 obtain ⟨c0,c1,_⟩:=h.cs
 have HE:Hid (decide (o.id=i)=((o.id.ses == i.ses) && (o.id.seq == i.seq))):=by
  show _=_
  obtain ⟨⟨a1,a2⟩,_⟩:=o
  obtain ⟨b1,b2⟩:=i
  simp [Bool.decide_and]
  rfl
 by_cases h1:o.id.ses=i.ses
 ·by_cases h2:o.id.seq=i.seq
  ·go_enter Tryz.func185,Tryz.ntmps185
   go_wp2
   go_quiet (fail)
   go_wp2
   go_ret
   exact ⟨Qbh (by rw [HE.out,h1,h2];simp),Qj (Below.refl _ _) _⟩
  ·go_enter Tryz.func185,Tryz.ntmps185
   go_wp2
   go_quiet (fail)
   go_wp2
   go_ret
   exact ⟨Qbh (by rw [HE.out];simp [h2]),Qj (Below.refl _ _) _⟩
 ·go_enter Tryz.func185,Tryz.ntmps185
  go_wp2
  go_quiet (fail)
  go_wp2
  go_ret
  exact ⟨Qbh (by rw [HE.out];simp [h1]),Qj (Below.refl _ _) _⟩
def VE (l:List Qz) (i:Qp) (z:Int):Prop:=if ZA l i<l.length then z=(ZA l i:Int) else z = -1
def Qlf (w:World) (l:List Qz) (i:Qp) (e:Ending) (w':World):Prop :=
 ∃ z:Int,e = .returned (.int .i64 z)/\Hid (VE l i z)/\Below w.heap.size w w'
theorem QmM {l:List Qz} {i:Qp} {k:Nat} (h:∀ j,j<k->(l.getD j XY).id ≠ i) (h2:(l.getD k XY).id ≠ i):∀ j,j<k+1->(l.getD j XY).id ≠ i:=fun j hj=>by
 by_cases e:j=k
 ·rw [e];exact h2
 ·exact h j (by omega)
theorem Qlg {P:Program} {f:Nat} {args:Array Value} {w:World} {b c:Bool} (h:b=c) {R:World->Prop} (hc:Calls P f args w fun e w'=>e = .returned (.bool b)/\R w'):Calls P f args w fun e w'=>e = .returned (.bool c)/\R w':=by
 subst h;exact hc
theorem Qlh {w:World} {B p b:Nat} {x:QD} {v:Value} {es:List QK} {O:Nat->Prop} (h:ZE w B p x v es O) {i:Qp} (d0:w.cell? ⟨b,0,none⟩=some (.int .i64 i.ses)) (d1:w.cell? ⟨b,1,none⟩=some (.int .i64 i.seq)) (hn:x.l.length<1000000) :
  Calls Tryz.prog 184 #[v,.func (.func 185) #[] #[.pointer (some ⟨b,0,none⟩)]] w (Qlf w x.l i):=by
 obtain ⟨A,cap,rfl,_,hA⟩:=h.at_
 have HL:=h.len
 rw [HL] at hA ⊢
 have HO:=Lib.hid (fun j (hj:j<x.l.length)=>h.at_o (i:=j) (by rw [HL];exact hj))
 have H:=Lib.hid h
 clear h
 go_enter Tryz.func184,Tryz.ntmps184
 go_wp2_with fail
 go_loopw [8] (fun c wr=>∃ k:Nat,k<=x.l.length/\c = .int .i64 k/\Hid (∀ j,j<k->(x.l.getD j XY).id ≠ i)/\Below w.heap.size w wr) (fun c _=>x.l.length-(intOf c).toNat)
 case atStart=>exact ⟨0,Nat.zero_le _,rfl,fun j hj=>absurd hj (by omega),Below.refl _ _⟩
 case round =>
  obtain ⟨k,hk,rfl,HA,hw⟩:=hrel
  by_cases hlt:k<x.l.length
  ·obtain ⟨g,off,rfl,c0⟩:=hA k hlt
   replace c0:=keep hw c0
   have HOne:=Lib.hid ((H.out.one _ (Kd (by rw [HL];exact hlt))).later hw)
   obtain ⟨en,hen⟩:∃ en,es.getD k default=en:=⟨_,rfl⟩
   have heo:=HO.out k hlt
   rw [hen] at heo HOne c0
   obtain ⟨ep,emb,egv,eo⟩:=en
   simp only [QK.ptr] at c0 heo
   subst heo
   have e0:=keep hw d0
   have e1:=keep hw d1
   have HF:=Lib.hid (QnS HOne.out e0 e1)
   obtain ⟨bb,hbb⟩:∃ bb,Hid (decide ((x.l.getD k XY).id=i)=bb):=⟨_,rfl⟩
   replace HF:=Lib.hid (Qlg hbb.out HF.out)
   clear hen
   cases bb
   ·have HN:=Lib.hid (QmM HA.out (of_decide_eq_false hbb.out))
    go_wp2_with (go_at_call 185;(with_reducible refine HF.out.mono ?_);rintro e w1 ⟨rfl,hb⟩;replace hw:=Qa hw hb)
    go_roundw
    case rel=>exact ⟨k+1,by omega,by go_num,HN,hw⟩
    case measure=>simp [intOf];omega
   ·have HN:Hid (VE x.l i k):=by
     have:=QmL hlt (of_decide_eq_true hbb.out) HA.out
     show if _ then _ else _
     rw [this,if_pos hlt]
    go_wp2_with (go_at_call 185;(with_reducible refine HF.out.mono ?_);rintro e w1 ⟨rfl,hb⟩;replace hw:=Qa hw hb)
    go_ret
    exact ⟨_,rfl,HN,hw⟩
  ·have HN:Hid (VE x.l i (-1)):=by
    have:=Qle (l:=x.l) (i:=i) (fun j hj=>HA.out j (by omega))
    show if _ then _ else _
    rw [if_neg this]
   go_wp2
   go_ret
   exact ⟨_,rfl,HN,hw⟩
def QmN (w:World) (x:QD) (es:List QK) (i:Qp) (e:Ending) (w':World):Prop :=
 e = .returned (if Zn x i then (es.getD (ZA x.l i) default).ptr else .pointer none)/\Below w.heap.size w w'
theorem Kw {w:World} {B p:Nat} {x:QD} {v:Value} {es:List QK} {O:Nat->Prop} (h:ZE w B p x v es O) (i:Qp) (hn:x.l.length<1000000) :
  Calls Tryz.prog 144 #[.pointer (some ⟨p,0,none⟩),.agg #[.int .i64 i.ses,.int .i64 i.seq]] w (QmN w x es i):=by
 obtain ⟨W,eW,HB,c0,c1⟩:=Y5 w (.int .i64 i.ses) (.int .i64 i.seq) 34
 have H:=Lib.hid (h.later HB)
 clear h
 obtain ⟨d0,d1,d2⟩:=H.out.cs
 have HI:=Lib.hid (Qlh H.out c0 c1 hn)
 obtain ⟨A,cap,rfl,_,hA⟩:=H.out.at_
 have HL:=H.out.len
 rw [HL] at hA d2 HI
 by_cases hh:ZA x.l i<x.l.length
 ·obtain ⟨g,off,rfl,e0⟩:=hA _ hh
  obtain ⟨ev,hev⟩:∃ ev,(es.getD (ZA x.l i) default).ptr=ev:=⟨_,rfl⟩
  rw [hev] at e0
  have HE:Hid ((if Zn x i then (es.getD (ZA x.l i) default).ptr else .pointer none)=ev):=by show _=_;rw [if_pos (by simp [Zn,hh])];exact hev
  obtain ⟨k,hk⟩:∃ k,ZA x.l i=k:=⟨_,rfl⟩
  rw [hk] at e0 hh
  have hkk:Hid (∀ z:Int,VE x.l i z->z=(k:Int)):=fun z hz=>by rw [VE,hk,if_pos hh] at hz;exact hz
  clear hk hA hev
  go_enter Tryz.func144,Tryz.ntmps144
  go_wp2_with (go_at_call 184;(with_reducible refine HI.out.mono ?_);rintro e w1 ⟨z,rfl,hz,hb⟩;replace hz:=hkk.out z hz.out;subst hz;replace d2:=keep hb d2;replace e0:=keep hb e0)
  go_ret
  exact ⟨QfE HE.out,Qa HB hb⟩
 ·have HE:Hid ((if Zn x i then (es.getD (ZA x.l i) default).ptr else .pointer none) = .pointer none):=by show _=_;rw [if_neg (by simp [Zn];omega)]
  have hkk:Hid (∀ z:Int,VE x.l i z->z = -1):=fun z hz=>by rw [VE,if_neg hh] at hz;exact hz
  clear hA hh
  go_enter Tryz.func144,Tryz.ntmps144
  go_wp2_with (go_at_call 184;(with_reducible refine HI.out.mono ?_);rintro e w1 ⟨z,rfl,hz,hb⟩;replace hz:=hkk.out z hz.out;subst hz;replace d2:=keep hb d2)
  go_ret
  exact ⟨QfE HE.out,Qa HB hb⟩
attribute [local go_sem] Oper.semAt_some
theorem Qd6:(Tryz.prog.info? 3).map (fun i=>(i.zero,i.size,i.bytes))=some (some (.int .i64 0),1,8):=by kernel_rfl
set_option maxRecDepth 100000 in
set_option maxHeartbeats 2000000 in
theorem Qhc (F:Fence) (n:Nat) (hA:F.fn 208) (hV:F.fn 191) (hro:F.round=none) (hn:3<=n) (Bs:Nat) (sv:Value) (zs:List Int) (hlen:zs.length<=1000000) (w:World) (hBs:Bs<w.heap.size)
  (hc:w.cell? ⟨Bs,0,none⟩=some sv) (hI:Ju w.heap.size w sv zs) :
  CallsIn F n Tryz.prog 208 #[.slice none 0 0,.func (.func 191) #[] #[.pointer (some ⟨Bs,0,none⟩)]] w fun e W' =>
   ∃ v,e = .returned v/\W'.ownsRow w.heap.size 3 1 v zs.length (zs.map (Value.int .i64))/\Below w.heap.size w W':=by
 have h1:1<=n:=by omega
 have hmx:zs.length<=maxLen:=QA hlen
 obtain ⟨i0,hi,hz0,hz1,hz2⟩:=info_parts Qd6
 refine callsIn_of_wp_marks Tryz.func208 rfl hA ?_ hro
 simp only [Tryz.ntmps208,List.size_toArray,List.length_cons,List.length_nil,Nat.reduceAdd,Nat.reduceSub,Array.replicate_succ,Array.replicate_zero,List.push_toArray,List.append_toArray,List.nil_append,List.cons_append]
 gi_wp2
 have bO:=Boxed.new w 22 (.slice none 0 0)
 have hB0:Below w.heap.size w (w.alloc (.cells #[.slice none 0 0] 22)):=(Below.refl _ w).alloc (Nat.le_refl _) _
 refine wpIn_rangeFunc_ownG hro h1 (gf:=191) (lb:=#[.pointer (some ⟨Bs,0,none⟩)]) rfl hV (enters_of Tryz.func191 (by kernel_rfl) rfl)
  (Qhb F (n-1) hV hro (by omega) Bs w.heap.size sv zs (by omega) _ (by simp;omega) (by simp) ((hB0.cell (p:=⟨Bs,0,none⟩) hBs).trans hc) (hI.below hB0)) belowK_t (belowK_b (by simp)) (Below.refl _ _) (fun _=>rfl)
  (fun pre W=>(∃ v,Boxed W w.heap.size 22 v/\W.ownsRow w.heap.size 3 1 v pre.length (pre.map (Value.int .i64))/\True)/\Below w.heap.size w W)
  (fun _ _ _=>False)
  (OwnFrom.and (Own.from (holdsRow_own w.heap.size w.heap.size 22 3 1 (fun pre:List Int=>pre.length) (fun pre=>pre.map (Value.int .i64)) (fun _ _=>True)) _) (ownFrom_below (Nat.le_refl _) (by simp)))
  (fun _ _ _ _ _ hs _ _=>hs)
  ⟨⟨_,bO,World.ownsRow_nil _ _ _ _,trivial⟩,hB0⟩
  (fun x=>{ tmps:=#[.slice none 0 0,.func (.func 191) #[] #[.pointer (some ⟨Bs,0,none⟩)],.pointer (some ⟨w.heap.size,0,none⟩),undef,.slice none 0 0,.int .i64 x,.func (.func 191) #[] #[.pointer (some ⟨Bs,0,none⟩)],.int .i64 x,undef,undef,undef,undef,undef],defers:=[] }) ?assign ?body ?done ?stop
 case assign =>
  intro l x W K hK
  gi_wp2
  exact hK
 case body =>
  rintro l pre x W ⟨⟨v,hv,hrow,_⟩,hB⟩ hlt
  have hc:=hv.cell
  gi_wp2_with (gi_at_builtin;refine wpListIn_append_own _ rfl _ _ 22 rfl w.heap.size 3 i0 (.int .i64 0) 1 8 Tryz.underlying22 hi hz0 hz1 hz2 rfl (by decide) _ _ _ rfl (hrow.alloc _) ⟨W.heap.size,0,none⟩ 1 1 [.int .i64 x] rfl rfl (cell_one_new _ _ _) (by simp [Value.oneCell']) (by omega) (by omega) (by have:=hB.size;simp;omega) ?_;intro v' w1 hown' hgrow _;obtain ⟨g',cap',rfl⟩:=ownsRow_succ hown';obtain ⟨hv1,hv2,hr2,hk2,hb2⟩:=hv.appended (by decide) hrow hB.size (Nat.le_refl _) hown' hgrow;have hc1:=hv1.cell;have hf1:=hv1.frozen)
  exact ⟨hk2.from _,hb2,⟨_,hv2,by simpa using hr2,trivial⟩,hB.trans hb2⟩
 case done =>
  rintro D ys W hD rfl ⟨⟨v,hv,hrow,_⟩,hB⟩ hK
  have hc:=hv.cell
  gi_wp2
  refine ⟨by simp,.inl ⟨_,_,rfl,run_takeDeferred hK,?_⟩⟩
  exact ⟨_,results_tmp rfl _ _ _,v,rfl,ownsRow_putObj hrow _ hK rfl,hB.trans (belowK_b (w:=w) (Nat.le_refl _) W D _ _ (by simp at hD;omega) hK rfl rfl)⟩
 case stop =>
  rintro D c pre W _ _ h _
  exact h.elim
def JB (w:World) (zs:List Int) (e:Ending) (w':World):Prop:=∃ v,e = .returned v/\w'.ownsRow w.heap.size 3 1 v zs.length (zs.map (Value.int .i64))/\Below w.heap.size w w'
theorem Qgq (Bs:Nat) (sv:Value) (zs:List Int) (hlen:zs.length<=1000000) (w:World) (hBs:Bs<w.heap.size) (hc:w.cell? ⟨Bs,0,none⟩=some sv) (hI:Ju w.heap.size w sv zs) :
  Calls Tryz.prog 208 #[.slice none 0 0,.func (.func 191) #[] #[.pointer (some ⟨Bs,0,none⟩)]] w (JB w zs) :=
 (callsIn_wide (n:=3)).1 (Qhc Fence.wide 3 trivial trivial rfl (Nat.le_refl _) Bs sv zs hlen w hBs hc hI)
theorem Qie (Bs:Nat) (sv:Value) (zs:List Int) (hlen:zs.length<=1000000) (w:World) (hBs:Bs<w.heap.size) (hc:w.cell? ⟨Bs,0,none⟩=some sv) (hI:Ju w.heap.size w sv zs) :
  Calls Tryz.prog 190 #[.func (.func 191) #[] #[.pointer (some ⟨Bs,0,none⟩)]] w (JB w zs):=by
 have HI:=Lib.hid hI
 clear hI
 go_enter Tryz.func190,Tryz.ntmps190
 go_wp2_with (go_at_call 208;refine (Qgq Bs sv zs hlen _ hBs hc HI.out).mono ?_;rintro e w1 ⟨v,rfl,hown,hb⟩)
 go_ret
 exact ⟨v,rfl,hown,hb⟩
theorem QjF (a:Option Addr) (len cap:Nat) (w:World) :
  Calls Tryz.prog 148 #[.slice a len cap] w fun e w'=>e = .returned (.func (.func 191) #[] #[.pointer (some ⟨w.heap.size,0,none⟩)])/\w.alloc (.cells #[.slice a len cap] 22)=w':=by
 go_enter Tryz.func148,Tryz.ntmps148
 go_wp2
 go_ret
 exact ⟨rfl,rfl⟩
theorem QjG (Bs:Nat) (sv:Value) (zs:List Int) (hlen:zs.length<=1000000) (w:World) (hBs:Bs<w.heap.size) (hc:w.cell? ⟨Bs,0,none⟩=some sv) (hI:Ju w.heap.size w sv zs) :
  Calls Tryz.prog 147 #[.func (.func 191) #[] #[.pointer (some ⟨Bs,0,none⟩)]] w (JB w (sorted zs)):=by
 have HI:=Lib.hid hI
 clear hI
 go_enter Tryz.func147,Tryz.ntmps147
 go_wp2_with (first
  | (go_at_call 190;refine (Qie Bs sv zs hlen _ hBs hc HI.out).mono ?_;rintro e w1 ⟨v,rfl,hown,hb⟩)
  | (go_at_call 183;refine (Qg3 _ _ zs _ hown hlen).mono ?_;rintro e w2 ⟨rfl,hown2,hg⟩))
 go_ret
 exact ⟨v,rfl,hown2,QX hb (Nat.le_refl _) hown hg⟩
theorem Uu {a b:Bool} (h:a=b):Ending.returned (.bool b) = .returned (.bool a):=by rw [h]
def Qif (w:World) (bad:Bool) (e:Ending) (w':World):Prop:=∃ z:Int,e = .returned (.int .i64 z)/\decide (0<=z)=bad/\w=w'
def KQ (l:List Int) (g:Int):Bool:=l.contains g
theorem Qhd {l:List Int} {k:Nat} {x:Int} (hk:k<l.length) (h:l.getD k 0=x):l.contains x=true:=by
 rw [List.getD_eq_getElem?_getD,List.getElem?_eq_getElem hk] at h
 simp only [Option.getD_some] at h
 rw [List.contains_iff_mem, <- h]
 exact List.getElem_mem hk
set_option maxRecDepth 100000 in
theorem Qig (l:List Int) (A:Option Addr) (ca:Nat) (g:Int) (w:World) (hA:QV w A l) (hn:l.length<=1000000) :
  Calls Tryz.prog 141 #[.slice A l.length ca,.int .i64 g] w (Qif w (KQ l g)):=by
 go_enter Tryz.func141,Tryz.ntmps141
 go_wp2_with fail
 go_loop [8] (fun i=>∃ k:Nat,k<=l.length/\i = .int .i64 k/\Hid ((l.take k).contains g=false)) (fun i=>l.length-(intOf i).toNat)
 case atStart=>exact ⟨0,Nat.zero_le _,rfl,rfl⟩
 case round =>
  obtain ⟨k,hk,rfl,HA⟩:=hrel
  by_cases hlt:k<l.length
  ·obtain ⟨b,off,x,rfl,d0,HX⟩:=QV.at' hA hlt
   by_cases hx:g=x
   ·have HF:Hid (KQ l g=true):=by show _=_;rw [hx,KQ];exact Qhd hlt HX.out
    have h1:(g == x)=true:=by simp [hx]
    clear hx
    go_wp2
    go_ret
    exact ⟨_,rfl,by rw [HF.out];simp,rfl⟩
   ·have HR:Hid ((l.take (k+1)).contains g=false):=by
     show _=_
     have e:=HX.out
     rw [List.getD_eq_getElem?_getD,List.getElem?_eq_getElem hlt] at e
     simp only [Option.getD_some] at e
     have h0:=HA.out
     rw [List.take_succ_eq_append_getElem hlt,e]
     simp only [List.contains_eq_any_beq,List.any_append,List.any_cons,List.any_nil,Bool.or_false,Bool.or_eq_false_iff] at h0 ⊢
     exact ⟨h0,by simpa using hx⟩
    have h1:(g == x)=false:=by simp [hx]
    clear hx
    go_wp2
    go_round
    case rel=>exact ⟨k+1,by omega,by go_num,HR⟩
    case measure=>simp [intOf];omega
  ·have ek:k=l.length:=by omega
   have HF:Hid (KQ l g=false):=by show _=_;have:=HA.out;rw [ek,List.take_length] at this;rw [KQ];exact this
   clear ek
   go_wp2
   go_ret
   exact ⟨_,rfl,by rw [HF.out];simp,rfl⟩
theorem YD (l:List Int) (A:Option Addr) (ca:Nat) (g:Int) (w:World) (hA:QV w A l) (hn:l.length<=1000000) :
  Calls Tryz.prog 85 #[.slice A l.length ca,.int .i64 g] w fun e w'=>e = .returned (.bool (KQ l g))/\w=w':=by
 go_enter Tryz.func85,Tryz.ntmps85
 go_wp2_with (go_at_call 141;refine (Qig l A ca g _ hA hn).mono ?_;rintro e w1 ⟨z,rfl,hz,rfl⟩;replace hz:=Lib.hid hz)
 go_ret
 exact ⟨Uu hz.out.symm,rfl⟩
set_option maxHeartbeats 2000000 in
set_option maxRecDepth 100000 in
theorem QaC (l:List Int) (b off ca:Nat) (w:World) (hA:QV w (some ⟨b,off,none⟩) l) (hn:l.length<=1000000) :
  Calls Tryz.prog 145 #[.slice (some ⟨b,off,none⟩) l.length ca] w (JB w l):=by
 have q22:∀ (w:World) (a:Option Addr) (n c n' c':Nat),(binOp .eql 22 (.slice a n c) (.slice none n' c')).run Tryz.prog w = .ok (.bool a.isNone) w:=fun w a n c n' c'=>Lib.run_eql_slice_nil w _ _ a n c n' c' Tryz.underlying22
 obtain ⟨i0,hi,hz0,hz1,hz2⟩:=info_parts Qd6
 have HA:=Lib.hid hA
 clear hA
 go_enter Tryz.func145,Tryz.ntmps145
 go_wp2_with (at_builtin;refine wpList_append_own _ rfl _ _ 22 rfl w.heap.size 3 i0 (.int .i64 0) 1 8 Tryz.underlying22 hi hz0 hz1 hz2 rfl (by decide) _ _ _ rfl (World.ownsRow_made w #[] 0 (Nat.le_refl _) (Nat.zero_le _) (by simp)) ⟨b,off,none⟩ l.length ca (l.map (Value.int .i64)) rfl ?qc1 ?qc2 ?qc3 ?qc4 ?qc5 ?qc6 ?_)
 case qc1=>simp
 case qc2 =>
  intro j u hj
  have hj':j<l.length:=by
   have:=(List.getElem?_eq_some_iff.1 hj).1
   simpa using this
  obtain ⟨b',off',e,hc⟩:=HA.out j hj'
  cases e
  rw [Go.WideShapes.add_plain]
  refine (U7 _ hc).trans ?_
  rw [<- hj]
  simp [List.getD_eq_getElem?_getD,hj']
 case qc3=>intro u hu;obtain ⟨x,_,rfl⟩:=List.mem_map.1 hu;rfl
 case qc4=>rw [Nat.zero_add];exact QA hn
 case qc5=>omega
 case qc6=>simp
 intro v' w1 hown hgrow _
 go_wp2
 go_ret
 exact ⟨v',rfl,by simpa using hown,((Below.refl _ w).alloc (Nat.le_refl _) _).grown hgrow (by simp) (by intro k hk;simp [Value.ownBlock] at hk;omega)⟩
theorem Qe3 (l:List Int):(Lib.compact (sorted l)).Pairwise (· < ·)/\∀ x,x ∈ Lib.compact (sorted l) ↔ x ∈ l:=by
 unfold sorted
 have hp:=List.mergeSort_perm l (fun x y=>decide (x<=y))
 have hsrt:(l.mergeSort fun x y=>decide (x<=y)).Pairwise fun x y=>decide (x<=y)=true :=
  List.pairwise_mergeSort (fun a b c h1 h2=>by simp only [decide_eq_true_eq] at *;omega) (fun a b=>by simp only [Bool.or_eq_true,decide_eq_true_eq];omega) l
 generalize l.mergeSort (fun x y=>decide (x<=y))=s at *
 have hs:∀ i j,i<j->j<s.toArray.size->s.toArray[i]! <= s.toArray[j]!:=by
  intro i j hij hj
  have hj':j<s.length:=by simpa using hj
  have:=List.pairwise_iff_getElem.1 hsrt i j (by omega) hj' hij
  simp only [decide_eq_true_eq] at this
  rw [getElem!_pos s.toArray i (by simp;omega),getElem!_pos s.toArray j (by simp;omega)]
  simpa using this
 obtain ⟨h1,h2⟩:=UG s.toArray hs s.length (by simp)
 refine ⟨h1,fun x=>?_⟩
 rw [show Lib.compact s=Lib.compactUpTo s.toArray s.length from rfl,h2, <- hp.mem_iff,List.mem_iff_getElem]
 constructor
 ·rintro ⟨j,hj,e⟩
  rw [getElem!_pos s.toArray j (by simp;omega)] at e
  exact ⟨j,hj,by simpa using e⟩
 ·rintro ⟨j,hj,e⟩
  refine ⟨j,hj,?_⟩
  rw [getElem!_pos s.toArray j (by simp;omega)]
  simpa using e
theorem Qgr {l:List Int} (h:l.Nodup):¬ (Lib.compact (sorted l)).length<l.length:=by
 have:=XS (m:=Lib.compact (sorted l)) h fun x hx=>((Qe3 l).2 x).2 hx
 omega
theorem QmO (a:Option Addr) (len cap:Nat) (w:World) :
  Calls Tryz.prog 148 #[.slice a len cap] w fun e w'=>e = .returned (.func (.func 191) #[] #[.pointer (some ⟨w.heap.size,0,none⟩)])/\Below w.heap.size w w'/\w.heap.size<w'.heap.size/\w'.cell? ⟨w.heap.size,0,none⟩=some (.slice a len cap) :=
 (QjF a len cap w).mono fun _ _ ⟨he,hw⟩=>⟨he,hw ▸ ⟨Qc _ _,by simp,by simp⟩⟩
def Qli (w:World) (zs:List Int) (e:Ending) (w':World):Prop:=∃ A cap,e = .returned (.slice A zs.length cap)/\w'.ownsRow w.heap.size 3 1 (.slice A zs.length cap) zs.length (zs.map (Value.int .i64))/\Below w.heap.size w w'
theorem JB.slice {w:World} {zs:List Int} {e:Ending} {w':World} (h:JB w zs e w'):Qli w zs e w':=by
 obtain ⟨v,rfl,h1,h2⟩:=h
 obtain ⟨A,cap,rfl,_⟩:=KL h1
 exact ⟨A,cap,rfl,h1,h2⟩
def QjH (w:World) (n:Nat) (zs:List Int) (e:Ending) (w':World):Prop:=∃ A cap,e = .returned (.slice A n cap)/\w'.ownsRow w.heap.size 3 1 (.slice A n cap) zs.length (zs.map (Value.int .i64))/\Below w.heap.size w w'
theorem QmP (Bs:Nat) (sv:Value) (zs:List Int) (hlen:zs.length<=1000000) (w:World) (hBs:Bs<w.heap.size) (hc:w.cell? ⟨Bs,0,none⟩=some sv) (hI:Ju w.heap.size w sv zs) :
  Calls Tryz.prog 147 #[.func (.func 191) #[] #[.pointer (some ⟨Bs,0,none⟩)]] w (QjH w zs.length (sorted zs)):=by
 refine (QjG Bs sv zs hlen w hBs hc hI).mono ?_
 rintro e w' h
 obtain ⟨A,cap,rfl,h1,h2⟩:=JB.slice h
 rw [show (sorted zs).length=zs.length from Xi zs] at h1 ⊢
 exact ⟨A,cap,rfl,by rw [Xi];exact h1,h2⟩
def Qih (w:World) (v:Value) (zs:List Int) (e:Ending) (w':World):Prop:=∃ A cap,e = .returned (.slice A zs.length cap)/\w.grownBy w' v.ownBlock
theorem Qlj (base:Nat) (v:Value) (l:List Int) (w:World) (h:w.ownsRow base 3 1 v l.length (l.map (Value.int .i64))) (hl:l.length<=1000000) :
  Calls Tryz.prog 149 #[v] w (Qih w v (Lib.compact l)):=by
 refine (QcT base v l w h hl).mono ?_
 rintro e w' ⟨⟨v',rfl,hown⟩,hg⟩
 obtain ⟨A,cap,rfl,_⟩:=KL hown
 exact ⟨A,cap,rfl,hg⟩
theorem Z4.past_q {w w':World} {B p q mb:Nat} {gv:Value} {o:Qz} {cs:Array Value} {f:Nat × Nat} (h1:Z4 w B p mb gv o) (hq:w.heap[q]? = some (.cells cs 166 f)) (ho:Qg (fun k=>k=q) w w'):Z4 w' B p mb gv o :=
 h1.out ho (fun e2=>UQ h1.blk hq (VD (by decide)) e2) (fun e2=>Jt h1.kn hq e2) (fun g hg e2=>UR h1.gr hq (by decide) hg e2)
theorem Z4.lt {w:World} {B p mb:Nat} {gv:Value} {o:Qz} (h1:Z4 w B p mb gv o):p<w.heap.size/\mb<w.heap.size/\∀ g,gv.ownBlock=some g->g<w.heap.size :=
 ⟨(Array.getElem?_eq_some_iff.1 h1.blk).1,h1.kn.lt,fun g hg=>(h1.gr.lt g hg).2⟩
theorem ZE.grow {w2 w3 w4:World} {B p:Nat} {x:QD} {v v':Value} {es:List QK} {O:Nat->Prop} (h:ZE w2 B p x v es O) (hb:Below w2.heap.size w2 w3) {e:QK} (h1:Z4 w3 B e.p e.mb e.gv e.o)
  (hn:w2.heap.size<=e.p/\w2.heap.size<=e.mb/\∀ g,e.gv.ownBlock=some g->w2.heap.size<=g) (hg:w3.grownBy w4 v.ownBlock) (hr:QC w4 B 191 v' (es.map QK.ptr ++ [e.ptr])) (hv:v'.ownBlock=v.ownBlock \/ ∀ g,v'.ownBlock=some g->w3.heap.size<=g) :
  ZE (w4.setCell ⟨p,2,none⟩ v') B p ⟨x.g,x.clock,x.l ++ [e.o]⟩ v' (es ++ [e]) (ext O w2 (w4.setCell ⟨p,2,none⟩ v'))/\Qg O w2 (w4.setCell ⟨p,2,none⟩ v'):=by
 have hK:=h.later hb
 have ho:Qg (fun k=>v.ownBlock=some k) w3 w4:=Qg.of_grown hg (fun k e=>e)
 have oP:=QQ w4 p 2 v'
 have hb4:=ho.obj hK.blk (fun e=>hK.row.ne hK.blk (by decide) e rfl)
 have hbE:=ZJ (j:=2) v' hb4
 have hs1:=hb.size
 have hs2:=ho.size
 have hs3:(w4.setCell ⟨p,2,none⟩ v').heap.size=w4.heap.size:=by simp [World.setCell]
 have hlt:=h1.lt
 have hold:∀ k,O k->k<w2.heap.size:=fun k hk=>(h.lt k hk).2
 refine ⟨{ blk:=hbE,row:=?_,eq:=?_,one:=?_,np:=?_,nm:=?_,hp:=.inl h.hp,mv:=?_,me:=?_,lt:=?_ },?_⟩
 ·rw [List.map_append]
  exact hr.out oP (fun g hg' e2=>hr.ne hb4 (by decide) hg' e2)
 ·rw [List.map_append,h.eq];rfl
 ·intro e' he'
  rcases List.mem_append.1 he' with he' | he'
  ·exact ((hK.one e' he').past_row hK.row ho).past_q hb4 oP
  ·rw [List.mem_singleton.1 he']
   exact (h1.past_row hK.row ho).past_q hb4 oP
 ·rw [List.map_append,List.nodup_append]
  refine ⟨h.np,by simp,fun a ha b hb'=>?_⟩
  obtain ⟨e',he',rfl⟩:=List.mem_map.1 ha
  simp only [List.map_cons,List.map_nil,List.mem_singleton] at hb'
  have:=hold _ (h.me e' he').1
  omega
 ·rw [List.map_append,List.nodup_append]
  refine ⟨h.nm,by simp,fun a ha b hb'=>?_⟩
  obtain ⟨e',he',rfl⟩:=List.mem_map.1 ha
  simp only [List.map_cons,List.map_nil,List.mem_singleton] at hb'
  have:=hold _ (h.me e' he').2.1
  omega
 ·intro g hg'
  rcases hv with hv | hv
  ·exact .inl (h.mv g (by rw [<- hv];exact hg'))
  ·refine .inr ⟨Nat.le_trans hs1 (hv g hg'),?_⟩
   have:=(hr.lt g hg').2
   omega
 ·intro e' he'
  rcases List.mem_append.1 he' with he' | he'
  ·exact ⟨.inl (h.me e' he').1,.inl (h.me e' he').2.1,fun g hg'=>.inl ((h.me e' he').2.2 g hg')⟩
  ·rw [List.mem_singleton.1 he']
   exact ⟨.inr ⟨hn.1,by omega⟩,.inr ⟨hn.2.1,by omega⟩,fun g hg'=>.inr ⟨hn.2.2 g hg',by have:=hlt.2.2 g hg';omega⟩⟩
 ·intro k hk
  rcases hk with hk | hk
  ·exact ⟨(h.lt k hk).1,by have:=hold k hk;omega⟩
  ·exact ⟨Nat.le_trans h.hB hk.1,hk.2⟩
 ·exact (((Qg.of_below hb).trans' (ho.mono fun k hk=>h.mv k hk)).trans' (oP.mono fun k hk=>by rw [hk];exact h.hp))
theorem Vf {gs:List Int}:∀ {n k:Nat},J8 gs n=true->k<n->(0<=gs.getD k 0/\gs.getD k 0<4)/\(k=0 \/ gs.getD (k-1) 0<gs.getD k 0)
 | 0,_,_,h=>absurd h (by omega)
 | n+1,k,h,hk=>by
  simp only [J8,Bool.and_eq_true,Bool.or_eq_true,decide_eq_true_eq,beq_iff_eq] at h
  by_cases e:k=n
  ·subst e
   exact h.2
  ·exact Vf h.1 (by omega)
set_option maxRecDepth 100000 in
theorem QiK {w:World} {p:Nat} {g:Int} {gs:List Int} {A:Option Addr} {cap:Nat} (c0:w.cell? ⟨p,0,none⟩=some (.int .i64 g)) (hA:QV w A gs) (hn:gs.length<=1000) (h:Yy g gs=true) :
  Calls Tryz.prog 143 #[.pointer (some ⟨p,0,none⟩),.slice A gs.length cap] w fun e w'=>e = .returned (.bool true)/\w=w':=by
 have h':J8 gs gs.length=true/\KQ gs g=true:=by simpa [Yy,KQ] using h
 have HR:=Lib.hid (fun k (hk:k<gs.length)=>Vf h'.1 hk)
 have HC:=Lib.hid (YD gs A cap g w hA (by omega))
 rw [h'.2] at HC
 clear h h'
 go_enter Tryz.func143,Tryz.ntmps143
 go_wp2_with fail
 go_loop [9] (fun i=>∃ k:Nat,k<=gs.length/\i = .int .i64 k) (fun i=>gs.length-(intOf i).toNat)
 case atStart=>exact ⟨0,Nat.zero_le _,rfl⟩
 case round =>
  obtain ⟨k,hk,rfl⟩:=hrel
  by_cases hlt:k<gs.length
  ·obtain ⟨b,off,x,rfl,d0,HX⟩:=QV.at' hA hlt
   have hx:=HR.out k hlt
   rw [HX.out] at hx
   obtain ⟨⟨q1,q2⟩,q3⟩:=hx
   have q1':¬ x<0:=by omega
   have q2':¬ 4<=x:=by omega
   by_cases hz:k=0
   ·subst hz
    clear q3
    rw [Nat.add_zero] at d0
    go_wp2
    go_round
    case rel=>exact ⟨1,by omega,by simp⟩
    case measure=>simp [intOf];omega
   ·have hz':(0:Int)<(k:Int):=by omega
    have ek:((k:Int)-1)=((k-1:Nat):Int):=by omega
    obtain ⟨b',off',y,e',d1,HY⟩:=QV.at' hA (show k-1<gs.length by omega)
    have q4:gs.getD (k-1) 0<x:=q3.resolve_left hz
    rw [HY.out] at q4
    have q4':¬ x<=y:=by omega
    have wk:IntKind.i64.wrap ((k:Int)-1)=((k-1:Nat):Int):=by rw [<- ek];exact IntWalk.i64_in _ (by omega)
    cases e'
    obtain ⟨k1,hk1⟩:∃ k1,k-1=k1:=⟨_,rfl⟩
    rw [hk1] at d1 wk
    have hk1':k1<gs.length:=by omega
    clear q3 hz ek hk1
    go_wp2
    go_round
    case rel=>exact ⟨k+1,by omega,by go_num⟩
    case measure=>simp [intOf];omega
  ·go_wp2_with (go_at_call 85;refine HC.out.mono ?_;rintro e w1 ⟨rfl,rfl⟩)
   go_ret
   exact ⟨rfl,rfl⟩
section
variable {P:Program} {md:Region.Mode} {ops:Array Oper} {Q:Exit->Act->World->Prop}
def UU (md:Region.Mode) (ops:Array Oper):Bool:=(List.range ops.size).all fun i=>((ops[i]?).map fun o=>o.after.all fun e=>!Region.binds md e || decide (e.on<i)).getD true
theorem Qii (h:UU md ops=true) {i:Nat} {o:Oper} (ho:ops[i]? = some o):∀ e ∈ o.after,Region.binds md e=true->e.on<i:=by
 have hi:i<ops.size:=(Array.getElem?_eq_some_iff.1 ho).1
 rw [UU,List.all_eq_true] at h
 have h1:=h i (List.mem_range.2 hi)
 rw [ho] at h1
 simp only [Option.map_some,Option.getD_some,Array.all_eq_true] at h1
 intro e he hb
 obtain ⟨j,hj,rfl⟩:=Array.mem_iff_getElem.1 he
 have h2:=h1 j hj
 rw [hb] at h2
 simpa using h2
theorem QfF (hb:UU md ops=true) {listed:Array Bool} (hr:Region.ready md ops listed=[]):∀ i,i<ops.size->listed.getD i true=true:=by
 intro i
 induction i using Nat.strongRecOn with
 | _ i ih =>
  intro hi
  cases hl:listed.getD i true with
  | true=>rfl
  | false =>
   exfalso
   have ho:ops[i]? = some ops[i]:=Array.getElem?_eq_getElem hi
   have:i ∈ Region.ready md ops listed:=by
    rw [mem_ready]
    refine ⟨hl,_,ho,fun e he hbd=>?_⟩
    have hlt:=Qii hb ho e he hbd
    have h1:=ih e.on hlt (by omega)
    rcases Nat.lt_or_ge e.on listed.size with h' | h'
    ·simp [h'] at h1 ⊢;exact h1
    ·exfalso
     have h2:i<listed.size:=by
      rcases Nat.lt_or_ge i listed.size with h3 | h3
      ·exact h3
      ·simp [Array.getElem?_eq_none h3] at hl
     omega
   rw [hr] at this
   cases this
theorem Qlk {l:List Bool} {i:Nat} (h:l[i]? = some false):(l.set i true).count false+1=l.count false:=by
 induction l generalizing i with
 | nil=>simp at h
 | cons b l ih =>
  cases i with
  | zero=>simp at h;subst h;simp
  | succ i =>
   simp only [List.getElem?_cons_succ] at h
   have:=ih h
   simp only [List.set_cons_succ,List.count_cons]
   omega
theorem QfG {I:Array Bool->Act->World->Prop} (hb:UU md ops=true)
  (hstep:∀ listed a w,I listed a w->∀ i o,ops[i]? = some o->listed.getD i true=false->(∀ e ∈ o.after,Region.binds md e=true->listed.getD e.on false=true)->wpOp P ops Q i (I (listed.setIfInBounds i true)) a w)
  (hdone:∀ listed a w,I listed a w->(∀ i,i<ops.size->listed.getD i true=true)->Q .normal a w) :
  ∀ (fuel:Nat) (listed:Array Bool) (a:Act) (w:World),listed.toList.count false<=fuel->I listed a w->wpAny P md ops Q fuel listed a w
 | 0,listed,a,w,hc,hI=>by
  have hr:Region.ready md ops listed=[]:=by
   cases hr:Region.ready md ops listed with
   | nil=>rfl
   | cons i rs =>
    exfalso
    have h1:=(mem_ready.1 (show i ∈ Region.ready md ops listed by rw [hr];simp)).1
    have h2:false ∈ listed.toList:=by
     rcases Nat.lt_or_ge i listed.size with h' | h'
     ·simp [h'] at h1
      rw [<- h1];simp
     ·simp [Array.getElem?_eq_none h'] at h1
    have:=List.count_pos_iff.2 h2
    omega
  exact ⟨hr,hdone _ _ _ hI (QfF hb hr)⟩
 | fuel+1,listed,a,w,hc,hI=>by
  refine ⟨fun hr=>hdone _ _ _ hI (QfF hb hr),fun i hi=>?_⟩
  obtain ⟨h0,o,ho,hall⟩:=mem_ready.1 hi
  refine wpOp_mono (fun a' w' hI'=>QfG hb hstep hdone fuel _ a' w' ?_ hI') (hstep listed a w hI i o ho h0 hall)
  have h2:listed.toList[i]? = some false:=by
   rcases Nat.lt_or_ge i listed.size with h' | h'
   ·simp [h'] at h0
    simp [h',h0]
   ·simp [Array.getElem?_eq_none h'] at h0
  have:=Qlk h2
  rw [Array.toList_setIfInBounds]
  omega
end
def Qgw (P:Program) (o:Oper) (a:Act) (w:World) (R:Value->World->Prop):Prop:=∀ (K:Act->World->Prop) (Q:Exit->Act->World->Prop),(∀ v w',R v w'->K (a.put o.dst v) w')->Oper.wp P o a w K Q
theorem YI {P:Program} {o:Oper} {a:Act} {w w':World} {v:Value} {R:Value->World->Prop} (h:(execOp a.eval o).run P w = .ok (.value v) w') (hr:R v w'):Qgw P o a w R:=fun K Q hK=>by
 unfold Oper.wp
 rw [h]
 exact hK _ _ hr
theorem Qd7 {P:Program} {o:Oper} {a:Act} {w:World} {f:FuncId} {args:Array Value} {R:Value->World->Prop} (h:(execOp a.eval o).run P w = .ok (.enter f args) w) (hc:Calls P f args w fun e w'=>∃ v,e = .returned v/\R v w'):Qgw P o a w R:=fun K Q hK=>by
 unfold Oper.wp
 rw [h,Oper.upon_enter]
 refine Calls.mono hc ?_
 rintro e w' ⟨v,rfl,hr⟩
 exact hK _ _ hr
theorem Qd8 {P:Program} {o:Oper} {a:Act} {w:World} {x:Operand} {R:Value->World->Prop} (h:o.op = .move x) (hr:R (a.eval x) w):Qgw P o a w R:=YI (by rw [BigFrame.run_move x h]) hr
def JI (ops:Array Oper) (i:Nat):Nat:=((ops[i]?).bind (·.dst)).getD 0
structure Qdm (ops:Array Oper) (G:Nat->Value->World->Nat->Nat->Prop) (a0:Act) (w0:World) (L:Nat->Bool) (lo hi:Nat->Nat) (a:Act) (w:World):Prop where
 size:a.tmps.size=a0.tmps.size
 defers:a.defers=a0.defers
 old:∀ s,(∀ i,i<ops.size->JI ops i ≠ s)->a.tmps.getD s undef=a0.tmps.getD s undef
 bel:Below w0.heap.size w0 w
 has:∀ i,L i=true->i<ops.size->G i (a.tmps.getD (JI ops i) undef) w (lo i) (hi i)/\w0.heap.size<=lo i/\lo i<=hi i/\hi i<=w.heap.size
 apart:∀ i j,L i=true->L j=true->i<ops.size->j<ops.size->i ≠ j->hi i<=lo j \/ hi j<=lo i
def Qhe (ops:Array Oper) (n:Nat):Bool :=
 (List.range ops.size).all fun i=>decide (JI ops i<n) && ((ops[i]?).map fun o=>decide (o.dst=some (JI ops i)) && o.guard.isNone).getD false && (List.range ops.size).all fun j=>decide (i=j) || decide (JI ops i ≠ JI ops j)
theorem QnT {ops:Array Oper} {n:Nat} (h:Qhe ops n=true) {i:Nat} (hi:i<ops.size):JI ops i<n/\(∀ o,ops[i]? = some o->o.dst=some (JI ops i)/\o.guard=none)/\∀ j,j<ops.size->i ≠ j->JI ops i ≠ JI ops j:=by
 rw [Qhe,List.all_eq_true] at h
 have h1:=h i (List.mem_range.2 hi)
 simp only [Bool.and_eq_true,decide_eq_true_eq,List.all_eq_true,List.mem_range,Bool.or_eq_true] at h1
 refine ⟨h1.1.1,fun o ho=>?_,fun j hj hne=>(h1.2 j hj).resolve_left hne⟩
 have h2:=h1.1.2
 rw [ho] at h2
 simp only [Option.map_some,Option.getD_some,Bool.and_eq_true,decide_eq_true_eq,Option.isNone_iff_eq_none] at h2
 exact h2
theorem QbZ {l:Array Bool} {i j:Nat} (h:l.getD i true=false):(l.setIfInBounds i true).getD j true=(if j=i then true else l.getD j true):=by
 have hi:i<l.size:=by
  rcases Nat.lt_or_ge i l.size with h' | h'
  ·exact h'
  ·simp [Array.getElem?_eq_none h'] at h
 by_cases e:j=i
 ·subst e;simp [hi]
 ·rw [if_neg e,Array.getD_eq_getD_getElem?,Array.getD_eq_getD_getElem?,Array.getElem?_setIfInBounds_ne (fun q=>e q.symm)]
set_option maxHeartbeats 1000000 in
theorem Qdn {P:Program} {id:Nat} {ops:Array Oper} {Q:Exit->Act->World->Prop} {a0:Act} {w0:World} (G:Nat->Value->World->Nat->Nat->Prop)
  (hm:P.follows .mixedOrders=true) (hb:UU .any ops=true) (hd:Qhe ops a0.tmps.size=true)
  (hG:∀ i v w w' lo hi,G i v w lo hi->hi<=w.heap.size->Below w.heap.size w w'->G i v w' lo hi)
  (hop:∀ L lo hi a w,Qdm ops G a0 w0 L lo hi a w->∀ i o,ops[i]? = some o->(∀ e ∈ o.after,Region.binds .any e=true->L e.on=true)->Qgw P o a w (fun v w'=>Below w.heap.size w w'/\G i v w' w.heap.size w'.heap.size))
  (hQ:∀ lo hi a w,Qdm ops G a0 w0 (fun _=>true) lo hi a w->Q .normal a w):(Code.region id ops true).wp P Q a0 w0:=by
 refine wp_region_any hm ?_
 refine QfG (I:=fun listed a w=>∃ lo hi,Qdm ops G a0 w0 (fun i=>listed.getD i true) lo hi a w) hb ?_ ?_ _ _ _ _ ?_ ?_
 ·rintro listed a w ⟨lo,hi,M⟩ i o ho hl hdep
  have hi':i<ops.size:=(Array.getElem?_eq_some_iff.1 ho).1
  obtain ⟨hdn,hdo,hdne⟩:=QnT hd hi'
  obtain ⟨ed,eg⟩:=hdo o ho
  have hmk:=hop _ lo hi a w M i o ho (fun e he hbd=>by
   have:=hdep e he hbd
   rcases Nat.lt_or_ge e.on listed.size with h' | h'
   ·simp [h'] at this ⊢;exact this
   ·simp [Array.getElem?_eq_none h'] at this)
  unfold wpOp
  rw [ho]
  simp only
  rw [if_pos (by simp [Region.wanted,eg])]
  left
  refine hmk _ _ fun v w' ⟨hbw,hgv⟩=>?_
  have hs:=hbw.size
  refine ⟨fun j=>if j=i then w.heap.size else lo j,fun j=>if j=i then w'.heap.size else hi j,?_⟩
  have hslot:∀ s,s ≠ JI ops i->(a.put o.dst v).tmps.getD s undef=a.tmps.getD s undef:=fun s hs=>by
   rw [ed]
   simp only [Act.put]
   rw [Array.getD_eq_getD_getElem?,Array.getD_eq_getD_getElem?,Array.getElem?_setIfInBounds_ne (fun q=>hs q.symm)]
  have hself:(a.put o.dst v).tmps.getD (JI ops i) undef=v:=by
   rw [ed]
   simp only [Act.put]
   rw [Array.getD_eq_getD_getElem?,Array.getElem?_setIfInBounds_self_of_lt (by rw [M.size];exact hdn)]
   rfl
  refine { size:=?_,defers:=?_,old:=?_,bel:=Qa M.bel hbw,has:=?_,apart:=?_ }
  ·rw [ed];simp [Act.put,M.size]
  ·rw [ed];simp [Act.put,M.defers]
  ·intro s hs2
   rw [hslot s (fun e=>hs2 i hi' e.symm)]
   exact M.old s hs2
  ·intro j hj hjs
   rw [QbZ hl] at hj
   by_cases e:j=i
   ·subst e
    rw [if_pos rfl,if_pos rfl,hself]
    exact ⟨hgv,M.bel.size,hs,Nat.le_refl _⟩
   ·rw [if_neg e] at hj
    rw [if_neg e,if_neg e,hslot _ (fun q=>hdne j hjs (fun z=>e z.symm) q.symm)]
    obtain ⟨g1,g2,g3,g4⟩:=M.has j hj hjs
    exact ⟨hG _ _ _ _ _ _ g1 g4 hbw,g2,g3,Nat.le_trans g4 hs⟩
  ·intro j k hj hk hjs hks hjk
   rw [QbZ hl] at hj hk
   by_cases e:j=i
   ·by_cases e2:k=i
    ·exact absurd (e.trans e2.symm) hjk
    ·rw [if_neg e2] at hk
     rw [if_pos e,if_pos e,if_neg e2,if_neg e2]
     exact .inr (M.has k hk hks).2.2.2
   ·rw [if_neg e] at hj
    by_cases e2:k=i
    ·rw [if_neg e,if_neg e,if_pos e2,if_pos e2]
     exact .inl (M.has j hj hjs).2.2.2
    ·rw [if_neg e2] at hk
     rw [if_neg e,if_neg e,if_neg e2,if_neg e2]
     exact M.apart j k hj hk hjs hks hjk
 ·rintro listed a w ⟨lo,hi,M⟩ hall
  refine hQ lo hi a w { M with has:=fun i _ his=>M.has i (hall i his) his,apart:=fun i j _ _ his hjs hij=>M.apart i j (hall i his) (hall j hjs) his hjs hij }
 ·simp
 ·refine ⟨fun _=>0,fun _=>0,{ size:=rfl,defers:=rfl,old:=fun _ _=>rfl,bel:=Qb (Below.refl _ _),has:=?_,apart:=?_ }⟩
  ·intro i hi his
   simp [his] at hi
  ·intro i j hi _ his
   simp [his] at hi
def Qll (ops:Array Oper) (s:Nat):Bool:=(List.range ops.size).all fun i=>decide (JI ops i ≠ s)
theorem Qdm.old' {ops:Array Oper} {G:Nat->Value->World->Nat->Nat->Prop} {a0:Act} {w0:World} {L:Nat->Bool} {lo hi:Nat->Nat} {a:Act} {w:World} (M:Qdm ops G a0 w0 L lo hi a w) {s:Nat} (h:Qll ops s=true):a.eval (.tmp s)=a0.tmps.getD s undef:=by
 have:=M.old s fun i hi=>by
  rw [Qll,List.all_eq_true] at h
  exact of_decide_eq_true (h i (List.mem_range.2 hi))
 exact this
theorem Qdm.dep {ops:Array Oper} {G:Nat->Value->World->Nat->Nat->Prop} {a0:Act} {w0:World} {L:Nat->Bool} {lo hi:Nat->Nat} {a:Act} {w:World} (M:Qdm ops G a0 w0 L lo hi a w) {i s:Nat} (hL:L i=true) (hs:JI ops i=s) (hi':i<ops.size) :
  G i (a.eval (.tmp s)) w (lo i) (hi i)/\w0.heap.size<=lo i/\lo i<=hi i/\hi i<=w.heap.size:=by
 subst hs
 exact M.has i hL hi'
theorem Qd9 (a:Tx):Ut a a=true:=by
 have h1:∀ (l:List Rd) (n:Nat),JG l l n=true:=fun l n=>by induction n with
  | zero=>rfl
  | succ n ih=>simp [JG,ih,Qdk]
 have h2:∀ (l:List Wr) (n:Nat),JH l l n=true:=fun l n=>by induction n with
  | zero=>rfl
  | succ n ih=>simp [JH,ih,Qdl]
 simp [Ut,Us,Uq,Ur,h1,h2]
end Go.Proofs.YtcldpmkhpmlcbaaGreatDoor
