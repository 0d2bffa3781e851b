/- part -/
import Derived.Test.YtcldpmkhpmlcbaaGreatDoorJ12
import Derived.Test.YtcldpmkhpmlcbaaGreatDoorJ11
import Derived.Maps.RangeWalk
import Derived.Maps.OwnSet
import Derived.Deep.AppendLies
import Derived.Test.YtcldpmkhpmlcbaaGreatDoorJ9
set_option linter.unusedVariables false
set_option linter.unusedSimpArgs false
namespace Go.Proofs.YtcldpmkhpmlcbaaGreatDoor
open Go.RowKit Go.Shelf Go.Lib Go.Maps
theorem Qhj {w:World} {B p:Nat} {x:QD} {v:Value} {es:List QK} {O:Nat->Prop} (h:ZE w B p x v es O) {i:Qp} {gs:List Int} {b off cap:Nat} (hA:QV w (some ⟨b,off,none⟩) gs) (hn:gs.length<=1000)
  (hi:QbM i=true) (hr:Yy x.g gs=true) (hno:Zn x i=false) (hc:YF<=x.clock) (hlen:x.l.length<900000) :
  Calls Tryz.prog 87 #[.pointer (some ⟨p,0,none⟩),.agg #[.int .i64 i.ses,.int .i64 i.seq],.slice (some ⟨b,off,none⟩) gs.length cap] w
   (VQ w B p (QG x i gs) O (.tuple #[.int .u64 0,.int .i64 7])):=by
 obtain ⟨W,eW,HB,b0,b1⟩:=Y5 w (.int .i64 i.ses) (.int .i64 i.seq) 34
 have H:=Lib.hid (h.later HB)
 have h0:=Lib.hid h
 have hAW:QV W _ gs:=QI.later hA HB
 obtain ⟨c0,c1,c2⟩:=H.out.cs
 have HF:=Lib.hid (show Zn x i=false from hno)
 have hcl:decide ((4611686018427387904:Int)<=(x.clock:Int))=true:=by
  have:4611686018427387904<=x.clock:=hc
  rw [decide_eq_true_iff];omega
 have HR:=Lib.hid hr
 have HQ:Hid (QG x i gs=x):=by
  have:Ys x i gs=7:=by rw [Ys,hi,hr,hno,if_pos hc];simp
  show _=_;rw [QG,this];rfl
 have HI:=Lib.hid (show idB i.ses i.seq=true from hi)
 clear h hr hi hno hc hA
 go_enter Tryz.func87,Tryz.ntmps87
 go_wp2_with (first
  | (go_at_call 82;(with_reducible refine (Qdp HI.out (Kv i.ses i.seq _)).mono ?_);rintro e w1 ⟨rfl,hb1⟩;have d0:=keep hb1 c0;have d1:=keep hb1 c1;have d2:=keep hb1 c2;have H1:=Lib.hid (H.out.later hb1);have hA1:QV w1 _ gs:=QI.later hAW hb1;have e0:=keep hb1 b0;have e1:=keep hb1 b1)
  | (go_at_call 143;(with_reducible refine (QiK d0 hA1 hn HR.out).mono ?_);rintro e w2 ⟨rfl,rfl⟩)
  | (go_at_call 144;(with_reducible refine (Kw H1.out i (by omega)).mono ?_);rintro e w2 ⟨rfl,hb2⟩;rw [HF.out];have f0:=keep hb2 d0;have f1:=keep hb2 d1;have f2:=keep hb2 d2;simp only [Bool.false_eq_true,if_false]))
 go_ret2
 have hb:=Qa HB (Qa hb1 hb2)
 exact ⟨rfl,by rw [HQ.out];exact JZ.stay ⟨_,_,h0.out⟩ hb,Qg.of_below hb⟩
def QmR (w:World) (g:Int) (e:Ending) (w':World):Prop:=∃ p,e = .returned (.pointer (some ⟨p,0,none⟩))/\JZ w' w.heap.size p (q0 g) (fun k=>w.heap.size<=k/\k<w'.heap.size)/\Below w.heap.size w w'
theorem QjL {w:World} {g:Int} (h0:0<=g) (h4:g<4):Calls Tryz.prog 38 #[.int .i64 g] w (QmR w g):=by
 have q1:¬ g<0:=by omega
 have q2:¬ (4:Int)<=g:=by omega
 go_enter Tryz.func38,Tryz.ntmps38
 go_wp2
 go_ret
 refine ⟨w.heap.size,rfl,⟨.slice none 0 0,[],?_⟩,Qc _ _⟩
 exact { blk:=heap_alloc_new w _,row:=QC.nil _ _ _,eq:=rfl,one:=fun e he=>(by cases he),np:=List.Pairwise.nil,nm:=List.Pairwise.nil,hp:=⟨Nat.le_refl _,by simp⟩,mv:=fun g hg=>(by cases hg),me:=fun e he=>(by cases he),lt:=fun k hk=>hk }
theorem J0 {H:Type} {P:Program} {e:TypeId} (he:P.underlying e=some .bool) {v:Value} {z:DataW H × List MemPlace} (h:plainElem P e v=some z):∃ a,v = .bool a/\z=(.lit (.bool a),[]):=by
 unfold plainElem at h
 rw [he] at h
 cases v <;> simp at h
 exact ⟨_,rfl,h.symm⟩
theorem Xn {H:Type} {P:Program} (w:World) {ops:Array Oper} {rest:List Oper} {o:Oper} {a:Act} {Q:Exit->Act->World->Prop} (hg:o.guard=none) (m x:Operand) (t:TypeId) (hop:o.op=Op.lookup t m x true)
  (k e:TypeId) (K:Keyed P k) (ht:P.underlying t=some (.map k e)) (he:P.underlying e=some .bool) (hz:(zeroValue e).run P w = .ok (.bool false) w) (b n:Nat) (D:DataW H)
  (hm:a.eval m = .map (some b)) (hown:w.ownsMap P k (plainElem P e) b n D) (key:Value) (kl:Lit) (hx:a.eval x=key) (hkey:keyOf P k key=some kl) (V O:Bool)
  (hV:∀ c:Bool,D.atKey kl (.lit (.bool false)) = .lit (.bool c)->c=V) (hO:Maps.has D kl=O)
  (hK:wpList P ops Q rest (a.put o.dst (.tuple #[.bool V,.bool O])) w) :
  wpList P ops Q (o :: rest) a w :=
 wpList_lookup_own_ok w hg m x t hop k e K ht (plainElem P e) hz (.lit (.bool false)) [] (plainElem_bool he false) b n D hm hown key kl hx hkey (fun v ps hv=>by
  obtain ⟨c,rfl,hc⟩:=J0 he hv
  rw [hO,hV c (congrArg Prod.fst hc)]
  exact hK)
def J1 (D:DataW Unit) (v:Int × Bool):DataW Unit:=D.put (.int .i64 v.1) (.lit (.bool v.2))
def Xz (vs:List (Int × Bool)):DataW Unit:=vs.foldl J1 (.map [])
theorem QjM (vs:List (Int × Bool)) (g:Int) (y:Bool):Xz (vs ++ [(g,y)])=(Xz vs).put (.int .i64 g) (.lit (.bool y)):=by
 simp [Xz,J1,List.foldl_append]
theorem QfI (g:Int):∀ (vs:List (Int × Bool)) (D:DataW Unit),IsMap D->Maps.has (vs.foldl J1 D) (.int .i64 g)=(Maps.has D (.int .i64 g) || QU vs g)
 | [],D,_=>by simp [QU]
 | v :: vs,D,hD=>by
  rw [List.foldl_cons,QfI g vs (J1 D v) (hD.put _ _)]
  by_cases e:v.1=g
  ·have:Maps.has (J1 D v) (.int .i64 g)=true:=by rw [J1,e];exact has_put_same (k:=.int .i64 g) hD trivial _
   rw [this]
   simp [QU,e]
  ·have:Maps.has (J1 D v) (.int .i64 g)=Maps.has D (.int .i64 g):=has_put_other (fun h=>e (by injection h with _ h;exact h.symm)) _
   have e':(v.1 == g)=false:=by simp [e]
   rw [this]
   simp only [QU,List.any_cons,e',Bool.false_or]
theorem Qaj (vs:List (Int × Bool)) (g:Int):Maps.has (Xz vs) (.int .i64 g)=QU vs g:=by
 rw [Xz,QfI g vs _ isMap_empty];simp [Maps.has]
theorem Qhk (g:Int) (z:DataW Unit):∀ (vs:List (Int × Bool)) (D:DataW Unit),IsMap D->(vs.map (·.1)).Nodup->(vs.foldl J1 D).atKey (.int .i64 g) z=if QU vs g then .lit (.bool (Zh vs g)) else D.atKey (.int .i64 g) z
 | [],D,_,_=>by simp [QU]
 | v :: vs,D,hD,hn=>by
  simp only [List.map_cons,List.nodup_cons] at hn
  rw [List.foldl_cons,Qhk g z vs (J1 D v) (hD.put _ _) hn.2]
  by_cases e:v.1=g
  ·have h1:QU vs g=false:=by
    cases h:QU vs g
    ·rfl
    ·exact absurd (e ▸ KP.1 h) hn.1
   have h2:(J1 D v).atKey (.int .i64 g) z = .lit (.bool v.2):=by rw [J1,e];exact atKey_put_same (k:=.int .i64 g) hD trivial _ _
   rw [h1,h2]
   simp [QU,Zh,e]
  ·have h2:(J1 D v).atKey (.int .i64 g) z=D.atKey (.int .i64 g) z:=atKey_put_other (fun h=>e (by injection h with _ h;exact h.symm)) _ _
   rw [h2]
   have e':(v.1 == g)=false:=by simp [e]
   have e2:Zh (v :: vs) g=Zh vs g:=by simp only [Zh,List.find?_cons,e']
   have e3:QU (v :: vs) g=QU vs g:=by simp only [QU,List.any_cons,e',Bool.false_or]
   rw [e2,e3]
theorem Qhl {vs:List (Int × Bool)} (hn:(vs.map (·.1)).Nodup) (g:Int) (z:DataW Unit):(Xz vs).atKey (.int .i64 g) z=if QU vs g then .lit (.bool (Zh vs g)) else z:=by
 rw [Xz,Qhk g z vs _ isMap_empty hn]
 simp [DataW.atKey]
theorem QaD {vs:List (Int × Bool)} (hn:(vs.map (·.1)).Nodup) (g:Int) (c:Bool) (h:(Xz vs).atKey (.int .i64 g) (.lit (.bool false)) = .lit (.bool c)):c=Zh vs g:=by
 rw [Qhl hn] at h
 by_cases hh:QU vs g=true
 ·rw [if_pos hh] at h
  injection h with h
  injection h with h
  exact h.symm
 ·rw [if_neg hh] at h
  injection h with h
  injection h with h
  subst h
  have:vs.find? (fun v=>v.1 == g)=none:=by
   rw [List.find?_eq_none]
   intro x hx hc
   exact hh (List.any_eq_true.2 ⟨x,hx,hc⟩)
  simp [Zh,this]
theorem Qee:∀ (vs:List (Int × Bool)) (D:DataW Unit),Tidy D->(vs.map (·.1)).Nodup->(∀ v ∈ vs,Maps.has D (.int .i64 v.1)=false)->Maps.size (vs.foldl J1 D)=Maps.size D+vs.length
 | [],D,_,_,_=>by simp
 | v :: vs,D,hD,hn,hh=>by
  simp only [List.map_cons,List.nodup_cons] at hn
  rw [List.foldl_cons,Qee vs (J1 D v) (hD.put (k:=.int .i64 v.1) trivial _) hn.2 (fun u hu=>by
   have hne:(Lit.int .i64 u.1) ≠ .int .i64 v.1:=fun h=>hn.1 (by injection h with _ h;exact List.mem_map.2 ⟨u,hu,h⟩)
   rw [J1,has_put_other hne]
   exact hh u (List.mem_cons_of_mem _ hu))]
  have h0:=hh v List.mem_cons_self
  have h1:Maps.size (J1 D v)=Maps.size D+1:=by rw [J1,size_put hD,h0];rfl
  rw [h1,List.length_cons]
  omega
theorem Qef {vs:List (Int × Bool)} (hn:(vs.map (·.1)).Nodup):Maps.size (Xz vs)=vs.length:=by
 rw [Xz,Qee vs _ tidy_empty hn (fun v _=>by simp [Maps.has])]
 simp [Maps.size]
structure YX (w:World) (base p g b cap:Nat) (gs:List Int) (vs:List (Int × Bool)):Prop where
 c0:w.cell? ⟨p,0,none⟩=some (.slice (some ⟨g,0,none⟩) gs.length cap)
 c1:w.cell? ⟨p,1,none⟩=some (.map (some b))
 ints:QV w (some ⟨g,0,none⟩) gs
 own:w.ownsMap Tryz.prog 3 (plainElem (H:=Unit) Tryz.prog 4) b vs.length (Xz vs)
 hp:base<=p
 hg:base<=g
 hb:base<=b
 n1:b ≠ p
 n2:b ≠ g
theorem YX.grown {w w':World} {base p g b cap:Nat} {gs:List Int} {vs:List (Int × Bool)} {row:Option Nat} (h:YX w base p g b cap gs vs) (hg:w.grownBy w' row) (h1:some p ≠ row) (h2:some g ≠ row) (h3:some b ≠ row):YX w' base p g b cap gs vs:=by
 refine ⟨hg.cell h.c0 h1,hg.cell h.c1 h1,fun i hi=>?_,h.own.kept hg h3,h.hp,h.hg,h.hb,h.n1,h.n2⟩
 obtain ⟨b',off,e,hc⟩:=h.ints i hi
 cases e
 exact ⟨_,_,rfl,hg.cell hc h2⟩
theorem Qe4 {w w':World} (h:Below w.heap.size w w'):w.grownBy w' none:=⟨h.os,h.tape,h.output,h.size,fun i hi _=>h.block i hi⟩
theorem YX.later {w w':World} {base p g b cap:Nat} {gs:List Int} {vs:List (Int × Bool)} (h:YX w base p g b cap gs vs) (hb:Below w.heap.size w w'):YX w' base p g b cap gs vs :=
 h.grown (Qe4 hb) (by simp) (by simp) (by simp)
theorem YX.put {w w':World} {base p g b cap:Nat} {gs:List Int} {vs:List (Int × Bool)} {x:Int} {y:Bool} (h:YX w base p g b cap gs vs) (hg:w.grownBy w' (some b))
  (ho:w'.ownsMap Tryz.prog 3 (plainElem (H:=Unit) Tryz.prog 4) b (vs.length+1) ((Xz vs).put (.int .i64 x) (.lit (.bool y)))):YX w' base p g b cap gs (vs ++ [(x,y)]):=by
 have n1:some p ≠ some b:=fun e=>h.n1 (by cases e;rfl)
 have n2:some g ≠ some b:=fun e=>h.n2 (by cases e;rfl)
 refine ⟨hg.cell h.c0 n1,hg.cell h.c1 n1,fun i hi=>?_,?_,h.hp,h.hg,h.hb,h.n1,h.n2⟩
 ·obtain ⟨b',off,e,hc⟩:=h.ints i hi
  cases e
  exact ⟨_,_,rfl,hg.cell hc n2⟩
 ·rw [QjM,List.length_append]
  exact ho
def QiO (w:World) (gs:List Int) (e:Ending) (w':World):Prop:=∃ p g b cap,e = .returned (.pointer (some ⟨p,0,none⟩))/\YX w' w.heap.size p g b cap gs []/\Below w.heap.size w w'
set_option maxRecDepth 100000 in
set_option maxHeartbeats 1000000 in
theorem QoA (gs:List Int) (b off ca:Nat) (w:World) (hA:QV w (some ⟨b,off,none⟩) gs) (hn:gs.length<=1000000) (h0:0<gs.length) (hd:gs.Nodup) :
  Calls Tryz.prog 88 #[.slice (some ⟨b,off,none⟩) gs.length ca] w (QiO w gs):=by
 have q0:((gs.length:Int) == 0)=false:=by rw [beq_eq_false_iff_ne];omega
 have q1:decide ((Lib.compact (sorted gs)).length<gs.length)=false:=decide_eq_false (Qgr hd)
 have hmm:=@run_makeMap Tryz.prog
 clear hd
 go_enter Tryz.func88,Tryz.ntmps88
 go_wp2_with (first
  | (go_at_call 148;refine (QmO _ _ _ _).mono ?_;rintro e w1 ⟨rfl,HB,hs,hc⟩)
  | (go_at_call 147;refine (QmP w.heap.size (.slice (some ⟨b,off,none⟩) gs.length ca) gs hn _ hs hc (Ju.of (QI.later hA HB))).mono ?_;rintro e w2 ⟨A2,c2,rfl,hown,hb⟩)
  | (go_at_call 149;refine (Qlj _ _ (sorted gs) _ (by rw [Xi];rw [Xi] at hown;exact hown) (by rw [Xi];exact hn)).mono ?_;rintro e w3 ⟨A3,c3,rfl,hg⟩;have HB3:=Qa HB (QX hb (Nat.le_refl _) hown hg))
  | (go_at_call 145;refine (QaC gs b off ca _ (QI.later hA HB3) hn).mono ?_;rintro e w4 h4;obtain ⟨A4,c4,rfl,hown4,hb4⟩:=JB.slice h4))
 obtain ⟨g,cap,e4,_⟩:=World.ownsRow.form hown4 h0
 cases e4
 have HB4:=Qa HB3 hb4
 have hge:w3.heap.size<=g:=QkC hown4 g rfl
 have hlt:g<w4.heap.size:=(hown4.lt g rfl).2
 have hsz3:=HB3.size
 have hsz4:=hb4.size
 obtain ⟨A5,cap5,e5,_,hI5⟩:=KL hown4
 cases e5
 go_ret
 refine ⟨w4.heap.size+1,g,w4.heap.size,c4,rfl,?_,?_⟩
 ·have hI6:QV ((w4.alloc (.map #[] 0)).alloc (.cells #[.slice (some ⟨g,0,none⟩) gs.length c4,.map (some w4.heap.size)] 239)) (some ⟨g,0,none⟩) gs:=QI.later (QI.later hI5 (Qc _ _)) (Qc _ _)
  refine ⟨by simp [go_sem],by simp [go_sem],hI6,((World.ownsMap_made w4 _ _ _).alloc _),by omega,by omega,by omega,by omega,by omega⟩
 ·exact Qa HB4 (ZL _ _ _)
theorem Qe5:Keyed Tryz.prog 3:=int_keyed Tryz.underlying3
theorem QjN (w:World):(zeroValue 4).run Tryz.prog w = .ok (.bool false) w:=by kernel_rfl
set_option maxRecDepth 100000 in
theorem QfJ {base p g b cap:Nat} {gs:List Int} {vs:List (Int × Bool)} (x:Int) (hx0:-9223372036854775808<=x) (hx1:x<=9223372036854775807) (w:World) (h:YX w base p g b cap gs vs) (ht:Yh gs vs) :
  Calls Tryz.prog 92 #[.pointer (some ⟨p,0,none⟩),.int .i64 x] w fun e w'=>e = .returned (.tuple #[.bool (Zh vs x),.bool (QU vs x)])/\Below w.heap.size w w':=by
 have c1:=h.c1
 have hown:=h.own
 go_enter Tryz.func92,Tryz.ntmps92
 go_wp2_with (at_lookup;refine Xn _ rfl _ _ 237 rfl 3 4 Qe5 Tryz.underlying237 Tryz.underlying4 (QjN _) b _ _ rfl hown _ _ rfl (keyOf_int_mk Tryz.underlying3 (WalkArith.wf_i64 ⟨hx0,hx1⟩)) (Zh vs x) (QU vs x) (fun c hc=>QaD ht.keys x c hc) (Qaj vs x) ?_)
 go_ret2
 exact ⟨rfl,Below.refl _ _⟩
def QiP (w:World) (base p g b cap:Nat) (gs:List Int) (vs:List (Int × Bool)) (x:Int) (y:Bool) (e:Ending) (w':World):Prop :=
 e = .returned (.bool (X3 gs vs x))/\YX w' base p g b cap gs (ZS gs vs x y)/\w.grownBy w' (some b)
theorem QiQ {gs:List Int} {vs:List (Int × Bool)} {x:Int} {y:Bool} (h:X3 gs vs x=false):ZS gs vs x y=vs:=by simp [ZS,h]
set_option maxRecDepth 100000 in
set_option maxHeartbeats 1000000 in
theorem Qe6 {base p g b cap:Nat} {gs:List Int} {vs:List (Int × Bool)} (x:Int) (y:Bool) (hx0:-9223372036854775808<=x) (hx1:x<=9223372036854775807) (hn:gs.length<=1000000) (w:World) (h:YX w base p g b cap gs vs) (ht:Yh gs vs) :
  Calls Tryz.prog 90 #[.pointer (some ⟨p,0,none⟩),.int .i64 x,.bool y] w (QiP w base p g b cap gs vs x y):=by
 have c0:=h.c0
 have c1:=h.c1
 have hI:=h.ints
 have hown:=h.own
 have hle:=ht.le
 cases hg:KQ gs x
 ·have HM:=Lib.hid (show X3 gs vs x=false by rw [X3,show gs.contains x=false from hg];rfl)
  go_enter Tryz.func90,Tryz.ntmps90
  go_wp2_with (go_at_call 85;refine (YD gs _ cap x _ hI hn).mono ?_;rintro e w1 ⟨rfl,rfl⟩)
  go_ret
  exact ⟨Uu HM.out,by rw [QiQ HM.out];exact h,World.grownBy.refl _ _⟩
 ·cases hv:QU vs x
  ·have hm:X3 gs vs x=true:=by rw [X3,show gs.contains x=true from hg,hv];rfl
   have HM:=Lib.hid hm
   have HV:=Lib.hid (show ZS gs vs x y=vs ++ [(x,y)] by simp [ZS,hm])
   have HH:=Lib.hid hv
   clear hm hv
   go_enter Tryz.func90,Tryz.ntmps90
   go_wp2_with (first
    | (go_at_call 85;refine (YD gs _ cap x _ hI hn).mono ?_;rintro e w1 ⟨rfl,rfl⟩)
    | (at_lookup;refine Xn _ rfl _ _ 237 rfl 3 4 Qe5 Tryz.underlying237 Tryz.underlying4 (QjN _) b _ _ rfl (by first | exact hown | exact hown.alloc _) _ _ rfl (keyOf_int_mk Tryz.underlying3 (WalkArith.wf_i64 ⟨hx0,hx1⟩)) (Zh vs x) false (fun c hc=>QaD ht.keys x c hc) ((Qaj vs x).trans HH.out) ?_)
    | (at_mapUpdate;refine wpList_mapUpdate_own _ rfl _ _ _ 237 rfl 3 4 Qe5 Tryz.underlying237 _ b _ _ rfl (by first | exact hown | exact hown.alloc _) (by unfold maxLen;omega) _ _ _ rfl rfl (keyOf_int_mk Tryz.underlying3 (WalkArith.wf_i64 ⟨hx0,hx1⟩)) _ [] (plainElem_bool Tryz.underlying4 y) ?_;intro w2 hown2 hgr2))
   go_ret
   exact ⟨Uu HM.out,by rw [HV.out];exact h.put hgr2 hown2,hgr2⟩
  ·have HM:=Lib.hid (show X3 gs vs x=false by simp [X3,hv])
   have HH:=Lib.hid hv
   clear hv
   go_enter Tryz.func90,Tryz.ntmps90
   go_wp2_with (first
    | (go_at_call 85;refine (YD gs _ cap x _ hI hn).mono ?_;rintro e w1 ⟨rfl,rfl⟩)
    | (at_lookup;refine Xn _ rfl _ _ 237 rfl 3 4 Qe5 Tryz.underlying237 Tryz.underlying4 (QjN _) b _ _ rfl (by first | exact hown | exact hown.alloc _) _ _ rfl (keyOf_int_mk Tryz.underlying3 (WalkArith.wf_i64 ⟨hx0,hx1⟩)) (Zh vs x) true (fun c hc=>QaD ht.keys x c hc) ((Qaj vs x).trans HH.out) ?_))
   go_ret
   exact ⟨Uu HM.out,by rw [QiQ HM.out];exact h,World.grownBy.refl _ _⟩
def Ke (vs:List (Int × Bool)) (left:Lit->Bool):Prop:=∀ v ∈ vs,left (.int .i64 v.1)=false->v.2=true
theorem Ke.start (vs:List (Int × Bool)):Ke vs (Maps.has (Xz vs)):=fun v hv h=>by
 rw [Qaj,KP.2 (List.mem_map.2 ⟨v,hv,rfl⟩)] at h
 cases h
theorem Qhm {vs:List (Int × Bool)} (hn:(vs.map (·.1)).Nodup) {x:Int} {c:Bool} (h:∀ zd,(Xz vs).atKey (.int .i64 x) zd = .lit (.bool c)):∃ v ∈ vs,v.1=x/\v.2=c:=by
 have h1:=h .nil
 rw [Qhl hn] at h1
 by_cases hh:QU vs x=true
 ·obtain ⟨v,hv,rfl⟩:=List.mem_map.1 (KP.1 hh)
  rw [if_pos hh] at h1
  injection h1 with h1
  injection h1 with h1
  exact ⟨v,hv,rfl,by rw [<- KD hn hv];exact h1⟩
 ·rw [if_neg hh] at h1
  cases h1
theorem Ke.step {vs:List (Int × Bool)} (hn:(vs.map (·.1)).Nodup) {left:Lit->Bool} (hg:Ke vs left) {x:Int} (h:∀ zd,(Xz vs).atKey (.int .i64 x) zd = .lit (.bool true)):Ke vs (fun z=>left z && !z.sameKey (.int .i64 x)):=fun v hv hl=>by
 by_cases e:v.1=x
 ·obtain ⟨u,hu,hu1,hu2⟩:=Qhm hn h
  have h1:=KD hn hv
  have h2:=KD hn hu
  rw [<- h1,e, <- hu1,h2]
  exact hu2
 ·refine hg v hv ?_
  have:(Lit.int .i64 v.1).sameKey (.int .i64 x)=false:=sameKey_ne (fun h=>e (by injection h))
  simpa [this] using hl
theorem Ke.end {vs:List (Int × Bool)} {left:Lit->Bool} (hg:Ke vs left) (hl:∀ kl,left kl=false):VM vs=false:=by
 rw [VM,List.any_eq_false]
 intro v hv
 rw [hg v hv (hl _)]
 simp
def QcC (w:World) (n:Nat) (vs:List (Int × Bool)) (e:Ending) (w':World):Prop:=e = .returned (.tuple #[.bool (Zk n vs),.bool (Yd n vs)])/\Below w.heap.size w w'
theorem Qe7 {w w':World} {n:Nat} {vs:List (Int × Bool)} {a b:Bool} (ha:Zk n vs=a) (hb:Yd n vs=b) (h:Below w.heap.size w w'):QcC w n vs (.returned (.tuple #[.bool a,.bool b])) w':=by
 rw [<- ha, <- hb];exact ⟨rfl,h⟩
set_option maxRecDepth 100000 in
set_option maxHeartbeats 1000000 in
theorem Qio {base p g b cap:Nat} {gs:List Int} {vs:List (Int × Bool)} (w:World) (h:YX w base p g b cap gs vs) (ht:Yh gs vs) :
  Calls Tryz.prog 96 #[.pointer (some ⟨p,0,none⟩)] w (QcC w gs.length vs):=by
 have c0:=h.c0
 have c1:=h.c1
 have hown:=h.own
 have hle:=ht.le
 have HT:=Lib.hid ht.keys
 go_enter Tryz.func96,Tryz.ntmps96
 go_wp2_with (at_range;refine wpList_range_own _ rfl _ 237 rfl 3 4 Qe5 Tryz.underlying237 _ b _ _ rfl hown ?_;intro w0 hrg0 hg0 hs0)
 go_frame
 go_loopw [5] (fun _ wr=>∃ (left:Lit->Bool) (cnt:Nat),wr.ranges Tryz.prog 3 (plainElem (H:=Unit) Tryz.prog 4) b w.heap.size vs.length (Xz vs) left cnt/\Ke vs left/\Below w.heap.size w wr) (fun _ wr=>wr.rangeLeft b w.heap.size)
 case atStart=>exact ⟨_,_,hrg0,Ke.start vs,(Below.refl _ w).grown hg0 (Nat.le_refl _) (fun k e=>by cases e)⟩
 case round =>
  obtain ⟨left,cnt,hrg,hgone,hw⟩:=hrel
  have HG:=Lib.hid hgone
  clear hgone
  have c0:=keep hw c0
  have c1:=keep hw c1
  go_wp2_with (at_next;refine wpList_next_ranges _ rfl _ rfl 3 Qe5 (plainElem (H:=Unit) Tryz.prog 4) (fun x:Int=>.int .i64 x) (fun c:Bool=>.bool c) (fun key kl hk=>by obtain ⟨x,hx,_⟩:=Maps.keyOf_int_inv Tryz.underlying3 hk;exact ⟨x,hx⟩) (fun v y hv=>by obtain ⟨c,hc,_⟩:=J0 Tryz.underlying4 hv;exact ⟨c,hc⟩) b w.heap.size _ _ _ _ rfl hrg ?_ ?_)
  ·intro _ hl0
   have HN:=Lib.hid (HG.out.end hl0)
   have hown2:=hrg.owns
   clear hl0
   by_cases hall:vs.length=gs.length
   ·have HK:Hid (Yd gs.length vs=true):=by show _=_;rw [Yd,HN.out,hall];simp
    have HY:Hid (Zk gs.length vs=true):=by show _=_;rw [Zk,HN.out,hall];simp
    have q:((vs.length:Int) == (gs.length:Int))=true:=by rw [beq_iff_eq];omega
    have HS:=Lib.hid (Qef HT.out)
    clear hall
    have hlen:∀ nq ty,(Builtin.len_ #[237] ty #[.map (some b)]).run Tryz.prog (wr.drewN nq) = .ok (.int .i64 (vs.length:Int)) (wr.drewN nq):=fun nq ty=>by
     have:=World.ownsMap.len (show (wr.drewN nq).ownsMap Tryz.prog 3 (plainElem (H:=Unit) Tryz.prog 4) b vs.length (Xz vs) from hown2) Tryz.underlying237 ty
     rw [HS.out] at this
     exact this
    go_wp2
    go_quiet (fail)
    go_wp2
    go_ret2
    exact Qe7 HY.out HK.out (Qj hw _)
   ·have HK:Hid (Yd gs.length vs=false):=by show _=_;rw [Yd,HN.out];simp [hall]
    have HY:Hid (Zk gs.length vs=false):=by show _=_;rw [Zk,HN.out];simp [hall]
    have q:((vs.length:Int) == (gs.length:Int))=false:=by rw [beq_eq_false_iff_ne];omega
    have HS:=Lib.hid (Qef HT.out)
    clear hall
    have hlen:∀ nq ty,(Builtin.len_ #[237] ty #[.map (some b)]).run Tryz.prog (wr.drewN nq) = .ok (.int .i64 (vs.length:Int)) (wr.drewN nq):=fun nq ty=>by
     have:=World.ownsMap.len (show (wr.drewN nq).ownsMap Tryz.prog 3 (plainElem (H:=Unit) Tryz.prog 4) b vs.length (Xz vs) from hown2) Tryz.underlying237 ty
     rw [HS.out] at this
     exact this
    go_wp2
    go_quiet (fail)
    go_wp2
    go_ret2
    exact Qe7 HY.out HK.out (Qj hw _)
  ·intro x
   refine ⟨?_,?_⟩
   all_goals
    intro kl y1 y2 w1 cnt1 hkey hlk hv hat hrg1 hlt hg1 hs1 hen
    have hw1:Below w.heap.size w w1:=hw.grown hg1 hw.size (fun k e=>by cases e;exact Nat.le_refl _)
    obtain ⟨x',ex,rfl,_⟩:=Maps.keyOf_int_inv Tryz.underlying3 hkey
    obtain rfl:x=x':=by injection ex
    obtain ⟨c',ec,hc'⟩:=J0 Tryz.underlying4 hv
    injection ec with ec
    injection hc' with hc' _
    subst ec hc'
    have HAT:=Lib.hid hat
    clear hat hkey hv ex hs1 hlk
   ·have HN:Hid (VM vs=true):=by
     obtain ⟨v,hv,_,h2⟩:=Qhm HT.out HAT.out
     exact List.any_eq_true.2 ⟨v,hv,by rw [h2];rfl⟩
    go_wp2
    go_ret2
    exact Qe7 (by rw [Zk,HN.out];rfl) (by rw [Yd,HN.out];rfl) hw1
   ·have HG2:=Lib.hid (HG.out.step HT.out HAT.out)
    go_wp2
    go_roundw
    case rel=>exact ⟨_,cnt1,hrg1,HG2.out,hw1⟩
    case measure=>rw [hrg1.left_eq,hrg.left_eq];exact hlt
inductive QL where
 | no | m | q | s | mw | md | ms | mv | at_ | log | out | one (i:Qp)
deriving DecidableEq
def relab (lab:Nat->QL) (w w':World) (l:QL):Nat->QL:=fun k=>if w.heap.size<=k/\k<w'.heap.size then l else lab k
theorem Qdr {lab:Nat->QL} {w w':World} {l:QL} (h:∀ k,lab k ≠ .no->k<w.heap.size) (hl:l ≠ .no):(fun k=>relab lab w w' l k=l)=ext (fun k=>lab k=l) w w':=by
 funext k
 apply propext
 unfold relab ext
 by_cases hk:w.heap.size<=k/\k<w'.heap.size
 ·simp [hk]
 ·rw [if_neg hk]
  exact ⟨fun e=>.inl e,fun e=>e.elim id (fun e=>absurd e hk)⟩
theorem UY {lab:Nat->QL} {w w':World} {l l':QL} (h:∀ k,lab k ≠ .no->k<w.heap.size) (hl:l ≠ l') (hl':l' ≠ .no):(fun k=>relab lab w w' l k=l')=(fun k=>lab k=l'):=by
 funext k
 apply propext
 unfold relab
 by_cases hk:w.heap.size<=k/\k<w'.heap.size
 ·rw [if_pos hk]
  refine ⟨fun e=>absurd e hl,fun e=>?_⟩
  have:=h k (by rw [e];exact hl')
  omega
 ·rw [if_neg hk]
theorem J2 {w w':World} {A:Option Addr} {n:Nat} {f:Nat->Value} {O:Nat->Prop} (h:QI w A n f) (ho:Qg O w w') (hA:∀ a,A=some a->¬ O a.block):QI w' A n f:=fun i hi=>by
 obtain ⟨b,off,e,hc⟩:=h i hi
 exact ⟨b,off,e,ho.cell hc (hA ⟨b,off,none⟩ e)⟩
theorem Qeg {w w':World} {A:Option Addr} {n:Nat} {f:Nat->Value} {O:Nat->Prop} (h:QI w A n f) (ho:Qg O w w') (hA:∀ a,A=some a->0<n->¬ O a.block):QI w' A n f:=fun i hi=>by
 obtain ⟨b,off,e,hc⟩:=h i hi
 exact ⟨b,off,e,ho.cell hc (hA ⟨b,off,none⟩ e (Nat.lt_of_le_of_lt (Nat.zero_le _) hi))⟩
theorem QiR {w w':World} {c:Ql} {A B:Option Addr} {O:Nat->Prop} (h:Z9 w c A B) (ho:Qg O w w') (hA:∀ a,A=some a->0<c.reps.length->¬ O a.block) (hB:∀ a,B=some a->0<c.bnds.length->¬ O a.block):Z9 w' c A B :=
 ⟨Qeg h.ints ho hA,Qeg h.strs ho hB,h.hs,h.hn,h.hm⟩
theorem YX.out {w w':World} {base p g b cap:Nat} {gs:List Int} {vs:List (Int × Bool)} {O:Nat->Prop} (h:YX w base p g b cap gs vs) (ho:Qg O w w') (hp:¬ O p) (hg:¬ O g) (hb:¬ O b):YX w' base p g b cap gs vs :=
 ⟨ho.cell h.c0 hp,ho.cell h.c1 hp,J2 h.ints ho (fun a e=>by cases e;exact hg),ho.map h.own hb,h.hp,h.hg,h.hb,h.n1,h.n2⟩
def Ko (B n:Nat) (A:Option Addr):Prop:=∀ a,A=some a->0<n->a.block<B
theorem Ko.not {B n:Nat} {A:Option Addr} (h:Ko B n A) {O:Nat->Prop} (hO:∀ k,O k->B<=k):∀ a,A=some a->0<n->¬ O a.block:=fun a e hn ho=>by
 have:=h a e hn
 have:=hO _ ho
 omega
def J3 (B n:Nat) (L:Nat->Prop) (A:Option Addr):Prop:=∀ a,A=some a->0<n->a.block<B \/ L a.block
theorem J3.not {B n:Nat} {L:Nat->Prop} {A:Option Addr} (h:J3 B n L A) {O:Nat->Prop} (hO:∀ k,O k->B<=k) (hL:∀ k,L k->¬ O k):∀ a,A=some a->0<n->¬ O a.block:=fun a e hn ho=>by
 rcases h a e hn with h | h
 ·have:=hO _ ho
  omega
 ·exact hL _ h ho
theorem J3.mono {B n:Nat} {L L':Nat->Prop} {A:Option Addr} (h:J3 B n L A) (hs:∀ k,L k->L' k):J3 B n L' A:=fun a e hn=>(h a e hn).imp id (hs _)
theorem VH {w w':World} {t:Tx} {A B:Option Addr} {O:Nat->Prop} (h:QY w t A B) (ho:Qg O w w') (hA:∀ a,A=some a->0<t.rds.length->¬ O a.block) (hB:∀ a,B=some a->0<t.wrs.length->¬ O a.block):QY w' t A B :=
 ⟨fun i hi=>by
  obtain ⟨b,off,e,h0,h1⟩:=h.rds i hi
  have:=hA _ e (Nat.lt_of_le_of_lt (Nat.zero_le _) hi)
  exact ⟨b,off,e,ho.cell h0 this,ho.cell h1 this⟩,fun i hi=>by
  obtain ⟨b,off,e,h0,h1,h2,h3⟩:=h.wrs i hi
  have:=hB _ e (Nat.lt_of_le_of_lt (Nat.zero_le _) hi)
  exact ⟨b,off,e,ho.cell h0 this,ho.cell h1 this,ho.cell h2 this,ho.cell h3 this⟩,h.rk,h.wk,h.wv,h.rn,h.wn⟩
theorem Qeh {w:World} {t:Tx} {A B:Option Addr} (h:QY w t A B) {mb:Nat} {es:Array MapEntry} {cl:Nat} (hm:w.heap[mb]? = some (.map es cl)):(∀ a,A=some a->0<t.rds.length->¬ a.block=mb)/\(∀ a,B=some a->0<t.wrs.length->¬ a.block=mb):=by
 refine ⟨fun a e hl z=>?_,fun a e hl z=>?_⟩
 ·obtain ⟨b,off,e1,h0,_⟩:=h.rds 0 hl
  rw [e] at e1
  cases e1
  simp only at z
  subst z
  simp [World.cell?,hm] at h0
 ·obtain ⟨b,off,e1,h0,_⟩:=h.wrs 0 hl
  rw [e] at e1
  cases e1
  simp only at z
  subst z
  simp [World.cell?,hm] at h0
structure QaU (w:World) (B p:Nat) (L:Nat->Prop) (x:Zj) (A A' Ag:Option Addr) (ca cb cg tp tg tb tc:Nat):Prop where
 blk:w.heap[p]? = some (.cells #[.int .i64 x.t.ses,.int .i64 x.t.seq,.slice A x.t.rds.length ca,.slice A' x.t.wrs.length cb,.slice Ag x.gs.length cg,.pointer (some ⟨tp,0,none⟩)] 137 (0,0))
 tx:QY w x.t A A'
 oA:J3 B x.t.rds.length L A
 oA':J3 B x.t.wrs.length L A'
 gr:QV w Ag x.gs
 lg:∀ a,Ag=some a->L a.block
 tal:YX w B tp tg tb tc x.gs x.vs
 lp:L p
 ltp:L tp
 ltg:L tg
 ltb:L tb
def Kx (w:World) (B p:Nat) (L:Nat->Prop) (x:Zj):Prop:=∃ A A' Ag ca cb cg tp tg tb tc,QaU w B p L x A A' Ag ca cb cg tp tg tb tc
theorem QaU.out {w w':World} {B p:Nat} {L O:Nat->Prop} {x:Zj} {A A' Ag:Option Addr} {ca cb cg tp tg tb tc:Nat} (h:QaU w B p L x A A' Ag ca cb cg tp tg tb tc) (ho:Qg O w w') (hL:∀ k,L k->¬ O k) (hO:∀ k,O k->B<=k):QaU w' B p L x A A' Ag ca cb cg tp tg tb tc :=
 { h with blk:=ho.obj h.blk (hL _ h.lp),tx:=VH h.tx ho (h.oA.not hO hL) (h.oA'.not hO hL),gr:=J2 h.gr ho (fun a e=>hL _ (h.lg a e)),tal:=h.tal.out ho (hL _ h.ltp) (hL _ h.ltg) (hL _ h.ltb) }
theorem Kx.out {w w':World} {B p:Nat} {L O:Nat->Prop} {x:Zj} (h:Kx w B p L x) (ho:Qg O w w') (hL:∀ k,L k->¬ O k) (hO:∀ k,O k->B<=k):Kx w' B p L x:=by
 obtain ⟨A,A',Ag,ca,cb,cg,tp,tg,tb,tc,h⟩:=h
 exact ⟨A,A',Ag,ca,cb,cg,tp,tg,tb,tc,{ h with blk:=ho.obj h.blk (hL _ h.lp),tx:=VH h.tx ho (h.oA.not hO hL) (h.oA'.not hO hL),gr:=J2 h.gr ho (fun a e=>hL _ (h.lg a e)),tal:=h.tal.out ho (hL _ h.ltp) (hL _ h.ltg) (hL _ h.ltb) }⟩
structure Q9 where
 A:Option Addr
 A':Option Addr
 ca:Nat
 cb:Nat
 qB:Nat
 qp:Nat
 sB:Nat
 sp:Nat
 N:Nat
 mw:Nat
 md:Nat
 ms:Nat
 mv:Nat
 nw:Nat
 nd:Nat
 ns:Nat
 nv:Nat
 av:Value
 lv:Value
 nl:Nat
 kw:List (Qp × Value)
 kd:List (Qp × Value)
 ks:List (ZO × Value)
 kv:List (ZO × Value)
 cl:List Value
 pp:Qp->Nat
def Jv (l:List Nat):List Value:=l.map fun (s:Nat)=>Value.int .u64 (s:Int)
def Qe8 (d:Bool × Nat):Value:=.agg #[.bool d.1,.int .u64 (d.2:Int)]
structure MachR (w:World) (B:Nat) (c:Ql) (lab:Nat->QL) (x:Qk) (E:Q9):Prop where
 cfg:Z9 w c E.A E.A'
 oA:Ko B c.reps.length E.A
 oA':Ko B c.bnds.length E.A'
 q:JZ w E.qB E.qp x.q (fun k=>lab k = .q)
 s:QW w E.sB E.sp E.N (fun k=>lab k = .s) x.s
 hw:Za Tryz.prog 34 Y6 JE w E.mw E.nw E.kw
 hd:Za Tryz.prog 34 Y6 JE w E.md E.nd E.kd
 hs:Za Tryz.prog 179 Y7 YY w E.ms E.ns E.ks
 hv:Za Tryz.prog 179 Y7 YY w E.mv E.nv E.kv
 lmw:lab E.mw = .mw
 lmd:lab E.md = .md
 lms:lab E.ms = .ms
 lmv:lab E.mv = .mv
 kw:∀ i,Qe E.kw i=(Qe x.wt i).map fun _=>.pointer (some ⟨E.pp i,0,none⟩)
 kd:∀ i,Qe E.kd i=(Qe x.dc i).map Qe8
 ks:∀ i,Qe E.ks i=(Qe x.st i).map fun s=>.int .u64 (s:Int)
 kv:∀ i,Qe E.kv i=(Qe x.vo i).map Value.bool
 wt:∀ i v,Qe x.wt i=some v->Kx w B (E.pp i) (fun k=>lab k = .one i) v
 a:QC w B 39 E.av (Jv x.a)
 la:∀ b,E.av.ownBlock=some b->lab b = .at_
 log:w.ownsRow B 41 10 E.lv E.nl E.cl
 ll:∀ b,E.lv.ownBlock=some b->lab b = .log
 lt:∀ k,lab k ≠ .no->B<=k/\k<w.heap.size
def XN (c:Ql) (g:Int) (E:Q9) (ov:Value):Array Value:=#[.slice E.A c.reps.length E.ca,.slice E.A' c.bnds.length E.cb,.int .i64 g,.pointer (some ⟨E.qp,0,none⟩),.pointer (some ⟨E.sp,0,none⟩),.map (some E.mw),.map (some E.md),.map (some E.ms),.map (some E.mv),E.av,E.lv,ov]
structure Qo (w:World) (B p:Nat) (c:Ql) (g:Int) (lab:Nat->QL) (x:Qk) (E:Q9) (ov:Value):Prop extends MachR w B c lab x E where
 blk:w.heap[p]? = some (.cells (XN c g E ov) 107 (0,0))
 lm:lab p = .m
section
variable {w w':World} {B p:Nat} {c:Ql} {g:Int} {lab:Nat->QL} {x:Qk} {E:Q9} {ov:Value} {O:Nat->Prop}
theorem MachR.out (h : MachR w B c lab x E) (ho : Qg O w w') (hL : ∀ k, lab k ≠ .no -> lab k ≠ .m -> lab k ≠ .out -> ¬ O k) (hO : ∀ k, O k -> B <= k) : MachR w' B c lab x E :=
  have hne : ∀ {k : Nat} {l : QL}, lab k = l -> (l ≠ .no /\ l ≠ .m /\ l ≠ .out) -> ¬ O k := fun e hl => hL _ (by rw [e]; exact hl.1) (by rw [e]; exact hl.2.1) (by rw [e]; exact hl.2.2)
  { h with
    cfg := QiR h.cfg ho (h.oA.not hO) (h.oA'.not hO), q := h.q.out ho (fun k e => hne e (by decide)), s := h.s.out ho (fun k e => hne e (by decide))
    hw := h.hw.out ho (hne h.lmw (by decide)), hd := h.hd.out ho (hne h.lmd (by decide)), hs := h.hs.out ho (hne h.lms (by decide)), hv := h.hv.out ho (hne h.lmv (by decide))
    wt := fun i v e => (h.wt i v e).out ho (fun k e2 => hne e2 ⟨fun z => (by cases z), fun z => (by cases z), fun z => (by cases z)⟩) hO, a := h.a.out ho (fun b e => hne (h.la b e) (by decide)), log := ho.row h.log (fun b e => hne (h.ll b e) (by decide))
    lt := fun k e => ⟨(h.lt k e).1, Nat.lt_of_lt_of_le (h.lt k e).2 ho.size⟩ }
theorem MachR.later (h:MachR w B c lab x E) (hb:Below w.heap.size w w'):MachR w' B c lab x E :=
 h.out (O:=fun _=>False) (Qg.of_below hb) (fun _ _ _ _ e=>e) (fun _ e=>e.elim)
theorem Qo.out (h:Qo w B p c g lab x E ov) (ho:Qg O w w') (hL:∀ k,lab k ≠ .no->¬ O k) (hO:∀ k,O k->B<=k):Qo w' B p c g lab x E ov :=
 { h.toMachR.out ho (fun k a _ _=>hL k a) hO with blk:=ho.obj h.blk (hL _ (by rw [h.lm];decide)),lm:=h.lm }
theorem Qo.later (h:Qo w B p c g lab x E ov) (hb:Below w.heap.size w w'):Qo w' B p c g lab x E ov :=
 h.out (O:=fun _=>False) (Qg.of_below hb) (fun _ _ e=>e) (fun _ e=>e.elim)
theorem MachR.relab (h : MachR w' B c lab x E) (hlt : ∀ k, lab k ≠ .no -> k < w.heap.size) {l : QL} (hl : l = .m \/ l = .out) (hw : ∀ k, w.heap.size <= k /\ k < w'.heap.size -> B <= k) : MachR w' B c (relab lab w w' l) x E := by
  have hne : ∀ {l' : QL}, l' ≠ .m -> l' ≠ .out -> l' ≠ .no -> (fun k => Go.Proofs.YtcldpmkhpmlcbaaGreatDoor.relab lab w w' l k = l') = (fun k => lab k = l') := fun h1 h2 h3 => UY hlt (by rcases hl with rfl | rfl; exact fun e => h1 e.symm; exact fun e => h2 e.symm) h3
  have hat : ∀ {k : Nat} {l' : QL}, lab k = l' -> l' ≠ .m -> l' ≠ .out -> l' ≠ .no -> Go.Proofs.YtcldpmkhpmlcbaaGreatDoor.relab lab w w' l k = l' := fun {k l'} e h1 h2 h3 => by
    have := congrFun (hne h1 h2 h3) k
    exact this.mpr e
  exact { h with
    q := by rw [hne (by decide) (by decide) (by decide)]; exact h.q
    s := by rw [hne (by decide) (by decide) (by decide)]; exact h.s
    lmw := hat h.lmw (by decide) (by decide) (by decide), lmd := hat h.lmd (by decide) (by decide) (by decide), lms := hat h.lms (by decide) (by decide) (by decide), lmv := hat h.lmv (by decide) (by decide) (by decide)
    wt := fun i v e => by rw [hne (by intro z; cases z) (by intro z; cases z) (by intro z; cases z)]; exact h.wt i v e
    la := fun b e => hat (h.la b e) (by decide) (by decide) (by decide), ll := fun b e => hat (h.ll b e) (by decide) (by decide) (by decide)
    lt := fun k hk => by
      by_cases hkk : w.heap.size <= k /\ k < w'.heap.size
      · exact ⟨hw k hkk, hkk.2⟩
      · have e : Go.Proofs.YtcldpmkhpmlcbaaGreatDoor.relab lab w w' l k = lab k := if_neg hkk
        rw [e] at hk
        exact h.lt k hk }
theorem Qo.fz (h:Qo w B p c g lab x E ov) (j:Nat):w.frozen? ⟨p,j,none⟩=false:=frozen_of_row w p j _ _ h.blk
theorem Qo.hB (h:Qo w B p c g lab x E ov):B<=w.heap.size:=by
 have:=h.lt p (by rw [h.lm];decide)
 omega
theorem Qo.setP (h:Qo w B p c g lab x E ov) (j:Nat) (u:Value):MachR (w.setCell ⟨p,j,none⟩ u) B c lab x E/\(w.setCell ⟨p,j,none⟩ u).heap[p]? = some (.cells ((XN c g E ov).setIfInBounds j u) 107 (0,0)) :=
 ⟨h.toMachR.out (QQ w p j u) (fun k _ h2 _ e=>h2 (by rw [e];exact h.lm)) (fun k e=>by rw [e];exact (h.lt p (by rw [h.lm];decide)).1),ZJ u h.blk⟩
theorem Qo.setOut (h:Qo w B p c g lab x E ov) (u:Value):Qo (w.setCell ⟨p,11,none⟩ u) B p c g lab x E u :=
 { (h.setP 11 u).1 with blk:=(h.setP 11 u).2,lm:=h.lm }
end
def X7 (o:Qv):List Value:=[.int .i64 o.kind,.int .i64 o.dst,.int .i64 o.id.ses,.int .i64 o.id.seq,.int .u64 (o.stamp:Int),.bool o.yes]
def ZV (os:List Qv):List Value:=os.flatMap X7
theorem KE (os:List Qv) (o:Qv):ZV (os ++ [o])=ZV os ++ X7 o:=by simp [ZV,List.flatMap_append]
theorem Qbk:(Tryz.prog.info? 43).map (fun i=>(i.zero,i.size,i.bytes))=some (some (.agg #[.int .i64 0,.int .i64 0,.int .i64 0,.int .i64 0,.int .u64 0,.bool false]),6,48):=by kernel_rfl
theorem VI {o:Qv}:∀ u ∈ X7 o,u.oneCell'=true:=fun u hu=>by
 simp [X7] at hu;rcases hu with rfl | rfl | rfl | rfl | rfl | rfl <;> rfl
def Q8 (w:World) (B:Nat) (lab:Nat->QL) (ov:Value) (os:List Qv):Prop:=w.ownsRow B 43 6 ov os.length (ZV os)/\∀ b,ov.ownBlock=some b->lab b = .out
def X9 (lab lab':Nat->QL) (n:Nat):Prop:=∀ k,k<n->lab' k=lab k
theorem X9.refl (lab:Nat->QL) (n:Nat):X9 lab lab n:=fun _ _=>rfl
theorem X9.trans {a b c:Nat->QL} {n m:Nat} (h:X9 a b n) (h':X9 b c m) (hn:n<=m):X9 a c n:=fun k hk=>(h' k (Nat.lt_of_lt_of_le hk hn)).trans (h k hk)
theorem K1 (lab:Nat->QL) (w w':World) (l:QL):X9 lab (relab lab w w' l) w.heap.size:=fun k hk=>if_neg (by omega)
theorem Qg.trans_old {O O':Nat->Prop} {W X Y:World} (h:Qg O W X) (h':Qg O' X Y) (hO:∀ k,k<W.heap.size->O' k->O k):Qg O W Y :=
 ⟨h'.os.trans h.os,h'.tape.trans h.tape,h'.output.trans h.output,Nat.le_trans h.size h'.size,fun k hk hn=>(h'.block k (Nat.lt_of_lt_of_le hk h.size) (fun o=>hn (hO k hk o))).trans (h.block k hk hn)⟩
section
variable {X w15:World} {B p:Nat} {c:Ql} {g:Int} {lab:Nat->QL} {x:Qk} {E:Q9} {ov ov':Value}
theorem Qo.pushOut (h:Qo X B p c g lab x E ov) (hl:∀ b,ov.ownBlock=some b->lab b = .out) (hg:X.grownBy w15 ov.ownBlock) {n:Nat} {xs:List Value} (hr:w15.ownsRow B 43 6 ov' n xs) (hv:ov'.ownBlock=ov.ownBlock \/ ov'.ownBlock=some X.heap.size) :
  Qo (w15.setCell ⟨p,11,none⟩ ov') B p c g (relab lab X w15 .out) x E ov'/\(w15.setCell ⟨p,11,none⟩ ov').ownsRow B 43 6 ov' n xs/\(∀ b,ov'.ownBlock=some b->relab lab X w15 .out b = .out)/\Qg (fun k=>lab k = .m \/ lab k = .out) X (w15.setCell ⟨p,11,none⟩ ov'):=by
 have ho:Qg (fun k=>ov.ownBlock=some k) X w15:=Qg.of_grown hg (fun k e=>e)
 have hlow:∀ k,ov.ownBlock=some k->B<=k:=fun k e=>(h.lt k (by rw [hl k e];decide)).1
 have hpo:∀ {k},ov.ownBlock=some k->k ≠ p:=fun e z=>by
  have:=hl _ e
  rw [z,h.lm] at this
  cases this
 have h1:MachR w15 B c lab x E:=h.toMachR.out ho (fun k _ _ h3 e=>h3 (hl k e)) hlow
 have hb1:=ho.obj h.blk (fun e=>hpo e rfl)
 have hs:=ho.size
 have hsz:(w15.setCell ⟨p,11,none⟩ ov').heap.size=w15.heap.size:=by simp [World.setCell]
 have h2:MachR w15 B c (relab lab X w15 .out) x E:=h1.relab (fun k hk=>(h.lt k hk).2) (.inr rfl) (fun k hk=>Nat.le_trans h.hB hk.1)
 have hlm:relab lab X w15 .out p = .m:=by
  have:=(h.lt p (by rw [h.lm];decide)).2
  rw [relab,if_neg (by omega)]
  exact h.lm
 have hM:Qo w15 B p c g (relab lab X w15 .out) x E ov:={ h2 with blk:=hb1,lm:=hlm }
 have oP:=QQ w15 p 11 ov'
 have hpr:∀ {k},ov'.ownBlock=some k->k ≠ p:=fun {k} e z=>by
  rcases hv with hv | hv
  ·rw [hv] at e;exact hpo e z
  ·rw [hv] at e
   injection e with e
   have:=(h.lt p (by rw [h.lm];decide)).2
   omega
 refine ⟨hM.setOut ov',oP.row hr (fun b hb e=>hpr hb e),fun b hb=>?_,(ho.mono fun k e=>.inr (hl k e)).trans' (oP.mono fun k e=>by rw [e];exact .inl h.lm)⟩
 rcases hv with hv | hv
 ·rw [hv] at hb
  have h3:=hl b hb
  have:=(h.lt b (by rw [h3];decide)).2
  rw [relab,if_neg (by omega)]
  exact h3
 ·rw [hv] at hb
  injection hb with hb
  have h3:=(hr.lt b (by rw [hv,hb])).2
  rw [relab,if_pos ⟨by omega,h3⟩]
end
end Go.Proofs.YtcldpmkhpmlcbaaGreatDoor
