/- part -/
import Derived.Test.YtcldpmkhpmlcbaaGreatDoorK2
import Derived.BigQuiet
import Derived.BigRegion
set_option linter.unusedVariables false
set_option linter.unusedSimpArgs false
namespace Go.Proofs.YtcldpmkhpmlcbaaGreatDoor
open Go.RowKit Go.Shelf Go.Maps
def J7 (W:Wd) (g:Nat) (m:Qk) (os:List Qv) (k:Nat):Wd:=⟨(VL W g m).m,fun h=>W.way h ++ (Y9 h (os.take k)).map (XE g),(VL W g m).cnt⟩
theorem Ql4 (W:Wd) (g:Nat) (m:Qk) (os:List Qv):J7 W g m os 0=VL W g m:=by
 unfold J7
 simp [Y9,VL]
theorem Qnk (c:Ql) (W:Wd) (g:Nat) (a:Q2):J7 W g (Q5 c g (W.m g) a) (Zs c g (W.m g) a) (Zs c g (W.m g) a).length=ZN c W g a:=by
 unfold J7 ZN VL
 simp
theorem QhP (h:Int) (os:List Qv) (o:Qv):Y9 h (os ++ [o])=Y9 h os ++ Y9 h [o]:=List.filter_append ..
theorem Ql5 {W:Wd} {g:Nat} {m:Qk} {os:List Qv} {k:Nat} (hk:k<os.length) (h4:(os.getD k UA).kind=4):J7 W g m os (k+1)=J7 W g m os k:=by
 have e:os.take (k+1)=os.take k ++ [os[k]]:=List.take_succ_eq_append_getElem hk
 rw [List.getD_eq_getElem?_getD,List.getElem?_eq_getElem hk] at h4
 have h4':(os[k]).kind=4:=h4
 refine congrArg (fun f=>Wd.mk _ f _) (funext fun h=>?_)
 rw [e,QhP]
 simp [Y9,h4']
theorem Ql6 {W:Wd} {g:Nat} {m:Qk} {os:List Qv} {k:Nat} (hk:k<os.length) (h4:(os.getD k UA).kind ≠ 4) {x:Nat} (hx:(os.getD k UA).dst=x):J7 W g m os (k+1)=Qfc (J7 W g m os k) x (XE g (os.getD k UA)):=by
 have e:os.take (k+1)=os.take k ++ [os[k]]:=List.take_succ_eq_append_getElem hk
 have eg:os.getD k UA=os[k]:=by rw [List.getD_eq_getElem?_getD,List.getElem?_eq_getElem hk];rfl
 rw [eg] at h4 hx ⊢
 refine congrArg (fun f=>Wd.mk _ f _) (funext fun h=>?_)
 show W.way h ++ (Y9 h (os.take (k+1))).map (XE g)=if h=x then (W.way h ++ (Y9 h (os.take k)).map (XE g)) ++ [XE g os[k]] else W.way h ++ (Y9 h (os.take k)).map (XE g)
 rw [e,QhP]
 by_cases eh:h=x
 ·subst eh
  rw [if_pos rfl]
  have:Y9 h [os[k]]=[os[k]]:=by simp [Y9,h4,hx]
  rw [this]
  simp
 ·rw [if_neg eh]
  have:Y9 h [os[k]]=[]:=by
   have:¬ ((os[k]).dst=(h:Int)):=by rw [hx];omega
   simp [Y9,this]
  rw [this]
  simp
theorem Qat {w:World} {base n size bw o cap:Nat} {e:TypeId} {xs:List Value} (h:w.ownsRow base e size (.slice (some ⟨bw,o,none⟩) n cap) n xs):o=0/\∃ cur,w.heap[bw]? = some (.cells cur e (0,0)):=by
 rcases h.2 with ⟨e0,_⟩ | ⟨g,cap',cur,e1,hfr,hh,_⟩
 ·cases e0
 ·cases e1
  exact ⟨rfl,cur,hh⟩
set_option maxRecDepth 100000 in
set_option maxHeartbeats 4000000 in
theorem QhQ {w0 w:World} {b:Nat} {c:Ql} {W:Wd} {F:Xe} {g n:Nat} (h:Q3 w0 w b c n n W F) (hg:g<n) (hc4:n<=4) (a:Q2) (ht:QY w a.t a.A a.B) (oA:Ko w0.heap.size a.t.rds.length a.A) (oB:Ko w0.heap.size a.t.wrs.length a.B)
  (hn:2 * W.cnt g<=1900) (hos:(Zs c g (W.m g) a).length<=100000) (hdst:∀ o ∈ Zs c g (W.m g) a,o.kind ≠ 4->∃ x:Nat,o.dst=x/\x<n) (hway:∀ x,(W.way x).length<=100000) :
  Calls Tryz.prog 45 #[.pointer (some ⟨b,0,none⟩),.int .i64 g,.agg a.vs] w fun e w'=>e = .returned (.tuple #[])/\∃ F',Q3 w0 w' b c n n (ZN c W g a) F'/\Zt w w' F F':=by
 obtain ⟨W1,eW,HB,hszW,hr0⟩:=Uy w a.vs 41
 have hI:=Lib.hid (h.later HB)
 have hHt:=Lib.hid (ht.later HB)
 have hnob:Hid (F.ow w.heap.size = .no):=h.fresh (Nat.le_refl _)
 obtain ⟨b0,b1,b2,b3,b4,b5,b6,b7,b8,b9⟩:=V5 hr0
 have hst0:Hid (Zt w W1 F F):=Zt.below HB
 clear h ht hszW
 obtain ⟨_,_,c2,c3⟩:=hI.out.cs
 obtain ⟨Am,km,eM,hM⟩:=hI.out.mach
 obtain ⟨bm,om,rfl,hbm,d0⟩:=hM g hg
 rw [eM] at c2
 have g0:(0:Int)<=(g:Int):=by omega
 have g1:(g:Int)<(n:Int):=by omega
 have hgH:=Lib.hid hg
 clear hM hg
 have hap:Hid (∀ wz,Below W1.heap.size W1 wz->Calls Tryz.prog 12 #[.pointer (some ⟨F.ps g,0,none⟩),.agg #[.int .i64 a.k,.int .i64 a.t.ses,.int .i64 a.t.seq,.slice a.A a.t.rds.length a.ca,.slice a.B a.t.wrs.length a.cb,.int .i64 a.is,.int .i64 a.iq,.int .i64 a.g,.int .u64 (a.st:Int),.bool a.y]] wz fun e w'=>∃ v,e = .returned v/\V7 wz w' w0.heap.size (F.ps g) c g (2 * W.cnt g) (F.labs g) (W.m g) a v):=fun wz hb=>by
  obtain ⟨E,ov,os0,hm⟩:=(hI.out.later hb).m g hgH.out
  exact Qi1 hm a (hHt.out.later hb) (fun q e hn0=>.inl (oA q e hn0)) (fun q e hn0=>.inl (oB q e hn0)) hn
 have hbo:=hI.out.lb
 have hkp:Hid (∀ wz w2 v,Below W1.heap.size W1 wz->V7 wz w2 w0.heap.size (F.ps g) c g (2 * W.cnt g) (F.labs g) (W.m g) a v->∀ (k j:Nat) u,F.ow k ≠ .mach g->wz.cell? ⟨k,j,none⟩=some u->w2.cell? ⟨k,j,none⟩=some u):=fun wz w2 v hb hp k j u hne hc=>by
  obtain ⟨_,_,_,_,_,_,hS⟩:=hp.ex
  exact hS.out.cell hc (fun z=>hne (hI.out.lmach g hgH.out k z))
 have n1:F.ow b ≠ .mach g:=by rw [hbo];intro z;cases z
 have n2:F.ow bm ≠ .mach g:=by rw [hbm];intro z;cases z
 have n3:F.ow w.heap.size ≠ .mach g:=by rw [hnob.out];intro z;cases z
 have hAp2:Hid (∀ wz w2 v,Below W1.heap.size W1 wz->V7 wz w2 w0.heap.size (F.ps g) c g (2 * W.cnt g) (F.labs g) (W.m g) a v->∃ F':Xe,Q3 w0 w2 b c n n (VL W g (Q5 c g (W.m g) a)) F'/\Q8 w2 w0.heap.size (F'.labs g) v (Zs c g (W.m g) a)/\Zt wz w2 F F'):=fun wz w2 v hb hp=>(hI.out.later hb).applied hgH.out hp
 have hbd:Below W1.heap.size W1 W1.drew:=Qb (Below.refl _ _)
 go_enter Tryz.func45,Tryz.ntmps45
 go_wp2
 go_cut [6] (fun s wx=>∃ v,s=v/\V7 W1.drew wx w0.heap.size (F.ps g) c g (2 * W.cnt g) (F.labs g) (W.m g) a v)
 case first =>
  go_region_held3 (fun w'=>w'.cell? ⟨b,2,none⟩=some (.slice (some ⟨bm,om,none⟩) n km)/\w'.cell? ⟨bm,om+g,none⟩=some (.pointer (some ⟨F.ps g,0,none⟩))/\w'.cell? ⟨w.heap.size,0,none⟩=some (.int .i64 a.k)/\w'.cell? ⟨w.heap.size,1,none⟩=some (.int .i64 a.t.ses)/\w'.cell? ⟨w.heap.size,2,none⟩=some (.int .i64 a.t.seq)/\w'.cell? ⟨w.heap.size,3,none⟩=some (.slice a.A a.t.rds.length a.ca)/\w'.cell? ⟨w.heap.size,4,none⟩=some (.slice a.B a.t.wrs.length a.cb)/\w'.cell? ⟨w.heap.size,5,none⟩=some (.int .i64 a.is)/\w'.cell? ⟨w.heap.size,6,none⟩=some (.int .i64 a.iq)/\w'.cell? ⟨w.heap.size,7,none⟩=some (.int .i64 a.g)/\w'.cell? ⟨w.heap.size,8,none⟩=some (.int .u64 (a.st:Int))/\w'.cell? ⟨w.heap.size,9,none⟩=some (.bool a.y))
   (first | exact ⟨keep hbd c2,keep hbd d0,keep hbd b0,keep hbd b1,keep hbd b2,keep hbd b3,keep hbd b4,keep hbd b5,keep hbd b6,keep hbd b7,keep hbd b8,keep hbd b9⟩ | exact ⟨hq _ _ _ n1 (keep hbd c2),hq _ _ _ n2 (keep hbd d0),hq _ _ _ n3 (keep hbd b0),hq _ _ _ n3 (keep hbd b1),hq _ _ _ n3 (keep hbd b2),hq _ _ _ n3 (keep hbd b3),hq _ _ _ n3 (keep hbd b4),hq _ _ _ n3 (keep hbd b5),hq _ _ _ n3 (keep hbd b6),hq _ _ _ n3 (keep hbd b7),hq _ _ _ n3 (keep hbd b8),hq _ _ _ n3 (keep hbd b9)⟩ | fail)
   ((go_at_call 12;(with_reducible refine (hap.out _ hbd).mono ?_);rintro e w2 ⟨v,rfl,hv⟩;have hq:=hkp.out _ _ _ hbd hv))
  all_goals
   go_wp2
   go_meet
   exact ⟨_,rfl,hv⟩
 case rest =>
  obtain ⟨v,rfl,hv⟩:=hcut
  obtain ⟨F1,hI1,hR1,hS1⟩:=hAp2.out _ _ _ hbd hv
  obtain ⟨w1,rfl⟩:∃ wq:World,wq=wc:=⟨_,rfl⟩
  have hE:=Qnk c W g a
  obtain ⟨os,hosE⟩:∃ os,Zs c g (W.m g) a=os:=⟨_,rfl⟩
  obtain ⟨x',hxE⟩:∃ x',Q5 c g (W.m g) a=x':=⟨_,rfl⟩
  rw [hosE,hxE] at hE
  rw [hosE] at hR1 hdst hos
  rw [hxE] at hI1
  obtain ⟨Al,kl,rfl,hAl⟩:=Qc0 hR1.1
  have hosH:=Lib.hid hos
  have hdstH:=Lib.hid hdst
  have hwayH:=Lib.hid hway
  have hEH:=Lib.hid hE
  have hI0:Hid (Q3 w0 w1 b c n n (J7 W g x' os 0) F1/\Q8 w1 w0.heap.size (F1.labs g) (.slice Al os.length kl) os/\Zt w w1 F F1):=⟨by rw [Ql4];exact hI1,hR1,hst0.out.trans ((Zt.below hbd).trans hS1)⟩
  clear hap hkp hAp2 hv hI hHt hI1 hR1 hS1 hAl hos hdst hE hosE hxE n1 n2 n3 hbo hbm eM d0 c2 c3 b0 b1 b2 b3 b4 b5 b6 b7 b8 b9 hr0 HB hnob hst0 hbd oA oB hn eW hway
  go_wp2
  go_loopw [7] (fun i wr=>∃ (k:Nat) (F2:Xe),k<=os.length/\i = .int .i64 k/\Hid (Q3 w0 wr b c n n (J7 W g x' os k) F2/\Q8 wr w0.heap.size (F2.labs g) (.slice Al os.length kl) os/\Zt w wr F F2)) (fun i _=>os.length-(intOf i).toNat)
  case atStart=>exact ⟨0,F1,Nat.zero_le _,rfl,hI0⟩
  case round =>
   obtain ⟨k,F2,hk,rfl,HI⟩:=hrel
   obtain ⟨wi,rfl⟩:∃ wi:World,wi=wr:=⟨_,rfl⟩
   by_cases hlt:k<os.length
   ·obtain ⟨Al',kl',eAl,hAl⟩:=Qc0 HI.out.2.1.1
    cases eAl
    obtain ⟨bo,oo,o,rfl,⟨o0,o1,o2,o3,o4,o5⟩,HO⟩:=hAl.at' hlt
    have hmem:o ∈ os:=by rw [<- HO.out];exact (by rw [List.getD_eq_getElem?_getD,List.getElem?_eq_getElem hlt];exact List.getElem_mem hlt)
    have hki:(k:Int)<(os.length:Int):=by omega
    have hk0:(0:Int)<=(k:Int):=by omega
    have hkH:=Lib.hid hlt
    have hkb:k<1000000:=by have:=hosH.out;omega
    by_cases hkd:o.kind=4
    ·have q4:(o.kind == 4)=true:=by simp [hkd]
     have HK:Hid (J7 W g x' os (k+1)=J7 W g x' os k):=Ql5 hlt (by rw [HO.out];exact hkd)
     clear hkd hlt hmem hAl
     go_wp2
     go_roundw
     case rel=>exact ⟨k+1,F2,hkH.out,by go_num,by rw [HK.out];exact HI⟩
     case measure=>have:=hkH.out;simp [intOf];omega
    ·obtain ⟨x,hx,hxn⟩:=hdstH.out o hmem hkd
     have q4:(o.kind == 4)=false:=by simp [hkd]
     have HK:Hid (J7 W g x' os (k+1)=Qfc (J7 W g x' os k) x (XE g o)):=by
      have:=Ql6 (W:=W) (g:=g) (m:=x') hlt (by rw [HO.out];exact hkd) (x:=x) (by rw [HO.out];exact hx)
      rw [HO.out] at this
      exact this
     rw [hx] at o1
     have hxH:=Lib.hid hxn
     obtain ⟨Aw,kw,eW,hW⟩:=HI.out.1.ways
     obtain ⟨bw,ow,rfl,hbw,d0⟩:=hW x hxn
     have hwr0:=HI.out.1.wrr
     rw [eW] at hwr0
     obtain ⟨rfl,_,_⟩:=Qat hwr0
     rw [Nat.zero_add] at d0
     clear hwr0
     obtain ⟨_,_,_,c3⟩:=HI.out.1.cs
     rw [eW] at c3
     have x0:(0:Int)<=(x:Int):=by omega
     have x1:(x:Int)<(n:Int):=by omega
     have p0:∀ ob,(wi.alloc ob).cell? ⟨bo,oo+k * 6,none⟩=some (.int .i64 o.kind):=fun ob=>keep (Qc wi ob) o0
     have p1:∀ ob,(wi.alloc ob).cell? ⟨bo,oo+k * 6+1,none⟩=some (.int .i64 x):=fun ob=>keep (Qc wi ob) o1
     have p2:∀ ob,(wi.alloc ob).cell? ⟨bo,oo+k * 6+2,none⟩=some (.int .i64 o.id.ses):=fun ob=>keep (Qc wi ob) o2
     have p3:∀ ob,(wi.alloc ob).cell? ⟨bo,oo+k * 6+3,none⟩=some (.int .i64 o.id.seq):=fun ob=>keep (Qc wi ob) o3
     have p4:∀ ob,(wi.alloc ob).cell? ⟨bo,oo+k * 6+4,none⟩=some (.int .u64 (o.stamp:Int)):=fun ob=>keep (Qc wi ob) o4
     have p5:∀ ob,(wi.alloc ob).cell? ⟨bo,oo+k * 6+5,none⟩=some (.bool o.yes):=fun ob=>keep (Qc wi ob) o5
     clear hkd hlt hmem hAl hxn hW
     go_wp2
     go_region
     clear p0 p1 p2 p3 p4 p5
     obtain ⟨w7,hw7⟩:∃ w7,(wi.alloc (.cells #[.int .i64 o.kind,.int .i64 0,.int .i64 0,.slice none 0 0,.slice none 0 0,.int .i64 o.id.ses,.int .i64 o.id.seq,.int .i64 g,.int .u64 (o.stamp:Int),.bool o.yes] 41)).drew=w7:=⟨_,rfl⟩
     have hb7:Below wi.heap.size wi w7:=by rw [<- hw7];exact Qb (Qc wi _)
     have hy7:w7.heap[wi.heap.size]? = some (.cells (XE g o).vs 41 (0,0)):=by rw [<- hw7];exact heap_alloc_new wi _
     rw [hw7]
     clear hw7
     obtain ⟨m,hm⟩:∃ m,XE g o=m:=⟨_,rfl⟩
     rw [hm] at hy7
     obtain ⟨y0,y1,y2,y3,y4,y5,y6,y7,y8,y9⟩:=V5 hy7
     have hnw0:Hid (F2.ow wi.heap.size = .no):=HI.out.1.fresh (Nat.le_refl _)
     have hJ:=Lib.hid (HI.out.1.later hb7)
     have hJo:Hid (Q8 w7 w0.heap.size (F2.labs g) (.slice (some ⟨bo,oo,none⟩) os.length kl) os):=⟨Qi HI.out.2.1.1 hb7,HI.out.2.1.2⟩
     have hJs:Hid (Zt w w7 F F2):=HI.out.2.2.trans (Zt.below hb7)
     have e1:=keep hb7 o1
     have e3:=keep hb7 c3
     have f0:=keep hb7 d0
     have hown:=Qi (hJ.out.way x hxH.out) (Qc w7 (Jw m))
     have hnews:=QhE w7 m
     have hBA:w0.heap.size<=(w7.alloc (Jw m)).heap.size:=Nat.le_trans hJ.out.b0.size (by simp)
     obtain ⟨i0,hi0,hz0,hz1,hz2⟩:=info_parts Qev
     have hnl:((J7 W g x' os k).way x).length<=200000:=by
      show (W.way x ++ (Y9 x (os.take k)).map (XE g)).length<=_
      rw [List.length_append,List.length_map]
      have h1:=hwayH.out x
      have h2:=hosH.out
      have h3:(Y9 x (os.take k)).length<=(os.take k).length:=List.length_filter_le _ _
      rw [List.length_take] at h3
      omega
     have hwrr:=hJ.out.wrr
     rw [eW] at hwrr
     obtain ⟨_,curw,hcw⟩:=Qat hwrr
     have hnb:¬ ((F2.av x).ownBlock=some b):=fun z=>by
      have q1:=hJ.out.lway x hxH.out b z
      have q2:=hJ.out.lb
      rw [q2] at q1;cases q1
     have hnw:¬ ((F2.av x).ownBlock=some bw):=fun z=>by
      have q1:=hJ.out.lway x hxH.out bw z
      rw [hbw] at q1;cases q1
     have hno:¬ ((F2.av x).ownBlock=some bo):=fun z=>by
      have q1:=hJ.out.lway x hxH.out bo z
      have q2:=hJ.out.lmach g hgH.out bo (by rw [hJo.out.2 bo rfl];decide)
      rw [q2] at q1;cases q1
     have hny:¬ ((F2.av x).ownBlock=some wi.heap.size):=fun z=>by
      have q1:=hJ.out.lway x hxH.out _ z
      rw [hnw0.out] at q1;cases q1
     have hfz:Hid (∀ w15,(w7.alloc (.cells m.vs 41)).grownBy w15 (F2.av x).ownBlock->w15.cell? ⟨bw,x,none⟩=some (F2.av x)/\w15.frozen? ⟨bw,x,none⟩=false/\w15.cell? ⟨b,3,none⟩=some (.slice (some ⟨bw,0,none⟩) n kw)/\w15.cell? ⟨bo,oo+k * 6+1,none⟩=some (.int .i64 x)/\∀ j u,w7.cell? ⟨wi.heap.size,j,none⟩=some u->w15.cell? ⟨wi.heap.size,j,none⟩=some u):=fun w15 hg=>by
      have ho:Qg (fun q=>(F2.av x).ownBlock=some q) w7 w15:=(Qg.of_below (Qc w7 _)).trans' (Qg.of_grown hg (fun q e=>e))
      exact ⟨ho.cell f0 hnw,frozen_of_row w15 bw _ _ _ (ho.obj hcw hnw),ho.cell e3 hnb,ho.cell e1 hno,fun j u hc=>ho.cell hc hny⟩
     have g0a:∀ ob,(w7.alloc ob).cell? ⟨bw,x,none⟩=some (F2.av x):=fun ob=>keep (Qc w7 ob) f0
     have g3a:∀ ob,(w7.alloc ob).cell? ⟨b,3,none⟩=some (.slice (some ⟨bw,0,none⟩) n kw):=fun ob=>keep (Qc w7 ob) e3
     have g1a:∀ ob,(w7.alloc ob).cell? ⟨bo,oo+k * 6+1,none⟩=some (.int .i64 x):=fun ob=>keep (Qc w7 ob) e1
     unfold Jw at hown hnews hBA
     have hms:m.vs=#[.int .i64 m.k,.int .i64 m.t.ses,.int .i64 m.t.seq,.slice m.A m.t.rds.length m.ca,.slice m.B m.t.wrs.length m.cb,.int .i64 m.is,.int .i64 m.iq,.int .i64 m.g,.int .u64 (m.st:Int),.bool m.y]:=rfl
     rw [hms] at hown hnews hBA hfz
     have hone:∀ u ∈ m.vs.toList,u.oneCell'=true:=Qb7
     rw [hms] at hone
     clear HI hcw hwrr hnb hnw hno
     go_wp2
     have hS7:Hid (∀ wz,Below w7.heap.size w7 wz->(fun w'=>w'.cell? ⟨b,3,none⟩=some (.slice (some ⟨bw,0,none⟩) n kw)/\w'.cell? ⟨bo,oo+k * 6+1,none⟩=some (.int .i64 x)/\w'.cell? ⟨bw,x,none⟩=some (F2.av x)/\w'.cell? ⟨wi.heap.size,0,none⟩=some (.int .i64 m.k)/\w'.cell? ⟨wi.heap.size,1,none⟩=some (.int .i64 m.t.ses)/\w'.cell? ⟨wi.heap.size,2,none⟩=some (.int .i64 m.t.seq)/\w'.cell? ⟨wi.heap.size,3,none⟩=some (.slice m.A m.t.rds.length m.ca)/\w'.cell? ⟨wi.heap.size,4,none⟩=some (.slice m.B m.t.wrs.length m.cb)/\w'.cell? ⟨wi.heap.size,5,none⟩=some (.int .i64 m.is)/\w'.cell? ⟨wi.heap.size,6,none⟩=some (.int .i64 m.iq)/\w'.cell? ⟨wi.heap.size,7,none⟩=some (.int .i64 m.g)/\w'.cell? ⟨wi.heap.size,8,none⟩=some (.int .u64 (m.st:Int))/\w'.cell? ⟨wi.heap.size,9,none⟩=some (.bool m.y)) wz):=fun wz hb=>⟨keep hb e3,keep hb e1,keep hb f0,keep hb y0,keep hb y1,keep hb y2,keep hb y3,keep hb y4,keep hb y5,keep hb y6,keep hb y7,keep hb y8,keep hb y9⟩
     have hS15:Hid (∀ w15,(w7.alloc (.cells #[.int .i64 m.k,.int .i64 m.t.ses,.int .i64 m.t.seq,.slice m.A m.t.rds.length m.ca,.slice m.B m.t.wrs.length m.cb,.int .i64 m.is,.int .i64 m.iq,.int .i64 m.g,.int .u64 (m.st:Int),.bool m.y] 41)).grownBy w15 (F2.av x).ownBlock->(fun w'=>w'.cell? ⟨b,3,none⟩=some (.slice (some ⟨bw,0,none⟩) n kw)/\w'.cell? ⟨bo,oo+k * 6+1,none⟩=some (.int .i64 x)/\w'.cell? ⟨bw,x,none⟩=some (F2.av x)/\w'.cell? ⟨wi.heap.size,0,none⟩=some (.int .i64 m.k)/\w'.cell? ⟨wi.heap.size,1,none⟩=some (.int .i64 m.t.ses)/\w'.cell? ⟨wi.heap.size,2,none⟩=some (.int .i64 m.t.seq)/\w'.cell? ⟨wi.heap.size,3,none⟩=some (.slice m.A m.t.rds.length m.ca)/\w'.cell? ⟨wi.heap.size,4,none⟩=some (.slice m.B m.t.wrs.length m.cb)/\w'.cell? ⟨wi.heap.size,5,none⟩=some (.int .i64 m.is)/\w'.cell? ⟨wi.heap.size,6,none⟩=some (.int .i64 m.iq)/\w'.cell? ⟨wi.heap.size,7,none⟩=some (.int .i64 m.g)/\w'.cell? ⟨wi.heap.size,8,none⟩=some (.int .u64 (m.st:Int))/\w'.cell? ⟨wi.heap.size,9,none⟩=some (.bool m.y)) w15):=fun w15 hg=>⟨(hfz.out w15 hg).2.2.1,(hfz.out w15 hg).2.2.2.1,(hfz.out w15 hg).1,(hfz.out w15 hg).2.2.2.2 0 _ y0,(hfz.out w15 hg).2.2.2.2 1 _ y1,(hfz.out w15 hg).2.2.2.2 2 _ y2,(hfz.out w15 hg).2.2.2.2 3 _ y3,(hfz.out w15 hg).2.2.2.2 4 _ y4,(hfz.out w15 hg).2.2.2.2 5 _ y5,(hfz.out w15 hg).2.2.2.2 6 _ y6,(hfz.out w15 hg).2.2.2.2 7 _ y7,(hfz.out w15 hg).2.2.2.2 8 _ y8,(hfz.out w15 hg).2.2.2.2 9 _ y9⟩
     have hbD:=Qb (Below.refl w7.heap.size w7)
     refine wp_region_noPanic ?_
     refine Yp (S:=(fun w'=>w'.cell? ⟨b,3,none⟩=some (.slice (some ⟨bw,0,none⟩) n kw)/\w'.cell? ⟨bo,oo+k * 6+1,none⟩=some (.int .i64 x)/\w'.cell? ⟨bw,x,none⟩=some (F2.av x)/\w'.cell? ⟨wi.heap.size,0,none⟩=some (.int .i64 m.k)/\w'.cell? ⟨wi.heap.size,1,none⟩=some (.int .i64 m.t.ses)/\w'.cell? ⟨wi.heap.size,2,none⟩=some (.int .i64 m.t.seq)/\w'.cell? ⟨wi.heap.size,3,none⟩=some (.slice m.A m.t.rds.length m.ca)/\w'.cell? ⟨wi.heap.size,4,none⟩=some (.slice m.B m.t.wrs.length m.cb)/\w'.cell? ⟨wi.heap.size,5,none⟩=some (.int .i64 m.is)/\w'.cell? ⟨wi.heap.size,6,none⟩=some (.int .i64 m.iq)/\w'.cell? ⟨wi.heap.size,7,none⟩=some (.int .i64 m.g)/\w'.cell? ⟨wi.heap.size,8,none⟩=some (.int .u64 (m.st:Int))/\w'.cell? ⟨wi.heap.size,9,none⟩=some (.bool m.y))) (ok:=?oK) (v:=?vK) 23 0 (by kernel_rfl) (by kernel_rfl) (by decide) ?hiK (by kernel_rfl) (by kernel_rfl) (by kernel_rfl) ?hqK (Or.inl ⟨?hgK,?hyK⟩) (hS7.out _ hbD) (fun hHeld=>?restK)
     case hiK=>(simp only [List.getElem?_toArray,List.getElem?_cons_succ,List.getElem?_cons_zero];rfl)
     case hqK=>exact fun _ _ _ h=>h
     case hgK=>rfl
     case hyK=>(intro w;go_simp;(try with_reducible rfl))
     (try simp only [Act.put,List.setIfInBounds_toArray,List.set_cons_zero,List.set_cons_succ])
     simp only [List.take_succ_cons,List.take_zero,List.drop_succ_cons,List.drop_zero]
     refine wpAnyH_take (i:=1) (oi:=?o1_1) (v:=?v1_1) ?hi1_1 (by kernel_rfl) (by kernel_rfl) (by kernel_rfl) ?hq1_1 (Or.inl ⟨?hg1_1,?hy1_1⟩) hHeld ?rest1_1
     case hi1_1=>(simp only [List.getElem?_toArray,List.getElem?_cons_succ,List.getElem?_cons_zero];rfl)
     case hq1_1=>exact fun _ _ _ h=>h
     case hg1_1=>rfl
     case hy1_1=>(intro w hSw;(try dsimp only at hSw);go_simp;(try with_reducible rfl))
     (try simp only [Act.put,List.setIfInBounds_toArray,List.set_cons_zero,List.set_cons_succ])
     refine wpAnyH_take (i:=2) (oi:=?o2_2) (v:=?v2_2) ?hi2_2 (by kernel_rfl) (by kernel_rfl) (by kernel_rfl) ?hq2_2 (Or.inl ⟨?hg2_2,?hy2_2⟩) hHeld ?rest2_2
     case hi2_2=>(simp only [List.getElem?_toArray,List.getElem?_cons_succ,List.getElem?_cons_zero];rfl)
     case hq2_2=>exact fun _ _ _ h=>h
     case hg2_2=>rfl
     case hy2_2=>(intro w hSw;(try dsimp only at hSw);go_simp;(try with_reducible rfl))
     (try simp only [Act.put,List.setIfInBounds_toArray,List.set_cons_zero,List.set_cons_succ])
     refine wpAnyH_take (i:=3) (oi:=?o3_3) (v:=?v3_3) ?hi3_3 (by kernel_rfl) (by kernel_rfl) (by kernel_rfl) ?hq3_3 (Or.inl ⟨?hg3_3,?hy3_3⟩) hHeld ?rest3_3
     case hi3_3=>(simp only [List.getElem?_toArray,List.getElem?_cons_succ,List.getElem?_cons_zero];rfl)
     case hq3_3=>exact fun _ _ _ h=>h
     case hg3_3=>rfl
     case hy3_3=>(intro w hSw;(try dsimp only at hSw);go_simp;(try with_reducible rfl))
     (try simp only [Act.put,List.setIfInBounds_toArray,List.set_cons_zero,List.set_cons_succ])
     refine wpAnyH_take (i:=4) (oi:=?o4_4) (v:=?v4_4) ?hi4_4 (by kernel_rfl) (by kernel_rfl) (by kernel_rfl) ?hq4_4 (Or.inl ⟨?hg4_4,?hy4_4⟩) hHeld ?rest4_4
     case hi4_4=>(simp only [List.getElem?_toArray,List.getElem?_cons_succ,List.getElem?_cons_zero];rfl)
     case hq4_4=>exact fun _ _ _ h=>h
     case hg4_4=>rfl
     case hy4_4=>(intro w hSw;(try dsimp only at hSw);go_simp;(try with_reducible rfl))
     (try simp only [Act.put,List.setIfInBounds_toArray,List.set_cons_zero,List.set_cons_succ])
     refine wpAnyH_take (i:=5) (oi:=?o5_5) (v:=?v5_5) ?hi5_5 (by kernel_rfl) (by kernel_rfl) (by kernel_rfl) ?hq5_5 (Or.inl ⟨?hg5_5,?hy5_5⟩) hHeld ?rest5_5
     case hi5_5=>(simp only [List.getElem?_toArray,List.getElem?_cons_succ,List.getElem?_cons_zero];rfl)
     case hq5_5=>exact fun _ _ _ h=>h
     case hg5_5=>rfl
     case hy5_5=>(intro w hSw;(try dsimp only at hSw);go_simp;(try with_reducible rfl))
     (try simp only [Act.put,List.setIfInBounds_toArray,List.set_cons_zero,List.set_cons_succ])
     refine wpAnyH_take (i:=6) (oi:=?o6_6) (v:=?v6_6) ?hi6_6 (by kernel_rfl) (by kernel_rfl) (by kernel_rfl) ?hq6_6 (Or.inl ⟨?hg6_6,?hy6_6⟩) hHeld ?rest6_6
     case hi6_6=>(simp only [List.getElem?_toArray,List.getElem?_cons_succ,List.getElem?_cons_zero];rfl)
     case hq6_6=>exact fun _ _ _ h=>h
     case hg6_6=>rfl
     case hy6_6=>(intro w hSw;(try dsimp only at hSw);go_simp;(try with_reducible rfl))
     (try simp only [Act.put,List.setIfInBounds_toArray,List.set_cons_zero,List.set_cons_succ])
     refine wpAnyH_take (i:=7) (oi:=?o7_7) (v:=?v7_7) ?hi7_7 (by kernel_rfl) (by kernel_rfl) (by kernel_rfl) ?hq7_7 (Or.inl ⟨?hg7_7,?hy7_7⟩) hHeld ?rest7_7
     case hi7_7=>(simp only [List.getElem?_toArray,List.getElem?_cons_succ,List.getElem?_cons_zero];rfl)
     case hq7_7=>exact fun _ _ _ h=>h
     case hg7_7=>rfl
     case hy7_7=>(intro w hSw;(try dsimp only at hSw);go_simp;(try with_reducible rfl))
     (try simp only [Act.put,List.setIfInBounds_toArray,List.set_cons_zero,List.set_cons_succ])
     refine wpAnyH_take (i:=8) (oi:=?o8_8) (v:=?v8_8) ?hi8_8 (by kernel_rfl) (by kernel_rfl) (by kernel_rfl) ?hq8_8 (Or.inl ⟨?hg8_8,?hy8_8⟩) hHeld ?rest8_8
     case hi8_8=>(simp only [List.getElem?_toArray,List.getElem?_cons_succ,List.getElem?_cons_zero];rfl)
     case hq8_8=>exact fun _ _ _ h=>h
     case hg8_8=>rfl
     case hy8_8=>(intro w hSw;(try dsimp only at hSw);go_simp;(try with_reducible rfl))
     (try simp only [Act.put,List.setIfInBounds_toArray,List.set_cons_zero,List.set_cons_succ])
     refine wpAnyH_take (i:=9) (oi:=?o9_9) (v:=?v9_9) ?hi9_9 (by kernel_rfl) (by kernel_rfl) (by kernel_rfl) ?hq9_9 (Or.inl ⟨?hg9_9,?hy9_9⟩) hHeld ?rest9_9
     case hi9_9=>(simp only [List.getElem?_toArray,List.getElem?_cons_succ,List.getElem?_cons_zero];rfl)
     case hq9_9=>exact fun _ _ _ h=>h
     case hg9_9=>rfl
     case hy9_9=>(intro w hSw;(try dsimp only at hSw);go_simp;(try with_reducible rfl))
     (try simp only [Act.put,List.setIfInBounds_toArray,List.set_cons_zero,List.set_cons_succ])
     refine wpAnyH_take (i:=10) (oi:=?o10_10) (v:=?v10_10) ?hi10_10 (by kernel_rfl) (by kernel_rfl) (by kernel_rfl) ?hq10_10 (Or.inl ⟨?hg10_10,?hy10_10⟩) hHeld ?rest10_10
     case hi10_10=>(simp only [List.getElem?_toArray,List.getElem?_cons_succ,List.getElem?_cons_zero];rfl)
     case hq10_10=>exact fun _ _ _ h=>h
     case hg10_10=>rfl
     case hy10_10=>(intro w hSw;(try dsimp only at hSw);go_simp;(try with_reducible rfl))
     (try simp only [Act.put,List.setIfInBounds_toArray,List.set_cons_zero,List.set_cons_succ])
     refine wpAnyH_take (i:=11) (oi:=?o11_11) (v:=?v11_11) ?hi11_11 (by kernel_rfl) (by kernel_rfl) (by kernel_rfl) ?hq11_11 (Or.inl ⟨?hg11_11,?hy11_11⟩) hHeld ?rest11_11
     case hi11_11=>(simp only [List.getElem?_toArray,List.getElem?_cons_succ,List.getElem?_cons_zero];rfl)
     case hq11_11=>exact fun _ _ _ h=>h
     case hg11_11=>rfl
     case hy11_11=>(intro w hSw;(try dsimp only at hSw);go_simp;(try with_reducible rfl))
     (try simp only [Act.put,List.setIfInBounds_toArray,List.set_cons_zero,List.set_cons_succ])
     refine wpAnyH_take (i:=12) (oi:=?o12_12) (v:=?v12_12) ?hi12_12 (by kernel_rfl) (by kernel_rfl) (by kernel_rfl) ?hq12_12 (Or.inl ⟨?hg12_12,?hy12_12⟩) hHeld ?rest12_12
     case hi12_12=>(simp only [List.getElem?_toArray,List.getElem?_cons_succ,List.getElem?_cons_zero];rfl)
     case hq12_12=>exact fun _ _ _ h=>h
     case hg12_12=>rfl
     case hy12_12=>(intro w hSw;(try dsimp only at hSw);go_simp;(try with_reducible rfl))
     (try simp only [Act.put,List.setIfInBounds_toArray,List.set_cons_zero,List.set_cons_succ])
     refine wpAnyH_take (i:=13) (oi:=?o13_13) (v:=?v13_13) ?hi13_13 (by kernel_rfl) (by kernel_rfl) (by kernel_rfl) ?hq13_13 (Or.inl ⟨?hg13_13,?hy13_13⟩) hHeld ?rest13_13
     case hi13_13=>(simp only [List.getElem?_toArray,List.getElem?_cons_succ,List.getElem?_cons_zero];rfl)
     case hq13_13=>exact fun _ _ _ h=>h
     case hg13_13=>rfl
     case hy13_13=>(intro w hSw;(try dsimp only at hSw);go_simp;(try with_reducible rfl))
     (try simp only [Act.put,List.setIfInBounds_toArray,List.set_cons_zero,List.set_cons_succ])
     refine wpAnyH_take (i:=14) (oi:=?o14_14) (v:=?v14_14) ?hi14_14 (by kernel_rfl) (by kernel_rfl) (by kernel_rfl) ?hq14_14 (Or.inl ⟨?hg14_14,?hy14_14⟩) hHeld ?rest14_14
     case hi14_14=>(simp only [List.getElem?_toArray,List.getElem?_cons_succ,List.getElem?_cons_zero];rfl)
     case hq14_14=>exact fun _ _ _ h=>h
     case hg14_14=>rfl
     case hy14_14=>(intro w hSw;(try dsimp only at hSw);go_simp;(try with_reducible rfl))
     (try simp only [Act.put,List.setIfInBounds_toArray,List.set_cons_zero,List.set_cons_succ])
     refine wpAnyH_take (i:=15) (oi:=?o15_15) (v:=?v15_15) ?hi15_15 (by kernel_rfl) (by kernel_rfl) (by kernel_rfl) ?hq15_15 (Or.inl ⟨?hg15_15,?hy15_15⟩) hHeld ?rest15_15
     case hi15_15=>(simp only [List.getElem?_toArray,List.getElem?_cons_succ,List.getElem?_cons_zero];rfl)
     case hq15_15=>exact fun _ _ _ h=>h
     case hg15_15=>rfl
     case hy15_15=>(intro w hSw;(try dsimp only at hSw);go_simp;(try with_reducible rfl))
     (try simp only [Act.put,List.setIfInBounds_toArray,List.set_cons_zero,List.set_cons_succ])
     refine wpAnyH_take (i:=16) (oi:=?o16_16) (v:=?v16_16) ?hi16_16 (by kernel_rfl) (by kernel_rfl) (by kernel_rfl) ?hq16_16 (Or.inl ⟨?hg16_16,?hy16_16⟩) hHeld ?rest16_16
     case hi16_16=>(simp only [List.getElem?_toArray,List.getElem?_cons_succ,List.getElem?_cons_zero];rfl)
     case hq16_16=>exact fun _ _ _ h=>h
     case hg16_16=>rfl
     case hy16_16=>(intro w hSw;(try dsimp only at hSw);go_simp;(try with_reducible rfl))
     (try simp only [Act.put,List.setIfInBounds_toArray,List.set_cons_zero,List.set_cons_succ])
     refine wpAnyH_take (i:=17) (oi:=?o17_17) (v:=?v17_17) ?hi17_17 (by kernel_rfl) (by kernel_rfl) (by kernel_rfl) ?hq17_17 (Or.inl ⟨?hg17_17,?hy17_17⟩) hHeld ?rest17_17
     case hi17_17=>(simp only [List.getElem?_toArray,List.getElem?_cons_succ,List.getElem?_cons_zero];rfl)
     case hq17_17=>exact fun _ _ _ h=>h
     case hg17_17=>rfl
     case hy17_17=>(intro w hSw;(try dsimp only at hSw);go_simp;(try with_reducible rfl))
     (try simp only [Act.put,List.setIfInBounds_toArray,List.set_cons_zero,List.set_cons_succ])
     refine wpAnyH_take (i:=18) (oi:=?o18_18) (v:=?v18_18) ?hi18_18 (by kernel_rfl) (by kernel_rfl) (by kernel_rfl) ?hq18_18 (Or.inl ⟨?hg18_18,?hy18_18⟩) hHeld ?rest18_18
     case hi18_18=>(simp only [List.getElem?_toArray,List.getElem?_cons_succ,List.getElem?_cons_zero];rfl)
     case hq18_18=>exact fun _ _ _ h=>h
     case hg18_18=>rfl
     case hy18_18=>(intro w hSw;(try dsimp only at hSw);go_simp;(try with_reducible rfl))
     (try simp only [Act.put,List.setIfInBounds_toArray,List.set_cons_zero,List.set_cons_succ])
     refine wpAnyH_take (i:=19) (oi:=?o19_19) (v:=?v19_19) ?hi19_19 (by kernel_rfl) (by kernel_rfl) (by kernel_rfl) ?hq19_19 (Or.inl ⟨?hg19_19,?hy19_19⟩) hHeld ?rest19_19
     case hi19_19=>(simp only [List.getElem?_toArray,List.getElem?_cons_succ,List.getElem?_cons_zero];rfl)
     case hq19_19=>exact fun _ _ _ h=>h
     case hg19_19=>rfl
     case hy19_19=>(intro w hSw;(try dsimp only at hSw);go_simp;(try with_reducible rfl))
     (try simp only [Act.put,List.setIfInBounds_toArray,List.set_cons_zero,List.set_cons_succ])
     refine wpAnyH_take (i:=20) (oi:=?o20_20) (v:=?v20_20) ?hi20_20 (by kernel_rfl) (by kernel_rfl) (by kernel_rfl) ?hq20_20 (Or.inl ⟨?hg20_20,?hy20_20⟩) hHeld ?rest20_20
     case hi20_20=>(simp only [List.getElem?_toArray,List.getElem?_cons_succ,List.getElem?_cons_zero];rfl)
     case hq20_20=>exact fun _ _ _ h=>h
     case hg20_20=>rfl
     case hy20_20=>(intro w hSw;(try dsimp only at hSw);go_simp;(try with_reducible rfl))
     (try simp only [Act.put,List.setIfInBounds_toArray,List.set_cons_zero,List.set_cons_succ])
     refine wpAnyH_ready (rs:=[21]) (by kernel_rfl) (by simp) ?_
     refine AllReadyH.cons (o:=?p21_22) ?ho21_22 (fun KK hK=>?step21_22) ?more21_22
     case ho21_22=>(simp only [List.getElem?_toArray,List.getElem?_cons_succ,List.getElem?_cons_zero];rfl)
     case step21_22 =>
      go_simp
      (try go_wp2_with fail)
      refine hK.out _ _ (hS7.out _ (Qa hbD (Qc _ _))) (fun hH2=>?_)
      clear hHeld hK KK
      have hHeld:=hH2
      clear hH2
      (try simp only [Act.put,List.setIfInBounds_toArray,List.set_cons_zero,List.set_cons_succ])
      refine wpAnyH_ready (rs:=[22]) (by kernel_rfl) (by simp) ?_
      refine AllReadyH.cons (o:=?p22_21) ?ho22_21 (fun KK hK=>?step22_21) ?more22_21
      case ho22_21=>(simp only [List.getElem?_toArray,List.getElem?_cons_succ,List.getElem?_cons_zero];rfl)
      case step22_21 =>
       refine Yr rfl _ _ 26 rfl w0.heap.size 41 i0 _ 10 112 Tryz.underlying26 hi0 hz0 hz1 hz2 rfl (by decide) (F2.av x) ((J7 W g x' os k).way x).length (KR ((J7 W g x' os k).way x)) rfl (Qi hown (Qb (Below.refl _ _))) ⟨w7.heap.size,0,none⟩ 1 1 (Array.toList #[.int .i64 m.k,.int .i64 m.t.ses,.int .i64 m.t.seq,.slice m.A m.t.rds.length m.ca,.slice m.B m.t.wrs.length m.cb,.int .i64 m.is,.int .i64 m.iq,.int .i64 m.g,.int .u64 (m.st:Int),.bool m.y]) rfl rfl hnews hone (QA (by omega)) (by omega) hBA ?_
       intro v15 w15 HO15 hg15 hv15
       have hg16:(w7.alloc (.cells #[.int .i64 m.k,.int .i64 m.t.ses,.int .i64 m.t.seq,.slice m.A m.t.rds.length m.ca,.slice m.B m.t.wrs.length m.cb,.int .i64 m.is,.int .i64 m.iq,.int .i64 m.g,.int .u64 (m.st:Int),.bool m.y] 41)).grownBy w15 (F2.av x).ownBlock:=⟨hg15.os,hg15.tape,hg15.output,hg15.size,hg15.block⟩
       refine hK _ _ (hS15.out _ hg16) (fun hH2=>?_)
       clear hHeld hK KK
       have hHeld:=hH2
       clear hH2
       (try simp only [Act.put,List.setIfInBounds_toArray,List.set_cons_zero,List.set_cons_succ])
       refine wpAnyH_done (by kernel_rfl) ?_ _
       show wpList _ _ _ _ _ _
       obtain ⟨A15,k15,rfl⟩:=ZT HO15
       obtain ⟨hc15,hf15,hb15,ho15,_⟩:=hfz.out w15 hg16
       go_wp2
       refine NoPanic.normal ?_
       obtain ⟨F',hI',hR',hS'⟩:=Q3.push (hJ.out.later (Qc w7 _)) hxH.out (a:=m) eW hgH.out ⟨Qi hJo.out.1 (Qc w7 _),hJo.out.2⟩ hg16 HO15 hv15
       have hS2:=hJs.out.trans ((Zt.below (Qc w7 _)).trans hS')
       have HK2:=HK.out
       rw [hm] at HK2
       rw [<- HK2] at hI'
       have HI2:=Lib.hid (And.intro hI' (And.intro hR' hS2))
       clear hI' hR' hS' hS2 HK2 hHeld hc15 hf15 hb15 ho15 hv15 HO15 hg15 hg16 hS7 hS15 hfz hnews hone hown
       go_wp2
       go_roundw
       case rel=>exact ⟨k+1,F',hkH.out,by go_num,HI2⟩
       case measure=>have:=hkH.out;simp [intOf];omega
      exact AllReadyH.nil
     exact AllReadyH.nil
   ·obtain rfl:k=os.length:=by omega
    have HE:Hid (Q3 w0 wi b c n n (ZN c W g a) F2):=by rw [<- hEH.out];exact HI.out.1
    have hE2:=Lib.hid HI.out.2.2
    clear HI hlt hk hEH
    go_wp2
    go_end0
    exact ⟨rfl,F2,HE.out,hE2.out⟩
end Go.Proofs.YtcldpmkhpmlcbaaGreatDoor
