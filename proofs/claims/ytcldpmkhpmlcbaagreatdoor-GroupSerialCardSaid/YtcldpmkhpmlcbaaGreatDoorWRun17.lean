/- part -/
import Derived.Test.YtcldpmkhpmlcbaaGreatDoorK3
import Derived.BigQuiet
import Derived.BigRegion
set_option linter.unusedVariables false
set_option linter.unusedSimpArgs false
namespace Go.Proofs.YtcldpmkhpmlcbaaGreatDoor
open Go.RowKit Go.Shelf Go.Maps
structure Z7 (w0 w wr:World) (b:Nat) (c:Ql) (S:Option Addr) (l:List Q6) (F F1:Xe) (W:Wd):Prop where
 i:Q3 w0 wr b c c.reps.length c.reps.length W F1
 a:Kl w0 wr F1 S l
 s:Zt w wr F F1
section
variable {w0 w wr wz:World} {b:Nat} {c:Ql} {S:Option Addr} {l:List Q6} {F F1 F2:Xe} {W W':Wd}
theorem Z7.step (h:Z7 w0 w wr b c S l F F1 W) (hi:Q3 w0 wz b c c.reps.length c.reps.length W' F2) (hs:Zt wr wz F1 F2):Z7 w0 w wz b c S l F F2 W':=⟨hi,h.a.step hs,h.s.trans hs⟩
theorem Z7.later (h:Z7 w0 w wr b c S l F F1 W) (hb:Below wr.heap.size wr wz):Z7 w0 w wz b c S l F F1 W:=h.step (h.i.later hb) (Zt.below hb)
theorem Z7.post (h:Z7 w0 w wr b c S l F F1 W) {e:Ending} (ha:ApW w0 wr b c W' F1 e wz):e = .returned (.tuple #[])/\∃ F2,Z7 w0 w wz b c S l F F2 W'/\Zt wr wz F1 F2:=by
 obtain ⟨e1,F2,h1,h2⟩:=ha
 exact ⟨e1,F2,h.step h1 h2,h2⟩
def Qgz (w0 w wr:World) (b:Nat) (c:Ql) (S:Option Addr) (l:List Q6) (F F1:Xe) (W':Wd) (e:Ending) (w':World):Prop:=e = .returned (.tuple #[])/\∃ F2,Z7 w0 w w' b c S l F F2 W'/\Zt wr w' F1 F2
theorem Z7.begin {all:List Tx} (h:Z7 w0 w wr b c S l F F1 W) (hR:KH c all W) (hp:Xp c all) {g:Nat} (hg:g<c.reps.length) {a:Q6} (ha:a.t ∈ all) (ht:QY w0 a.t a.A a.B) :
  Calls Tryz.prog 45 #[.pointer (some ⟨b,0,none⟩),.int .i64 g,.agg #[.int .i64 1,.int .i64 a.t.ses,.int .i64 a.t.seq,.slice a.A a.t.rds.length a.ca,.slice a.B a.t.wrs.length a.cb,.int .i64 0,.int .i64 0,.int .i64 0,.int .u64 0,.bool false]] wr (Qgz w0 w wr b c S l F F1 (ZN c W g (Qki a))) :=
 (KH.begin h.i hR hp hg ha ht).mono fun e w' he=>h.post he
theorem Z7.heard {all:List Tx} (h:Z7 w0 w wr b c S l F F1 W) (hR:KH c all W) (hp:Xp c all) {g:Nat} (hg:g<c.reps.length) {a:Q2} (ha:a ∈ W.way g) :
  Calls Tryz.prog 45 #[.pointer (some ⟨b,0,none⟩),.int .i64 g,.agg a.vs] wr (Qgz w0 w wr b c S l F F1 (ZN c W g a)) :=
 (KH.heard h.i hR hp hg ha).mono fun e w' he=>h.post he
end
def Kn (p:Nat->Nat):Array Value:=#[.int .i64 (p 0),.int .i64 (p 1),.int .i64 (p 2),.int .i64 (p 3)]
theorem Qc3 {p:Nat->Nat} {g:Nat} (h:g<4):(Kn p)[g]? = some (.int .i64 (p g)):=by
 rcases (by omega:g=0 \/ g=1 \/ g=2 \/ g=3) with rfl | rfl | rfl | rfl <;> rfl
theorem Qix {p:Nat->Nat} {g n:Nat} (h:g<4):(Kn p).setIfInBounds g (.int .i64 (n:Int))=Kn (fun x=>if x=g then n else p x):=by
 rcases (by omega:g=0 \/ g=1 \/ g=2 \/ g=3) with rfl | rfl | rfl | rfl <;> rfl
def XQ (c:Ql) (l:List Q6) (i h:Nat) (W:Wd):Prop :=
 (∀ j,j<i->∀ g:Nat,g<c.reps.length->(g:Int) ∈ Qf c (l.getD j Ya).t->Jl (W.m g) (Qd (l.getD j Ya).t))/\∀ g:Nat,g<h->(g:Int) ∈ Qf c (l.getD i Ya).t->Jl (W.m g) (Qd (l.getD i Ya).t)
theorem XQ.start {c:Ql} {l:List Q6} {W:Wd}:XQ c l 0 0 W:=⟨fun j hj=>absurd hj (Nat.not_lt_zero _),fun g hg=>absurd hg (Nat.not_lt_zero _)⟩
theorem XQ.step {c:Ql} {l:List Q6} {i h:Nat} {W W':Wd} (hB:XQ c l i h W) {x:Q6} (hx:l.getD i Ya=x) (hh:h<c.reps.length) (hk:∀ y:Nat,y<c.reps.length->Yn (W.m y) (W'.m y)) (hb:(h:Int) ∈ Qf c x.t->Jl (W'.m h) (Qd x.t)):XQ c l i (h+1) W':=by
 refine ⟨fun j hj g hg hm=>(hB.1 j hj g hg hm).keep (hk g hg),fun g hg hm=>?_⟩
 by_cases e:g=h
 ·subst e;rw [hx] at hm ⊢;exact hb hm
 ·exact (hB.2 g (by omega) hm).keep (hk g (by omega))
theorem XQ.next {c:Ql} {l:List Q6} {i:Nat} {W:Wd} (hB:XQ c l i c.reps.length W):XQ c l (i+1) 0 W:=by
 refine ⟨fun j hj g hg hm=>?_,fun g hg=>absurd hg (Nat.not_lt_zero _)⟩
 by_cases e:j=i
 ·subst e;exact hB.2 g hg hm
 ·exact hB.1 j (by omega) g hg hm
theorem XQ.all {c:Ql} {l:List Q6} {W:Wd} (hB:XQ c l l.length 0 W):∀ g:Nat,g<c.reps.length->∀ t ∈ QS l,(g:Int) ∈ Qf c t->Jl (W.m g) (Qd t):=fun g hg t ht hm=>by
 obtain ⟨a,ha,rfl⟩:=List.mem_map.1 ht
 obtain ⟨j,hj,rfl⟩:=List.mem_iff_getElem.1 ha
 have:=hB.1 j hj g hg
 rw [List.getD_eq_getElem?_getD,List.getElem?_eq_getElem hj] at this
 exact this hm
theorem Z7.store {w0 w wr:World} {b:Nat} {c:Ql} {S:Option Addr} {l:List Q6} {F F1:Xe} {W:Wd} (h:Z7 w0 w wr b c S l F F1 W) {bA j:Nat} {v:Value} (hb:w.heap.size<=bA) (hB:w0.heap.size<=w.heap.size) (hn:F1.ow bA = .no) (hS:0<l.length->∀ i off,S=some ⟨i,off,none⟩->i<w.heap.size):Z7 w0 w (wr.setCell ⟨bA,j,none⟩ v) b c S l F F1 W:=by
 have ho:Qg (fun q=>q=bA) wr (wr.setCell ⟨bA,j,none⟩ v):=QQ wr bA j v
 refine ⟨h.i.other ho (fun q e=>by subst e;exact ⟨hn,by omega⟩),fun i hi=>?_,h.s.other ho (fun q e=>by subst e;exact hb)⟩
 obtain ⟨b',off,e,h0,h1,h2,h3⟩:=h.a i hi
 refine ⟨b',off,e,h0,Nat.lt_of_lt_of_le h1 ho.size,fun j v hj=>ho.cell (h2 j v hj) (fun z=>?_),h3⟩
 have:=hS (by omega) b' off e
 have z:b'=bA:=z
 omega
set_option maxRecDepth 100000 in
set_option maxHeartbeats 4000000 in
theorem QoO {w0 w:World} {b:Nat} {c:Ql} {F:Xe} {S P:Option Addr} {ca cp:Nat} {l:List Q6} {pk:List Km} (h:Q3 w0 w b c c.reps.length c.reps.length Yu F) (hp:Xp c (QS l)) (hl:Kl w0 w F S l) (hpk:K4 w0 P pk) (hlen:pk.length<=100) :
  Calls Tryz.prog 15 #[.pointer (some ⟨b,0,none⟩),.slice S l.length ca,.slice P pk.length cp] w fun e w'=>e = .returned (.tuple #[])/\∃ W F',Q3 w0 w' b c c.reps.length c.reps.length W F'/\Zt w w' F F'/\UB c (QS l) W:=by
 have hI0:Hid (Z7 w0 w w b c S l F F Yu/\P1 c (QS l) 0 Yu):=⟨⟨h,hl,Zt.below (Below.refl _ _)⟩,P1.start hp⟩
 have hpH:=Lib.hid hp
 have hpk2:=Lib.hid hpk
 have hlen2:=Lib.hid hlen
 have hl14:Hid (l.length<=14):=by have:=hp.l;rw [QS,List.length_map] at this;exact this
 obtain ⟨_,_,c2,c3⟩:=h.cs
 obtain ⟨Am,km,eM,_⟩:=h.mach
 rw [eM] at c2
 have hr4:=Lib.hid (ZI hp.c)
 obtain ⟨L,hL⟩:∃ L,l.length=L:=⟨_,rfl⟩
 rw [hL]
 have hLH:=Lib.hid hL
 have hSH:Hid (w0.heap.size<=w.heap.size/\(0<l.length->∀ i off,S=some ⟨i,off,none⟩->i<w.heap.size)):=⟨h.b0.size,fun h0 i off e=>by
  obtain ⟨b',off',e',_,h1,_⟩:=hl 0 h0
  rw [e] at e';cases e';exact h1⟩
 clear h hp hl hpk hlen eM c3 hL
 go_enter Tryz.func15,Tryz.ntmps15
 go_wp2
 clear c2
 go_loopw [7] (fun i wr=>∃ (k:Nat) (F1:Xe) (W:Wd),k<=pk.length/\i = .int .i64 k/\Hid (Z7 w0 w wr b c S l F F1 W/\P1 c (QS l) k W)) (fun i _=>pk.length-(intOf i).toNat)
 case atStart=>exact ⟨0,F,Yu,Nat.zero_le _,rfl,hI0⟩
 case round =>
  obtain ⟨k,F1,W,hk,rfl,HI⟩:=hrel
  obtain ⟨wi,rfl⟩:∃ wi:World,wi=wr:=⟨_,rfl⟩
  by_cases hlt:k<pk.length
  ·obtain ⟨bp,op,a,rfl,z0,z1,z2,a0,a1,a2⟩:=(hpk2.out.later HI.out.1.i.b0).at' hlt
   have hki:(k:Int)<(pk.length:Int):=by omega
   have hk0:(0:Int)<=(k:Int):=by omega
   have hkH:=Lib.hid hlt
   obtain ⟨g,hgE⟩:∃ g,a.g % c.reps.length=g:=⟨_,rfl⟩
   have hg:g<c.reps.length:=by rw [<- hgE];exact Nat.mod_lt _ (by have:=hr4.out.1;omega)
   have hgI:(a.g:Int) % (c.reps.length:Int)=(g:Int):=by rw [<- hgE];exact (Int.natCast_emod _ _).symm
   have hgH:=Lib.hid hg
   have hrn:¬ c.reps.length=0:=by have:=hr4.out.1;omega
   have hkb:k<100:=by have:=hlen2.out;omega
   by_cases hA:a.e % 2=0/\0<L
   ·obtain ⟨q,hqE⟩:∃ q,a.k % L=q:=⟨_,rfl⟩
    have hq:q<L:=by rw [<- hqE];exact Nat.mod_lt _ hA.2
    have hqI:(a.k:Int) % (L:Int)=(q:Int):=by rw [<- hqE];exact (Int.natCast_emod _ _).symm
    have hqT:(a.k:Int).tmod (L:Int)=(q:Int):=by rw [Int.tmod_eq_emod_of_nonneg (by omega),hqI]
    have e1:(a.e:Int) % 2=0:=by omega
    have e2:decide ((0:Int)<(L:Int))=true:=by rw [decide_eq_true_iff];omega
    have e3:((L:Int) == 0)=false:=by simp;omega
    have e4:¬ L=0:=by omega
    have e5:0<L:=by omega
    have q0:(0:Int)<=(q:Int):=by omega
    have q1:(q:Int)<(L:Int):=by omega
    have hq':q<l.length:=by rw [hLH.out];exact hq
    obtain ⟨bt,ot,x,rfl,x0,x1,x2,x3,ht,_,_,HX⟩:=HI.out.1.a.at' hq'
    have hmem:=Qci hq' HX
    have hC:=Lib.hid (Z7.begin HI.out.1 (HI.out.2.run (by omega)) hpH.out hgH.out hmem ht)
    have hN:=Lib.hid (HI.out.2.begin hpH.out hgH.out hmem x.A x.B x.ca x.cb (by omega)).1
    clear hA hq hq' hqE hgE hg ht hmem HI
    go_wp2_with (go_at_call 45;(with_reducible refine hC.out.mono ?_);rintro e w1 ⟨rfl,F2,h2,_⟩)
    have HI2:=Lib.hid (And.intro h2 hN.out)
    clear hC hN h2 x0 x1 x2 x3 z0 z1 z2
    go_roundw
    case rel=>exact ⟨k+1,F2,_,hkH.out,by go_num,HI2⟩
    case measure=>have:=hkH.out;simp [intOf];omega
   ·have hB:((a.e:Int) % 2=1) \/ ((a.e:Int) % 2=0/\L=0):=by omega
    obtain ⟨_,_,_,c3⟩:=HI.out.1.i.cs
    obtain ⟨Aw,kw,eW,hW⟩:=HI.out.1.i.ways
    obtain ⟨bw,ow,rfl,_,d0⟩:=hW g hg
    have hwr0:=HI.out.1.i.wrr
    rw [eW] at hwr0 c3
    obtain ⟨rfl,_,_⟩:=Qat hwr0
    rw [Nat.zero_add] at d0
    obtain ⟨Ae,ke,eE,hE⟩:=HI.out.1.i.wayAt hg
    rw [eE] at d0
    have g0:(0:Int)<=(g:Int):=by omega
    have g1:(g:Int)<(c.reps.length:Int):=by omega
    obtain ⟨wl,hwlE⟩:∃ wl,(W.way g).length=wl:=⟨_,rfl⟩
    rw [hwlE] at d0 hE
    by_cases hwl:0<wl
    ·obtain ⟨q,hqE⟩:∃ q,a.k % wl=q:=⟨_,rfl⟩
     have hq:q<wl:=by rw [<- hqE];exact Nat.mod_lt _ hwl
     have hqI:(a.k:Int) % (wl:Int)=(q:Int):=by rw [<- hqE];exact (Int.natCast_emod _ _).symm
     have hqT:(a.k:Int).tmod (wl:Int)=(q:Int):=by rw [Int.tmod_eq_emod_of_nonneg (by omega),hqI]
     have e4:decide ((0:Int)<(wl:Int))=true:=by rw [decide_eq_true_iff];omega
     have e5:((wl:Int) == 0)=false:=by simp;omega
     have e6:¬ wl=0:=by omega
     have q0:(0:Int)<=(q:Int):=by omega
     have q1:(q:Int)<(wl:Int):=by omega
     have hq':q<(W.way g).length:=by rw [hwlE];exact hq
     obtain ⟨be,oe,rfl,_,hcr⟩:=hE q hq
     obtain ⟨m,hm⟩:∃ m,(W.way g).getD q Kh=m:=⟨_,rfl⟩
     rw [hm] at hcr
     obtain ⟨y0,y1,y2,y3,y4,y5,y6,y7,y8,y9⟩:=Qi3 hcr
     have hmem:m ∈ W.way g:=by rw [<- hm,List.getD_eq_getElem?_getD,List.getElem?_eq_getElem hq'];exact List.getElem_mem hq'
     have hC:Hid (∀ wz,Below wi.heap.size wi wz->Calls Tryz.prog 45 #[.pointer (some ⟨b,0,none⟩),.int .i64 g,.agg #[.int .i64 m.k,.int .i64 m.t.ses,.int .i64 m.t.seq,.slice m.A m.t.rds.length m.ca,.slice m.B m.t.wrs.length m.cb,.int .i64 m.is,.int .i64 m.iq,.int .i64 m.g,.int .u64 (m.st:Int),.bool m.y]] wz (Qgz w0 w wz b c S l F F1 (ZN c W g m))):=fun wz hb=>(HI.out.1.later hb).heard (HI.out.2.run (by omega)) hpH.out hgH.out hmem
     have hN:=Lib.hid (HI.out.2.heard hpH.out hgH.out hmem (by omega))
     clear hq hq' hqE hm hcr hE hW hwr0 hgE hg hmem HI eE eW hA hwlE
     rcases hB with hE0 | ⟨hE0,rfl⟩
     ·go_wp2
      have hbD:=Qb (Below.refl wi.heap.size wi)
      refine wp_region_noPanic ?_
      refine Yp (S:=(fun w'=>w'.cell? ⟨b,3,none⟩=some (.slice (some ⟨bw,0,none⟩) c.reps.length kw)/\w'.cell? ⟨bw,g,none⟩=some (.slice (some ⟨be,oe,none⟩) wl ke)/\w'.cell? ⟨be,oe+q * 10,none⟩=some (.int .i64 m.k)/\w'.cell? ⟨be,oe+q * 10+1,none⟩=some (.int .i64 m.t.ses)/\w'.cell? ⟨be,oe+q * 10+2,none⟩=some (.int .i64 m.t.seq)/\w'.cell? ⟨be,oe+q * 10+3,none⟩=some (.slice m.A m.t.rds.length m.ca)/\w'.cell? ⟨be,oe+q * 10+4,none⟩=some (.slice m.B m.t.wrs.length m.cb)/\w'.cell? ⟨be,oe+q * 10+5,none⟩=some (.int .i64 m.is)/\w'.cell? ⟨be,oe+q * 10+6,none⟩=some (.int .i64 m.iq)/\w'.cell? ⟨be,oe+q * 10+7,none⟩=some (.int .i64 m.g)/\w'.cell? ⟨be,oe+q * 10+8,none⟩=some (.int .u64 (m.st:Int))/\w'.cell? ⟨be,oe+q * 10+9,none⟩=some (.bool m.y))) (ok:=?oKZ1) (v:=?vKZ1) 21 0 (by kernel_rfl) (by kernel_rfl) (by decide) ?hiKZ1 (by kernel_rfl) (by kernel_rfl) (by kernel_rfl) ?hqKZ1 (Or.inl ⟨?hgKZ1,?hyKZ1⟩) ⟨keep hbD c3,keep hbD d0,keep hbD y0,keep hbD y1,keep hbD y2,keep hbD y3,keep hbD y4,keep hbD y5,keep hbD y6,keep hbD y7,keep hbD y8,keep hbD y9⟩ (fun hHeld=>?restKZ1)
      case hiKZ1=>(simp only [List.getElem?_toArray,List.getElem?_cons_succ,List.getElem?_cons_zero];rfl)
      case hqKZ1=>exact fun _ _ _ h=>h
      case hgKZ1=>rfl
      case hyKZ1=>(intro w;go_simp;(try with_reducible rfl))
      (try simp only [Act.put,List.setIfInBounds_toArray,List.set_cons_zero,List.set_cons_succ])
      simp only [List.take_succ_cons,List.take_zero,List.drop_succ_cons,List.drop_zero]
      refine wpAnyH_take (i:=1) (oi:=?o1_1) (v:=?v1_1) ?hi1_1 (by kernel_rfl) (by kernel_rfl) (by kernel_rfl) ?hq1_1 (Or.inl ⟨?hg1_1,?hy1_1⟩) hHeld ?rest1_1
      case hi1_1=>(simp only [List.getElem?_toArray,List.getElem?_cons_succ,List.getElem?_cons_zero];rfl)
      case hq1_1=>exact fun _ _ _ h=>h
      case hg1_1=>rfl
      case hy1_1=>(intro w hSw;(try dsimp only at hSw);go_simp;(try with_reducible rfl))
      (try simp only [Act.put,List.setIfInBounds_toArray,List.set_cons_zero,List.set_cons_succ])
      refine wpAnyH_take (i:=2) (oi:=?o2_2) (v:=?v2_2) ?hi2_2 (by kernel_rfl) (by kernel_rfl) (by kernel_rfl) ?hq2_2 (Or.inl ⟨?hg2_2,?hy2_2⟩) hHeld ?rest2_2
      case hi2_2=>(simp only [List.getElem?_toArray,List.getElem?_cons_succ,List.getElem?_cons_zero];rfl)
      case hq2_2=>exact fun _ _ _ h=>h
      case hg2_2=>rfl
      case hy2_2=>(intro w hSw;(try dsimp only at hSw);go_simp;(try with_reducible rfl))
      (try simp only [Act.put,List.setIfInBounds_toArray,List.set_cons_zero,List.set_cons_succ])
      refine wpAnyH_take (i:=3) (oi:=?o3_3) (v:=?v3_3) ?hi3_3 (by kernel_rfl) (by kernel_rfl) (by kernel_rfl) ?hq3_3 (Or.inl ⟨?hg3_3,?hy3_3⟩) hHeld ?rest3_3
      case hi3_3=>(simp only [List.getElem?_toArray,List.getElem?_cons_succ,List.getElem?_cons_zero];rfl)
      case hq3_3=>exact fun _ _ _ h=>h
      case hg3_3=>rfl
      case hy3_3=>(intro w hSw;(try dsimp only at hSw);go_simp;(try with_reducible rfl))
      (try simp only [Act.put,List.setIfInBounds_toArray,List.set_cons_zero,List.set_cons_succ])
      refine wpAnyH_take (i:=4) (oi:=?o4_4) (v:=?v4_4) ?hi4_4 (by kernel_rfl) (by kernel_rfl) (by kernel_rfl) ?hq4_4 (Or.inl ⟨?hg4_4,?hy4_4⟩) hHeld ?rest4_4
      case hi4_4=>(simp only [List.getElem?_toArray,List.getElem?_cons_succ,List.getElem?_cons_zero];rfl)
      case hq4_4=>exact fun _ _ _ h=>h
      case hg4_4=>rfl
      case hy4_4=>(intro w hSw;(try dsimp only at hSw);go_simp;(try with_reducible rfl))
      (try simp only [Act.put,List.setIfInBounds_toArray,List.set_cons_zero,List.set_cons_succ])
      refine wpAnyH_take (i:=5) (oi:=?o5_5) (v:=?v5_5) ?hi5_5 (by kernel_rfl) (by kernel_rfl) (by kernel_rfl) ?hq5_5 (Or.inl ⟨?hg5_5,?hy5_5⟩) hHeld ?rest5_5
      case hi5_5=>(simp only [List.getElem?_toArray,List.getElem?_cons_succ,List.getElem?_cons_zero];rfl)
      case hq5_5=>exact fun _ _ _ h=>h
      case hg5_5=>rfl
      case hy5_5=>(intro w hSw;(try dsimp only at hSw);go_simp;(try with_reducible rfl))
      (try simp only [Act.put,List.setIfInBounds_toArray,List.set_cons_zero,List.set_cons_succ])
      refine wpAnyH_take (i:=6) (oi:=?o6_6) (v:=?v6_6) ?hi6_6 (by kernel_rfl) (by kernel_rfl) (by kernel_rfl) ?hq6_6 (Or.inl ⟨?hg6_6,?hy6_6⟩) hHeld ?rest6_6
      case hi6_6=>(simp only [List.getElem?_toArray,List.getElem?_cons_succ,List.getElem?_cons_zero];rfl)
      case hq6_6=>exact fun _ _ _ h=>h
      case hg6_6=>rfl
      case hy6_6=>(intro w hSw;(try dsimp only at hSw);go_simp;(try with_reducible rfl))
      (try simp only [Act.put,List.setIfInBounds_toArray,List.set_cons_zero,List.set_cons_succ])
      refine wpAnyH_take (i:=7) (oi:=?o7_7) (v:=?v7_7) ?hi7_7 (by kernel_rfl) (by kernel_rfl) (by kernel_rfl) ?hq7_7 (Or.inl ⟨?hg7_7,?hy7_7⟩) hHeld ?rest7_7
      case hi7_7=>(simp only [List.getElem?_toArray,List.getElem?_cons_succ,List.getElem?_cons_zero];rfl)
      case hq7_7=>exact fun _ _ _ h=>h
      case hg7_7=>rfl
      case hy7_7=>(intro w hSw;(try dsimp only at hSw);go_simp;(try with_reducible rfl))
      (try simp only [Act.put,List.setIfInBounds_toArray,List.set_cons_zero,List.set_cons_succ])
      refine wpAnyH_take (i:=8) (oi:=?o8_8) (v:=?v8_8) ?hi8_8 (by kernel_rfl) (by kernel_rfl) (by kernel_rfl) ?hq8_8 (Or.inl ⟨?hg8_8,?hy8_8⟩) hHeld ?rest8_8
      case hi8_8=>(simp only [List.getElem?_toArray,List.getElem?_cons_succ,List.getElem?_cons_zero];rfl)
      case hq8_8=>exact fun _ _ _ h=>h
      case hg8_8=>rfl
      case hy8_8=>(intro w hSw;(try dsimp only at hSw);go_simp;(try with_reducible rfl))
      (try simp only [Act.put,List.setIfInBounds_toArray,List.set_cons_zero,List.set_cons_succ])
      refine wpAnyH_take (i:=9) (oi:=?o9_9) (v:=?v9_9) ?hi9_9 (by kernel_rfl) (by kernel_rfl) (by kernel_rfl) ?hq9_9 (Or.inl ⟨?hg9_9,?hy9_9⟩) hHeld ?rest9_9
      case hi9_9=>(simp only [List.getElem?_toArray,List.getElem?_cons_succ,List.getElem?_cons_zero];rfl)
      case hq9_9=>exact fun _ _ _ h=>h
      case hg9_9=>rfl
      case hy9_9=>(intro w hSw;(try dsimp only at hSw);go_simp;(try with_reducible rfl))
      (try simp only [Act.put,List.setIfInBounds_toArray,List.set_cons_zero,List.set_cons_succ])
      refine wpAnyH_take (i:=10) (oi:=?o10_10) (v:=?v10_10) ?hi10_10 (by kernel_rfl) (by kernel_rfl) (by kernel_rfl) ?hq10_10 (Or.inl ⟨?hg10_10,?hy10_10⟩) hHeld ?rest10_10
      case hi10_10=>(simp only [List.getElem?_toArray,List.getElem?_cons_succ,List.getElem?_cons_zero];rfl)
      case hq10_10=>exact fun _ _ _ h=>h
      case hg10_10=>rfl
      case hy10_10=>(intro w hSw;(try dsimp only at hSw);go_simp;(try with_reducible rfl))
      (try simp only [Act.put,List.setIfInBounds_toArray,List.set_cons_zero,List.set_cons_succ])
      refine wpAnyH_take (i:=11) (oi:=?o11_11) (v:=?v11_11) ?hi11_11 (by kernel_rfl) (by kernel_rfl) (by kernel_rfl) ?hq11_11 (Or.inl ⟨?hg11_11,?hy11_11⟩) hHeld ?rest11_11
      case hi11_11=>(simp only [List.getElem?_toArray,List.getElem?_cons_succ,List.getElem?_cons_zero];rfl)
      case hq11_11=>exact fun _ _ _ h=>h
      case hg11_11=>rfl
      case hy11_11=>(intro w hSw;(try dsimp only at hSw);go_simp;(try with_reducible rfl))
      (try simp only [Act.put,List.setIfInBounds_toArray,List.set_cons_zero,List.set_cons_succ])
      refine wpAnyH_take (i:=12) (oi:=?o12_12) (v:=?v12_12) ?hi12_12 (by kernel_rfl) (by kernel_rfl) (by kernel_rfl) ?hq12_12 (Or.inl ⟨?hg12_12,?hy12_12⟩) hHeld ?rest12_12
      case hi12_12=>(simp only [List.getElem?_toArray,List.getElem?_cons_succ,List.getElem?_cons_zero];rfl)
      case hq12_12=>exact fun _ _ _ h=>h
      case hg12_12=>rfl
      case hy12_12=>(intro w hSw;(try dsimp only at hSw);go_simp;(try with_reducible rfl))
      (try simp only [Act.put,List.setIfInBounds_toArray,List.set_cons_zero,List.set_cons_succ])
      refine wpAnyH_take (i:=13) (oi:=?o13_13) (v:=?v13_13) ?hi13_13 (by kernel_rfl) (by kernel_rfl) (by kernel_rfl) ?hq13_13 (Or.inl ⟨?hg13_13,?hy13_13⟩) hHeld ?rest13_13
      case hi13_13=>(simp only [List.getElem?_toArray,List.getElem?_cons_succ,List.getElem?_cons_zero];rfl)
      case hq13_13=>exact fun _ _ _ h=>h
      case hg13_13=>rfl
      case hy13_13=>(intro w hSw;(try dsimp only at hSw);go_simp;(try with_reducible rfl))
      (try simp only [Act.put,List.setIfInBounds_toArray,List.set_cons_zero,List.set_cons_succ])
      refine wpAnyH_take (i:=14) (oi:=?o14_14) (v:=?v14_14) ?hi14_14 (by kernel_rfl) (by kernel_rfl) (by kernel_rfl) ?hq14_14 (Or.inl ⟨?hg14_14,?hy14_14⟩) hHeld ?rest14_14
      case hi14_14=>(simp only [List.getElem?_toArray,List.getElem?_cons_succ,List.getElem?_cons_zero];rfl)
      case hq14_14=>exact fun _ _ _ h=>h
      case hg14_14=>rfl
      case hy14_14=>(intro w hSw;(try dsimp only at hSw);go_simp;(try with_reducible rfl))
      (try simp only [Act.put,List.setIfInBounds_toArray,List.set_cons_zero,List.set_cons_succ])
      refine wpAnyH_take (i:=15) (oi:=?o15_15) (v:=?v15_15) ?hi15_15 (by kernel_rfl) (by kernel_rfl) (by kernel_rfl) ?hq15_15 (Or.inl ⟨?hg15_15,?hy15_15⟩) hHeld ?rest15_15
      case hi15_15=>(simp only [List.getElem?_toArray,List.getElem?_cons_succ,List.getElem?_cons_zero];rfl)
      case hq15_15=>exact fun _ _ _ h=>h
      case hg15_15=>rfl
      case hy15_15=>(intro w hSw;(try dsimp only at hSw);go_simp;(try with_reducible rfl))
      (try simp only [Act.put,List.setIfInBounds_toArray,List.set_cons_zero,List.set_cons_succ])
      refine wpAnyH_take (i:=16) (oi:=?o16_16) (v:=?v16_16) ?hi16_16 (by kernel_rfl) (by kernel_rfl) (by kernel_rfl) ?hq16_16 (Or.inl ⟨?hg16_16,?hy16_16⟩) hHeld ?rest16_16
      case hi16_16=>(simp only [List.getElem?_toArray,List.getElem?_cons_succ,List.getElem?_cons_zero];rfl)
      case hq16_16=>exact fun _ _ _ h=>h
      case hg16_16=>rfl
      case hy16_16=>(intro w hSw;(try dsimp only at hSw);go_simp;(try with_reducible rfl))
      (try simp only [Act.put,List.setIfInBounds_toArray,List.set_cons_zero,List.set_cons_succ])
      refine wpAnyH_take (i:=17) (oi:=?o17_17) (v:=?v17_17) ?hi17_17 (by kernel_rfl) (by kernel_rfl) (by kernel_rfl) ?hq17_17 (Or.inl ⟨?hg17_17,?hy17_17⟩) hHeld ?rest17_17
      case hi17_17=>(simp only [List.getElem?_toArray,List.getElem?_cons_succ,List.getElem?_cons_zero];rfl)
      case hq17_17=>exact fun _ _ _ h=>h
      case hg17_17=>rfl
      case hy17_17=>(intro w hSw;(try dsimp only at hSw);go_simp;(try with_reducible rfl))
      (try simp only [Act.put,List.setIfInBounds_toArray,List.set_cons_zero,List.set_cons_succ])
      refine wpAnyH_take (i:=18) (oi:=?o18_18) (v:=?v18_18) ?hi18_18 (by kernel_rfl) (by kernel_rfl) (by kernel_rfl) ?hq18_18 (Or.inl ⟨?hg18_18,?hy18_18⟩) hHeld ?rest18_18
      case hi18_18=>(simp only [List.getElem?_toArray,List.getElem?_cons_succ,List.getElem?_cons_zero];rfl)
      case hq18_18=>exact fun _ _ _ h=>h
      case hg18_18=>rfl
      case hy18_18=>(intro w hSw;(try dsimp only at hSw);go_simp;(try with_reducible rfl))
      (try simp only [Act.put,List.setIfInBounds_toArray,List.set_cons_zero,List.set_cons_succ])
      refine wpAnyH_take (i:=19) (oi:=?o19_19) (v:=?v19_19) ?hi19_19 (by kernel_rfl) (by kernel_rfl) (by kernel_rfl) ?hq19_19 (Or.inl ⟨?hg19_19,?hy19_19⟩) hHeld ?rest19_19
      case hi19_19=>(simp only [List.getElem?_toArray,List.getElem?_cons_succ,List.getElem?_cons_zero];rfl)
      case hq19_19=>exact fun _ _ _ h=>h
      case hg19_19=>rfl
      case hy19_19=>(intro w hSw;(try dsimp only at hSw);go_simp;(try with_reducible rfl))
      (try simp only [Act.put,List.setIfInBounds_toArray,List.set_cons_zero,List.set_cons_succ])
      refine wpAnyH_take (i:=20) (oi:=?o20_20) (v:=?v20_20) ?hi20_20 (by kernel_rfl) (by kernel_rfl) (by kernel_rfl) ?hq20_20 (Or.inl ⟨?hg20_20,?hy20_20⟩) hHeld ?rest20_20
      case hi20_20=>(simp only [List.getElem?_toArray,List.getElem?_cons_succ,List.getElem?_cons_zero];rfl)
      case hq20_20=>exact fun _ _ _ h=>h
      case hg20_20=>rfl
      case hy20_20=>(intro w hSw;(try dsimp only at hSw);go_simp;(try with_reducible rfl))
      (try simp only [Act.put,List.setIfInBounds_toArray,List.set_cons_zero,List.set_cons_succ])
      refine wpAnyH_done (by kernel_rfl) ?_ _
      show wpList _ _ _ _ _ _
      go_wp2_with (go_at_call 45;(with_reducible refine (hC.out _ hbD).mono ?_);rintro e w1 ⟨rfl,F2,h2,_⟩)
      refine NoPanic.normal ?_
      have HI2:=Lib.hid (And.intro h2 hN.out)
      clear hC hN h2 hHeld hbD y0 y1 y2 y3 y4 y5 y6 y7 y8 y9 z0 z1 z2 c3 d0
      go_wp2
      go_roundw
      case rel=>exact ⟨k+1,F2,_,hkH.out,by go_num,HI2⟩
      case measure=>have:=hkH.out;simp [intOf];omega
     ·go_wp2
      have hbD:=Qb (Below.refl wi.heap.size wi)
      refine wp_region_noPanic ?_
      refine Yp (S:=(fun w'=>w'.cell? ⟨b,3,none⟩=some (.slice (some ⟨bw,0,none⟩) c.reps.length kw)/\w'.cell? ⟨bw,g,none⟩=some (.slice (some ⟨be,oe,none⟩) wl ke)/\w'.cell? ⟨be,oe+q * 10,none⟩=some (.int .i64 m.k)/\w'.cell? ⟨be,oe+q * 10+1,none⟩=some (.int .i64 m.t.ses)/\w'.cell? ⟨be,oe+q * 10+2,none⟩=some (.int .i64 m.t.seq)/\w'.cell? ⟨be,oe+q * 10+3,none⟩=some (.slice m.A m.t.rds.length m.ca)/\w'.cell? ⟨be,oe+q * 10+4,none⟩=some (.slice m.B m.t.wrs.length m.cb)/\w'.cell? ⟨be,oe+q * 10+5,none⟩=some (.int .i64 m.is)/\w'.cell? ⟨be,oe+q * 10+6,none⟩=some (.int .i64 m.iq)/\w'.cell? ⟨be,oe+q * 10+7,none⟩=some (.int .i64 m.g)/\w'.cell? ⟨be,oe+q * 10+8,none⟩=some (.int .u64 (m.st:Int))/\w'.cell? ⟨be,oe+q * 10+9,none⟩=some (.bool m.y))) (ok:=?oKZ2) (v:=?vKZ2) 21 0 (by kernel_rfl) (by kernel_rfl) (by decide) ?hiKZ2 (by kernel_rfl) (by kernel_rfl) (by kernel_rfl) ?hqKZ2 (Or.inl ⟨?hgKZ2,?hyKZ2⟩) ⟨keep hbD c3,keep hbD d0,keep hbD y0,keep hbD y1,keep hbD y2,keep hbD y3,keep hbD y4,keep hbD y5,keep hbD y6,keep hbD y7,keep hbD y8,keep hbD y9⟩ (fun hHeld=>?restKZ2)
      case hiKZ2=>(simp only [List.getElem?_toArray,List.getElem?_cons_succ,List.getElem?_cons_zero];rfl)
      case hqKZ2=>exact fun _ _ _ h=>h
      case hgKZ2=>rfl
      case hyKZ2=>(intro w;go_simp;(try with_reducible rfl))
      (try simp only [Act.put,List.setIfInBounds_toArray,List.set_cons_zero,List.set_cons_succ])
      simp only [List.take_succ_cons,List.take_zero,List.drop_succ_cons,List.drop_zero]
      refine wpAnyH_take (i:=1) (oi:=?o1_21) (v:=?v1_21) ?hi1_21 (by kernel_rfl) (by kernel_rfl) (by kernel_rfl) ?hq1_21 (Or.inl ⟨?hg1_21,?hy1_21⟩) hHeld ?rest1_21
      case hi1_21=>(simp only [List.getElem?_toArray,List.getElem?_cons_succ,List.getElem?_cons_zero];rfl)
      case hq1_21=>exact fun _ _ _ h=>h
      case hg1_21=>rfl
      case hy1_21=>(intro w hSw;(try dsimp only at hSw);go_simp;(try with_reducible rfl))
      (try simp only [Act.put,List.setIfInBounds_toArray,List.set_cons_zero,List.set_cons_succ])
      refine wpAnyH_take (i:=2) (oi:=?o2_22) (v:=?v2_22) ?hi2_22 (by kernel_rfl) (by kernel_rfl) (by kernel_rfl) ?hq2_22 (Or.inl ⟨?hg2_22,?hy2_22⟩) hHeld ?rest2_22
      case hi2_22=>(simp only [List.getElem?_toArray,List.getElem?_cons_succ,List.getElem?_cons_zero];rfl)
      case hq2_22=>exact fun _ _ _ h=>h
      case hg2_22=>rfl
      case hy2_22=>(intro w hSw;(try dsimp only at hSw);go_simp;(try with_reducible rfl))
      (try simp only [Act.put,List.setIfInBounds_toArray,List.set_cons_zero,List.set_cons_succ])
      refine wpAnyH_take (i:=3) (oi:=?o3_23) (v:=?v3_23) ?hi3_23 (by kernel_rfl) (by kernel_rfl) (by kernel_rfl) ?hq3_23 (Or.inl ⟨?hg3_23,?hy3_23⟩) hHeld ?rest3_23
      case hi3_23=>(simp only [List.getElem?_toArray,List.getElem?_cons_succ,List.getElem?_cons_zero];rfl)
      case hq3_23=>exact fun _ _ _ h=>h
      case hg3_23=>rfl
      case hy3_23=>(intro w hSw;(try dsimp only at hSw);go_simp;(try with_reducible rfl))
      (try simp only [Act.put,List.setIfInBounds_toArray,List.set_cons_zero,List.set_cons_succ])
      refine wpAnyH_take (i:=4) (oi:=?o4_24) (v:=?v4_24) ?hi4_24 (by kernel_rfl) (by kernel_rfl) (by kernel_rfl) ?hq4_24 (Or.inl ⟨?hg4_24,?hy4_24⟩) hHeld ?rest4_24
      case hi4_24=>(simp only [List.getElem?_toArray,List.getElem?_cons_succ,List.getElem?_cons_zero];rfl)
      case hq4_24=>exact fun _ _ _ h=>h
      case hg4_24=>rfl
      case hy4_24=>(intro w hSw;(try dsimp only at hSw);go_simp;(try with_reducible rfl))
      (try simp only [Act.put,List.setIfInBounds_toArray,List.set_cons_zero,List.set_cons_succ])
      refine wpAnyH_take (i:=5) (oi:=?o5_25) (v:=?v5_25) ?hi5_25 (by kernel_rfl) (by kernel_rfl) (by kernel_rfl) ?hq5_25 (Or.inl ⟨?hg5_25,?hy5_25⟩) hHeld ?rest5_25
      case hi5_25=>(simp only [List.getElem?_toArray,List.getElem?_cons_succ,List.getElem?_cons_zero];rfl)
      case hq5_25=>exact fun _ _ _ h=>h
      case hg5_25=>rfl
      case hy5_25=>(intro w hSw;(try dsimp only at hSw);go_simp;(try with_reducible rfl))
      (try simp only [Act.put,List.setIfInBounds_toArray,List.set_cons_zero,List.set_cons_succ])
      refine wpAnyH_take (i:=6) (oi:=?o6_26) (v:=?v6_26) ?hi6_26 (by kernel_rfl) (by kernel_rfl) (by kernel_rfl) ?hq6_26 (Or.inl ⟨?hg6_26,?hy6_26⟩) hHeld ?rest6_26
      case hi6_26=>(simp only [List.getElem?_toArray,List.getElem?_cons_succ,List.getElem?_cons_zero];rfl)
      case hq6_26=>exact fun _ _ _ h=>h
      case hg6_26=>rfl
      case hy6_26=>(intro w hSw;(try dsimp only at hSw);go_simp;(try with_reducible rfl))
      (try simp only [Act.put,List.setIfInBounds_toArray,List.set_cons_zero,List.set_cons_succ])
      refine wpAnyH_take (i:=7) (oi:=?o7_27) (v:=?v7_27) ?hi7_27 (by kernel_rfl) (by kernel_rfl) (by kernel_rfl) ?hq7_27 (Or.inl ⟨?hg7_27,?hy7_27⟩) hHeld ?rest7_27
      case hi7_27=>(simp only [List.getElem?_toArray,List.getElem?_cons_succ,List.getElem?_cons_zero];rfl)
      case hq7_27=>exact fun _ _ _ h=>h
      case hg7_27=>rfl
      case hy7_27=>(intro w hSw;(try dsimp only at hSw);go_simp;(try with_reducible rfl))
      (try simp only [Act.put,List.setIfInBounds_toArray,List.set_cons_zero,List.set_cons_succ])
      refine wpAnyH_take (i:=8) (oi:=?o8_28) (v:=?v8_28) ?hi8_28 (by kernel_rfl) (by kernel_rfl) (by kernel_rfl) ?hq8_28 (Or.inl ⟨?hg8_28,?hy8_28⟩) hHeld ?rest8_28
      case hi8_28=>(simp only [List.getElem?_toArray,List.getElem?_cons_succ,List.getElem?_cons_zero];rfl)
      case hq8_28=>exact fun _ _ _ h=>h
      case hg8_28=>rfl
      case hy8_28=>(intro w hSw;(try dsimp only at hSw);go_simp;(try with_reducible rfl))
      (try simp only [Act.put,List.setIfInBounds_toArray,List.set_cons_zero,List.set_cons_succ])
      refine wpAnyH_take (i:=9) (oi:=?o9_29) (v:=?v9_29) ?hi9_29 (by kernel_rfl) (by kernel_rfl) (by kernel_rfl) ?hq9_29 (Or.inl ⟨?hg9_29,?hy9_29⟩) hHeld ?rest9_29
      case hi9_29=>(simp only [List.getElem?_toArray,List.getElem?_cons_succ,List.getElem?_cons_zero];rfl)
      case hq9_29=>exact fun _ _ _ h=>h
      case hg9_29=>rfl
      case hy9_29=>(intro w hSw;(try dsimp only at hSw);go_simp;(try with_reducible rfl))
      (try simp only [Act.put,List.setIfInBounds_toArray,List.set_cons_zero,List.set_cons_succ])
      refine wpAnyH_take (i:=10) (oi:=?o10_30) (v:=?v10_30) ?hi10_30 (by kernel_rfl) (by kernel_rfl) (by kernel_rfl) ?hq10_30 (Or.inl ⟨?hg10_30,?hy10_30⟩) hHeld ?rest10_30
      case hi10_30=>(simp only [List.getElem?_toArray,List.getElem?_cons_succ,List.getElem?_cons_zero];rfl)
      case hq10_30=>exact fun _ _ _ h=>h
      case hg10_30=>rfl
      case hy10_30=>(intro w hSw;(try dsimp only at hSw);go_simp;(try with_reducible rfl))
      (try simp only [Act.put,List.setIfInBounds_toArray,List.set_cons_zero,List.set_cons_succ])
      refine wpAnyH_take (i:=11) (oi:=?o11_31) (v:=?v11_31) ?hi11_31 (by kernel_rfl) (by kernel_rfl) (by kernel_rfl) ?hq11_31 (Or.inl ⟨?hg11_31,?hy11_31⟩) hHeld ?rest11_31
      case hi11_31=>(simp only [List.getElem?_toArray,List.getElem?_cons_succ,List.getElem?_cons_zero];rfl)
      case hq11_31=>exact fun _ _ _ h=>h
      case hg11_31=>rfl
      case hy11_31=>(intro w hSw;(try dsimp only at hSw);go_simp;(try with_reducible rfl))
      (try simp only [Act.put,List.setIfInBounds_toArray,List.set_cons_zero,List.set_cons_succ])
      refine wpAnyH_take (i:=12) (oi:=?o12_32) (v:=?v12_32) ?hi12_32 (by kernel_rfl) (by kernel_rfl) (by kernel_rfl) ?hq12_32 (Or.inl ⟨?hg12_32,?hy12_32⟩) hHeld ?rest12_32
      case hi12_32=>(simp only [List.getElem?_toArray,List.getElem?_cons_succ,List.getElem?_cons_zero];rfl)
      case hq12_32=>exact fun _ _ _ h=>h
      case hg12_32=>rfl
      case hy12_32=>(intro w hSw;(try dsimp only at hSw);go_simp;(try with_reducible rfl))
      (try simp only [Act.put,List.setIfInBounds_toArray,List.set_cons_zero,List.set_cons_succ])
      refine wpAnyH_take (i:=13) (oi:=?o13_33) (v:=?v13_33) ?hi13_33 (by kernel_rfl) (by kernel_rfl) (by kernel_rfl) ?hq13_33 (Or.inl ⟨?hg13_33,?hy13_33⟩) hHeld ?rest13_33
      case hi13_33=>(simp only [List.getElem?_toArray,List.getElem?_cons_succ,List.getElem?_cons_zero];rfl)
      case hq13_33=>exact fun _ _ _ h=>h
      case hg13_33=>rfl
      case hy13_33=>(intro w hSw;(try dsimp only at hSw);go_simp;(try with_reducible rfl))
      (try simp only [Act.put,List.setIfInBounds_toArray,List.set_cons_zero,List.set_cons_succ])
      refine wpAnyH_take (i:=14) (oi:=?o14_34) (v:=?v14_34) ?hi14_34 (by kernel_rfl) (by kernel_rfl) (by kernel_rfl) ?hq14_34 (Or.inl ⟨?hg14_34,?hy14_34⟩) hHeld ?rest14_34
      case hi14_34=>(simp only [List.getElem?_toArray,List.getElem?_cons_succ,List.getElem?_cons_zero];rfl)
      case hq14_34=>exact fun _ _ _ h=>h
      case hg14_34=>rfl
      case hy14_34=>(intro w hSw;(try dsimp only at hSw);go_simp;(try with_reducible rfl))
      (try simp only [Act.put,List.setIfInBounds_toArray,List.set_cons_zero,List.set_cons_succ])
      refine wpAnyH_take (i:=15) (oi:=?o15_35) (v:=?v15_35) ?hi15_35 (by kernel_rfl) (by kernel_rfl) (by kernel_rfl) ?hq15_35 (Or.inl ⟨?hg15_35,?hy15_35⟩) hHeld ?rest15_35
      case hi15_35=>(simp only [List.getElem?_toArray,List.getElem?_cons_succ,List.getElem?_cons_zero];rfl)
      case hq15_35=>exact fun _ _ _ h=>h
      case hg15_35=>rfl
      case hy15_35=>(intro w hSw;(try dsimp only at hSw);go_simp;(try with_reducible rfl))
      (try simp only [Act.put,List.setIfInBounds_toArray,List.set_cons_zero,List.set_cons_succ])
      refine wpAnyH_take (i:=16) (oi:=?o16_36) (v:=?v16_36) ?hi16_36 (by kernel_rfl) (by kernel_rfl) (by kernel_rfl) ?hq16_36 (Or.inl ⟨?hg16_36,?hy16_36⟩) hHeld ?rest16_36
      case hi16_36=>(simp only [List.getElem?_toArray,List.getElem?_cons_succ,List.getElem?_cons_zero];rfl)
      case hq16_36=>exact fun _ _ _ h=>h
      case hg16_36=>rfl
      case hy16_36=>(intro w hSw;(try dsimp only at hSw);go_simp;(try with_reducible rfl))
      (try simp only [Act.put,List.setIfInBounds_toArray,List.set_cons_zero,List.set_cons_succ])
      refine wpAnyH_take (i:=17) (oi:=?o17_37) (v:=?v17_37) ?hi17_37 (by kernel_rfl) (by kernel_rfl) (by kernel_rfl) ?hq17_37 (Or.inl ⟨?hg17_37,?hy17_37⟩) hHeld ?rest17_37
      case hi17_37=>(simp only [List.getElem?_toArray,List.getElem?_cons_succ,List.getElem?_cons_zero];rfl)
      case hq17_37=>exact fun _ _ _ h=>h
      case hg17_37=>rfl
      case hy17_37=>(intro w hSw;(try dsimp only at hSw);go_simp;(try with_reducible rfl))
      (try simp only [Act.put,List.setIfInBounds_toArray,List.set_cons_zero,List.set_cons_succ])
      refine wpAnyH_take (i:=18) (oi:=?o18_38) (v:=?v18_38) ?hi18_38 (by kernel_rfl) (by kernel_rfl) (by kernel_rfl) ?hq18_38 (Or.inl ⟨?hg18_38,?hy18_38⟩) hHeld ?rest18_38
      case hi18_38=>(simp only [List.getElem?_toArray,List.getElem?_cons_succ,List.getElem?_cons_zero];rfl)
      case hq18_38=>exact fun _ _ _ h=>h
      case hg18_38=>rfl
      case hy18_38=>(intro w hSw;(try dsimp only at hSw);go_simp;(try with_reducible rfl))
      (try simp only [Act.put,List.setIfInBounds_toArray,List.set_cons_zero,List.set_cons_succ])
      refine wpAnyH_take (i:=19) (oi:=?o19_39) (v:=?v19_39) ?hi19_39 (by kernel_rfl) (by kernel_rfl) (by kernel_rfl) ?hq19_39 (Or.inl ⟨?hg19_39,?hy19_39⟩) hHeld ?rest19_39
      case hi19_39=>(simp only [List.getElem?_toArray,List.getElem?_cons_succ,List.getElem?_cons_zero];rfl)
      case hq19_39=>exact fun _ _ _ h=>h
      case hg19_39=>rfl
      case hy19_39=>(intro w hSw;(try dsimp only at hSw);go_simp;(try with_reducible rfl))
      (try simp only [Act.put,List.setIfInBounds_toArray,List.set_cons_zero,List.set_cons_succ])
      refine wpAnyH_take (i:=20) (oi:=?o20_40) (v:=?v20_40) ?hi20_40 (by kernel_rfl) (by kernel_rfl) (by kernel_rfl) ?hq20_40 (Or.inl ⟨?hg20_40,?hy20_40⟩) hHeld ?rest20_40
      case hi20_40=>(simp only [List.getElem?_toArray,List.getElem?_cons_succ,List.getElem?_cons_zero];rfl)
      case hq20_40=>exact fun _ _ _ h=>h
      case hg20_40=>rfl
      case hy20_40=>(intro w hSw;(try dsimp only at hSw);go_simp;(try with_reducible rfl))
      (try simp only [Act.put,List.setIfInBounds_toArray,List.set_cons_zero,List.set_cons_succ])
      refine wpAnyH_done (by kernel_rfl) ?_ _
      show wpList _ _ _ _ _ _
      go_wp2_with (go_at_call 45;(with_reducible refine (hC.out _ hbD).mono ?_);rintro e w1 ⟨rfl,F2,h2,_⟩)
      refine NoPanic.normal ?_
      have HI2:=Lib.hid (And.intro h2 hN.out)
      clear hC hN h2 hHeld hbD y0 y1 y2 y3 y4 y5 y6 y7 y8 y9 z0 z1 z2 c3 d0
      go_wp2
      go_roundw
      case rel=>exact ⟨k+1,F2,_,hkH.out,by go_num,HI2⟩
      case measure=>have:=hkH.out;simp [intOf];omega
    ·obtain rfl:wl=0:=by omega
     have HI2:=Lib.hid (And.intro HI.out.1 (HI.out.2.more (Nat.le_succ k)))
     clear hwl hE hW hwr0 hgE hg HI eE eW hA hwlE
     rcases hB with hE0 | ⟨hE0,rfl⟩
     all_goals
      go_wp2
      go_roundw
      case rel=>exact ⟨k+1,F1,_,hkH.out,by go_num,HI2⟩
      case measure=>have:=hkH.out;simp [intOf];omega
  ·obtain rfl:k=pk.length:=by omega
   have HI1:Hid (Z7 w0 w wi b c S l F F1 W/\P1 c (QS l) (100+4 * 0) W/\XQ c l 0 0 W):=⟨HI.out.1,HI.out.2.more (by have:=hlen2.out;omega),XQ.start⟩
   clear HI hlt hk
   go_wp2
   go_loopw [10] (fun i wr=>∃ (k:Nat) (F1:Xe) (W:Wd),k<=L/\i = .int .i64 k/\Hid (Z7 w0 w wr b c S l F F1 W/\P1 c (QS l) (100+4 * k) W/\XQ c l k 0 W)) (fun i _=>L-(intOf i).toNat)
   case atStart=>exact ⟨0,F1,W,Nat.zero_le _,rfl,HI1⟩
   case round =>
    obtain ⟨k,F2,W2,hk,rfl,HI⟩:=hrel
    obtain ⟨wi2,rfl⟩:∃ wi:World,wi=wr:=⟨_,rfl⟩
    clear HI1
    by_cases hlt:k<L
    ·have hkH:=Lib.hid hlt
     have hki:(k:Int)<(L:Int):=by omega
     have hk0:(0:Int)<=(k:Int):=by omega
     have HI3:Hid (Z7 w0 w wi2 b c S l F F2 W2/\P1 c (QS l) (100+4 * k+0) W2/\XQ c l k 0 W2):=HI.out
     have hk14:k<14:=by have:=hl14.out;have:=hLH.out;omega
     clear HI hlt hk
     go_wp2
     go_loopw [11] (fun i wr=>∃ (h:Nat) (F1:Xe) (W:Wd),h<=c.reps.length/\i = .int .i64 h/\Hid (Z7 w0 w wr b c S l F F1 W/\P1 c (QS l) (100+4 * k+h) W/\XQ c l k h W)) (fun i _=>c.reps.length-(intOf i).toNat)
     case atStart=>exact ⟨0,F2,W2,Nat.zero_le _,rfl,HI3⟩
     case round =>
      obtain ⟨h,F3,W3,hh,rfl,HI4⟩:=hrel
      obtain ⟨wi3,rfl⟩:∃ wi:World,wi=wr:=⟨_,rfl⟩
      clear HI3
      by_cases hlt2:h<c.reps.length
      ·have hhi:(h:Int)<(c.reps.length:Int):=by omega
       have hh0:(0:Int)<=(h:Int):=by omega
       have hhH:=Lib.hid hlt2
       have hh4:h<4:=by have:=hr4.out.2;omega
       have hq':k<l.length:=by rw [hLH.out];exact hkH.out
       obtain ⟨bt,ot,x,rfl,x0,x1,x2,x3,ht,_,_,HX⟩:=HI4.out.1.a.at' hq'
       have hmem:=Qci hq' HX
       have hC:=Lib.hid (Z7.begin HI4.out.1 (HI4.out.2.1.run (by omega)) hpH.out hhH.out hmem ht)
       have hN:=HI4.out.2.1.begin hpH.out hhH.out hmem x.A x.B x.ca x.cb (by omega)
       have hNH:=Lib.hid (And.intro hN.1 (HI4.out.2.2.step HX.out hhH.out hN.2.2 hN.2.1))
       clear hq' ht hmem HI4 hN hlt2 hh
       go_wp2_with (go_at_call 45;(with_reducible refine hC.out.mono ?_);rintro e w1 ⟨rfl,F4,h2,_⟩)
       have HI5:=Lib.hid (And.intro h2 hNH.out)
       clear hC hNH h2 x0 x1 x2 x3
       go_roundw
       case rel=>exact ⟨h+1,F4,_,hhH.out,by go_num,HI5⟩
       case measure=>have:=hhH.out;simp [intOf];omega
      ·obtain rfl:h=c.reps.length:=by omega
       have HI5:Hid (Z7 w0 w wi3 b c S l F F3 W3/\P1 c (QS l) (100+4 * (k+1)) W3/\XQ c l (k+1) 0 W3):=⟨HI4.out.1,HI4.out.2.1.more (by have:=hr4.out.2;omega),HI4.out.2.2.next⟩
       clear HI4 hlt2 hh
       go_wp2
       go_roundw
       case rel=>exact ⟨k+1,F3,W3,hkH.out,by go_num,HI5⟩
       case measure=>have:=hkH.out;simp [intOf];omega
    ·obtain rfl:k=L:=by omega
     have hP3:=P3.start (HI.out.2.1.more (by have:=hl14.out;have:=hLH.out;omega)) hpH.out (XQ.all (by rw [hLH.out];exact HI.out.2.2))
     have hI6:=HI.out.1
     have hszw:Hid (w.heap.size<=wi2.heap.size):=hI6.s.out.size
     clear HI hlt hk
     go_wp2
     obtain ⟨bA,hbA⟩:∃ x,wi2.heap.size=x:=⟨_,rfl⟩
     have HI7:Hid (Z7 w0 w (wi2.alloc (.cells (Kn fun _=>0) 116)) b c S l F F2 W2/\P3 c (QS l) 0 (fun _=>0) W2/\(wi2.alloc (.cells (Kn fun _=>0) 116)).heap[bA]? = some (.cells (Kn fun _=>0) 116 (0,0))/\F2.ow bA = .no) :=
      ⟨hI6.later (Qc _ _),hP3,by rw [<- hbA];exact heap_alloc_new _ _,hI6.i.fresh (Nat.le_of_eq hbA)⟩
     rw [hbA] at hszw ⊢
     clear hI6 hP3 hbA
     go_loopw [13] (fun i wr=>∃ (τ:Nat) (p:Nat->Nat) (F1:Xe) (W:Wd),τ<=2000/\i = .int .i64 τ/\Hid (Z7 w0 w wr b c S l F F1 W/\P3 c (QS l) τ p W/\wr.heap[bA]? = some (.cells (Kn p) 116 (0,0))/\F1.ow bA = .no)) (fun i _=>2000-(intOf i).toNat)
     case atStart=>exact ⟨0,_,F2,W2,Nat.zero_le _,rfl,HI7⟩
     case round =>
      obtain ⟨τ,p,F3,W3,hτ,rfl,HI⟩:=hrel
      obtain ⟨wi3,rfl⟩:∃ wi:World,wi=wr:=⟨_,rfl⟩
      clear HI7
      by_cases hlt:τ<2000
      ·obtain ⟨g,hgE⟩:∃ g,τ % c.reps.length=g:=⟨_,rfl⟩
       have hrn:¬ c.reps.length=0:=by have:=hr4.out.1;omega
       have hg:g<c.reps.length:=by rw [<- hgE];exact Nat.mod_lt _ (by omega)
       have hg4:g<4:=by have:=hr4.out.2;omega
       have hgI:(τ:Int) % (c.reps.length:Int)=(g:Int):=by rw [<- hgE];exact (Int.natCast_emod _ _).symm
       have hgT:(τ:Int).tmod (c.reps.length:Int)=(g:Int):=by rw [Int.tmod_eq_emod_of_nonneg (by omega),hgI]
       have hgH:=Lib.hid hg
       have hgEH:=Lib.hid hgE
       have hτH:=Lib.hid hlt
       have hτi:(τ:Int)<2000:=by omega
       have hτ0:(0:Int)<=(τ:Int):=by omega
       have g0:(0:Int)<=(g:Int):=by omega
       have g1:(g:Int)<(c.reps.length:Int):=by omega
       have g2:(g:Int)<4:=by omega
       have t0:wi3.cell? ⟨bA,g,none⟩=some (.int .i64 (p g)):=by rw [cell_of_row wi3 _ _ _ _ _ HI.out.2.2.1];exact Qc3 hg4
       obtain ⟨_,_,_,c3⟩:=HI.out.1.i.cs
       obtain ⟨Aw,kw,eW,hW⟩:=HI.out.1.i.ways
       obtain ⟨bw,ow,rfl,_,d0⟩:=hW g hg
       have hwr0:=HI.out.1.i.wrr
       rw [eW] at hwr0 c3
       obtain ⟨rfl,_,_⟩:=Qat hwr0
       rw [Nat.zero_add] at d0
       obtain ⟨Ae,ke,eE,hE⟩:=HI.out.1.i.wayAt hg
       rw [eE] at d0
       obtain ⟨wl,hwlE⟩:∃ wl,(W3.way g).length=wl:=⟨_,rfl⟩
       rw [hwlE] at d0 hE
       have hle:=HI.out.2.1.le g hg
       have hfew:=HI.out.2.1.few hpH.out g
       rw [hwlE] at hle hfew
       obtain ⟨q,hqE⟩:∃ q,p g=q:=⟨_,rfl⟩
       rw [hqE] at t0 hle
       by_cases hwl:q<wl
       ·have q1:(q:Int)<(wl:Int):=by omega
        have q0:(0:Int)<=(q:Int):=by omega
        obtain ⟨be,oe,rfl,_,hcr⟩:=hE q hwl
        obtain ⟨m,hm⟩:∃ m,(W3.way g).getD q Kh=m:=⟨_,rfl⟩
        rw [hm] at hcr
        obtain ⟨y0,y1,y2,y3,y4,y5,y6,y7,y8,y9⟩:=Qi3 hcr
        have hq':q<(W3.way g).length:=by rw [hwlE];exact hwl
        have hat:(W3.way g)[q]? = some m:=by rw [<- hm,List.getD_eq_getElem?_getD,List.getElem?_eq_getElem hq'];rfl
        have hmem:m ∈ W3.way g:=List.mem_of_getElem? hat
        have hN:Hid (P3 c (QS l) (τ+1) (fun x=>if x=g then q+1 else p x) (ZN c W3 g m)):=by
         have:=HI.out.2.1.take hpH.out hτH.out hgEH.out.symm (by rw [hqE];exact hq') (a:=m) (by rw [hqE];exact hat)
         rw [hqE] at this
         exact this
        have hmemH:=Lib.hid hmem
        have hqEH:=Lib.hid hqE
        have hq4:q<1000:=by omega
        clear hcr hm hq' hat hmem hwl hgE hg hE hW hwr0 eE eW hwlE hle hfew hqE hlt hτ
        go_wp2
        go_quiet (fail)
        obtain ⟨w8,hw8⟩:∃ w8,wi3.drewN nq=w8:=⟨_,rfl⟩
        have hb8:Below wi3.heap.size wi3 w8:=by rw [<- hw8];exact Qj (Below.refl _ _) _
        rw [hw8]
        clear hw8
        replace t0:=keep hb8 t0
        replace c3:=keep hb8 c3
        replace d0:=keep hb8 d0
        replace y0:=keep hb8 y0
        replace y1:=keep hb8 y1
        replace y2:=keep hb8 y2
        replace y3:=keep hb8 y3
        replace y4:=keep hb8 y4
        replace y5:=keep hb8 y5
        replace y6:=keep hb8 y6
        replace y7:=keep hb8 y7
        replace y8:=keep hb8 y8
        replace y9:=keep hb8 y9
        have p0:=fun o=>keep (Qc w8 o) t0
        have p1:=fun o=>keep (Qc w8 o) c3
        have p2:=fun o=>keep (Qc w8 o) d0
        have z0:=fun o=>keep (Qc w8 o) y0
        have z1:=fun o=>keep (Qc w8 o) y1
        have z2:=fun o=>keep (Qc w8 o) y2
        have z3:=fun o=>keep (Qc w8 o) y3
        have z4:=fun o=>keep (Qc w8 o) y4
        have z5:=fun o=>keep (Qc w8 o) y5
        have z6:=fun o=>keep (Qc w8 o) y6
        have z7:=fun o=>keep (Qc w8 o) y7
        have z8:=fun o=>keep (Qc w8 o) y8
        have z9:=fun o=>keep (Qc w8 o) y9
        go_wp2
        go_region
        clear p0 p1 p2 z0 z1 z2 z3 z4 z5 z6 z7 z8 z9
        obtain ⟨w9,hw9⟩:∃ w9,(w8.alloc (.cells #[.int .i64 m.k,.int .i64 m.t.ses,.int .i64 m.t.seq,.slice m.A m.t.rds.length m.ca,.slice m.B m.t.wrs.length m.cb,.int .i64 m.is,.int .i64 m.iq,.int .i64 m.g,.int .u64 (m.st:Int),.bool m.y] 41)).drew=w9:=⟨_,rfl⟩
        have hb9:Below wi3.heap.size wi3 w9:=Qa hb8 (by rw [<- hw9];exact Qb (Qc w8 _))
        have hy9:w9.heap[w8.heap.size]? = some (.cells m.vs 41 (0,0)):=by rw [<- hw9];exact heap_alloc_new w8 _
        rw [hw9]
        have hxA:w8.heap.size ≠ bA:=fun e=>by
         have h1:=(Array.getElem?_eq_some_iff.1 HI.out.2.2.1).1
         have h2:=hb8.size
         omega
        obtain ⟨bx,hbx⟩:∃ x,w8.heap.size=x:=⟨_,rfl⟩
        rw [hbx] at hy9 hxA ⊢
        clear y0 y1 y2 y3 y4 y5 y6 y7 y8 y9 c3 d0 t0 hw9 hbx
        obtain ⟨y0,y1,y2,y3,y4,y5,y6,y7,y8,y9⟩:=V5 hy9
        have hA9:=Xw HI.out.2.2.1 hb9
        have t0:w9.cell? ⟨bA,g,none⟩=some (.int .i64 q):=by
         have:=Qc3 (p:=p) hg4
         rw [hqEH.out] at this
         rw [cell_of_row w9 _ _ _ _ _ hA9];exact this
        have tf:w9.frozen? ⟨bA,g,none⟩=false:=frozen_of_row w9 bA _ _ _ hA9
        have ys:Hid (∀ v j u,w9.cell? ⟨bx,j,none⟩=some u->(w9.setCell ⟨bA,g,none⟩ v).cell? ⟨bx,j,none⟩=some u):=fun v j u hc=>(QQ w9 bA g v).cell hc (fun z=>hxA z)
        have z0:=fun v=>ys.out v _ _ y0
        have z1:=fun v=>ys.out v _ _ y1
        have z2:=fun v=>ys.out v _ _ y2
        have z3:=fun v=>ys.out v _ _ y3
        have z4:=fun v=>ys.out v _ _ y4
        have z5:=fun v=>ys.out v _ _ y5
        have z6:=fun v=>ys.out v _ _ y6
        have z7:=fun v=>ys.out v _ _ y7
        have z8:=fun v=>ys.out v _ _ y8
        have z9:=fun v=>ys.out v _ _ y9
        have hbAw:Hid (w.heap.size<=bA):=hszw
        have hR9:Hid (∀ v,Z7 w0 w (w9.setCell ⟨bA,g,none⟩ v) b c S l F F3 W3):=fun v=>(HI.out.1.later hb9).store hbAw.out hSH.out.1 HI.out.2.2.2 hSH.out.2
        have hC:Hid (∀ v,Calls Tryz.prog 45 #[.pointer (some ⟨b,0,none⟩),.int .i64 g,.agg #[.int .i64 m.k,.int .i64 m.t.ses,.int .i64 m.t.seq,.slice m.A m.t.rds.length m.ca,.slice m.B m.t.wrs.length m.cb,.int .i64 m.is,.int .i64 m.iq,.int .i64 m.g,.int .u64 (m.st:Int),.bool m.y]] (w9.setCell ⟨bA,g,none⟩ v) (Qgz w0 w (w9.setCell ⟨bA,g,none⟩ v) b c S l F F3 (ZN c W3 g m))):=fun v=>(hR9.out v).heard (HI.out.2.1.run hpH.out) hpH.out hgH.out hmemH.out
        have hno:=HI.out.2.2.2
        have hA11:Hid ((w9.setCell ⟨bA,g,none⟩ (.int .i64 ((q:Int)+1))).heap[bA]? = some (.cells (Kn fun x=>if x=g then q+1 else p x) 116 (0,0))):=by
         have h1:=ZJ (j:=g) (.int .i64 ((q:Int)+1)) hA9
         have h2:((q:Int)+1)=((q+1:Nat):Int):=by omega
         show _=_
         rw [h1,h2,Qix hg4]
        have hnoH:=Lib.hid hno
        clear HI hA9 hy9 hb8 hb9 hqEH hno hR9
        go_wp2_with (go_at_call 45;(with_reducible refine (hC.out _).mono ?_);rintro e w1 ⟨rfl,F4,h2,h3⟩)
        have HI9:=Lib.hid (And.intro h2 (And.intro hN.out (And.intro (h3.out.obj hA11.out (fun z=>z hnoH.out)) (h3.keep bA (Array.getElem?_eq_some_iff.1 hA11.out).1 hnoH.out))))
        clear hC hN h2 h3 hA11 hnoH ys z0 z1 z2 z3 z4 z5 z6 z7 z8 z9 y0 y1 y2 y3 y4 y5 y6 y7 y8 y9 t0 tf
        go_roundw
        case rel=>exact ⟨τ+1,_,F4,_,hτH.out,by go_num,HI9⟩
        case measure=>have:=hτH.out;simp [intOf];omega
       ·have q1:decide ((q:Int)<(wl:Int))=false:=by rw [decide_eq_false_iff_not];omega
        have HI8:Hid (∀ wz,Below wi3.heap.size wi3 wz->Z7 w0 w wz b c S l F F3 W3/\P3 c (QS l) (τ+1) p W3/\wz.heap[bA]? = some (.cells (Kn p) 116 (0,0))/\F3.ow bA = .no):=fun wz hb=>⟨HI.out.1.later hb,HI.out.2.1.idle hpH.out (by rw [hgE];omega),Xw HI.out.2.2.1 hb,HI.out.2.2.2⟩
        clear HI hgE hg hE hW hwr0 eE eW hwlE hle hfew hqE hlt hτ
        go_wp2
        go_quiet (fail)
        go_wp2
        go_roundw
        case rel=>exact ⟨τ+1,p,F3,W3,hτH.out,by go_num,HI8.out _ (Qj (Below.refl _ _) _)⟩
        case measure=>have:=hτH.out;simp [intOf];omega
      ·obtain rfl:τ=2000:=by omega
       have hE:=Lib.hid (And.intro HI.out.1 (HI.out.2.1.end hpH.out))
       clear HI hlt hτ
       go_wp2
       go_end0
       exact ⟨rfl,W3,F3,hE.out.1.i,hE.out.1.s,hE.out.2⟩
end Go.Proofs.YtcldpmkhpmlcbaaGreatDoor
