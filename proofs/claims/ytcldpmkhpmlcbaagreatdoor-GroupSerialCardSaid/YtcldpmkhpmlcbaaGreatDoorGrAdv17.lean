/- part -/
import Derived.Test.YtcldpmkhpmlcbaaGreatDoorJ21
import Derived.WalkMore
import Derived.Deep.CutRange
set_option linter.unusedVariables false
set_option linter.unusedSimpArgs false
namespace Go.Proofs.YtcldpmkhpmlcbaaGreatDoor
open Go.RowKit Go.Shelf Go.Maps
set_option maxRecDepth 100000 in
set_option maxHeartbeats 4000000 in
theorem QlG {w:World} {B p n:Nat} {c:Ql} {g:Int} {lab:Nat->QL} {x:Qk} {E:Q9} {ov:Value} {os:List Qv} (h:ZW w B p c g n lab x E ov os) (hn:n<=2000) (hos:os.length<=2000) :
  Calls Tryz.prog 43 #[.pointer (some ⟨p,0,none⟩)] w fun e w'=>e = .returned (.tuple #[])/\VJ w w' B p c g n lab E.qp (ZU c g (x.q.l.length+1) x).1 (os ++ (ZU c g (x.q.l.length+1) x).2):=by
 have hq0:=h.k.cnt
 have HR0:Hid (Vl w w B p c g n lab E.qp x os (x.q.l.length+1) ((ZU c g (x.q.l.length+1) x).1,os ++ (ZU c g (x.q.l.length+1) x).2)):=⟨⟨lab,E,ov,h,QE.refl _ _,rfl⟩,by omega,by omega,rfl,rfl⟩
 obtain ⟨r1,hr1⟩:∃ r1,(ZU c g (x.q.l.length+1) x).1=r1:=⟨_,rfl⟩
 obtain ⟨r2,hr2⟩:∃ r2,os ++ (ZU c g (x.q.l.length+1) x).2=r2:=⟨_,rfl⟩
 obtain ⟨qp,hqp⟩:∃ qp,E.qp=qp:=⟨_,rfl⟩
 rw [hr1,hr2,hqp] at HR0
 rw [hr1,hr2,hqp]
 clear hr1 hr2 hqp h hq0 hos
 go_enter Tryz.func43,Tryz.ntmps43
 go_wp2
 go_step3
 go_wp2
 go_step3
 go_wp2
 go_loopw [3] (fun _ wr=>∃ (y:Qk) (os':List Qv) (f:Nat),Hid (Vl w wr B p c g n lab qp y os' f (r1,r2))) (fun _ wr=>U0 wr qp)
 case atStart=>exact ⟨_,_,_,HR0⟩
 case round =>
  obtain ⟨y,os',f,HR⟩:=hrel
  obtain ⟨hk,d3,⟨mw,d5⟩,hN⟩:=HR.out.at_.q
  have hle:=HR.out.le
  have hlt:=HR.out.lt
  replace hk:=Lib.hid hk
  obtain ⟨f',hf'⟩:∃ f',f=f'+1:=⟨f-1,by omega⟩
  subst hf'
  cases hnx:Z2 y.q with
  | none =>
   have hT:ZZ c g y=(false,y,[]):=by unfold ZZ;rw [hnx]
   have hA:ZU c g (f'+1) y=(y,[]):=by unfold ZU;rw [hT];rfl
   have hv:JJ y.q = .tuple #[.agg #[.int .i64 0,.int .i64 0],.int .u64 0,.bool false]:=by rw [JJ,hnx]
   have hNx:Hid (Calls Tryz.prog 91 #[.pointer (some ⟨qp,0,none⟩)] wr fun e w'=>e = .returned (.tuple #[.agg #[.int .i64 0,.int .i64 0],.int .u64 0,.bool false])/\Below wr.heap.size wr w'):=by
    rw [hv] at hN;exact hN
   have HE:Hid (r1=y/\r2=os'):=by
    have h1:=HR.out.e1
    have h2:=HR.out.e2
    rw [hA] at h1 h2
    exact ⟨h1,by simpa using h2⟩
   clear hN hnx hT hA hv hle hlt
   go_wp2_with (go_at_call 91;(with_reducible refine hNx.out.mono ?_);rintro e w1 ⟨rfl,hb1⟩)
   rw [Exit.noGoto_ret]
   refine bodyPost_ret (results_none rfl _ _ _) rfl ?_
   rw [HE.out.1,HE.out.2]
   exact ⟨rfl,HR.out.at_.later (Qa hb1 (Qc _ _))⟩
  | some pr =>
   obtain ⟨i,final⟩:=pr
   obtain ⟨v,hv,hwo,hWOK⟩:=Y3 hk.out hnx
   have h4:=Lib.hid (hWOK.four hk.out.cf)
   have hidB:=hWOK.idB
   have hok:Y6 i:=Ki hidB
   have hg4:0<=g/\g<4:=⟨hk.out.g0,hk.out.g4⟩
   have hvv:JJ y.q = .tuple #[.agg #[.int .i64 i.ses,.int .i64 i.seq],.int .u64 (final:Int),.bool true]:=by rw [JJ,hnx]
   have hNx:Hid (Calls Tryz.prog 91 #[.pointer (some ⟨qp,0,none⟩)] wr fun e w'=>e = .returned (.tuple #[.agg #[.int .i64 i.ses,.int .i64 i.seq],.int .u64 (final:Int),.bool true])/\Below wr.heap.size wr w'):=by
    rw [hvv] at hN;exact hN
   have hnxH:=Lib.hid hnx
   have hWH:=Lib.hid hWOK
   have hvH:=Lib.hid hv
   have hwoH:=Lib.hid hwo
   have hltH:=Lib.hid hlt
   have hleH:=Lib.hid hle
   clear hN hnx hvv hWOK hv hwo hlt hle
   go_wp2_with (go_at_call 91;(with_reducible refine hNx.out.mono ?_);rintro e w1 ⟨rfl,hb1⟩)
   obtain ⟨bx,hbx⟩:∃ bx,w1.heap.size=bx:=⟨_,rfl⟩
   obtain ⟨w2,hw2⟩:∃ w2,w1.alloc (.cells #[.int .i64 i.ses,.int .i64 i.seq] 34)=w2:=⟨_,rfl⟩
   have hb12:Below w1.heap.size w1 w2:=by rw [<- hw2];exact Qc _ _
   have hb2:Below wr.heap.size wr w2:=Qa hb1 hb12
   have hblk:w2.heap[bx]? = some (.cells #[.int .i64 i.ses,.int .i64 i.seq] 34 (0,0)):=by rw [<- hw2, <- hbx];exact heap_alloc_new w1 _
   have hbw:bx<w2.heap.size:=by rw [<- hw2, <- hbx];simp
   rw [hw2,hbx]
   clear hw2
   obtain ⟨x0,x1⟩:w2.cell? ⟨bx,0,none⟩=some (.int .i64 i.ses)/\w2.cell? ⟨bx,1,none⟩=some (.int .i64 i.seq):=by
    refine ⟨?_,?_⟩ <;> (rw [cell_of_row w2 _ _ _ _ _ hblk];rfl)
   obtain ⟨op,tp,A1,A2,a1,a2,HA,hlook⟩:=HR.out.at_.start hvH.out hb2 (by rw [<- hbx];exact hb1.size) hbw x0 x1
   have e5:=keep hb2 d5
   have ls:∀ nq,(Instr.lookup 102 (.map (some mw)) (.agg #[.int .i64 i.ses,.int .i64 i.seq]) false).run Tryz.prog (w2.drewN nq) = .ok (.pointer (some ⟨op,0,none⟩)) (w2.drewN nq):=fun nq=>hlook mw _ d5 hok (Qj hb2 nq)
   clear hlook hb12 hblk hbw hbx hb1
   go_wp2
   go_quiet (fail)
   obtain ⟨w3,hw3⟩:∃ w3,w2.drewN nq=w3:=⟨_,rfl⟩
   have HA3:=HA.later (Qj (Below.refl w2.heap.size w2) nq)
   rw [hw3] at HA3 ⊢
   clear HA ls x0 x1 e5 hw3 hb2
   obtain ⟨lab3,E3,ov3,hIn⟩:=HA3
   obtain ⟨m0,m1,m2,m3,m4,m5,m6,m7,m8,m9,m10,m11⟩:=hIn.m.cs
   have o5:=hIn.c5
   obtain ⟨vy,hvy⟩:∃ vy,Zh v.vs g=vy:=⟨_,rfl⟩
   obtain ⟨vh,hvh⟩:∃ vh,QU v.vs g=vh:=⟨_,rfl⟩
   have hVo:Hid (Calls Tryz.prog 92 #[.pointer (some ⟨tp,0,none⟩),.int .i64 g] w3.drew fun e w'=>e = .returned (.tuple #[.bool vy,.bool vh])/\Below w3.drew.heap.size w3.drew w'):=by
    have:=QM.voted ⟨lab3,E3,ov3,hIn⟩ hvH.out hWH.out.tal hg4 (Qb (Below.refl w3.heap.size w3))
    rw [hvy,hvh] at this
    exact this
   replace hIn:=Lib.hid hIn
   go_wp2
   go_region_held3 (fun w'=>w'.cell? ⟨op,5,none⟩=some (.pointer (some ⟨tp,0,none⟩))/\w'.cell? ⟨p,2,none⟩=some (.int .i64 g))
    (first | exact ⟨o5,m2⟩ | exact ⟨keep hb34 o5,keep hb34 m2⟩ | fail)
    ((go_at_call 92;(with_reducible refine hVo.out.mono ?_);rintro e w4 ⟨rfl,hbb⟩;have hb34:Below w3.heap.size w3 w4:=Qa (Qb (Below.refl w3.heap.size w3)) hbb))
   go_upto_if 43 with fail
   have h66:Hid (v.t.rds.length<=6/\v.t.wrs.length<=6):=Xo hWH.out.f
   have hIt:Hid ((Qq y.s.ks).length<=12000/\y.s.last<=2000):=by
    have h1:=hk.out.its
    have h2:=hk.out.cnt
    show _/\_
    omega
   have hol:Hid (os'.length<=20000):=by have:=hleH.out;show _<=_;omega
   replace hb34:=Lib.hid hb34
   go_cut [8] from 13 to 196 (fun s8 wx=>Hid (QM w wx bx B p c g n (n-y.q.l.length) lab i v.t op qp tp A1 A2 a1 a2 { y with wt:=Qs y.wt i { v with vs:=QF c g y v } } (os' ++ YW c g y i v)))
   case first =>
    cases vh
    case true =>
     have e1:QF c g y v=v.vs:=by rw [QF,hvh];rfl
     have e2:YW c g y i v=[]:=by rw [YW,hvh];rfl
     have HF:Hid (QM w w4 bx B p c g n (n-y.q.l.length) lab i v.t op qp tp A1 A2 a1 a2 { y with wt:=Qs y.wt i { v with vs:=QF c g y v } } (os' ++ YW c g y i v)):=by
      rw [e1,e2,List.append_nil]
      exact QM.same (v:=v) ⟨lab3,E3,ov3,hIn.out.later hb34.out⟩ hvH.out
     clear e1 e2
     go_wp2
     go_meet
     exact HF
    case false =>
     have hL4:QM w w4 bx B p c g n (n-y.q.l.length) lab i v.t op qp tp A1 A2 a1 a2 y os':=⟨lab3,E3,ov3,hIn.out.later hb34.out⟩
     refine Qj2 hk.out hn hL4 hvh hvH.out hWH.out hol.out ?_
     intro t8 t44 t45 t46 t47 t48 t49 t50 t51 t52 t53 t54 t55 t56 t57 t58 t59 t60 t61 t62 t63 t64 t65 t66 t67 t68 t69 t70 t71 t72 t73 t74 t75 t76 wx hx
     replace hx:=Lib.hid hx
     go_frame
     go_wp2
     go_meet
     exact hx
   case rest =>
    obtain ⟨w9,rfl⟩:∃ wq:World,wq=wc:=⟨_,rfl⟩
    clear hIn hVo m0 m1 m2 m3 m4 m5 m6 m7 m8 m9 m10 m11 o5 hb34 hvy hvh hbb d3 d5
    obtain ⟨vs,hvs⟩:∃ vs,QF c g y v=vs:=⟨_,rfl⟩
    obtain ⟨o9,ho9⟩:∃ o9,YW c g y i v=o9:=⟨_,rfl⟩
    have hTal:Hid (Yh v.gs vs):=by rw [<- hvs];exact Qan hk.out hWH.out
    rw [hvs,ho9] at hcut
    have h59:Hid (o9.length<=4):=by
     show _<=_
     rw [<- ho9]
     unfold YW
     have:=h4.out
     split
     ·exact Nat.zero_le _
     ·exact Nat.le_trans Qap this
    obtain ⟨yes,hyes⟩:∃ yes,Zk v.gs.length vs=yes:=⟨_,rfl⟩
    obtain ⟨kn,hkn⟩:∃ kn,Yd v.gs.length vs=kn:=⟨_,rfl⟩
    have o5:w9.cell? ⟨op,5,none⟩=some (.pointer (some ⟨tp,0,none⟩)):=by
     obtain ⟨_,_,_,hI⟩:=hcut.out
     exact hI.c5
    have hOu:Hid (Calls Tryz.prog 96 #[.pointer (some ⟨tp,0,none⟩)] w9 fun e w'=>e = .returned (.tuple #[.bool yes,.bool kn])/\Below w9.heap.size w9 w'):=by
     have:=QM.outcome hcut.out (v:={ v with vs:=vs }) (by show Qe (Qs y.wt i _) i=_;rw [Qw,if_pos rfl]) hTal.out (Below.refl w9.heap.size w9)
     unfold QcC at this
     dsimp only at this
     rw [hyes,hkn] at this
     exact this
    have hT:Hid (ZZ c g y=if kn then (true,if yes && !(Qr c v.t g).isEmpty then Zq (ZY y i yes final) final (Qr c v.t g) else ZY y i yes final,o9 ++ [⟨4, -1,i,final,yes⟩]) else (false,{ y with wt:=Qs y.wt i { v with vs:=vs } },o9)):=by
     show _=_
     unfold ZZ
     rw [hnxH.out]
     simp only
     rw [hwoH.out,UP,hvs,ho9,hyes,hkn]
    have hnq:Hid (n-y.q.l.length+y.q.l.length<=n):=by
     have:=hk.out.cnt
     show _<=_
     omega
    have hTk:=Lib.hid (XW hk.out)
    replace hcut:=Lib.hid hcut.out
    clear hvs ho9 hyes hkn hTal
    cases kn
    case false =>
     have hA:Hid (r1 = { y with wt:=Qs y.wt i { v with vs:=vs } } /\ r2=os' ++ o9):=by
      have h1:=HR.out.e1
      have h2:=HR.out.e2
      have hT2:=hT.out
      rw [if_neg (by decide)] at hT2
      unfold ZU at h1 h2
      rw [hT2] at h1 h2
      exact ⟨h1,h2⟩
     go_wp2_with (go_at_call 96;(with_reducible refine hOu.out.mono ?_);rintro e w10 ⟨rfl,hb10⟩)
     rw [Exit.noGoto_normal]
     go_end0
     rw [hA.out.1,hA.out.2]
     have hkk:=hTk.out.1
     rw [hT.out,if_neg (by decide)] at hkk
     exact ⟨rfl,(hcut.out.later hb10).fin hkk hnq.out⟩
    case true =>
     go_wp2_with (go_at_call 96;(with_reducible refine hOu.out.mono ?_);rintro e w10 ⟨rfl,hb10⟩)
     obtain ⟨lab9,E9,ov9,hIn9⟩:=hcut.out.later hb10
     obtain ⟨m0,m1,m2,m3,m4,m5,m6,m7,m8,m9,m10,m11⟩:=hIn9.m.cs
     have hqp:=hIn9.qq
     rw [hqp] at m3
     have x0:=hIn9.x0
     have x1:=hIn9.x1
     have hL10:QM w w10 bx B p c g n (n-y.q.l.length) lab i v.t op qp tp A1 A2 a1 a2 { y with wt:=Qs y.wt i { v with vs:=vs } } (os' ++ o9):=⟨lab9,E9,ov9,hIn9⟩
     have hDo:=Lib.hid (hL10.done hk.out.q hnxH.out (Qb (Below.refl w10.heap.size w10)))
     clear hIn9 hqp hL10 m0 m1 m2 m4 m7 m8 m9 m10 m11
     go_region_held3 (fun w'=>w'.cell? ⟨p,3,none⟩=some (.pointer (some ⟨qp,0,none⟩))/\w'.cell? ⟨bx,0,none⟩=some (.int .i64 i.ses)/\w'.cell? ⟨bx,1,none⟩=some (.int .i64 i.seq))
      (first | exact ⟨m3,x0,x1⟩ | exact ⟨hk11 _ _ _ (.inl ⟨rfl,trivial⟩) m3,hk11 _ _ _ (.inr (.inl rfl)) x0,hk11 _ _ _ (.inr (.inl rfl)) x1⟩ | fail)
      ((go_at_call 97;(with_reducible refine hDo.out.mono ?_);rintro e w11 ⟨rfl,hL11,hk11⟩))
     replace m5:=hk11 _ _ _ (.inl ⟨rfl,trivial⟩) m5
     replace m6:=hk11 _ _ _ (.inl ⟨rfl,trivial⟩) m6
     replace x0:=hk11 _ _ _ (.inr (.inl rfl)) x0
     replace x1:=hk11 _ _ _ (.inr (.inl rfl)) x1
     obtain ⟨w12,hrun,hL12,hk12⟩:=hL11.delW hok m5
     dsimp only at hL12
     rw [QlD] at hL12
     replace hL12:=Lib.hid hL12
     clear hL11 hk11 m3
     go_wp2
     go_region_held3 (fun w'=>w'.cell? ⟨p,5,none⟩=some (.map (some E9.mw))/\w'.cell? ⟨bx,0,none⟩=some (.int .i64 i.ses)/\w'.cell? ⟨bx,1,none⟩=some (.int .i64 i.seq))
      (first | exact ⟨m5,x0,x1⟩ | exact ⟨hk12 _ _ _ (.inl ⟨rfl,trivial⟩) m5,hk12 _ _ _ (.inr (.inl rfl)) x0,hk12 _ _ _ (.inr (.inl rfl)) x1⟩ | fail)
      (fail)
     replace m6:=hk12 _ _ _ (.inl ⟨rfl,trivial⟩) m6
     replace x0:=hk12 _ _ _ (.inr (.inl rfl)) x0
     replace x1:=hk12 _ _ _ (.inr (.inl rfl)) x1
     clear hrun hk12 m5
     obtain ⟨w13,hrun,hL13,hk13⟩:=hL12.out.addD hok (by omega) m6 yes final
     replace hL13:=Lib.hid hL13
     go_wp2
     go_region_held3 (fun w'=>w'.cell? ⟨p,6,none⟩=some (.map (some E9.md))/\w'.cell? ⟨bx,0,none⟩=some (.int .i64 i.ses)/\w'.cell? ⟨bx,1,none⟩=some (.int .i64 i.seq))
      (first | exact ⟨m6,x0,x1⟩ | exact ⟨hk13 _ _ _ (.inl ⟨rfl,trivial⟩) m6,hk13 _ _ _ (.inr (.inl rfl)) x0,hk13 _ _ _ (.inr (.inl rfl)) x1⟩ | fail)
      (fail)
     replace x0:=hk13 _ _ _ (.inr (.inl rfl)) x0
     replace x1:=hk13 _ _ _ (.inr (.inl rfl)) x1
     clear hrun hk13 m6 hL12
     obtain ⟨lab13,E13,ov13,hIn13,hown,hnews,hBA,k11,k11b,hfz,hne⟩:=hL13.out.push ⟨4, -1,i,final,yes⟩
     have hnb:Hid (∀ z,ov13.ownBlock=some z->z ≠ bx):=fun z e w=>by
      have h1:=hne z e
      rw [w,hIn13.lx] at h1
      cases h1
     have hpb:bx ≠ p:=fun e=>by
      have h1:=hIn13.lx
      rw [e,hIn13.m.lm] at h1
      cases h1
     obtain ⟨oL,hoL⟩:∃ oL:List Qv,os' ++ o9=oL:=⟨_,rfl⟩
     have hol2:oL.length<=20010:=by
      rw [<- hoL,List.length_append]
      have:=hol.out
      have:=h59.out
      omega
     rw [hoL] at hIn13 hown
     replace hIn13:=Lib.hid hIn13
     replace hfz:=Lib.hid hfz
     unfold YS at hown hnews hBA hfz
     obtain ⟨i0,hi0,hz0,hz1,hz2⟩:=info_parts Qbk
     have hs0:(⟨4, -1,i,final,yes⟩:Qv).id.ses=i.ses:=rfl
     dsimp only at hown hnews hBA hfz
     clear hL13
     go_wp2
     go_cut [9] from 13 to 196 (fun s9 wx=>s9 = .bool yes/\Hid (QM w wx bx B p c g n (n-y.q.l.length+1) lab i v.t op qp tp A1 A2 a1 a2 { y with q:=YV y.q,wt:=Zc y.wt i,dc:=Qs y.dc i (yes,final) } (oL ++ [⟨4, -1,i,final,yes⟩])))
     case first =>
      go_region_law (first
        | (refine Yr rfl _ _ 31 rfl B 43 i0 _ 6 48 Tryz.underlying31 hi0 hz0 hz1 hz2 rfl (by decide) ov13 oL.length (ZV oL) rfl (Qi hown (Qb (Below.refl _ _))) ⟨w13.heap.size,0,none⟩ 1 1 (X7 ⟨4, -1,i,final,yes⟩) rfl rfl hnews VI (QA (by omega)) (by omega) hBA ?_;intro v15 w15 HO15 hg15 hv15;obtain ⟨A15,k15,rfl⟩:=ZT HO15;have hg16:(w13.alloc (.cells #[.int .i64 4,.int .i64 (-1),.int .i64 i.ses,.int .i64 i.seq,.int .u64 (final:Int),.bool yes] 43)).grownBy w15 ov13.ownBlock:=⟨hg15.os,hg15.tape,hg15.output,hg15.size,hg15.block⟩;obtain ⟨hc15,hf15⟩:=hfz.out w15 hg16;have hS15:w15.cell? ⟨bx,0,none⟩=some (.int .i64 i.ses)/\w15.cell? ⟨bx,1,none⟩=some (.int .i64 i.seq):=⟨K2 hg16 x0 hnb.out,K2 hg16 x1 hnb.out⟩;have hS16:=fun u=>(⟨Kj hS15.1 hpb,Kj hS15.2 hpb⟩:(w15.setCell ⟨p,11,none⟩ u).cell? ⟨bx,0,none⟩=some (.int .i64 i.ses)/\(w15.setCell ⟨p,11,none⟩ u).cell? ⟨bx,1,none⟩=some (.int .i64 i.seq))))
      all_goals
       have hL14:=Lib.hid (hIn13.out.pushed (o:=⟨4, -1,i,final,yes⟩) hg16 HO15 hv15)
       go_wp2
       go_meet
       exact ⟨rfl,hL14⟩
     case rest =>
      obtain ⟨rfl,hL14⟩:=hcut
      obtain ⟨w14,rfl⟩:∃ wq:World,wq=wc:=⟨_,rfl⟩
      clear hown hnews hBA k11 k11b hfz hne hnb hpb hIn13 x0 x1
      rw [if_pos trivial] at hT
      refine (‹∀ (a:Act) (w:World),Code.wp _ _ _ a w->_› _ _ ?_)
      refine Qj3 hk hn hnxH hWH hT HR hoL hol2 hL14 ?_
      refine Lib.hid ?_
      intro t11 t12 t119 t120 t121 t122 t123 t124 t125 t126 t127 t128 t129 t130 t131 t132 t133 t134 t135 t136 t137 t138 t139 t140 t141 t142 t143 t144 t145 t146 t147 t148 t149 t150 t151 t152 t153 t154 t155 t156 t157 t158 t159 t160 t161 t162 t163 t164 t165 t166 t167 t168 t169 t170 t171 t172 t173 t174 t175 t176 t177 t178 t179 t180 t181 t182 t183 t184 t185 t186 t187 t188 t189 t190 t191 t192 t193 t194 t195 t196 wx y2 o2 hx
      replace hx:=Lib.hid hx
      go_frame
      go_wp2
      go_roundw
      case rel=>exact ⟨_,_,_,hx.out.1⟩
      case measure=>exact hx.out.2
end Go.Proofs.YtcldpmkhpmlcbaaGreatDoor
