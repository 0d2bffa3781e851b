/- part -/
import Derived.Test.YtcldpmkhpmlcbaaGreatDoorGrBegN17
import Derived.Test.YtcldpmkhpmlcbaaGreatDoorJ20
import Derived.Test.YtcldpmkhpmlcbaaGreatDoorJ19
import Derived.WalkMore
import Derived.Deep.CutRange
import Derived.StillTailTactics
import Derived.Test.YtcldpmkhpmlcbaaGreatDoorJ1
import Derived.Test.YtcldpmkhpmlcbaaGreatDoorProg
import Derived.Lib.SmallJoins
import Derived.OpenShut
set_option linter.unusedVariables false
set_option linter.unusedSimpArgs false
namespace Go.Proofs.YtcldpmkhpmlcbaaGreatDoor
open Go.RowKit Go.Shelf Go.Maps
def Ky (k:Nat):Code->Option Code
 | .cond (.tmp j) a b=>if j=k then some (.cond (.tmp j) a b) else match Ky k a with
  | some c=>some c
  | none=>Ky k b
 | .cond _ a b=>match Ky k a with
  | some c=>some c
  | none=>Ky k b
 | .seq a b=>match Ky k a with
  | some c=>some c
  | none=>Ky k b
 | .block _ c=>Ky k c
 | .scope c=>Ky k c
 | .loop c=>Ky k c
 | _=>none
noncomputable def QhA:Code:=(Tryz.f43.body.bind (Ky 43)).getD .skip
set_option maxRecDepth 1000000 in
set_option maxHeartbeats 4000000 in
theorem Qj2 {w w4:World} {bx B p n:Nat} {c:Ql} {g:Int} {lab:Nat->QL} {i:Qp} {v:Zj} {op qp tp:Nat} {A1 A2:Option Addr} {a1 a2:Nat} {y:Qk} {os':List Qv} {final:Nat} {K:Act->World->Prop} {Q:Exit->Act->World->Prop} {s1 s6 s7 s8 s9 s10 s11 s12 s13 s14 s15 s16 s17 s18 s19 s20 s21 s22 s23 s24 s25 s26 s27 s28 s29 s30 s31 s32 s33 s34 s35 s36 s37 s38 s39 s40 s41 s42 s44 s45 s46 s47 s48 s49 s50 s51 s52 s53 s54 s55 s56 s57 s58 s59 s60 s61 s62 s63 s64 s65 s66 s67 s68 s69 s70 s71 s72 s73 s74 s75 s76 s77 s78 s79 s80 s81 s82 s83 s84 s85 s86 s87 s88 s89 s90 s91 s92 s93 s94 s95 s96 s97 s98 s99 s100 s101 s102 s103 s104 s105 s106 s107 s108 s109 s110 s111 s112 s113 s114 s115 s116 s117 s118 s119 s120 s121 s122 s123 s124 s125 s126 s127 s128 s129 s130 s131 s132 s133 s134 s135 s136 s137 s138 s139 s140 s141 s142 s143 s144 s145 s146 s147 s148 s149 s150 s151 s152 s153 s154 s155 s156 s157 s158 s159 s160 s161 s162 s163 s164 s165 s166 s167 s168 s169 s170 s171 s172 s173 s174 s175 s176 s177 s178 s179 s180 s181 s182 s183 s184 s185 s186 s187 s188 s189 s190 s191 s192 s193 s194 s195 s196:Value}
  (hk:Zd c g n y) (hn:n<=2000) (hL:QM w w4 bx B p c g n (n-y.q.l.length) lab i v.t op qp tp A1 A2 a1 a2 y os') (hvh:QU v.vs g=false) (hv:Qe y.wt i=some v) (hW:WOK c g i v) (hol':os'.length<=20000)
  (hK:∀ (t8 t44 t45 t46 t47 t48 t49 t50 t51 t52 t53 t54 t55 t56 t57 t58 t59 t60 t61 t62 t63 t64 t65 t66 t67 t68 t69 t70 t71 t72 t73 t74 t75 t76:Value) (wx:World),QM w wx bx B p c g n (n-y.q.l.length) lab i v.t op qp tp A1 A2 a1 a2 { y with wt:=Qs y.wt i { v with vs:=QF c g y v } } (os' ++ YW c g y i v)->Exit.then K Q .normal ⟨#[.pointer (some ⟨p,0,none⟩),s1,.pointer (some ⟨bx,0,none⟩),.int .u64 (final:Int),.bool true,.pointer (some ⟨op,0,none⟩),s6,s7,t8,s9,s10,s11,s12,s13,s14,s15,s16,s17,s18,s19,s20,s21,s22,s23,s24,s25,s26,s27,s28,s29,s30,s31,s32,s33,s34,s35,s36,s37,s38,s39,s40,s41,s42,.bool true,t44,t45,t46,t47,t48,t49,t50,t51,t52,t53,t54,t55,t56,t57,t58,t59,t60,t61,t62,t63,t64,t65,t66,t67,t68,t69,t70,t71,t72,t73,t74,t75,t76,s77,s78,s79,s80,s81,s82,s83,s84,s85,s86,s87,s88,s89,s90,s91,s92,s93,s94,s95,s96,s97,s98,s99,s100,s101,s102,s103,s104,s105,s106,s107,s108,s109,s110,s111,s112,s113,s114,s115,s116,s117,s118,s119,s120,s121,s122,s123,s124,s125,s126,s127,s128,s129,s130,s131,s132,s133,s134,s135,s136,s137,s138,s139,s140,s141,s142,s143,s144,s145,s146,s147,s148,s149,s150,s151,s152,s153,s154,s155,s156,s157,s158,s159,s160,s161,s162,s163,s164,s165,s166,s167,s168,s169,s170,s171,s172,s173,s174,s175,s176,s177,s178,s179,s180,s181,s182,s183,s184,s185,s186,s187,s188,s189,s190,s191,s192,s193,s194,s195,s196],[]⟩ wx) :
  Code.wp Tryz.prog QhA (Exit.then K Q) ⟨#[.pointer (some ⟨p,0,none⟩),s1,.pointer (some ⟨bx,0,none⟩),.int .u64 (final:Int),.bool true,.pointer (some ⟨op,0,none⟩),s6,s7,s8,s9,s10,s11,s12,s13,s14,s15,s16,s17,s18,s19,s20,s21,s22,s23,s24,s25,s26,s27,s28,s29,s30,s31,s32,s33,s34,s35,s36,s37,s38,s39,s40,s41,s42,.bool true,s44,s45,s46,s47,s48,s49,s50,s51,s52,s53,s54,s55,s56,s57,s58,s59,s60,s61,s62,s63,s64,s65,s66,s67,s68,s69,s70,s71,s72,s73,s74,s75,s76,s77,s78,s79,s80,s81,s82,s83,s84,s85,s86,s87,s88,s89,s90,s91,s92,s93,s94,s95,s96,s97,s98,s99,s100,s101,s102,s103,s104,s105,s106,s107,s108,s109,s110,s111,s112,s113,s114,s115,s116,s117,s118,s119,s120,s121,s122,s123,s124,s125,s126,s127,s128,s129,s130,s131,s132,s133,s134,s135,s136,s137,s138,s139,s140,s141,s142,s143,s144,s145,s146,s147,s148,s149,s150,s151,s152,s153,s154,s155,s156,s157,s158,s159,s160,s161,s162,s163,s164,s165,s166,s167,s168,s169,s170,s171,s172,s173,s174,s175,s176,s177,s178,s179,s180,s181,s182,s183,s184,s185,s186,s187,s188,s189,s190,s191,s192,s193,s194,s195,s196],[]⟩ w4:=by
 obtain ⟨lab4,E3,ov3,hIn⟩:=hL
 obtain ⟨m0,m1,m2,_,m4,_⟩:=hIn.m.cs
 have hIn4:=Lib.hid hIn
 have h4:=Lib.hid (hW.four hk.cf)
 have hg4:Hid (0<=g/\g<4):=⟨hk.g0,hk.g4⟩
 have hvH:=Lib.hid hv
 have hWH:=Lib.hid hW
 have hol:=Lib.hid hol'
 have h66:Hid (v.t.rds.length<=6/\v.t.wrs.length<=6):=Xo hW.f
 have hIt:Hid ((Qq y.s.ks).length<=12000/\y.s.last<=2000):=by
  have h1:=hk.its
  have h2:=hk.cnt
  show _/\_
  omega
 have hs:=Lib.hid hk.s
 obtain ⟨yes,hyes⟩:∃ yes,Yj y.s (Q4 c v.t g)=yes:=⟨_,rfl⟩
 have e1:Hid (QF c g y v=ZS v.gs v.vs g yes):=by show _=_;rw [QF,hvh,hyes];rfl
 have e2:Hid (YW c g y i v=Zb g v.gs 3 i 0 yes):=by show _=_;rw [YW,hvh,hyes];rfl
 have hRd:Hid (Calls Tryz.prog 94 #[.agg #[.slice E3.A c.reps.length E3.ca,.slice E3.A' c.bnds.length E3.cb],.agg #[.int .i64 v.t.ses,.int .i64 v.t.seq,.slice A1 v.t.rds.length a1,.slice A2 v.t.wrs.length a2],.int .i64 g] w4.drew (QaS w4.drew (Q4 c v.t g))):=hIn4.out.reads h66.out.1 (Qb (Below.refl w4.heap.size w4))
 have hVt:Hid (∀ wz A ca,Below w4.heap.size w4 wz->Xj wz A (Q4 c v.t g)->Calls Tryz.prog 93 #[.pointer (some ⟨E3.sp,0,none⟩),.slice A (Q4 c v.t g).length ca] wz fun e w'=>e = .returned (.bool yes)/\Below wz.heap.size wz w'):=fun wz A ca hb hA=>by
  have:=hIn4.out.voteC h66.out.1 hs.out (by have:=hIt.out.1;omega) hb (ca:=ca) hA
  rw [hyes] at this
  exact this
 replace hK:=Lib.hid hK
 have k0:=m0
 have k1:=m1
 have k2:=m2
 have k4:=m4
 have q0:=hIn4.out.c0
 have q1:=hIn4.out.c1
 have q2:=hIn4.out.c2
 have q3:=hIn4.out.c3
 have q5:=hIn4.out.c5
 clear m0 m1 m2 m4 hvh hyes hIn hk hn hv hW hol'
 unfold QhA
 conv=>arg 2;whnf
 go_wp2
 go_region_held3 (fun w'=>w'.cell? ⟨p,4,none⟩=some (.pointer (some ⟨E3.sp,0,none⟩))/\w'.cell? ⟨p,0,none⟩=some (.slice E3.A c.reps.length E3.ca)/\w'.cell? ⟨p,1,none⟩=some (.slice E3.A' c.bnds.length E3.cb)/\w'.cell? ⟨op,0,none⟩=some (.int .i64 v.t.ses)/\w'.cell? ⟨op,1,none⟩=some (.int .i64 v.t.seq)/\w'.cell? ⟨op,2,none⟩=some (.slice A1 v.t.rds.length a1)/\w'.cell? ⟨op,3,none⟩=some (.slice A2 v.t.wrs.length a2)/\w'.cell? ⟨p,2,none⟩=some (.int .i64 g))
  (first | exact ⟨k4,k0,k1,q0,q1,q2,q3,k2⟩ | exact ⟨keep hb45 k4,keep hb45 k0,keep hb45 k1,keep hb45 q0,keep hb45 q1,keep hb45 q2,keep hb45 q3,keep hb45 k2⟩ | exact ⟨keep hb46 k4,keep hb46 k0,keep hb46 k1,keep hb46 q0,keep hb46 q1,keep hb46 q2,keep hb46 q3,keep hb46 k2⟩ | fail)
  (first
   | (go_at_call 94;(with_reducible refine hRd.out.mono ?_);rintro e w5 ⟨Ar,cr,rfl,hAr,hbb5,_⟩;have hb45:Below w4.heap.size w4 w5:=Qa (Qb (Below.refl w4.heap.size w4)) hbb5)
   | (go_at_call 93;(with_reducible refine (hVt.out _ Ar cr hb45 hAr).mono ?_);rintro e w6 ⟨rfl,hbb6⟩;have hb46:Below w4.heap.size w4 w6:=Qa hb45 hbb6))
 have hL6:QM w w6 bx B p c g n (n-y.q.l.length) lab i v.t op qp tp A1 A2 a1 a2 y os':=⟨lab4,E3,ov3,hIn4.out.later hb46⟩
 have hPut:=Lib.hid (hL6.put hvH.out hWH.out.tal h4.out hg4.out yes (Qb (Below.refl w6.heap.size w6)))
 have j5:=keep hb46 q5
 have j2:=keep hb46 k2
 clear hb45 hAr hbb5 hbb6 hRd hVt k0 k1 k4 q0 q1 q2 q3
 go_wp2
 go_region_held3 (fun w'=>w'.cell? ⟨op,5,none⟩=some (.pointer (some ⟨tp,0,none⟩))/\w'.cell? ⟨p,2,none⟩=some (.int .i64 g))
  (first | exact ⟨j5,j2⟩ | exact ⟨hk7 _ _ _ (.inr (.inr rfl)) j5,hk7 _ _ _ (.inl ⟨rfl,trivial⟩) j2⟩ | fail)
  ((go_at_call 90;(with_reducible refine hPut.out.mono ?_);rintro e w7 ⟨⟨z7,rfl⟩,hL7,hk7⟩))
 have hTe:Hid (Calls Tryz.prog 95 #[.pointer (some ⟨p,0,none⟩),.pointer (some ⟨op,0,none⟩),.agg #[.int .i64 3,.int .i64 0,.int .i64 0,.int .i64 0,.int .u64 0,.bool yes]] w7 fun e w'=>e = .returned (.tuple #[])/\QM w w' bx B p c g n (n-y.q.l.length) lab i v.t op qp tp A1 A2 a1 a2 { y with wt:=Qs y.wt i { v with vs:=ZS v.gs v.vs g yes } } (os' ++ Zb g v.gs 3 i 0 yes)):=by
  have:=hL7.tell (v:={ v with vs:=ZS v.gs v.vs g yes }) (by show Qe (Qs y.wt i _) i=_;rw [Qw,if_pos rfl]) h4.out (by have:=hol.out;omega) 3 0 yes (Below.refl w7.heap.size w7)
  rw [show Qd ({ v with vs:=ZS v.gs v.vs g yes }:Zj).t=i from hWH.out.id] at this
  exact this
 clear hL7 hL6
 rw [e1.out,e2.out] at hK
 go_wp2_with (go_at_call 95;(with_reducible refine hTe.out.mono ?_);rintro e w8 ⟨rfl,hL8⟩)
 exact hK.out _ _ _ _ _ _ _ _ _ _ _ _ _ _ _ _ _ _ _ _ _ _ _ _ _ _ _ _ _ _ _ _ _ _ _ hL8
structure Vl (w wr:World) (B p:Nat) (c:Ql) (g:Int) (n:Nat) (lab:Nat->QL) (qp:Nat) (y:Qk) (os:List Qv) (f:Nat) (r:Qk × List Qv):Prop where
 at_:VJ w wr B p c g n lab qp y os
 lt:y.q.l.length<f
 le:os.length+5 * f<=20000
 e1:r.1=(ZU c g f y).1
 e2:r.2=os ++ (ZU c g f y).2
theorem Vl.next {w wr wz:World} {B p n:Nat} {c:Ql} {g:Int} {lab:Nat->QL} {qp f:Nat} {y y':Qk} {os o1:List Qv} {r:Qk × List Qv} (h:Vl w wr B p c g n lab qp y os (f+1) r) (hT:ZZ c g y=(true,y',o1)) (hk:Zd c g n y) (hr:VJ w wz B p c g n lab qp y' (os ++ o1)):Vl w wz B p c g n lab qp y' (os ++ o1) f r/\U0 wz qp<U0 wr qp:=by
 have h1:=(XW hk).2
 have h2:=Qhx hk
 rw [hT] at h1 h2
 have h3:=h1 rfl
 have h4:=h.lt
 have h5:=h.le
 have e1:=h.e1
 have e2:=h.e2
 unfold ZU at e1 e2
 rw [hT] at e1 e2
 refine ⟨⟨hr,by simp only at h3;omega,?_,e1,by rw [e2];simp⟩,by rw [hr.len,h.at_.len];exact h3⟩
 rw [List.length_append]
 simp only at h2
 omega
def Uz (k:Nat):Code->Option Code
 | .seq (.region j o d) b=>if j=k then some (.seq (.region j o d) b) else Uz k b
 | .seq a b=>match Uz k a with
  | some c=>some c
  | none=>Uz k b
 | .cond _ a b=>match Uz k a with
  | some c=>some c
  | none=>Uz k b
 | .block _ c=>Uz k c
 | .scope c=>Uz k c
 | .loop c=>Uz k c
 | _=>none
noncomputable def QhB:Code:=(Tryz.f43.body.bind (Uz 14)).getD .skip
set_option maxRecDepth 1000000 in
set_option maxHeartbeats 4000000 in
theorem Qj3 {w w14 wr:World} {bx B p n:Nat} {c:Ql} {g:Int} {lab:Nat->QL} {i:Qp} {v:Zj} {op qp tp:Nat} {A1 A2:Option Addr} {a1 a2:Nat} {y:Qk} {os' o9 oL:List Qv} {final f':Nat} {yes:Bool} {r1:Qk} {r2:List Qv} {Q:Exit->Act->World->Prop} {s1 s6 s7 s8 s10 s11 s12 s13 s14 s15 s16 s17 s18 s19 s20 s21 s22 s23 s24 s25 s26 s27 s28 s29 s30 s31 s32 s33 s34 s35 s36 s37 s38 s39 s40 s41 s42 s43 s44 s45 s46 s47 s48 s49 s50 s51 s52 s53 s54 s55 s56 s57 s58 s59 s60 s61 s62 s63 s64 s65 s66 s67 s68 s69 s70 s71 s72 s73 s74 s75 s76 s77 s78 s79 s80 s81 s82 s83 s84 s85 s86 s87 s88 s89 s90 s91 s92 s93 s94 s95 s96 s97 s98 s99 s100 s101 s102 s103 s104 s105 s106 s107 s108 s109 s110 s111 s112 s113 s114 s115 s116 s117 s118 s119 s120 s121 s122 s123 s124 s125 s126 s127 s128 s129 s130 s131 s132 s133 s134 s135 s136 s137 s138 s139 s140 s141 s142 s143 s144 s145 s146 s147 s148 s149 s150 s151 s152 s153 s154 s155 s156 s157 s158 s159 s160 s161 s162 s163 s164 s165 s166 s167 s168 s169 s170 s171 s172 s173 s174 s175 s176 s177 s178 s179 s180 s181 s182 s183 s184 s185 s186 s187 s188 s189 s190 s191 s192 s193 s194 s195 s196:Value}
  (hk:Hid (Zd c g n y)) (hn:n<=2000) (hnxH:Hid (Z2 y.q=some (i,final))) (hWH:Hid (WOK c g i v))
  (hT:Hid (ZZ c g y=(true,if yes && !(Qr c v.t g).isEmpty then Zq (ZY y i yes final) final (Qr c v.t g) else ZY y i yes final,o9 ++ [⟨4, -1,i,final,yes⟩])))
  (HR:Hid (Vl w wr B p c g n lab qp y os' (f'+1) (r1,r2))) (hoL:os' ++ o9=oL) (hol2:oL.length<=20010)
  (hL14:Hid (QM w w14 bx B p c g n (n-y.q.l.length+1) lab i v.t op qp tp A1 A2 a1 a2 { y with q:=YV y.q,wt:=Zc y.wt i,dc:=Qs y.dc i (yes,final) } (oL ++ [⟨4, -1,i,final,yes⟩])))
  (hK:Hid (∀ (t11 t12 t119 t120 t121 t122 t123 t124 t125 t126 t127 t128 t129 t130 t131 t132 t133 t134 t135 t136 t137 t138 t139 t140 t141 t142 t143 t144 t145 t146 t147 t148 t149 t150 t151 t152 t153 t154 t155 t156 t157 t158 t159 t160 t161 t162 t163 t164 t165 t166 t167 t168 t169 t170 t171 t172 t173 t174 t175 t176 t177 t178 t179 t180 t181 t182 t183 t184 t185 t186 t187 t188 t189 t190 t191 t192 t193 t194 t195 t196:Value) (wx:World) (y2:Qk) (o2:List Qv),Vl w wx B p c g n lab qp y2 o2 f' (r1,r2)/\U0 wx qp<U0 wr qp->Q .normal ⟨#[.pointer (some ⟨p,0,none⟩),s1,.pointer (some ⟨bx,0,none⟩),.int .u64 (final:Int),.bool true,.pointer (some ⟨op,0,none⟩),s6,s7,s8,.bool yes,s10,t11,t12,s13,s14,s15,s16,s17,s18,s19,s20,s21,s22,s23,s24,s25,s26,s27,s28,s29,s30,s31,s32,s33,s34,s35,s36,s37,s38,s39,s40,s41,s42,s43,s44,s45,s46,s47,s48,s49,s50,s51,s52,s53,s54,s55,s56,s57,s58,s59,s60,s61,s62,s63,s64,s65,s66,s67,s68,s69,s70,s71,s72,s73,s74,s75,s76,s77,s78,s79,s80,s81,s82,s83,s84,s85,s86,s87,s88,s89,s90,s91,s92,s93,s94,s95,s96,s97,s98,s99,s100,s101,s102,s103,s104,s105,s106,s107,s108,s109,s110,s111,s112,s113,s114,s115,s116,s117,s118,t119,t120,t121,t122,t123,t124,t125,t126,t127,t128,t129,t130,t131,t132,t133,t134,t135,t136,t137,t138,t139,t140,t141,t142,t143,t144,t145,t146,t147,t148,t149,t150,t151,t152,t153,t154,t155,t156,t157,t158,t159,t160,t161,t162,t163,t164,t165,t166,t167,t168,t169,t170,t171,t172,t173,t174,t175,t176,t177,t178,t179,t180,t181,t182,t183,t184,t185,t186,t187,t188,t189,t190,t191,t192,t193,t194,t195,t196],[]⟩ wx)) :
  Code.wp Tryz.prog QhB (Exit.inBlock 1 Q) ⟨#[.pointer (some ⟨p,0,none⟩),s1,.pointer (some ⟨bx,0,none⟩),.int .u64 (final:Int),.bool true,.pointer (some ⟨op,0,none⟩),s6,s7,s8,.bool yes,s10,s11,s12,s13,s14,s15,s16,s17,s18,s19,s20,s21,s22,s23,s24,s25,s26,s27,s28,s29,s30,s31,s32,s33,s34,s35,s36,s37,s38,s39,s40,s41,s42,s43,s44,s45,s46,s47,s48,s49,s50,s51,s52,s53,s54,s55,s56,s57,s58,s59,s60,s61,s62,s63,s64,s65,s66,s67,s68,s69,s70,s71,s72,s73,s74,s75,s76,s77,s78,s79,s80,s81,s82,s83,s84,s85,s86,s87,s88,s89,s90,s91,s92,s93,s94,s95,s96,s97,s98,s99,s100,s101,s102,s103,s104,s105,s106,s107,s108,s109,s110,s111,s112,s113,s114,s115,s116,s117,s118,s119,s120,s121,s122,s123,s124,s125,s126,s127,s128,s129,s130,s131,s132,s133,s134,s135,s136,s137,s138,s139,s140,s141,s142,s143,s144,s145,s146,s147,s148,s149,s150,s151,s152,s153,s154,s155,s156,s157,s158,s159,s160,s161,s162,s163,s164,s165,s166,s167,s168,s169,s170,s171,s172,s173,s174,s175,s176,s177,s178,s179,s180,s181,s182,s183,s184,s185,s186,s187,s188,s189,s190,s191,s192,s193,s194,s195,s196],[]⟩ w14:=by
 have h66:Hid (v.t.rds.length<=6/\v.t.wrs.length<=6):=Xo hWH.out.f
 have hIt:Hid ((Qq y.s.ks).length<=12000/\y.s.last<=2000):=by
  have h1:=hk.out.its
  have h2:=hk.out.cnt
  show _/\_
  omega
 have hnq:Hid (n-y.q.l.length+y.q.l.length<=n):=by
  have:=hk.out.cnt
  show _<=_
  omega
 have hTk:=Lib.hid (XW hk.out)
 have hidB:=hWH.out.idB
 unfold QhB
 conv=>arg 2;whnf
 obtain ⟨lab14,E14,ov14,hIn14⟩:=hL14.out
 obtain ⟨m0,m1,m2,_,m4,_,_,_,_,m9,_,_⟩:=hIn14.m.cs
 have q0:=hIn14.c0
 have q1:=hIn14.c1
 have q2:=hIn14.c2
 have q3:=hIn14.c3
 replace hIn14:=Lib.hid hIn14
 have hWs:Hid (Calls Tryz.prog 98 #[.agg #[.slice E14.A c.reps.length E14.ca,.slice E14.A' c.bnds.length E14.cb],.agg #[.int .i64 v.t.ses,.int .i64 v.t.seq,.slice A1 v.t.rds.length a1,.slice A2 v.t.wrs.length a2],.int .i64 g] w14.drew (QaT w14.drew (Qr c v.t g))):=hIn14.out.writes h66.out.2 (Qb (Below.refl w14.heap.size w14))
 go_wp2
 go_region_held3 (fun w'=>w'.cell? ⟨p,0,none⟩=some (.slice E14.A c.reps.length E14.ca)/\w'.cell? ⟨p,1,none⟩=some (.slice E14.A' c.bnds.length E14.cb)/\w'.cell? ⟨op,0,none⟩=some (.int .i64 v.t.ses)/\w'.cell? ⟨op,1,none⟩=some (.int .i64 v.t.seq)/\w'.cell? ⟨op,2,none⟩=some (.slice A1 v.t.rds.length a1)/\w'.cell? ⟨op,3,none⟩=some (.slice A2 v.t.wrs.length a2)/\w'.cell? ⟨p,2,none⟩=some (.int .i64 g))
  (first | exact ⟨m0,m1,q0,q1,q2,q3,m2⟩ | exact ⟨keep hb16 m0,keep hb16 m1,keep hb16 q0,keep hb16 q1,keep hb16 q2,keep hb16 q3,keep hb16 m2⟩ | fail)
  ((go_at_call 98;(with_reducible refine hWs.out.mono ?_);rintro e w16 ⟨Aw,cw,rfl,hAw,hbb,hfrw⟩;have hb16:Below w14.heap.size w14 w16:=Qa (Qb (Below.refl w14.heap.size w14)) hbb))
 have hIn16:=Lib.hid (hIn14.out.later hb16)
 have hlw:Hid (∀ a,Aw=some a->lab14 a.block = .no):=fun a e=>by
  have h1:=hfrw a e
  have h2:w14.drew.heap.size=w14.heap.size:=rfl
  cases e2:lab14 a.block
  case no=>rfl
  all_goals exact absurd (hIn14.out.m.lt a.block (by rw [e2];intro z;cases z)).2 (by omega)
 have hWok:=Lib.hid (Qeu hIn14.out.tx h66.out.2 c g)
 replace m4:=keep hb16 m4
 replace m9:=keep hb16 m9
 obtain ⟨ws,hws⟩:∃ ws,Qr c v.t g=ws:=⟨_,rfl⟩
 have hwo:Hid (Yv ws=true):=by show _=_;rw [<- hws];exact J4 hWH.out.f
 have hw6:Hid (ws.length<=6):=by show _<=_;rw [<- hws];exact Ux hWH.out.f
 have hEnd:Hid (yes=false \/ ws.length=0->(ZZ c g y)=(true,ZY y i yes final,o9 ++ [⟨4, -1,i,final,yes⟩])):=fun e=>by
  rw [hT.out,hws]
  have:(yes && !ws.isEmpty)=false:=by
   rcases e with e | e
   ·rw [e];rfl
   ·rw [List.eq_nil_of_length_eq_zero e];simp
  rw [this]
  rfl
 have hEnd2:Hid (¬ (yes=false \/ ws.length=0)->(ZZ c g y)=(true,Zq (ZY y i yes final) final ws,o9 ++ [⟨4, -1,i,final,yes⟩])):=fun e=>by
  rw [hT.out,hws]
  have:(yes && !ws.isEmpty)=true:=by
   cases yes
   ·exact absurd (.inl rfl) e
   ·cases ws with
    | nil=>exact absurd (.inr rfl) e
    | cons=>rfl
  rw [this]
  rfl
 rw [hws] at hAw hWok ⊢
 clear hws hfrw hbb hWs m0 m1 m2 q0 q1 q2 q3
 have hlq:Hid ((YV y.q).l.length+1=y.q.l.length):=(Qhu hk.out hnxH.out true).2
 have hok2:os' ++ (o9 ++ [⟨4, -1,i,final,yes⟩])=oL ++ [⟨4, -1,i,final,yes⟩]:=by rw [<- List.append_assoc,hoL]
 by_cases hcont:yes=false \/ ws.length=0
 ·have hTE:=hEnd.out hcont
  have hkk:=hTk.out.1
  rw [hTE] at hkk
  have hNx2:Hid (∀ wz,Below w16.heap.size w16 wz->Vl w wz B p c g n lab qp (ZY y i yes final) (os' ++ (o9 ++ [⟨4, -1,i,final,yes⟩])) f' (r1,r2)/\U0 wz qp<U0 wr qp):=fun wz hb=>by
   refine HR.out.next hTE hk.out ?_
   rw [hok2]
   refine QM.fin (⟨lab14,E14,ov14,hIn16.out.later hb⟩:QM w wz bx B p c g n (n-y.q.l.length+1) lab i v.t op qp tp A1 A2 a1 a2 _ _) hkk ?_
   have h1:=hlq.out
   have h2:=hnq.out
   show n-y.q.l.length+1+(YV y.q).l.length<=n
   omega
  clear hTE hkk hEnd
  cases yes
  case false =>
   go_wp2
   exact hK.out _ _ _ _ _ _ _ _ _ _ _ _ _ _ _ _ _ _ _ _ _ _ _ _ _ _ _ _ _ _ _ _ _ _ _ _ _ _ _ _ _ _ _ _ _ _ _ _ _ _ _ _ _ _ _ _ _ _ _ _ _ _ _ _ _ _ _ _ _ _ _ _ _ _ _ _ _ _ _ _ _ _ _ (hNx2.out _ (Below.refl _ _))
  case true =>
   have q0:((ws.length:Int) == 0)=true:=by
    rcases hcont with e | e
    ·cases e
    ·rw [e];rfl
   clear hcont
   go_wp2
   exact hK.out _ _ _ _ _ _ _ _ _ _ _ _ _ _ _ _ _ _ _ _ _ _ _ _ _ _ _ _ _ _ _ _ _ _ _ _ _ _ _ _ _ _ _ _ _ _ _ _ _ _ _ _ _ _ _ _ _ _ _ _ _ _ _ _ _ _ _ _ _ _ _ _ _ _ _ _ _ _ _ _ _ _ _ (hNx2.out _ (Below.refl _ _))
 ·have hy:yes=true:=by
   cases yes
   ·exact absurd (.inl rfl) hcont
   ·rfl
  subst hy
  have q0:((ws.length:Int) == 0)=false:=by
   rw [beq_eq_false_iff_ne]
   intro e
   exact hcont (.inr (by omega))
  have hTE:=Lib.hid (hEnd2.out hcont)
  clear hcont hEnd hEnd2
  obtain ⟨n1,hn1⟩:∃ n1,n1=y.s.last+1:=⟨_,rfl⟩
  obtain ⟨lst,hlst⟩:∃ lst,y.s.last=lst:=⟨_,rfl⟩
  have hlst2:Hid (lst<=2000):=by have:=hIt.out.2;show _<=_;omega
  have hwr:IntKind.u64.wrap ((lst:Int)+1)=(n1:Int):=by
   have:=hlst2.out
   rw [hn1,hlst,IntWalk.u64_in _ (by omega)];omega
  have hLast:Hid (Calls Tryz.prog 58 #[.pointer (some ⟨E14.sp,0,none⟩)] w16 fun e w'=>e = .returned (.int .u64 (lst:Int))/\w16=w'):=by
   have:=(QM.last ⟨lab14,E14,ov14,hIn16.out⟩ m4 (Below.refl w16.heap.size w16)).1
   dsimp only at this
   rw [hlst] at this
   exact this
  have hAp:=Lib.hid (hIn16.out.apply m4 hk.out.s hIt.out.2 hk.out.its hAw hlw.out hWok.out hwo.out hw6.out (ca:=cw) (m:=n1) hn1)
  have hal:=hk.out.a
  have halen:(Jv y.a).length=y.a.length:=List.length_map ..
  obtain ⟨la,hla⟩:∃ la,la=y.a.length+1:=⟨_,rfl⟩
  have hlen1:(Jv y.a ++ [Value.int .u64 (final:Int)]).length=la:=by rw [List.length_append,halen,List.length_singleton,hla]
  have hla2:Hid (la+y.s.low=lst+2/\y.a.length<=2001):=by
   have:=hlst2.out
   show _/\_
   omega
  have hal2:y.a.length<=2001:=hla2.out.2
  obtain ⟨i0,hi0,hz0,hz1,hz2⟩:=info_parts Qhy
  have hwo':=hwo.out
  have haplow:(QH y.s n1 ws).low=y.s.low:=by rw [QH,if_neg (by omega),if_pos hwo']
  obtain ⟨lw,hlw2⟩:∃ lw,y.s.low=lw:=⟨_,rfl⟩
  rw [hlw2] at haplow
  obtain ⟨n8,hn8⟩:∃ n8,n8=n1-8:=⟨_,rfl⟩
  have hkk:=hTk.out.1
  rw [hTE.out] at hkk
  have hNx3:Hid (∀ wz z,QM w wz bx B p c g n (n-y.q.l.length+1) lab i v.t op qp tp A1 A2 a1 a2 z (oL ++ [⟨4, -1,i,final,true⟩])->z=Zq (ZY y i true final) final ws->Vl w wz B p c g n lab qp (Zq (ZY y i true final) final ws) (os' ++ (o9 ++ [⟨4, -1,i,final,true⟩])) f' (r1,r2)/\U0 wz qp<U0 wr qp):=fun wz z hz ez=>by
   subst ez
   refine HR.out.next hTE.out hk.out ?_
   rw [hok2]
   refine hz.fin hkk ?_
   have h1:=hlq.out
   have h2:=hnq.out
   rw [(QcH _ _ _).1]
   show n-y.q.l.length+1+(YV y.q).l.length<=n
   omega
  clear hkk hal hwo'
  have hNI:Hid (n1=lst+1/\n8=n1-8/\la=y.a.length+1):=⟨by omega,hn8,hla⟩
  by_cases hbth:8<n1/\lw<n8
  ·have hNIo:=hNI.out
   have hl2:=hla2.out
   have hlo:=hlst2.out
   rw [hlw2] at hl2
   obtain ⟨d,hd⟩:∃ d,d=n8-lw:=⟨_,rfl⟩
   have hWM:Hid (({ y with q:=YV y.q,wt:=Zc y.wt i,dc:=Qs y.dc i (true,final),s:=Zv (QH y.s n1 ws) n8,a:=(y.a ++ [final]).drop d }:Qk)=Zq (ZY y i true final) final ws):=by
    show _=_
    unfold Zq ZY
    simp only
    rw [<- hn1,haplow, <- hn8,if_pos hbth,hd]
   have hd2:Hid (d<la/\d=n8-lw/\lw<=n8/\n8<=2000):=by
    show _/\_
    omega
   have q8:decide ((8:Int)<(n1:Int))=true:=by rw [decide_eq_true_iff];omega
   have hsub:IntKind.u64.wrap ((n1:Int)-8)=(n8:Int):=by rw [IntWalk.u64_in _ (by omega)];omega
   have hsub2:IntKind.u64.wrap ((n8:Int)-(lw:Int))=(d:Int):=by rw [IntWalk.u64_in _ (by omega)];omega
   have q9:decide ((lw:Int)<(n8:Int))=true:=by rw [decide_eq_true_iff];omega
   have q9':decide (lw<n8)=true:=by rw [decide_eq_true_iff];omega
   have hstA:Hid (Yw (QH y.s n1 ws)/\(QH y.s n1 ws).last<=2001/\(Qq (QH y.s n1 ws).ks).length<=800000):=by
    refine ⟨Vy hk.out.s _ _,?_,?_⟩
    ·rw [QH,if_neg (by omega),if_pos hwo.out];show n1<=_;omega
    ·have h1:=Qak hk.out.s n1 ws
     have h2:=hIt.out.1
     have h3:=hw6.out
     omega
   clear hbth hlw2 hNIo hl2 hlo hn1 hn8 hla hd
   go_wp2_with (first
   | (go_at_call 58;(with_reducible refine hLast.out.mono ?_);rintro e wL ⟨rfl,rfl⟩)
   | (go_at_call 99;(with_reducible refine hAp.out.mono ?_);rintro e w17 ⟨⟨z17,rfl⟩,hL17,hk17⟩;obtain ⟨lab17,E17,ov17,hIn17⟩:=hL17;obtain ⟨c9,hTR,hne9⟩:=hIn17.av;have c4:=hk17 _ _ _ (.inl ⟨rfl,trivial⟩) m4;have hXT:=hTR.later (Qc w17 (.cells #[.int .u64 (final:Int)] 39));have hnw:∀ j u,[Value.int .u64 (final:Int)][j]? = some u->(w17.alloc (.cells #[.int .u64 (final:Int)] 39)).cell? ((⟨w17.heap.size,0,none⟩:Addr).add j)=some u:=World.news_of_block (heap_alloc_new w17 (.cells #[.int .u64 (final:Int)] 39));have hBX:B<=(w17.alloc (.cells #[.int .u64 (final:Int)] 39)).heap.size:=Nat.le_trans hIn17.m.hB (by simp))
   | (at_builtin;refine Y8 rfl _ _ 59 rfl B 39 i0 _ 8 Tryz.underlying59 hi0 hz0 hz1 hz2 rfl E17.av (Jv y.a) rfl hXT ⟨w17.heap.size,0,none⟩ 1 (.int .u64 (final:Int)) rfl hnw Vj (QA (by rw [halen];omega)) (by rw [halen];omega) hBX ?_;intro v15 w15 HO15 hg15 hv15;obtain ⟨A15,k15,rfl⟩:=K0 HO15;rw [hlen1] at HO15 hv15 ⊢;obtain ⟨hc15,hf15⟩:=hIn17.avfz hg15;obtain ⟨hL18,hk18⟩:=hIn17.setAv2 hg15 HO15 hv15;have c4':=hk18 _ _ _ (.inl ⟨rfl,by decide⟩) c4;have hLow18:=(hL18.last c4' (Below.refl _ _)).2;dsimp only at hLow18;rw [haplow] at hLow18)
   | (go_at_call 54;(with_reducible refine hLow18.mono ?_);rintro e wM ⟨rfl,rfl⟩))
   obtain ⟨w18,hw18⟩:∃ w18,w15.setCell ⟨p,9,none⟩ (.slice A15 la k15)=w18:=⟨_,rfl⟩
   have c9':w18.cell? ⟨p,9,none⟩=some (.slice A15 la k15):=by rw [<- hw18];exact World.cell?_setCell_same' _ _ _ (by rw [hc15];rfl)
   rw [hw18] at hL18 c4' ⊢
   clear hw18 hLow18 hk18 hc15 hf15 hv15 HO15 hg15 hXT hnw hBX hTR hne9 c9 c4 hIn17 hk17
   have hLow:=Lib.hid ((hL18.last c4' (Qb (Below.refl w18.heap.size w18))).2)
   obtain ⟨lab18,E18,ov18,hIn18⟩:=hL18.later (Qb (Below.refl w18.heap.size w18))
   obtain ⟨av9,hTR18,_⟩:=hIn18.av
   have eav:E18.av = .slice A15 la k15:=by
    have h:w18.cell? ⟨p,9,none⟩=some E18.av:=av9
    rw [c9'] at h
    injection h with h
    exact h.symm
   have hlenA:(Jv (y.a ++ [final])).length=la:=by
    rw [<- hlen1]
    simp [Jv]
   have hAt:∃ b15 o15,A15=some ⟨b15,o15,none⟩/\la<=k15:=by
    obtain ⟨A,cap,hv,hcap,hat⟩:=hTR18.at_
    rw [eav,hlenA] at hv
    injection hv with e1 _ e3
    have hl0:0<(Jv (y.a ++ [final])).length:=by
     rw [hlenA]
     have:=hd2.out.1
     omega
    obtain ⟨g1,o1,e4,_⟩:=hat 0 _ (List.getElem?_eq_getElem hl0)
    have hcap2:(Jv (y.a ++ [final])).length<=cap:=hcap
    rw [hlenA] at hcap2
    exact ⟨g1,o1,by rw [e1,e4],by omega⟩
   obtain ⟨b15,o15,rfl,hk15⟩:=hAt
   have hdl:=hd2.out.1
   have hcut0:=Lib.hid (hTR18.cut (k:=d) eav (by rw [hlenA];omega))
   have hkd:¬ k15=d:=by omega
   have hdla:(d:Int)<=(la:Int):=by omega
   have hlak:(la:Int)<=(k15:Int):=by omega
   have hap2:(QH y.s n1 ws).low=lw:=haplow
   have hLow2:Hid (Calls Tryz.prog 54 #[.pointer (some ⟨E14.sp,0,none⟩)] w18.drew fun e w'=>e = .returned (.int .u64 (lw:Int))/\w18.drew=w'):=by
    have:=hLow.out
    dsimp only at this
    rw [haplow] at this
    exact this
   have hfz:=hIn18.m.fz 9
   have hblk:=hIn18.m.blk
   have hS20:∀ u,(w18.drew.setCell ⟨p,9,none⟩ u).cell? ⟨p,4,none⟩=some (.pointer (some ⟨E14.sp,0,none⟩)):=fun u=>by
    have h4:w18.drew.cell? ⟨p,4,none⟩=some (.pointer (some ⟨E14.sp,0,none⟩)):=c4'
    rw [cell_of_row w18.drew _ _ _ _ _ hblk] at h4
    rw [cell_of_row _ _ _ _ _ _ (ZJ u hblk),Array.getElem?_setIfInBounds_ne (by decide)]
    exact h4
   replace hIn18:=Lib.hid hIn18
   clear hL18 hLow hTR18 hap2 av9 hblk
   have hLow3:Calls Tryz.prog 54 #[.pointer (some ⟨E14.sp,0,none⟩)] w18.drew fun e w''=>e = .returned (.int .u64 (lw:Int))/\w''=w18.drew:=hLow2.out.mono fun e w' h=>⟨h.1,h.2.symm⟩
   refine wp_region_still_tail 16 (by kernel_rfl) (by kernel_rfl) ?_
   simp only [List.take_succ_cons,List.take_zero,List.drop_succ_cons,List.drop_zero]
   repeat still_step
   still_call hLow3
   repeat still_step
   refine wpStill_nil ?_
   have hr:=hcut0.out
   rw [if_neg hkd] at hr
   simp only [Option.map_some,Nat.mul_one,Go.WideShapes.add_plain] at hr
   have hr2:QC w18.drew B 39 (.slice (some ⟨b15,o15+d,none⟩) (la-d) (k15-d)) (Jv ((y.a ++ [final]).drop d)):=by
    have e:Jv ((y.a ++ [final]).drop d)=(Jv (y.a ++ [final])).drop d:=List.map_drop
    rw [e]
    exact hr
   have hS:=(hIn18.out.setAv (w15:=w18.drew) (a':=(y.a ++ [final]).drop d) ⟨rfl,rfl,rfl,Nat.le_refl _,fun _ _ _=>rfl⟩ hr2 (.inl (by rw [eav];rfl))).1
   obtain ⟨w20,hw20⟩:∃ w20,(w18.setCell ⟨p,9,none⟩ (.slice (some ⟨b15,o15+d,none⟩) (la-d) (k15-d))).drew=w20:=⟨_,rfl⟩
   have hL20:QM w w20 bx B p c g n (n-y.q.l.length+1) lab i v.t op qp tp A1 A2 a1 a2 { y with q:=YV y.q,wt:=Zc y.wt i,dc:=Qs y.dc i (true,final),s:=QH y.s n1 ws,a:=(y.a ++ [final]).drop d } (oL ++ [⟨4, -1,i,final,true⟩]):=by
    rw [<- hw20]
    exact hS
   have c20:w20.cell? ⟨p,4,none⟩=some (.pointer (some ⟨E14.sp,0,none⟩)):=by
    rw [<- hw20]
    exact hS20 _
   have hCo:=Lib.hid (hL20.collect c20 hstA.out.1 hstA.out.2.1 hstA.out.2.2 n8)
   clear hS hr hr2 hL20
   go_wp2_with (go_at_call 100;(with_reducible refine hCo.out.mono ?_);rintro e w21 ⟨⟨z,z',rfl⟩,hL21⟩)
   exact hK.out _ _ _ _ _ _ _ _ _ _ _ _ _ _ _ _ _ _ _ _ _ _ _ _ _ _ _ _ _ _ _ _ _ _ _ _ _ _ _ _ _ _ _ _ _ _ _ _ _ _ _ _ _ _ _ _ _ _ _ _ _ _ _ _ _ _ _ _ _ _ _ _ _ _ _ _ _ _ _ _ _ _ _ (hNx3.out _ _ hL21 hWM.out)
  ·have hWM:Hid (({ y with q:=YV y.q,wt:=Zc y.wt i,dc:=Qs y.dc i (true,final),s:=QH y.s n1 ws,a:=y.a ++ [final] }:Qk)=Zq (ZY y i true final) final ws):=by
    show _=_
    unfold Zq ZY
    simp only
    rw [<- hn1,haplow, <- hn8,if_neg hbth]
   clear hn1
   replace hn8:=Lib.hid hn8
   replace hla:=Lib.hid hla
   by_cases h8:8<n1
   ·have q8:decide ((8:Int)<(n1:Int))=true:=by rw [decide_eq_true_iff];omega
    have hsub:IntKind.u64.wrap ((n1:Int)-8)=(n8:Int):=by
     have:=hlst2.out
     have:=hNI.out
     rw [IntWalk.u64_in _ (by omega)];omega
    have q9:decide ((lw:Int)<(n8:Int))=false:=by
     rw [decide_eq_false_iff_not]
     intro e
     exact hbth ⟨h8,by omega⟩
    have q9':decide (lw<n8)=false:=by rw [decide_eq_false_iff_not];exact fun e=>hbth ⟨h8,e⟩
    clear hbth h8 hlw2
    go_wp2_with (first
   | (go_at_call 58;(with_reducible refine hLast.out.mono ?_);rintro e wL ⟨rfl,rfl⟩)
   | (go_at_call 99;(with_reducible refine hAp.out.mono ?_);rintro e w17 ⟨⟨z17,rfl⟩,hL17,hk17⟩;obtain ⟨lab17,E17,ov17,hIn17⟩:=hL17;obtain ⟨c9,hTR,hne9⟩:=hIn17.av;have c4:=hk17 _ _ _ (.inl ⟨rfl,trivial⟩) m4;have hXT:=hTR.later (Qc w17 (.cells #[.int .u64 (final:Int)] 39));have hnw:∀ j u,[Value.int .u64 (final:Int)][j]? = some u->(w17.alloc (.cells #[.int .u64 (final:Int)] 39)).cell? ((⟨w17.heap.size,0,none⟩:Addr).add j)=some u:=World.news_of_block (heap_alloc_new w17 (.cells #[.int .u64 (final:Int)] 39));have hBX:B<=(w17.alloc (.cells #[.int .u64 (final:Int)] 39)).heap.size:=Nat.le_trans hIn17.m.hB (by simp))
   | (at_builtin;refine Y8 rfl _ _ 59 rfl B 39 i0 _ 8 Tryz.underlying59 hi0 hz0 hz1 hz2 rfl E17.av (Jv y.a) rfl hXT ⟨w17.heap.size,0,none⟩ 1 (.int .u64 (final:Int)) rfl hnw Vj (QA (by rw [halen];omega)) (by rw [halen];omega) hBX ?_;intro v15 w15 HO15 hg15 hv15;obtain ⟨A15,k15,rfl⟩:=K0 HO15;rw [hlen1] at HO15 hv15 ⊢;obtain ⟨hc15,hf15⟩:=hIn17.avfz hg15;obtain ⟨hL18,hk18⟩:=hIn17.setAv2 hg15 HO15 hv15;have c4':=hk18 _ _ _ (.inl ⟨rfl,by decide⟩) c4;have hLow18:=(hL18.last c4' (Below.refl _ _)).2;dsimp only at hLow18;rw [haplow] at hLow18)
   | (go_at_call 54;(with_reducible refine hLow18.mono ?_);rintro e wM ⟨rfl,rfl⟩))
    exact hK.out _ _ _ _ _ _ _ _ _ _ _ _ _ _ _ _ _ _ _ _ _ _ _ _ _ _ _ _ _ _ _ _ _ _ _ _ _ _ _ _ _ _ _ _ _ _ _ _ _ _ _ _ _ _ _ _ _ _ _ _ _ _ _ _ _ _ _ _ _ _ _ _ _ _ _ _ _ _ _ _ _ _ _ (hNx3.out _ _ hL18 hWM.out)
   ·have q8:decide ((8:Int)<(n1:Int))=false:=by rw [decide_eq_false_iff_not];omega
    clear hbth h8 hlw2
    go_wp2_with (first
   | (go_at_call 58;(with_reducible refine hLast.out.mono ?_);rintro e wL ⟨rfl,rfl⟩)
   | (go_at_call 99;(with_reducible refine hAp.out.mono ?_);rintro e w17 ⟨⟨z17,rfl⟩,hL17,hk17⟩;obtain ⟨lab17,E17,ov17,hIn17⟩:=hL17;obtain ⟨c9,hTR,hne9⟩:=hIn17.av;have c4:=hk17 _ _ _ (.inl ⟨rfl,trivial⟩) m4;have hXT:=hTR.later (Qc w17 (.cells #[.int .u64 (final:Int)] 39));have hnw:∀ j u,[Value.int .u64 (final:Int)][j]? = some u->(w17.alloc (.cells #[.int .u64 (final:Int)] 39)).cell? ((⟨w17.heap.size,0,none⟩:Addr).add j)=some u:=World.news_of_block (heap_alloc_new w17 (.cells #[.int .u64 (final:Int)] 39));have hBX:B<=(w17.alloc (.cells #[.int .u64 (final:Int)] 39)).heap.size:=Nat.le_trans hIn17.m.hB (by simp))
   | (at_builtin;refine Y8 rfl _ _ 59 rfl B 39 i0 _ 8 Tryz.underlying59 hi0 hz0 hz1 hz2 rfl E17.av (Jv y.a) rfl hXT ⟨w17.heap.size,0,none⟩ 1 (.int .u64 (final:Int)) rfl hnw Vj (QA (by rw [halen];omega)) (by rw [halen];omega) hBX ?_;intro v15 w15 HO15 hg15 hv15;obtain ⟨A15,k15,rfl⟩:=K0 HO15;rw [hlen1] at HO15 hv15 ⊢;obtain ⟨hc15,hf15⟩:=hIn17.avfz hg15;obtain ⟨hL18,hk18⟩:=hIn17.setAv2 hg15 HO15 hv15))
    exact hK.out _ _ _ _ _ _ _ _ _ _ _ _ _ _ _ _ _ _ _ _ _ _ _ _ _ _ _ _ _ _ _ _ _ _ _ _ _ _ _ _ _ _ _ _ _ _ _ _ _ _ _ _ _ _ _ _ _ _ _ _ _ _ _ _ _ _ _ _ _ _ _ _ _ _ _ _ _ _ _ _ _ _ _ (hNx3.out _ _ hL18 hWM.out)
open Go.ChangeShapes Go.WideShapes Go.ChangeAt Go.Joins
theorem V6 {n:Nat} (h:n<=maxLen):n<=9223372036854775807:=by unfold maxLen at h;omega
theorem QlF:Tryz.prog.cellsOf 25=2:=by kernel_rfl
theorem Qb5:Tryz.prog.cellsOf 3=1:=by kernel_rfl
theorem Qaq:Tryz.prog.cellsOf 9=1:=by kernel_rfl
theorem Qb6 {α:Type} (l:List α) (n i:Nat) (d:α) (h:i<n):(l.take n).getD i d=l.getD i d:=by
 simp [List.getD_eq_getElem?_getD,h]
theorem QhC {H:Type} {enc:TypeId × Value->H} {w:World} {base fuel:Nat} {sp:Nat->Bool} {held:Bool} {v:Value} {x:DataW H × List MemPlace}
  (h:DataW.trod enc Tryz.prog w base sp held fuel 22 [v]=some x):∃ (A:Option Addr) (l:List Int) (cap:Nat),v = .slice A l.length cap/\QV w A l/\l.length<=cap/\cap<=maxLen:=by
 rcases open_ints Tryz.underlying22 Tryz.underlying3 Qb5 h with ⟨hcs,_⟩ | ⟨a,len,cap,zs,hcs,_,hl,hm,hz,_,hc,_⟩
 ·simp at hcs
  exact ⟨none,[],0,by simp [hcs],fun i hi=>by simp at hi,by simp,by simp [maxLen]⟩
 ·have hlen:len<=zs.length:=by rw [hz];split <;> omega
  have el:(zs.take len).length=len:=by simp;omega
  refine ⟨some a,zs.take len,cap,by simp at hcs;rw [hcs,el],fun i hi=>?_,by omega,hm⟩
  obtain ⟨b,off,rfl,hc'⟩:=ints_at hc (by rw [el] at hi;omega)
  rw [el] at hi
  exact ⟨b,off,rfl,by rw [hc' i (by omega)];show _=some (Value.int .i64 ((zs.take len).getD i 0));rw [Qb6 _ _ _ _ hi]⟩
theorem QhD {H:Type} {enc:TypeId × Value->H} {w:World} {base fuel:Nat} {sp:Nat->Bool} {held:Bool} {v:Value} {x:DataW H × List MemPlace}
  (h:DataW.trod enc Tryz.prog w base sp held fuel 23 [v]=some x):∃ (A:Option Addr) (l:List ByteArray) (cap:Nat),v = .slice A l.length cap/\ZM w A l/\l.length<=cap/\cap<=maxLen/\∀ k,k<l.length->(l.getD k Qt).size<=maxLen:=by
 rcases open_strings Tryz.underlying23 Tryz.underlying9 Qaq h with ⟨hcs,_⟩ | ⟨a,len,cap,ss,hcs,_,hl,hm,hz,_,hc,hw⟩
 ·simp at hcs
  exact ⟨none,[],0,by simp [hcs],fun i hi=>by simp at hi,by simp,by simp [maxLen],fun k hk=>by simp at hk⟩
 ·have hlen:len<=ss.length:=by rw [hz];split <;> omega
  have el:(ss.take len).length=len:=by simp;omega
  refine ⟨some a,ss.take len,cap,by simp at hcs;rw [hcs,el],fun i hi=>?_,by omega,hm,fun k hk=>?_⟩
  ·rw [el] at hi
   have hc0:=hc 0 (by omega)
   obtain ⟨b,off,spot⟩:=a
   have hspot:spot=none:=by simpa [Addr.add] using World.cell?_spot hc0
   subst hspot
   refine ⟨b,off,rfl,?_⟩
   have:=hc i (by omega)
   rw [Go.WideShapes.add_plain] at this
   rw [this]
   show _=some (Value.string ((ss.take len).getD i Qt))
   rw [Qb6 _ _ _ _ hi]
   rfl
  ·rw [el] at hk
   rw [Qb6 _ _ _ _ hk]
   apply hw
   rw [List.getD_eq_getElem?_getD,List.getElem?_eq_getElem (by omega)]
   exact List.getElem_mem _
set_option maxRecDepth 100000 in
theorem Qm7 {H:Type} {enc:TypeId × Value->H} {w:World} {b0 base:Nat} {sp:Nat->Bool} {held:Bool} {v:Value} {d:DataW H} {p:List MemPlace}
  (hv:Value.okWide Tryz.prog w .any b0 25 v) (h:DataW.Trod enc Tryz.prog w base sp held 25 v d p) :
  ∃ (c:Ql) (A B:Option Addr) (ca cb:Nat),v = .agg #[.slice A c.reps.length ca,.slice B c.bnds.length cb]/\Z9 w c A B/\c.reps.length<=ca/\c.bnds.length<=cb:=by
 obtain ⟨v0,v1,y0,y1,n,rfl,_,_,h0,h1⟩:=open_agg2 Tryz.underlying25 (by kernel_rfl) QlF hv h
 obtain ⟨A,l,ca,rfl,hA,hla,hma⟩:=QhC h0
 obtain ⟨B,m,cb,rfl,hB,hlb,hmb,hs⟩:=QhD h1
 have q0:∀ k,k<m.length->(m.getD k Qt).size<=9223372036854775807:=fun k hk=>V6 (hs k hk)
 have q1:l.length<=9223372036854775807:=V6 (by omega)
 have q2:m.length<=9223372036854775807:=V6 (by omega)
 exact ⟨⟨l,m⟩,A,B,ca,cb,rfl,⟨hA,hB,q0,q1,q2⟩,hla,hlb⟩
end Go.Proofs.YtcldpmkhpmlcbaaGreatDoor
