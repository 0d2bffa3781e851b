/- part -/
import Derived.Test.YtcldpmkhpmlcbaaGreatDoorJ23
import Derived.Test.YtcldpmkhpmlcbaaGreatDoorWdApp17
import Derived.OpenShut
set_option linter.unusedVariables false
set_option linter.unusedSimpArgs false
namespace Go.Proofs.YtcldpmkhpmlcbaaGreatDoor
open Go.ChangeShapes Go.WideShapes Go.ChangeAt Go.RowKit Go.Joins Go.Deep
structure Q6 where
 t:Tx
 A:Option Addr
 B:Option Addr
 ca:Nat
 cb:Nat
def Q6.vs (x:Q6):List Value:=[.int .i64 x.t.ses,.int .i64 x.t.seq,.slice x.A x.t.rds.length x.ca,.slice x.B x.t.wrs.length x.cb]
def Ya:Q6:=⟨⟨0,0,[],[]⟩,none,none,0,0⟩
instance:Inhabited Q6:=⟨Ya⟩
def Qau (w:World) (S:Option Addr) (l:List Q6):Prop :=
 ∀ i,i<l.length->∃ b off,S=some ⟨b,off,none⟩/\(∀ j v,(l.getD i Ya).vs[j]? = some v->w.cell? ⟨b,off+i * 4+j,none⟩=some v)/\QY w (l.getD i Ya).t (l.getD i Ya).A (l.getD i Ya).B
theorem Qau.later {w w':World} {S:Option Addr} {l:List Q6} (h:Qau w S l) (hb:Below w.heap.size w w'):Qau w' S l:=fun i hi=>by
 obtain ⟨b,off,e,h0,h1⟩:=h i hi
 exact ⟨b,off,e,fun j v hj=>keep hb (h0 j v hj),h1.later hb⟩
theorem Qau.at' {w:World} {S:Option Addr} {l:List Q6} (h:Qau w S l) {k:Nat} (hk:k<l.length):∃ b off a,S=some ⟨b,off,none⟩/\w.cell? ⟨b,off+k * 4,none⟩=some (.int .i64 a.t.ses)/\w.cell? ⟨b,off+k * 4+1,none⟩=some (.int .i64 a.t.seq)/\w.cell? ⟨b,off+k * 4+2,none⟩=some (.slice a.A a.t.rds.length a.ca)/\w.cell? ⟨b,off+k * 4+3,none⟩=some (.slice a.B a.t.wrs.length a.cb)/\QY w a.t a.A a.B/\Hid (l.getD k Ya=a):=by
 obtain ⟨b,off,e,h0,h1⟩:=h k hk
 exact ⟨b,off,_,e,h0 0 _ rfl,h0 1 _ rfl,h0 2 _ rfl,h0 3 _ rfl,h1,rfl⟩
set_option maxRecDepth 100000 in
theorem Ql7 {H:Type} {enc:TypeId × Value->H} {w:World} {b0 base:Nat} {sp:Nat->Bool} {held:Bool} {v:Value} {d:DataW H} {p:List MemPlace}
  (hv:Value.okWide Tryz.prog w .any b0 47 v) (h:DataW.Trod enc Tryz.prog w base sp held 47 v d p) :
  ∃ (S:Option Addr) (l:List Q6) (cs:Nat),v = .slice S l.length cs/\Qau w S l/\l.length<=9223372036854775807:=by
 obtain ⟨a0,len,cap,rfl⟩:=okWide_slice Tryz.underlying47 hv
 obtain ⟨fuel,hf⟩:=h
 obtain ⟨A,l,ca,e,h1,h2,h3,h4⟩:=VS (k:=4) (f:=fun o:Q6=>o.vs) (q:=fun o=>QY w o.t o.A o.B) Ya (by omega) (fun _=>rfl) Tryz.underlying47 QfW (fun h=>by
  obtain ⟨t,A,B,ca,cb,e,hT,_⟩:=QlO h
  exact ⟨⟨t,A,B,ca,cb⟩,e,hT⟩) hf
 have h5:=V6 (Nat.le_trans h1 h2)
 refine ⟨A,l,ca,by simpa [Value.cells] using e,fun i hi=>?_,h5⟩
 obtain ⟨b,off,e,hc⟩:=h3 i hi
 exact ⟨b,off,e,hc,h4 i hi⟩
open Go.Shelf Go.Maps
section
variable {w0 w wr wz w3:World} {b:Nat} {c:Ql} {j jw:Nat} {W:Wd} {F F1 F2:Xe}
theorem Q3.other (h : Q3 w0 wr b c j jw W F) {O : Nat -> Prop} (ho : Qg O wr wz) (hO : ∀ k, O k -> F.ow k = .no /\ w0.heap.size <= k) : Q3 w0 wz b c j jw W F := by
  have hOb : ∀ k, O k -> w0.heap.size <= k := fun k hk => (hO k hk).2
  have hn : ∀ k, F.ow k ≠ .no -> ¬ O k := fun k e z => e (hO k z).1
  exact { h with
    b0 := h.b0.trans (ho.below h.b0.size hOb)
    blk := ho.obj h.blk (hn b (by rw [h.lb]; decide))
    mr := ho.row h.mr (fun k e => hn k (by rw [h.lm k e]; decide))
    wrr := ho.row h.wrr (fun k e => hn k (by rw [h.lw k e]; decide))
    way := fun x hx => ho.row (h.way x hx) (fun k e => hn k (by rw [h.lway x hx k e]; intro z; cases z))
    m := fun g hg => by
      obtain ⟨E, ov, os, hm⟩ := h.m g hg
      exact ⟨E, ov, os, hm.out ho (fun k hk => hn k (by rw [h.lmach g hg k hk]; intro z; cases z)) hOb⟩
    lt := fun k hk => ⟨(h.lt k hk).1, Nat.lt_of_lt_of_le (h.lt k hk).2 ho.size⟩ }
theorem Zt.other {O:Nat->Prop} (h:Zt w wr F F1) (ho:Qg O wr wz) (hO:∀ k,O k->w.heap.size<=k):Zt w wz F F1 :=
 ⟨⟨ho.os.trans h.out.os,ho.tape.trans h.out.tape,ho.output.trans h.out.output,Nat.le_trans h.out.size ho.size,fun k hk hn=>by
  rw [ho.block k (Nat.lt_of_lt_of_le hk h.out.size) (fun z=>by have:=hO k z;omega)]
  exact h.out.block k hk hn⟩,h.keep⟩
def Kl (w0 wr:World) (F:Xe) (S:Option Addr) (l:List Q6):Prop :=
 ∀ i,i<l.length->∃ b off,S=some ⟨b,off,none⟩/\F.ow b = .no/\b<wr.heap.size/\(∀ j v,(l.getD i Ya).vs[j]? = some v->wr.cell? ⟨b,off+i * 4+j,none⟩=some v)/\QY w0 (l.getD i Ya).t (l.getD i Ya).A (l.getD i Ya).B
theorem Kl.step {S:Option Addr} {l:List Q6} (h:Kl w0 wr F S l) (hs:Zt wr wz F F1):Kl w0 wz F1 S l:=fun i hi=>by
 obtain ⟨b,off,e,h0,h1,h2,h3⟩:=h i hi
 exact ⟨b,off,e,hs.keep b h1 h0,Nat.lt_of_lt_of_le h1 hs.out.size,fun j v hj=>hs.out.cell (h2 j v hj) (fun z=>z h0),h3⟩
theorem QY.old {t:Tx} {A B:Option Addr} (h:QY w t A B):Ko w.heap.size t.rds.length A/\Ko w.heap.size t.wrs.length B:=by
 refine ⟨fun a e hn0=>?_,fun a e hn0=>?_⟩
 ·obtain ⟨b,off,e1,hc,_⟩:=h.rds 0 hn0
  rw [e] at e1;cases e1
  exact Yc hc
 ·obtain ⟨b,off,e1,hc,_⟩:=h.wrs 0 hn0
  rw [e] at e1;cases e1
  exact Yc hc
theorem Kl.at' {S:Option Addr} {l:List Q6} (h:Kl w0 wr F S l) {k:Nat} (hk:k<l.length):∃ b off a,S=some ⟨b,off,none⟩/\wr.cell? ⟨b,off+k * 4,none⟩=some (.int .i64 a.t.ses)/\wr.cell? ⟨b,off+k * 4+1,none⟩=some (.int .i64 a.t.seq)/\wr.cell? ⟨b,off+k * 4+2,none⟩=some (.slice a.A a.t.rds.length a.ca)/\wr.cell? ⟨b,off+k * 4+3,none⟩=some (.slice a.B a.t.wrs.length a.cb)/\QY w0 a.t a.A a.B/\Ko w0.heap.size a.t.rds.length a.A/\Ko w0.heap.size a.t.wrs.length a.B/\Hid (l.getD k Ya=a):=by
 obtain ⟨b,off,e,_,_,h0,h1⟩:=h k hk
 exact ⟨b,off,_,e,h0 0 _ rfl,h0 1 _ rfl,h0 2 _ rfl,h0 3 _ rfl,h1,h1.old.1,h1.old.2,rfl⟩
end
structure Km where
 g:Nat
 e:Nat
 k:Nat
def Km.vs (x:Km):List Value:=[.int .u8 x.g,.int .u8 x.e,.int .u8 x.k]
def QaY:Km:=⟨0,0,0⟩
instance:Inhabited Km:=⟨QaY⟩
def K4 (w:World) (S:Option Addr) (l:List Km):Prop :=
 ∀ i,i<l.length->∃ b off,S=some ⟨b,off,none⟩/\(∀ j v,(l.getD i QaY).vs[j]? = some v->w.cell? ⟨b,off+i * 3+j,none⟩=some v)/\(l.getD i QaY).g<256/\(l.getD i QaY).e<256/\(l.getD i QaY).k<256
theorem K4.later {w w':World} {S:Option Addr} {l:List Km} (h:K4 w S l) (hb:Below w.heap.size w w'):K4 w' S l:=fun i hi=>by
 obtain ⟨b,off,e,h0,h1⟩:=h i hi
 exact ⟨b,off,e,fun j v hj=>keep hb (h0 j v hj),h1⟩
theorem K4.at' {w:World} {S:Option Addr} {l:List Km} (h:K4 w S l) {k:Nat} (hk:k<l.length):∃ (b off:Nat) (a:Km),S=some ⟨b,off,none⟩/\w.cell? ⟨b,off+k * 3,none⟩=some (.int .u8 (a.g:Int))/\w.cell? ⟨b,off+k * 3+1,none⟩=some (.int .u8 (a.e:Int))/\w.cell? ⟨b,off+k * 3+2,none⟩=some (.int .u8 (a.k:Int))/\a.g<256/\a.e<256/\a.k<256:=by
 obtain ⟨b,off,e,h0,h1⟩:=h k hk
 exact ⟨b,off,_,e,h0 0 _ rfl,h0 1 _ rfl,h0 2 _ rfl,h1⟩
def QS (l:List Q6):List Tx:=l.map fun a=>a.t
theorem Qci {l:List Q6} {k:Nat} (hk:k<l.length) {a:Q6} (h:Hid (l.getD k Ya=a)):a.t ∈ QS l:=by
 have h:=h.out
 rw [List.getD_eq_getElem?_getD,List.getElem?_eq_getElem hk] at h
 rw [QS,List.mem_map]
 exact ⟨a,by rw [<- h];exact List.getElem_mem hk,rfl⟩
def Qki (a:Q6):Q2:=YE a.t a.A a.B a.ca a.cb
def KH (c:Ql) (all:List Tx) (W:Wd):Prop:=(∃ k G,k<=156/\Vo c all k W/\J6 c all k W G)/\∀ h:Nat,h<c.reps.length->W.cnt h<=524
theorem P1.run {c:Ql} {all:List Tx} {N:Nat} {W:Wd} (h:P1 c all N W) (hN:N<=156):KH c all W:=by
 obtain ⟨k,G,h1,h2,h3⟩:=h.ex
 exact ⟨⟨k,G,by omega,h2,h3⟩,fun x hx=>by have:=h.cn x hx;omega⟩
theorem P3.run {c:Ql} {all:List Tx} {τ:Nat} {p:Nat->Nat} {W:Wd} (h:P3 c all τ p W) (hp:Xp c all):KH c all W:=by
 obtain ⟨k,G,h1,h2,h3,_⟩:=h.ex
 exact ⟨⟨k,G,h1,h2,h3⟩,fun x hx=>by have:=h.cn x hx;have:=h.le x hx;have:=h.few hp x;omega⟩
theorem KH.few {c:Ql} {all:List Tx} {W:Wd} (h:KH c all W) (hp:Xp c all) (x:Nat):(W.way x).length<=368:=by
 obtain ⟨⟨k,G,h1,_,h3⟩,_⟩:=h
 have:=h3.few hp h1 x
 omega
theorem QhR {c:Ql} {all:List Tx} {G:Gh} {g:Int} {os:List Qv} (hc:Qn c=true) (h:XD c all G g os):∀ o ∈ os,o.kind ≠ 4->∃ x:Nat,o.dst=x/\x<c.reps.length:=fun o ho hk=>by
 rcases h o ho with e | ⟨⟨t,_,_,h1,_⟩,_⟩
 ·exact absurd e hk
 ·exact V8 hc h1
def ApW (w0 w:World) (b:Nat) (c:Ql) (W':Wd) (F:Xe) (e:Ending) (w':World):Prop:=e = .returned (.tuple #[])/\∃ F',Q3 w0 w' b c c.reps.length c.reps.length W' F'/\Zt w w' F F'
section
variable {w0 w:World} {b:Nat} {c:Ql} {all:List Tx} {W:Wd} {F:Xe} {g:Nat}
theorem KH.begin (h:Q3 w0 w b c c.reps.length c.reps.length W F) (hR:KH c all W) (hp:Xp c all) (hg:g<c.reps.length) {a:Q6} (ha:a.t ∈ all) (ht:QY w0 a.t a.A a.B) :
  Calls Tryz.prog 45 #[.pointer (some ⟨b,0,none⟩),.int .i64 g,.agg #[.int .i64 1,.int .i64 a.t.ses,.int .i64 a.t.seq,.slice a.A a.t.rds.length a.ca,.slice a.B a.t.wrs.length a.cb,.int .i64 0,.int .i64 0,.int .i64 0,.int .u64 0,.bool false]] w (ApW w0 w b c (ZN c W g (Qki a)) F):=by
 obtain ⟨⟨k,G,h1,h2,h3⟩,hcn⟩:=hR
 have hS:=QaI (h3.loc g hg) (h3.mok g hg) hp.j ha (hp.f _ ha) (u:=k+1) (fun x i s e=>by have:=h3.ob x i s e;omega) (by have:=h3.ck g hg;omega) a.A a.B a.ca a.cb
 obtain ⟨G',hS⟩:=hS
 have hl:=Qbm (h3.mok g hg) (Qki a)
 have hc:=hcn g hg
 exact QhQ h hg (ZI hp.c).2 (Qki a) (ht.later h.b0) ht.old.1 ht.old.2 (by omega) (by omega) (QhR hp.c hS.told) (fun x=>by have:=h3.few hp h1 x;omega)
theorem KH.heard (h:Q3 w0 w b c c.reps.length c.reps.length W F) (hR:KH c all W) (hp:Xp c all) (hg:g<c.reps.length) {a:Q2} (ha:a ∈ W.way g) :
  Calls Tryz.prog 45 #[.pointer (some ⟨b,0,none⟩),.int .i64 g,.agg a.vs] w (ApW w0 w b c (ZN c W g a) F):=by
 obtain ⟨⟨k,G,h1,h2,h3⟩,hcn⟩:=hR
 have hM:=h3.msg g hg a ha
 obtain ⟨G',hS⟩:=VT (h3.loc g hg) (h3.mok g hg) hp.j hM.f (by rcases hM.x with e | e;exact .inl e.1;exact .inr e.1) h3.ob (h3.ck g hg) (fun e=>by rcases hM.x with q | q;exact q.2;omega) (fun e=>by rcases hM.x with q | q;exact absurd q.1 e;exact q.2)
 have hl:=Qbm (h3.mok g hg) a
 have hc:=hcn g hg
 obtain ⟨s1,s2,s3,_,_⟩:=hM.sh
 have ht:QY w a.t a.A a.B:=by
  rw [s1,s2,s3]
  exact ⟨fun i hi=>absurd hi (Nat.not_lt_zero _),fun i hi=>absurd hi (Nat.not_lt_zero _),fun i hi=>absurd hi (Nat.not_lt_zero _),fun i hi=>absurd hi (Nat.not_lt_zero _),fun i hi=>absurd hi (Nat.not_lt_zero _),Nat.zero_le _,Nat.zero_le _⟩
 exact QhQ h hg (ZI hp.c).2 a ht (by rw [s2];intro q e;cases e) (by rw [s3];intro q e;cases e) (by omega) (by omega) (QhR hp.c hS.told) (fun x=>by have:=h3.few hp h1 x;omega)
end
def Qcj (t:Tx) (k:Nat):Tx:={ t with ses:=1+(k:Int) % 8,seq:=1+(k:Int) / 8 }
def Qdz (a:Q6) (k:Nat):Q6:={ a with t:=Qcj a.t k }
def YU (l:List Q6):Nat->List Q6
 | 0=>[]
 | k+1=>YU l k ++ (if Qh (Qcj (l.getD k Ya).t k) then [Qdz (l.getD k Ya) k] else [])
theorem Ql8 {l:List Q6} {k:Nat} {a:Q6} (h:l.getD k Ya=a) (hf:Qh (Qcj a.t k)=false):YU l (k+1)=YU l k:=by
 rw [YU,h,hf];simp
theorem Ql9 {l:List Q6} {k:Nat} {a:Q6} (h:l.getD k Ya=a) (hf:Qh (Qcj a.t k)=true):YU l (k+1)=YU l k ++ [Qdz a k]:=by
 rw [YU,h,hf,if_pos rfl]
theorem QdA (l:List Q6):∀ k,(YU l k).length<=k
 | 0=>Nat.le_refl _
 | k+1=>by
  have:=QdA l k
  rw [YU,List.length_append]
  split <;> simp <;> omega
theorem U4 {l:List Q6}:∀ {k:Nat} {a:Q6},a ∈ YU l k->∃ i,i<k/\a=Qdz (l.getD i Ya) i/\Qh a.t=true
 | 0,a,h=>by cases h
 | k+1,a,h=>by
  rw [YU,List.mem_append] at h
  rcases h with h | h
  ·obtain ⟨i,hi,e⟩:=U4 h
   exact ⟨i,by omega,e⟩
  ·split at h
   ·next hf =>
    rw [List.mem_singleton] at h
    exact ⟨k,by omega,h,by rw [h];exact hf⟩
   ·cases h
theorem Qma {c:Ql} {l:List Q6} {k:Nat} (hc:Qn c=true) (hk:k<=14):Xp c (QS (YU l k)):=by
 refine ⟨hc,fun t ht=>?_,fun t ht t' ht' e=>?_,by rw [QS,List.length_map];have:=QdA l k;omega⟩
 ·obtain ⟨a,ha,rfl⟩:=List.mem_map.1 ht
  obtain ⟨_,_,_,e⟩:=U4 ha;exact e
 ·obtain ⟨a,ha,rfl⟩:=List.mem_map.1 ht
  obtain ⟨a',ha',rfl⟩:=List.mem_map.1 ht'
  obtain ⟨i,_,e1,_⟩:=U4 ha
  obtain ⟨i',_,e2,_⟩:=U4 ha'
  rw [e1,e2] at e ⊢
  have e3:(⟨1+(i:Int) % 8,1+(i:Int) / 8⟩:Qp)=⟨1+(i':Int) % 8,1+(i':Int) / 8⟩:=e
  injection e3 with h1 h2
  have:i=i':=by omega
  rw [this]
theorem QhS (l:List Q6):∀ k,((QS (YU l k)).map Qd).Nodup
 | 0=>List.Pairwise.nil
 | k+1=>by
  have ih:=QhS l k
  rw [YU]
  split
  ·have e:(QS (YU l k ++ [Qdz (l.getD k Ya) k])).map Qd=(QS (YU l k)).map Qd ++ [Qd (Qdz (l.getD k Ya) k).t]:=by simp [QS]
   rw [e,List.nodup_append]
   refine ⟨ih,by simp,fun a ha b hb=>?_⟩
   rw [List.mem_singleton] at hb
   subst hb
   obtain ⟨t,ht,rfl⟩:=List.mem_map.1 ha
   obtain ⟨x,hx,rfl⟩:=List.mem_map.1 ht
   obtain ⟨i,hi,ex,_⟩:=U4 hx
   rw [ex]
   intro z
   have z2:(⟨1+(i:Int) % 8,1+(i:Int) / 8⟩:Qp)=⟨1+(k:Int) % 8,1+(k:Int) / 8⟩:=z
   injection z2 with z1 z2
   omega
  ·rw [List.append_nil];exact ih
theorem Qi6 {w:World} {t:Tx} {A B:Option Addr} (h:QY w t A B) (k:Nat):QY w (Qcj t k) A B:=⟨h.rds,h.wrs,h.rk,h.wk,h.wv,h.rn,h.wn⟩
structure QaK (w0 wr:World) (b:Nat) (c:Ql) (F:Xe) (av:Value) (ds:List Q6):Prop where
 i:Q3 w0 wr b c c.reps.length c.reps.length Yu F
 r:wr.ownsRow w0.heap.size 38 4 av ds.length (ds.flatMap Q6.vs)
 no:∀ k,av.ownBlock=some k->F.ow k = .no
 t:∀ a ∈ ds,QY w0 a.t a.A a.B
section
variable {w0 wr wz w3:World} {b:Nat} {c:Ql} {F:Xe} {av:Value} {ds:List Q6}
theorem QaK.later (h:QaK w0 wr b c F av ds) (hb:Below wr.heap.size wr wz):QaK w0 wz b c F av ds:=⟨h.i.later hb,Qi h.r hb,h.no,h.t⟩
theorem QaK.push (h:QaK w0 wr b c F av ds) {a:Q6} (ht:QY w0 a.t a.A a.B) {v':Value} (hg:wr.grownBy w3 av.ownBlock) (hr:w3.ownsRow w0.heap.size 38 4 v' (ds.length+1) (ds.flatMap Q6.vs ++ a.vs)) (hv:v'.ownBlock=av.ownBlock \/ v'.ownBlock=some wr.heap.size):QaK w0 w3 b c F v' (ds ++ [a]):=by
 refine ⟨h.i.other (O:=fun k=>av.ownBlock=some k) (Qg.of_grown hg (fun k e=>e)) (fun k e=>⟨h.no k e,?_⟩),by simpa using hr,fun k e=>?_,fun x hx=>?_⟩
 ·rcases h.r.2 with ⟨rfl,h0⟩ | ⟨g,cap,cur,rfl,hfr,_⟩
  ·cases e
  ·cases e;exact hfr
 ·rcases hv with q | q
  ·exact h.no k (by rw [<- q];exact e)
  ·rw [q] at e;cases e
   exact h.i.fresh (Nat.le_refl _)
 ·rcases List.mem_append.1 hx with hx | hx
  ·exact h.t x hx
  ·rw [List.mem_singleton.1 hx];exact ht
theorem QaK.all (h:QaK w0 wr b c F av ds):∃ (A:Option Addr) (ca:Nat),av = .slice A ds.length ca/\Kl w0 wr F A ds:=by
 obtain ⟨A,ca,e,hk⟩:=Qbt (n:=4) (fun a:Q6=>rfl) Ya h.r
 refine ⟨A,ca,e,fun k hkl=>?_⟩
 obtain ⟨g,off,e1,h2⟩:=hk k hkl
 have h3:=fun j v hv=>(by have:=h2 j v hv;rwa [Go.WideShapes.add_plain] at this:wr.cell? ⟨g,off+k * 4+j,none⟩=some v)
 have hb:av.ownBlock=some g:=by
  rcases h.r.2 with ⟨e2,h0⟩ | ⟨g',cap,cur,e2,_⟩
  ·omega
  ·rw [e2] at e;injection e with e3;rw [e1] at e3;cases e3;rw [e2];rfl
 refine ⟨g,off,e1,h.no g hb,Yc (h3 0 (.int .i64 (ds.getD k Ya).t.ses) rfl),fun j v hj=>h3 j v ?_,h.t _ (by rw [List.getD_eq_getElem?_getD,List.getElem?_eq_getElem hkl];exact List.getElem_mem hkl)⟩
 rw [<- Array.getElem?_toList];exact hj
end
def QoM (w0 wz:World) (b:Nat) (c:Ql) (g:Nat) (F:Xe) (e:Ending) (w':World):Prop :=
 ∃ p lab,e = .returned (.pointer (some ⟨p,0,none⟩))/\Q3 w0 w' b c g g Yu F/\Below wz.heap.size wz w'/\(∃ E ov os,ZW w' w0.heap.size p c (g:Nat) (2 * Yu.cnt g) lab (Yu.m g) E ov os)/\∀ k,lab k ≠ .no->F.ow k = .no
theorem Qpl {w0 wz:World} {b:Nat} {c:Ql} {F:Xe} {A A':Option Addr} {ca cb g:Nat} (h:Q3 w0 wz b c g g Yu F) (hc:Z9 w0 c A A') (hT:XT w0) (hf:Qn c=true) (hg:g<c.reps.length) :
  Calls Tryz.prog 11 #[.agg #[.slice A c.reps.length ca,.slice A' c.bnds.length cb],.int .i64 g] wz (QoM w0 wz b c g F):=by
 have o1:Ko w0.heap.size c.reps.length A:=fun a e hn0=>by
  obtain ⟨b,off,e1,hc⟩:=hc.ints 0 hn0
  rw [e] at e1;cases e1
  exact Yc hc
 have o2:Ko w0.heap.size c.bnds.length A':=fun a e hn0=>by
  obtain ⟨b,off,e1,hc⟩:=hc.strs 0 hn0
  rw [e] at e1;cases e1
  exact Yc hc
 have hs:=h.b0.size
 refine (QhH (hc.later h.b0) (fun a e hn0=>Nat.lt_of_lt_of_le (o1 a e hn0) hs) (fun a e hn0=>Nat.lt_of_lt_of_le (o2 a e hn0) hs) hf (by omega) (by omega)).mono ?_
 rintro e w' ⟨p,lab,E,rfl,hM,hb,hz,eA,eA'⟩
 have hM0:=hM.low0 hs (by rw [eA];exact o1) (by rw [eA'];exact o2)
 refine ⟨p,lab,rfl,h.later hb,hb,⟨E,_,_,ZW.made hM0 hz (Below.refl _ _) hf (by omega) (by omega) (Vh.of hT (Nat.le_refl _) (hT.later (Qa h.b0 hb)))⟩,fun k hk=>h.fresh (hM.lt k hk).1⟩
theorem QeI:Tryz.prog.cellsOf 114=3:=by kernel_rfl
theorem Qmb:Tryz.prog.cellsOf 5=1:=by kernel_rfl
section
variable {H:Type} {enc:TypeId × Value->H} {w:World} {base fuel:Nat} {sp:Nat->Bool} {held:Bool} {cs:List Value} {x:DataW H × List MemPlace}
theorem Qck (h:DataW.trod enc Tryz.prog w base sp held fuel 5 cs=some x):∃ n:Nat,cs=[.int .u8 (n:Int)]/\n<256:=by
 obtain ⟨z,rfl,_,wz⟩:=DataW.trod_int Tryz.underlying5 h
 obtain ⟨h0,h1⟩:=bounds_u8 wz
 obtain ⟨n,rfl⟩:=Int.eq_ofNat_of_zero_le h0
 exact ⟨n,rfl,by omega⟩
theorem Qkj (h:DataW.trod enc Tryz.prog w base sp held fuel 114 cs=some x):∃ p:Km,cs=p.vs/\p.g<256/\p.e<256/\p.k<256:=by
 obtain ⟨xs,n,_,_,hc,hl,hg⟩:=DataW.trod_array Tryz.underlying114 h
 rw [QeI] at hc
 obtain ⟨a,b,c,rfl⟩:=Qex hc
 obtain ⟨u,v,y,rfl⟩:=Qex (l:=xs) hl
 have g0:=hg 0 (by omega)
 have g1:=hg 1 (by omega)
 have g2:=hg 2 (by omega)
 simp [Qmb] at g0 g1 g2
 obtain ⟨i,e0,h0⟩:=Qck g0
 obtain ⟨j,e1,h1⟩:=Qck g1
 obtain ⟨k,e2,h2⟩:=Qck g2
 simp at e0 e1 e2
 subst e0 e1 e2
 exact ⟨⟨i,j,k⟩,rfl,h0,h1,h2⟩
end
set_option maxRecDepth 100000 in
theorem Qkk {H:Type} {enc:TypeId × Value->H} {w:World} {b0 base:Nat} {sp:Nat->Bool} {held:Bool} {v:Value} {d:DataW H} {p:List MemPlace}
  (hv:Value.okWide Tryz.prog w .any b0 48 v) (h:DataW.Trod enc Tryz.prog w base sp held 48 v d p) :
  ∃ (S:Option Addr) (l:List Km) (cs:Nat),v = .slice S l.length cs/\K4 w S l/\l.length<=9223372036854775807:=by
 obtain ⟨a0,len,cap,rfl⟩:=okWide_slice Tryz.underlying48 hv
 obtain ⟨fuel,hf⟩:=h
 obtain ⟨A,l,ca,e,h1,h2,h3,h4⟩:=VS (k:=3) (f:=fun o:Km=>o.vs) (q:=fun p=>p.g<256/\p.e<256/\p.k<256) QaY (by omega) (fun _=>rfl) Tryz.underlying48 QeI (fun h=>Qkj h) hf
 have h5:=V6 (Nat.le_trans h1 h2)
 refine ⟨A,l,ca,by simpa [Value.cells] using e,fun i hi=>?_,h5⟩
 obtain ⟨b,off,e,hc⟩:=h3 i hi
 exact ⟨b,off,e,hc,h4 i hi⟩
end Go.Proofs.YtcldpmkhpmlcbaaGreatDoor
