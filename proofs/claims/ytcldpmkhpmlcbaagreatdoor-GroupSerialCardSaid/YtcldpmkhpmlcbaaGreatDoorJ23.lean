/- part -/
import Derived.Test.YtcldpmkhpmlcbaaGreatDoorJ1
import Derived.Test.YtcldpmkhpmlcbaaGreatDoorJ21
import Derived.Test.YtcldpmkhpmlcbaaGreatDoorJ5
import Derived.Test.YtcldpmkhpmlcbaaGreatDoorRows
import Derived.Deep.Slices
import Derived.Lib.LaidU8T
import Derived.PinnedBridge
import Derived.MakeChecks
import Derived.Test.YtcldpmkhpmlcbaaGreatDoorJ17
import Derived.Test.YtcldpmkhpmlcbaaGreatDoorJ19
import Derived.Test.YtcldpmkhpmlcbaaGreatDoorJ22
set_option linter.unusedVariables false
set_option linter.unusedSimpArgs false
namespace Go.Proofs.YtcldpmkhpmlcbaaGreatDoor
open Go.ChangeShapes Go.WideShapes Go.ChangeAt Go.RowKit Go.Joins Go.Deep
theorem QhI:Tryz.prog.cellsOf 34=2:=by kernel_rfl
theorem QfV:Tryz.prog.cellsOf 66=3:=by kernel_rfl
theorem QhJ:Tryz.prog.cellsOf 77=2:=by kernel_rfl
theorem QhK:Tryz.prog.cellsOf 79=4:=by kernel_rfl
theorem QfW:Tryz.prog.cellsOf 38=4:=by kernel_rfl
theorem QlJ:Tryz.prog.cellsOf 35=1:=by kernel_rfl
theorem QlK:Tryz.prog.cellsOf 36=1:=by kernel_rfl
theorem QfX:Tryz.prog.cellsOf 39=1:=by kernel_rfl
theorem Qew {α:Type} {l:List α} (h:l.length=2):∃ a b,l=[a,b]:=by
 match l,h with
 | [a,b],_=>exact ⟨a,b,rfl⟩
theorem Qex {α:Type} {l:List α} (h:l.length=3):∃ a b c,l=[a,b,c]:=by
 match l,h with
 | [a,b,c],_=>exact ⟨a,b,c,rfl⟩
theorem QnB {α:Type} {l:List α} (h:l.length=4):∃ a b c d,l=[a,b,c,d]:=by
 match l,h with
 | [a,b,c,d],_=>exact ⟨a,b,c,d,rfl⟩
section
variable {H:Type} {enc:TypeId × Value->H} {w:World} {base fuel:Nat} {sp:Nat->Bool} {held:Bool} {cs:List Value} {x:DataW H × List MemPlace}
theorem Qbo (h:DataW.trod enc Tryz.prog w base sp held fuel 3 cs=some x):∃ z:Int,cs=[.int .i64 z] /\ -9223372036854775808<=z/\z<=9223372036854775807:=by
 obtain ⟨z,rfl,_,wz⟩:=DataW.trod_int Tryz.underlying3 h
 obtain ⟨h0,h1⟩:=bounds_i64 wz
 exact ⟨z,rfl,h0,h1⟩
theorem Qey (h:DataW.trod enc Tryz.prog w base sp held fuel 39 cs=some x):∃ n:Nat,cs=[.int .u64 n]/\n<18446744073709551616:=by
 obtain ⟨z,rfl,_,wz⟩:=DataW.trod_int Tryz.underlying39 h
 obtain ⟨h0,h1⟩:=bounds_u64 wz
 obtain ⟨n,rfl⟩:=Int.eq_ofNat_of_zero_le h0
 exact ⟨n,rfl,by omega⟩
theorem Qbp (h:DataW.trod enc Tryz.prog w base sp held fuel 9 cs=some x):∃ s:ByteArray,cs=[.string s]/\s.size<=9223372036854775807:=by
 obtain ⟨s,rfl,_,hs⟩:=DataW.trod_string Tryz.underlying9 h
 exact ⟨s,rfl,V6 hs⟩
theorem Qnb (h:DataW.trod enc Tryz.prog w base sp held fuel 34 cs=some x):∃ s q:Int,cs=[.int .i64 s,.int .i64 q] /\ -9223372036854775808<=s/\s<=9223372036854775807 /\ -9223372036854775808<=q/\q<=9223372036854775807:=by
 obtain ⟨xs,n,_,_,hc,hl,hf⟩:=DataW.trod_struct Tryz.underlying34 h
 rw [QhI] at hc
 obtain ⟨a,b,rfl⟩:=Qew hc
 obtain ⟨u,v,rfl⟩:=Qew (l:=xs) hl
 have g0:=hf 0 _ rfl
 have g1:=hf 1 _ rfl
 simp [Qb5] at g0 g1
 obtain ⟨s,e0,h0,h1⟩:=Qbo g0
 obtain ⟨q,e1,h2,h3⟩:=Qbo g1
 simp at e0 e1
 subst e0 e1
 exact ⟨s,q,rfl,h0,h1,h2,h3⟩
theorem QlL (h:DataW.trod enc Tryz.prog w base sp held fuel 66 cs=some x):∃ v:JQ,cs=[.int .i64 v.kind,.int .u64 v.bits,.string v.text]/\v.Good:=by
 obtain ⟨xs,n,_,_,hc,hl,hf⟩:=DataW.trod_struct Tryz.underlying66 h
 rw [QfV] at hc
 obtain ⟨a,b,c,rfl⟩:=Qex hc
 obtain ⟨u,v,y,rfl⟩:=Qex (l:=xs) hl
 have g0:=hf 0 _ rfl
 have g1:=hf 1 _ rfl
 have g2:=hf 2 _ rfl
 simp [Qb5,QfX,Qaq] at g0 g1 g2
 obtain ⟨k,e0,h0,h1⟩:=Qbo g0
 obtain ⟨m,e1,h2⟩:=Qey g1
 obtain ⟨s,e2,h3⟩:=Qbp g2
 simp at e0 e1 e2
 subst e0 e1 e2
 exact ⟨⟨k,m,s⟩,rfl,h2,h3,h0,h1⟩
theorem Qnc (h:DataW.trod enc Tryz.prog w base sp held fuel 77 cs=some x):∃ r:Rd,cs=[.string r.key,.int .u64 r.ver]/\r.key.size<=9223372036854775807/\r.ver<18446744073709551616:=by
 obtain ⟨xs,n,_,_,hc,hl,hf⟩:=DataW.trod_struct Tryz.underlying77 h
 rw [QhJ] at hc
 obtain ⟨a,b,rfl⟩:=Qew hc
 obtain ⟨u,v,rfl⟩:=Qew (l:=xs) hl
 have g0:=hf 0 _ rfl
 have g1:=hf 1 _ rfl
 simp [QfX,Qaq] at g0 g1
 obtain ⟨s,e0,h0⟩:=Qbp g0
 obtain ⟨m,e1,h1⟩:=Qey g1
 simp at e0 e1
 subst e0 e1
 exact ⟨⟨s,m⟩,rfl,h0,h1⟩
theorem Qnd (h:DataW.trod enc Tryz.prog w base sp held fuel 79 cs=some x):∃ r:Wr,cs=[.string r.key,.int .i64 r.val.kind,.int .u64 r.val.bits,.string r.val.text]/\r.key.size<=9223372036854775807/\r.val.Good:=by
 obtain ⟨xs,n,_,_,hc,hl,hf⟩:=DataW.trod_struct Tryz.underlying79 h
 rw [QhK] at hc
 obtain ⟨a,b,c,d,rfl⟩:=QnB hc
 obtain ⟨u,v,rfl⟩:=Qew (l:=xs) hl
 have g0:=hf 0 _ rfl
 have g1:=hf 1 _ rfl
 simp [QfV,Qaq] at g0 g1
 obtain ⟨s,e0,h0⟩:=Qbp g0
 obtain ⟨m,e1,h1⟩:=QlL g1
 simp at e0 e1
 obtain ⟨e1,e2,e3⟩:=e1
 subst e0 e1 e2 e3
 exact ⟨⟨s,m⟩,rfl,h0,h1⟩
theorem VS {α:Type} [Inhabited α] {t e:TypeId} {k:Nat} {f:α->List Value} {q:α->Prop} (d:α) (hkp:0<k) (hd:∀ a,(f a).length=k) (ht:Tryz.prog.underlying t=some (.slice e)) (hk:Tryz.prog.cellsOf e=k)
  (he:∀ {fuel:Nat} {cs:List Value} {x:DataW H × List MemPlace},DataW.trod enc Tryz.prog w base sp held fuel e cs=some x->∃ a,cs=f a/\q a)
  (h:DataW.trod enc Tryz.prog w base sp held fuel t cs=some x) :
  ∃ (A:Option Addr) (l:List α) (cap:Nat),cs=[.slice A l.length cap]/\l.length<=cap/\cap<=maxLen /\
   (∀ i,i<l.length->∃ b off,A=some ⟨b,off,none⟩/\∀ j v,(f (l.getD i d))[j]? = some v->w.cell? ⟨b,off+i * k+j,none⟩=some v)/\∀ i,i<l.length->q (l.getD i d):=by
 rcases open_slice ht h with ⟨rfl,_⟩ | ⟨a,len,cap,m,n,D,Pl,rfl,hb,hl,hm,hmm,rfl,hx⟩
 ·exact ⟨none,[],0,rfl,Nat.le_refl _,Nat.zero_le _,fun i hi=>absurd hi (Nat.not_lt_zero _),fun i hi=>absurd hi (Nat.not_lt_zero _)⟩
 ·have hlm:len<=m:=by rw [hmm];split <;> omega
  have each:∀ i,i<len->∃ y:α,w.cells? base (a.add (i * k)) k=some (f y)/\q y:=by
   intro i hi
   obtain ⟨cs',h1,h2⟩:=hx i (by omega)
   rw [hk] at h1
   obtain ⟨y,rfl,hy⟩:=he h2
   exact ⟨y,h1,hy⟩
  obtain ⟨g,hg⟩:=choose_lt each
  have hlen:((List.range len).map g).length=len:=by simp
  have hget:∀ i,i<len->((List.range len).map g).getD i d=g i:=fun i hi=>by simp [List.getD_eq_getElem?_getD,hi]
  refine ⟨some a,(List.range len).map g,cap,by rw [hlen],by rw [hlen];exact hl,hm,fun i hi=>?_,fun i hi=>?_⟩
  ·rw [hlen] at hi
   obtain ⟨_,_,hc⟩:=World.cells?_some (hg i hi).1
   rw [hget i hi]
   obtain ⟨_,_,hcz⟩:=World.cells?_some (hg 0 (by omega)).1
   have hc0:=hcz 0 hkp
   obtain ⟨b,off,spot⟩:=a
   have hl0:0<(f (g 0)).length:=by rw [hd];exact hkp
   rw [List.getElem?_eq_getElem hl0] at hc0
   have hspot:spot=none:=by simpa [Addr.add] using World.cell?_spot hc0
   subst hspot
   refine ⟨b,off,rfl,fun j v hj=>?_⟩
   have hjk:j<k:=by
    have:=(List.getElem?_eq_some_iff.1 hj).1
    rw [hd] at this
    exact this
   have:=hc j hjk
   rw [hj,Go.WideShapes.add_plain,Go.WideShapes.add_plain] at this
   exact this
  ·rw [hlen] at hi
   rw [hget i hi]
   exact (hg i hi).2
theorem QlM (h:DataW.trod enc Tryz.prog w base sp held fuel 35 cs=some x) :
  ∃ (A:Option Addr) (l:List Rd) (cap:Nat),cs=[.slice A l.length cap]/\l.length<=cap/\cap<=maxLen/\Xj w A l/\∀ i,i<l.length->(l.getD i XB).key.size<=9223372036854775807/\(l.getD i XB).ver<18446744073709551616:=by
 obtain ⟨A,l,cap,rfl,h1,h2,h3,h4⟩:=VS (k:=2) (f:=fun r:Rd=>[.string r.key,.int .u64 r.ver]) XB (by omega) (fun _=>rfl) Tryz.underlying35 QhJ Qnc h
 refine ⟨A,l,cap,rfl,h1,h2,fun i hi=>?_,h4⟩
 obtain ⟨b,off,e,hc⟩:=h3 i hi
 exact ⟨b,off,e,hc 0 _ rfl,hc 1 _ rfl⟩
theorem QlN (h:DataW.trod enc Tryz.prog w base sp held fuel 36 cs=some x) :
  ∃ (A:Option Addr) (l:List Wr) (cap:Nat),cs=[.slice A l.length cap]/\l.length<=cap/\cap<=maxLen/\Yf w A l/\∀ i,i<l.length->(l.getD i Zf).key.size<=9223372036854775807/\(l.getD i Zf).val.Good:=by
 obtain ⟨A,l,cap,rfl,h1,h2,h3,h4⟩:=VS (k:=4) (f:=fun r:Wr=>[.string r.key,.int .i64 r.val.kind,.int .u64 r.val.bits,.string r.val.text]) Zf (by omega) (fun _=>rfl) Tryz.underlying36 QhK Qnd h
 refine ⟨A,l,cap,rfl,h1,h2,fun i hi=>?_,h4⟩
 obtain ⟨b,off,e,hc⟩:=h3 i hi
 exact ⟨b,off,e,hc 0 _ rfl,hc 1 _ rfl,hc 2 _ rfl,hc 3 _ rfl⟩
theorem QlO (h:DataW.trod enc Tryz.prog w base sp held fuel 38 cs=some x) :
  ∃ (t:Tx) (A B:Option Addr) (ca cb:Nat),cs=[.int .i64 t.ses,.int .i64 t.seq,.slice A t.rds.length ca,.slice B t.wrs.length cb]/\QY w t A B/\t.rds.length<=ca/\t.wrs.length<=cb/\∀ i,i<t.rds.length->(t.rds.getD i XB).ver<18446744073709551616:=by
 obtain ⟨xs,n,_,_,hc,hl,hf⟩:=DataW.trod_struct Tryz.underlying38 h
 rw [QfW] at hc
 obtain ⟨a,b,c,d,rfl⟩:=QnB hc
 obtain ⟨u,v,y,rfl⟩:=Qex (l:=xs) hl
 have g0:=hf 0 _ rfl
 have g1:=hf 1 _ rfl
 have g2:=hf 2 _ rfl
 simp [QhI,QlJ,QlK] at g0 g1 g2
 obtain ⟨s,q,e0,_⟩:=Qnb g0
 obtain ⟨A,l,ca,e1,h0,h1,hA,h2⟩:=QlM g1
 obtain ⟨B,m,cb,e2,h3,h4,hB,h5⟩:=QlN g2
 simp at e0 e1 e2
 obtain ⟨e0,e3⟩:=e0
 subst e0 e1 e2 e3
 have q1:l.length<=9223372036854775807:=V6 (by omega)
 have q2:m.length<=9223372036854775807:=V6 (by omega)
 exact ⟨⟨s,q,l,m⟩,A,B,ca,cb,rfl,⟨hA,hB,fun k hk=>(h2 k hk).1,fun k hk=>(h5 k hk).1,fun k hk=>(h5 k hk).2,q1,q2⟩,h0,h3,fun k hk=>(h2 k hk).2⟩
end
theorem Qoc {laid:List (String × DataW Unit)} {w:World} (hp:(laid.all fun x=>x.2.handleName?.isNone)=true) (h:laidMetH Tryz.prog laid w)
  (h1:("unicode/utf8.first",Rows.laid_unicode_utf8_first) ∈ laid) (h2:("unicode/utf8.acceptRanges",Rows.laid_unicode_utf8_acceptRanges) ∈ laid):XT w:=by
 rw [MakeChecks.laidMetH_plain _ _ _ hp] at h
 have r1:=Lib.laidMet.reads h h1
 have r2:=Lib.laidMet.reads h h2
 rw [show Rows.laid_unicode_utf8_first=Lib.firstData from Pinned.utf8First_eq] at r1
 exact utf8Tabs_of_readsT (U8Types.of196 Tryz.lays196) ⟨by kernel_rfl,by kernel_rfl,by kernel_rfl,by kernel_rfl,by kernel_rfl,by kernel_rfl,by kernel_rfl⟩ r1 r2
section
variable {H:Type} {enc:TypeId × Value->H} {w:World} {base fuel:Nat} {sp:Nat->Bool} {held:Bool} {cs:List Value} {x:DataW H × List MemPlace}
end
def Qb8 (w:World) (S:Option Addr) (l:List Q2):Prop :=
 ∀ i,i<l.length->∃ b off,S=some ⟨b,off,none⟩/\Kf w ⟨b,off+i * 10,none⟩ (l.getD i Kh).vs/\QY w (l.getD i Kh).t (l.getD i Kh).A (l.getD i Kh).B
theorem Qb8.later {w w':World} {S:Option Addr} {l:List Q2} (h:Qb8 w S l) (hb:Below w.heap.size w w'):Qb8 w' S l:=fun i hi=>by
 obtain ⟨b,off,e,h0,h1⟩:=h i hi
 exact ⟨b,off,e,h0.later hb,h1.later hb⟩
theorem Qb8.at' {w:World} {S:Option Addr} {l:List Q2} (h:Qb8 w S l) {k:Nat} (hk:k<l.length):∃ b off a,S=some ⟨b,off,none⟩/\Kf w ⟨b,off+k * 10,none⟩ a.vs/\QY w a.t a.A a.B/\Hid (l.getD k Kh=a):=by
 obtain ⟨b,off,e,h0,h1⟩:=h k hk
 exact ⟨b,off,_,e,h0,h1,rfl⟩
instance:Inhabited Q2:=⟨Kh⟩
open Go.Shelf
theorem Qi3 {w:World} {b o:Nat} {a:Q2} (h:Kf w ⟨b,o,none⟩ a.vs):w.cell? ⟨b,o,none⟩=some (.int .i64 a.k)/\w.cell? ⟨b,o+1,none⟩=some (.int .i64 a.t.ses)/\w.cell? ⟨b,o+2,none⟩=some (.int .i64 a.t.seq)/\w.cell? ⟨b,o+3,none⟩=some (.slice a.A a.t.rds.length a.ca)/\w.cell? ⟨b,o+4,none⟩=some (.slice a.B a.t.wrs.length a.cb) /\
  w.cell? ⟨b,o+5,none⟩=some (.int .i64 a.is)/\w.cell? ⟨b,o+6,none⟩=some (.int .i64 a.iq)/\w.cell? ⟨b,o+7,none⟩=some (.int .i64 a.g)/\w.cell? ⟨b,o+8,none⟩=some (.int .u64 (a.st:Int))/\w.cell? ⟨b,o+9,none⟩=some (.bool a.y):=by
 have:=fun j v hv=>(by have:=h j v hv;rwa [Go.WideShapes.add_plain] at this:w.cell? ⟨b,o+j,none⟩=some v)
 exact ⟨this 0 _ rfl,this 1 _ rfl,this 2 _ rfl,this 3 _ rfl,this 4 _ rfl,this 5 _ rfl,this 6 _ rfl,this 7 _ rfl,this 8 _ rfl,this 9 _ rfl⟩
open Go.Maps
instance:Inhabited Qv:=⟨⟨0,0,⟨0,0⟩,0,false⟩⟩
def UA:Qv:=default
theorem QnC:∀ (l:List Qv) (k j:Nat),k<l.length->j<6->(ZV l)[k * 6+j]? = (X7 (l.getD k UA))[j]?
 | [],k,j,h,_=>by simp at h
 | x :: l,0,j,_,hj=>by
  rw [ZV,List.flatMap_cons,Nat.zero_mul,Nat.zero_add,List.getElem?_append_left (by simp [X7];omega)]
  rfl
 | x :: l,k+1,j,h,hj=>by
  have:=QnC l k j (by simpa using h) hj
  rw [ZV,List.flatMap_cons,List.getElem?_append_right (by simp [X7];omega),show (X7 x).length=6 from rfl,show (k+1) * 6+j-6=k * 6+j by omega]
  exact this
theorem Qb9:∀ l:List Qv,(ZV l).length=l.length * 6
 | []=>rfl
 | x :: l=>by have:=Qb9 l;rw [ZV,List.flatMap_cons,List.length_append,show (l.flatMap X7)=ZV l from rfl,this,List.length_cons];simp [X7];omega
def QaW (w:World) (b o:Nat) (a:Qv):Prop:=w.cell? ⟨b,o,none⟩=some (.int .i64 a.kind)/\w.cell? ⟨b,o+1,none⟩=some (.int .i64 a.dst)/\w.cell? ⟨b,o+2,none⟩=some (.int .i64 a.id.ses)/\w.cell? ⟨b,o+3,none⟩=some (.int .i64 a.id.seq)/\w.cell? ⟨b,o+4,none⟩=some (.int .u64 (a.stamp:Int))/\w.cell? ⟨b,o+5,none⟩=some (.bool a.yes)
def QaX (w:World) (A:Option Addr) (l:List Qv):Prop:=∀ k,k<l.length->∃ b off,A=some ⟨b,off,none⟩/\QaW w b (off+k * 6) (l.getD k UA)
theorem QaW.later {w w':World} {b o:Nat} {a:Qv} (h:QaW w b o a) (hb:Below w.heap.size w w'):QaW w' b o a:=⟨keep hb h.1,keep hb h.2.1,keep hb h.2.2.1,keep hb h.2.2.2.1,keep hb h.2.2.2.2.1,keep hb h.2.2.2.2.2⟩
theorem QaX.later {w w':World} {A:Option Addr} {l:List Qv} (h:QaX w A l) (hb:Below w.heap.size w w'):QaX w' A l:=fun k hk=>by
 obtain ⟨b,off,e,hl⟩:=h k hk
 exact ⟨b,off,e,hl.later hb⟩
theorem QaX.at' {w:World} {A:Option Addr} {l:List Qv} (h:QaX w A l) {k:Nat} (hk:k<l.length):∃ b off a,A=some ⟨b,off,none⟩/\QaW w b (off+k * 6) a/\Hid (l.getD k UA=a):=by
 obtain ⟨b,off,e,hl⟩:=h k hk
 exact ⟨b,off,_,e,hl,rfl⟩
theorem Qc0 {w:World} {base:Nat} {v:Value} {l:List Qv} (h:w.ownsRow base 43 6 v l.length (ZV l)):∃ A cap,v = .slice A l.length cap/\QaX w A l:=by
 rcases h.2 with ⟨rfl,h0⟩ | ⟨g,cap,cur,rfl,hfr,hh,hn,_,_,ht⟩
 ·have hl:l=[]:=by
   have:=Qb9 l
   rw [h0] at this
   exact List.eq_nil_of_length_eq_zero (by simp at this;omega)
  subst hl
  exact ⟨none,0,rfl,fun k hk=>absurd hk (Nat.not_lt_zero _)⟩
 ·refine ⟨some ⟨g,0,none⟩,cap,rfl,fun k hk=>⟨g,0,rfl,?_⟩⟩
  have hc:∀ j u,j<6->(X7 (l.getD k UA))[j]? = some u->w.cell? ⟨g,0+k * 6+j,none⟩=some u:=fun j u hj hu=>by
   have hlt:k * 6+j<l.length * 6:=by omega
   have h1:(cur.toList.take (l.length * 6))[k * 6+j]? = (ZV l)[k * 6+j]?:=by rw [ht]
   rw [List.getElem?_take_of_lt hlt,QnC l k j hk hj,hu] at h1
   simp only [World.cell?,hh,Nat.zero_add,Option.isSome_none,Bool.false_eq_true,if_false]
   rw [<- Array.getElem?_toList,h1]
  exact ⟨hc 0 _ (by decide) rfl,hc 1 _ (by decide) rfl,hc 2 _ (by decide) rfl,hc 3 _ (by decide) rfl,hc 4 _ (by decide) rfl,hc 5 _ (by decide) rfl⟩
structure Vm (w0 wr:World) (B p:Nat) (c:Ql) (g:Int) (n:Nat) (lab:Nat->QL) (x:Qk) (dv:Value) (ds:List Qv):Prop where
 m:∃ E ov os,ZW wr B p c g n lab x E ov os
 d:wr.ownsRow B 43 6 dv ds.length (ZV ds)
 dl:∀ b,dv.ownBlock=some b->lab b = .no
 ok:∀ o ∈ ds,o.kind=4/\o.dst = -1/\Qe x.dc o.id=some (o.yes,o.stamp)
 b:Below w0.heap.size w0 wr
 hB:w0.heap.size<=B
section
variable {w0 wr wz:World} {B p n:Nat} {c:Ql} {g:Int} {lab:Nat->QL} {x:Qk} {dv:Value} {ds:List Qv}
theorem Vm.later (h:Vm w0 wr B p c g n lab x dv ds) (hb:Below wr.heap.size wr wz):Vm w0 wz B p c g n lab x dv ds:=by
 obtain ⟨E,ov,os,hm⟩:=h.m
 exact ⟨⟨E,ov,os,hm.later hb⟩,Qi h.d hb,h.dl,h.ok,Qa h.b hb,h.hB⟩
theorem Vm.apply (h:Vm w0 wr B p c g n lab x dv ds) {a:Q2} {v:Value} (ha:V7 wr wz B p c g n lab x a v) :
  ∃ lab':Nat->QL,Vm w0 wz B p c g (n+2) lab' (Q5 c g x a) dv ds/\Q8 wz B lab' v (Zs c g x a)/\(∀ o ∈ Zs c g x a,o.kind=4->o.dst = -1/\Qe (Q5 c g x a).dc o.id=some (o.yes,o.stamp))/\(Zs c g x a).length<=5 * n+20:=by
 obtain ⟨E,ov,os,hm⟩:=h.m
 obtain ⟨lab',E',ov',os',hO,hG,hS⟩:=ha
 have hs:=QjZ hm.k a
 refine ⟨lab',⟨⟨E',ov',os',hG⟩,hS.out.row h.d (fun b hb e=>e (h.dl b hb)),fun b hb=>?_,fun o ho=>?_,?_,h.hB⟩,hO,hs.2,Qbm hm.k a⟩
 ·rw [hS.ext b (QaM h.d hb).2];exact h.dl b hb
 ·obtain ⟨h1,h2,h3⟩:=h.ok o ho
  exact ⟨h1,h2,hs.1 _ _ h3⟩
 ·exact h.b.trans (hS.out.below h.b.size (fun k hk=>Nat.le_trans h.hB (hm.lb k hk)))
theorem Vm.push (h:Vm w0 wr B p c g n lab x dv ds) {v:Value} {os:List Qv} (hr:Q8 wr B lab v os) {o:Obj} {dv':Value} {a:Qv} (hg:(wr.alloc o).grownBy wz dv.ownBlock) (hd:wz.ownsRow B 43 6 dv' (ds.length+1) (ZV ds ++ X7 a)) (hv:dv'.ownBlock=dv.ownBlock \/ dv'.ownBlock=some (wr.alloc o).heap.size)
  (ha:a.kind=4/\a.dst = -1/\Qe x.dc a.id=some (a.yes,a.stamp)):Vm w0 wz B p c g n lab x dv' (ds ++ [a])/\Q8 wz B lab v os:=by
 obtain ⟨E,ov,os0,hm⟩:=h.m
 have h1:=h.later (Qc wr o)
 obtain ⟨_,_,_,hm1⟩:=h1.m
 have ho:Qg (fun k=>dv.ownBlock=some k) (wr.alloc o) wz:=Qg.of_grown hg (fun k e=>e)
 refine ⟨⟨⟨E,ov,os0,?_⟩,?_,fun b hb=>?_,fun o ho=>?_,?_,h.hB⟩,?_⟩
 ·exact (hm.later (Qc wr o)).out ho (fun k hk e=>hk (h.dl k e)) (fun k e=>(QaM h.d e).1)
 ·rw [List.length_append,KE];exact hd
 ·rcases hv with e | e
  ·rw [e] at hb;exact h.dl b hb
  ·rw [e] at hb
   injection hb with hb
   cases hl:lab b
   case no=>rfl
   all_goals exact absurd (hm.lt b (by rw [hl];intro z;cases z)) (by rw [<- hb];simp)
 ·rcases List.mem_append.1 ho with ho | ho
  ·exact h.ok o ho
  ·rw [List.mem_singleton.1 ho];exact ha
 ·exact h1.b.grown hg h1.b.size (fun k e=>Nat.le_trans h.hB (QaM h.d e).1)
 ·exact ⟨ho.row (Qi hr.1 (Qc wr o)) (fun b e z=>by have h2:=hr.2 b e;rw [h.dl b z] at h2;cases h2),hr.2⟩
end
end Go.Proofs.YtcldpmkhpmlcbaaGreatDoor
