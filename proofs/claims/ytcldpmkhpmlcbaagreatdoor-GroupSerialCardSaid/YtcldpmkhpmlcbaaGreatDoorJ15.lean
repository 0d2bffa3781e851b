/- part -/
import Derived.Test.YtcldpmkhpmlcbaaGreatDoorJ14
import Derived.Test.YtcldpmkhpmlcbaaGreatDoorJ7
import Derived.Test.YtcldpmkhpmlcbaaGreatDoorJ1
set_option linter.unusedVariables false
set_option linter.unusedSimpArgs false
namespace Go.Proofs.YtcldpmkhpmlcbaaGreatDoor
open Go.RowKit Go.Maps Go.Sort Go.Shelf
def Uw (left:Lit->Bool) (n:Nat) (p:ByteArray × List Q0):List Q0:=if left (lit p.1)=true then p.2 else Zp p.2 n
def XC (left:Lit->Bool) (n:Nat):KV->KV
 | []=>[]
 | p :: m=>if (Uw left n p).isEmpty then XC left n m else (p.1,Uw left n p) :: XC left n m
theorem Qb2 {left:Lit->Bool} {n:Nat} {m:KV} (h:Zg m) (k:ByteArray):getK (XC left n m) k=if left (lit k)=true then getK m k else Zp (getK m k) n:=by
 induction m with
 | nil=>rw [XC,getK];split <;> rfl
 | cons p m ih =>
  obtain ⟨h1,h2⟩:=List.pairwise_cons.1 h
  rw [XC]
  by_cases e:p.1=k
  ·have e2:getK (p :: m) k=p.2:=by rw [getK,if_pos e]
   rw [e2]
   have e3:(if left (lit k)=true then p.2 else Zp p.2 n)=Uw left n p:=by rw [Uw,e]
   rw [e3]
   split
   ·rename_i he
    have h0:getK m k=[]:=QbO (fun q hq=>e ▸ (Jh (h1 q hq)).symm)
    rw [ih h2,h0]
    have h9:Uw left n p=[]:=by simpa using he
    rw [h9]
    split <;> rfl
   ·rw [getK,if_pos e]
  ·have e2:getK (p :: m) k=getK m k:=by rw [getK,if_neg e]
   rw [e2]
   split
   ·exact ih h2
   ·rw [getK,if_neg e,ih h2]
theorem Qek {left:Lit->Bool} {n:Nat}:∀ {m:KV},(∀ p ∈ m,p.2 ≠ [])->(∀ p ∈ m,left (lit p.1)=true)->XC left n m=m
 | [],_,_=>rfl
 | p :: m,hne,h=>by
  have e:Uw left n p=p.2:=by rw [Uw,if_pos (h p (by simp))]
  rw [XC,e,if_neg (by simpa using hne p (by simp)),Qek (fun q hq=>hne q (by simp [hq])) (fun q hq=>h q (by simp [hq]))]
theorem Qhq {left:Lit->Bool} {n:Nat} (h:∀ kl,left kl=false):∀ m:KV,XC left n m=Xk m n
 | []=>rfl
 | p :: m=>by
  have e:Uw left n p=Zp p.2 n:=by rw [Uw,if_neg (by rw [h];decide)]
  rw [XC,Xk,e,Qhq h m]
theorem QfN {left:Lit->Bool} {n:Nat} {m:KV} (h:Zg m) (x k:ByteArray) (hx:left (lit x)=true) :
  getK (XC (fun z=>left z && !z.sameKey (lit x)) n m) k=if k=x then Zp (getK m x) n else getK (XC left n m) k:=by
 rw [Qb2 h,Qb2 h]
 by_cases e:k=x
 ·subst e
  rw [if_pos rfl]
  simp [WideAt.sameKey_self (QaO k)]
 ·rw [if_neg e]
  have:(lit k).sameKey (lit x)=false:=sameKey_ne fun e9=>e (Ka e9)
  simp [this]
def V3 (n:Nat) (v:Q0):Bool:=decide (n<v.num)
def Qds (l:List Q0) (n:Nat):Int:=if l.all (V3 n) then -1 else ((l.takeWhile (V3 n)).length:Nat)
theorem QmU {l:List Q0} {k:Nat} {v:Q0} (hk:k<l.length) (hv:l.getD k Yg=v):l=l.take k ++ v :: l.drop (k+1):=by
 have:v=l[k]:=by rw [<- hv,List.getD_eq_getElem?_getD,List.getElem?_eq_getElem hk];rfl
 rw [this];simp
theorem Qhr {l:List Q0} {k n:Nat} {v:Q0} (hk:k<l.length) (h:(l.take k).all (V3 n)=true) (hv:l.getD k Yg=v) (hn:v.num<=n):Qds l n=(k:Int):=by
 have e:=QmU hk hv
 have hb:V3 n v=false:=by rw [V3,decide_eq_false_iff_not];omega
 have h1:l.all (V3 n)=false:=by rw [e,List.all_append,List.all_cons,hb];simp
 have h2:l.takeWhile (V3 n)=l.take k:=by
  conv=>lhs;rw [e]
  rw [Ji (List.all_eq_true.1 h),List.takeWhile_cons,hb]
  simp
 rw [Qds,h1,h2,List.length_take]
 simp only [Bool.false_eq_true,if_false]
 omega
theorem QfO {l:List Q0} {n:Nat} (h:l.all (V3 n)=true):Qds l n = -1:=by rw [Qds,if_pos h]
theorem Qls {l:List Q0} {n:Nat} (h:l.all (V3 n)=true):Zp l n=l:=by
 induction l with
 | nil=>rfl
 | cons v l ih =>
  rw [List.all_cons,Bool.and_eq_true] at h
  rw [Zp,if_pos (of_decide_eq_true h.1),ih h.2]
theorem QmV {l:List Q0} {k n:Nat} {v:Q0} (hk:k<l.length) (h:(l.take k).all (V3 n)=true) (hv:l.getD k Yg=v) (hn:v.num<=n):Zp l n=if v.val.kind=0 then l.take k else l.take (k+1):=by
 induction l generalizing k with
 | nil=>simp at hk
 | cons u l ih =>
  cases k with
  | zero =>
   have e:u=v:=hv
   subst e
   rw [Zp,if_neg (by omega)]
   simp
  | succ k =>
   rw [List.take_succ_cons,List.all_cons,Bool.and_eq_true] at h
   have:=ih (k:=k) (by simpa using hk) h.2 hv
   rw [Zp,if_pos (of_decide_eq_true h.1),this]
   split <;> rfl
theorem Qn0 {l:List Q0} {n:Nat} (h:l.all (V3 n)=false):∃ k,k<l.length/\(l.take k).all (V3 n)=true/\(l.getD k Yg).num<=n:=by
 induction l with
 | nil=>simp at h
 | cons v l ih =>
  by_cases hv:V3 n v=true
  ·rw [List.all_cons,hv,Bool.true_and] at h
   obtain ⟨k,h1,h2,h3⟩:=ih h
   exact ⟨k+1,by simpa using h1,by rw [List.take_succ_cons,List.all_cons,hv,h2];rfl,h3⟩
  ·refine ⟨0,by simp,rfl,?_⟩
   show v.num<=n
   have:¬ n<v.num:=fun e=>hv (decide_eq_true e)
   omega
theorem QN.mono {w:World} {B p N mb:Nat} {D:DataW Value} {V:ByteArray->Value} {O O':Nat->Prop} {s:QR} (h:QN w B p N mb D V O s) (hs:∀ k,O k->O' k) (hl:∀ k,O' k->B<=k/\k<w.heap.size):QN w B p N mb D V O' s :=
 { blk:=h.blk,keys:=h.keys.mono hs,hp:=hs _ h.hp,n1:=h.n1,n2:=h.n2,lt:=hl }
theorem QN.turn {w w3:World} {B p N mb:Nat} {D D':DataW Value} {V:ByteArray->Value} {O:Nat->Prop} {s:QR} (h:QN w B p N mb D V O s) (hB:B<=w.heap.size) (ho:Qg (fun k=>k=mb) w w3) {x:ByteArray} {v:Value} {l:List Q0} {m':KV}
  (hr:KO w3 B v l) (hv:∀ g,v.ownBlock=some g->(V x).ownBlock=some g \/ w.heap.size<=g) (hnil:l=[]->v = .slice none 0 0) (hown:w3.ownsMap Tryz.prog 9 Xl mb N D')
  (hhas:∀ k,Maps.has D' (lit k)=if k=x then !l.isEmpty else Maps.has D (lit k)) (hat:∀ k z,k ≠ x->D'.atKey (lit k) z=D.atKey (lit k) z) (hatx:l ≠ []->∀ z,D'.atKey (lit x) z = .held v)
  (hm':∀ k,getK m' k=if k=x then l else getK s.ks k) :
  QN w3 B p N mb D' (fun k=>if k=x then v else V k) (ext O w w3) ⟨m',s.last,s.low⟩:=by
 have hsz:=ho.size
 have hmlt:=h.lt mb h.keys.hm
 have hvne:∀ g,v.ownBlock=some g->g ≠ mb/\g ≠ p:=fun g hg=>by
  rcases hv g hg with e | e
  ·exact ⟨(h.keys.mine x g e).2,h.n2 x g e⟩
  ·have:=(h.lt p h.hp).2;exact ⟨by omega,by omega⟩
 have hapv:∀ k g,k ≠ x->v.ownBlock=some g->(V k).ownBlock ≠ some g:=fun k g hk hg he=>by
  rcases hv g hg with e | e
  ·exact h.keys.apart x k g (Ne.symm hk) e he
  ·have:=(h.lt g (h.keys.mine k g he).1).2;omega
 refine { blk:=ho.obj h.blk h.n1,keys:={ own:=hown,has:=fun k=>?_,at_:=fun k z hk=>?_,row:=fun k=>?_,nil:=fun k hk=>?_,apart:=fun k k' g hkk hk hk'=>?_,mine:=fun k g hk=>?_,hm:=.inl h.keys.hm },hp:=.inl h.hp,n1:=h.n1,n2:=fun k g hk=>?_,lt:=fun k hk=>hk.elim (fun hk=>⟨(h.lt k hk).1,by have:=(h.lt k hk).2;omega⟩) (fun e=>⟨by omega,e.2⟩) }
 ·rw [hhas,hm']
  split
  ·rfl
  ·exact h.keys.has k
 ·rw [hm'] at hk
  by_cases e:k=x
  ·rw [if_pos e] at hk
   subst e
   simp only [if_true]
   exact hatx hk z
  ·rw [if_neg e] at hk
   simp only [e,if_false]
   rw [hat k z e]
   exact h.keys.at_ k z hk
 ·show KO w3 B _ (getK m' k)
  rw [hm']
  by_cases e:k=x
  ·simp only [e,if_true];exact hr
  ·simp only [e,if_false]
   exact ho.row (h.keys.row k) (fun g hg=>(h.keys.mine k g hg).2)
 ·rw [hm'] at hk
  by_cases e:k=x
  ·rw [if_pos e] at hk
   simp only [e,if_true];exact hnil hk
  ·rw [if_neg e] at hk
   simp only [e,if_false];exact h.keys.nil k hk
 ·by_cases e:k=x
  ·have e':k' ≠ x:=fun e9=>hkk (by rw [e,e9])
   simp only [e,if_true] at hk
   simp only [e',if_false] at hk'
   exact hapv k' g e' hk hk'
  ·simp only [e,if_false] at hk
   by_cases e':k'=x
   ·simp only [e',if_true] at hk'
    exact hapv k g e hk' hk
   ·simp only [e',if_false] at hk'
    exact h.keys.apart k k' g hkk hk hk'
 ·by_cases e:k=x
  ·simp only [e,if_true] at hk
   refine ⟨?_,(hvne g hk).1⟩
   rcases hv g hk with e9 | e9
   ·exact .inl (h.keys.mine x g e9).1
   ·exact .inr ⟨e9,(hr.lt g hk).2⟩
  ·simp only [e,if_false] at hk
   exact ⟨.inl (h.keys.mine k g hk).1,(h.keys.mine k g hk).2⟩
 ·by_cases e:k=x
  ·simp only [e,if_true] at hk;exact (hvne g hk).2
  ·simp only [e,if_false] at hk;exact h.n2 k g hk
theorem QN.turnPut {w w2 w3:World} {B p N mb n:Nat} {D:DataW Value} {V:ByteArray->Value} {O:Nat->Prop} {s:QR} {left:Lit->Bool} {m:KV} (h:QN w B p N mb D V O s) (hks:s.ks=XC left n m) (hris:Zg m) (hB:B<=w.heap.size) {x:ByteArray} {v:Value} {l:List Q0} (hx:left (lit x)=true) (hl:Zp (getK m x) n=l) (hne:l ≠ [])
  (hr:KO w2 B v l) (hv:∀ g,v.ownBlock=some g->(V x).ownBlock=some g \/ w.heap.size<=g) (hb:Below w.heap.size w w2) (ht:w2.mapTurned w3 mb) (hown:w3.ownsMap Tryz.prog 9 Xl mb N (D.put (lit x) (.held v))) :
  QN w3 B p N mb (D.put (lit x) (.held v)) (fun k=>if k=x then v else V k) (ext O w w3) ⟨XC (fun z=>left z && !z.sameKey (lit x)) n m,s.last,s.low⟩/\Qg (fun k=>k=mb) w w3:=by
 have ho:Qg (fun k=>k=mb) w w3:=(Qg.of_below hb).trans' (Qg.of_grown ht.grown (fun k e=>by injection e with e;exact e.symm))
 have him:IsMap D:=h.keys.own.isMap
 have hmb:=(h.lt mb h.keys.hm).2
 refine ⟨h.turn hB ho (hr.kept ht.grown ?_) hv (fun e=>absurd e hne) hown (fun k=>?_) (fun k z hk=>atKey_put_other (fun e=>hk (Ka e)) _ _) (fun _ z=>atKey_put_same him (QaO x) _ _) (fun k=>?_),ho⟩
 ·cases hvo:v.ownBlock with
  | none=>exact .inl rfl
  | some g =>
   refine .inr (fun e=>?_)
   injection e with e
   rcases hv g hvo with e9 | e9
   ·exact (h.keys.mine x g e9).2 e
   ·omega
 ·by_cases e:k=x
  ·subst e
   rw [if_pos rfl,has_put_same him (QaO k)]
   cases l with
   | nil=>exact absurd rfl hne
   | cons a l=>rfl
  ·rw [if_neg e,has_put_other (fun e9=>e (Ka e9))]
 ·rw [QfN hris x k hx,hl,hks]
theorem QN.turnDel {w w2 w3 w4:World} {B p N mb n:Nat} {D:DataW Value} {V:ByteArray->Value} {O:Nat->Prop} {s:QR} {left:Lit->Bool} {m:KV} (h:QN w B p N mb D V O s) (hks:s.ks=XC left n m) (hris:Zg m) (hB:B<=w.heap.size) {x:ByteArray} {v:Value} (hx:left (lit x)=true) (hl:Zp (getK m x) n=[])
  (hb:Below w.heap.size w w2) (ht:w2.mapTurned w3 mb) (ht2:w3.mapTurned w4 mb) (hown:w4.ownsMap Tryz.prog 9 Xl mb N ((D.put (lit x) (.held v)).del (lit x))) :
  QN w4 B p N mb ((D.put (lit x) (.held v)).del (lit x)) (fun k=>if k=x then .slice none 0 0 else V k) (ext O w w4) ⟨XC (fun z=>left z && !z.sameKey (lit x)) n m,s.last,s.low⟩/\Qg (fun k=>k=mb) w w4:=by
 have ho:Qg (fun k=>k=mb) w w4:=(Qg.of_below hb).trans' (Qg.of_grown (ht.trans ht2).grown (fun k e=>by injection e with e;exact e.symm))
 refine ⟨h.turn (l:=[]) hB ho (Q7 _ _ _ _) (fun g hg=>by cases hg) (fun _=>rfl) hown (fun k=>?_) (fun k z hk=>?_) (fun e=>absurd rfl e) (fun k=>?_),ho⟩
 ·by_cases e:k=x
  ·subst e
   rw [if_pos rfl,has_del_same]
   rfl
  ·rw [if_neg e,has_del_other (fun e9=>e (Ka e9)),has_put_other (fun e9=>e (Ka e9))]
 ·rw [atKey_del_other (fun e9=>hk (Ka e9)),atKey_put_other (fun e9=>hk (Ka e9))]
 ·rw [QfN hris x k hx,hl,hks]
theorem QjQ (l:List Q0) (k:Nat) {j:Nat} {u:Value} (h:(ZH (l.take k))[j]? = some u):(ZH l)[j]? = some u:=by
 conv=>lhs;rw [<- List.take_append_drop k l,QgN]
 rw [List.getElem?_append_left (List.getElem?_eq_some_iff.1 h).1]
 exact h
set_option maxHeartbeats 2000000 in
set_option maxRecDepth 100000 in
theorem Qlt (l:List Q0) (b ca:Nat) (w:World) (hA:∀ j u,(ZH l)[j]? = some u->w.cell? ⟨b,0+j,none⟩=some u) (hn:l.length<=900000) :
  Calls Tryz.prog 156 #[.slice (some ⟨b,0,none⟩) l.length ca] w fun e w'=>∃ v',e = .returned v'/\w'.ownsRow w.heap.size 195 4 v' l.length (ZH l)/\Below w.heap.size w w':=by
 have q22:∀ (w:World) (a:Option Addr) (n c n' c':Nat),(binOp .eql 242 (.slice a n c) (.slice none n' c')).run Tryz.prog w = .ok (.bool a.isNone) w:=fun w a n c n' c'=>Lib.run_eql_slice_nil w _ _ a n c n' c' Tryz.underlying242
 obtain ⟨i0,hi,hz0,hz1,hz2⟩:=info_parts Qde
 have HA:=Lib.hid hA
 clear hA
 go_enter Tryz.func156,Tryz.ntmps156
 go_wp2_with (at_builtin;refine wpList_append_own _ rfl _ _ 242 rfl w.heap.size 195 i0 _ 4 40 Tryz.underlying242 hi hz0 hz1 hz2 rfl (by decide) _ _ _ rfl (World.ownsRow_made w #[] 0 (Nat.le_refl _) (Nat.zero_le _) (by simp)) ⟨b,0,none⟩ l.length ca (ZH l) rfl ?qc1 ?qc2 ?qc3 ?qc4 ?qc5 ?qc6 ?_)
 case qc1=>exact VY l
 case qc2 =>
  intro j u hj
  rw [Go.WideShapes.add_plain]
  exact U7 _ (HA.out j u hj)
 case qc3=>exact QbP l
 case qc4=>rw [Nat.zero_add];exact QA (by omega)
 case qc5=>omega
 case qc6=>simp
 intro v' w1 hown hgrow _
 go_wp2
 go_ret
 exact ⟨v',rfl,by simpa using hown,((Below.refl _ w).alloc (Nat.le_refl _) _).grown hgrow (by simp) (by intro k hk;simp [Value.ownBlock] at hk;omega)⟩
theorem Qip (l:List Q0) (b m ca:Nat) (w:World) (hA:∀ j u,(ZH l)[j]? = some u->w.cell? ⟨b,0+j,none⟩=some u) (hn:l.length<=900000) (hm:l.length=m) :
  Calls Tryz.prog 156 #[.slice (some ⟨b,0,none⟩) m ca] w fun e w'=>∃ A c,e = .returned (.slice A m c)/\w'.ownsRow w.heap.size 195 4 (.slice A m c) l.length (ZH l)/\Below w.heap.size w w':=by
 subst hm
 refine (Qlt l b ca w hA hn).mono ?_
 rintro e w' ⟨v',rfl,hr,hb⟩
 obtain ⟨A,c,rfl,_,_⟩:=Qdf hr
 exact ⟨A,c,rfl,hr,hb⟩
set_option maxRecDepth 100000 in
theorem Qhs {w:World} (g:Nat) (n:Nat) (cg:w.cell? ⟨g,0,none⟩=some (.int .u64 (n:Int))) (v:Q0) :
  Calls Tryz.prog 155 #[.agg #[.int .u64 (v.num:Int),.int .i64 v.val.kind,.int .u64 (v.val.bits:Int),.string v.val.text],.pointer (some ⟨g,0,none⟩)] w fun e w'=>e = .returned (.bool (decide (v.num<=n)))/\Below w.heap.size w w':=by
 obtain ⟨W,eW,HB,hsz,hrow⟩:=QgR w (.int .u64 (v.num:Int)) (.int .i64 v.val.kind) (.int .u64 (v.val.bits:Int)) (.string v.val.text) 195
 obtain ⟨c0,c1,c2,c3,_⟩:=UK hrow
 have cg':=keep HB cg
 by_cases hv:v.num<=n
 ·have q:decide ((v.num:Int)<=(n:Int))=true:=by rw [decide_eq_true_iff];omega
  have HQ:=Lib.hid (decide_eq_true hv)
  clear hv hrow
  go_enter Tryz.func155,Tryz.ntmps155
  go_wp2
  go_ret
  exact ⟨by rw [HQ.out] <;> rfl,HB⟩
 ·have q:decide ((v.num:Int)<=(n:Int))=false:=by rw [decide_eq_false_iff_not];omega
  have HQ:=Lib.hid (decide_eq_false hv)
  clear hv hrow
  go_enter Tryz.func155,Tryz.ntmps155
  go_wp2
  go_ret
  exact ⟨by rw [HQ.out] <;> rfl,HB⟩
theorem Qel {P:Program} {f:FuncId} {args:Array Value} {w:World} {z x:Bool} (e:z=x) (h:Calls P f args w fun e w'=>e = .returned (.bool z)/\Below w.heap.size w w'):Calls P f args w fun e w'=>e = .returned (.bool x)/\Below w.heap.size w w':=by
 rw [e] at h;exact h
set_option maxRecDepth 100000 in
set_option maxHeartbeats 1000000 in
theorem QmW {w:World} (g n:Nat) (cg:w.cell? ⟨g,0,none⟩=some (.int .u64 (n:Int))) (l:List Q0) (A:Option Addr) (ca:Nat) (hA:VZ w A l) (hn:l.length<=900000) :
  Calls Tryz.prog 154 #[.slice A l.length ca,.func (.func 155) #[] #[.pointer (some ⟨g,0,none⟩)]] w fun e w'=>e = .returned (.int .i64 (Qds l n))/\Below w.heap.size w w':=by
 go_enter Tryz.func154,Tryz.ntmps154
 go_wp2_with fail
 go_loopw [8] (fun i wr=>∃ k:Nat,k<=l.length/\i = .int .i64 k/\Hid ((l.take k).all (V3 n)=true)/\Below w.heap.size w wr) (fun i _=>l.length-(intOf i).toNat)
 case atStart=>exact ⟨0,Nat.zero_le _,rfl,rfl,Below.refl _ _⟩
 case round =>
  obtain ⟨k,hk,rfl,HA,hw⟩:=hrel
  have hr:=hA.later hw
  have cgr:=keep hw cg
  by_cases hlt:k<l.length
  ·obtain ⟨b,off,m,z,bt,t,rfl,d0,d1,d2,d3,HX⟩:=hr.at' hlt
   have hki:(k:Int)<(l.length:Int):=by omega
   by_cases hv:m<=n
   ·have HI:Hid (Qds l n=(k:Int)):=Qhr hlt HA.out HX.out hv
    have HC:=Lib.hid (Qel (decide_eq_true hv) (Qhs g n cgr ⟨m,⟨z,bt,t⟩⟩))
    clear hv hr
    go_wp2_with (go_at_call 155;refine HC.out.mono ?_;rintro e w1 ⟨rfl,hb⟩;replace hw:=Qa hw hb)
    go_ret
    exact ⟨by rw [HI.out] <;> rfl,hw⟩
   ·have HF:Hid ((l.take (k+1)).all (V3 n)=true):=JS hlt HX.out (by rw [V3];exact decide_eq_true (by show n<m;omega)) HA.out
    have HC:=Lib.hid (Qel (decide_eq_false hv) (Qhs g n cgr ⟨m,⟨z,bt,t⟩⟩))
    clear hv hr
    go_wp2_with (go_at_call 155;refine HC.out.mono ?_;rintro e w1 ⟨rfl,hb⟩;replace hw:=Qa hw hb)
    go_roundw
    case rel=>exact ⟨k+1,by omega,by go_num,HF,hw⟩
    case measure=>simp [intOf];omega
  ·have HI:Hid (Qds l n = -1):=by
    show _=_
    have:=HA.out
    rw [show l.take k=l from List.take_of_length_le (by omega)] at this
    exact QfO this
   go_wp2
   go_ret
   exact ⟨by rw [HI.out] <;> rfl,hw⟩
def Qn1 (w:World) (B p N:Nat) (O:Nat->Prop) (s:QR) (n:Nat) (e:Ending) (w':World):Prop :=
 e = .returned (.tuple #[.int .i64 (Qjh s n),.int .i64 (Qji s n)])/\QW w' B p N (ext O w w') (Zv s n)/\Qg O w w'
theorem Qem {s:QR} (hs:Yw s) (n:Nat):(Qq (Xk s.ks n)).length<=(Qq s.ks).length:=by
 rw [<- QdL hs.rises hs.falls];exact List.length_filter_le _ _
theorem Qlu {w:World} {B g cap:Nat} {l:List Q0} (h:KO w B (.slice (some ⟨g,0,none⟩) l.length cap) l):∀ j u,(ZH l)[j]? = some u->w.cell? ⟨g,0+j,none⟩=some u:=fun j u hj=>by
 have:=World.ownsRow.cells (g:=g) h rfl j u hj
 rwa [Go.WideShapes.add_plain] at this
theorem QoD {n:Nat} (h:0<n):((n:Int) == 0)=false:=by rw [beq_eq_false_iff_ne];omega
theorem Qn2 {O:Nat->Prop} {w0 wc w2 w4:World} (hs:w2.heap.size=wc.heap.size) (h1:w0.heap.size<=wc.heap.size) (h2:w2.heap.size<=w4.heap.size):ext (ext O w0 wc) w2 w4=ext O w0 w4:=funext fun k=>propext (by
 unfold ext
 constructor
 ·rintro ((h | h) | h)
  ·exact .inl h
  ·exact .inr ⟨h.1,by omega⟩
  ·exact .inr ⟨by omega,h.2⟩
 ·rintro (h | h)
  ·exact .inl (.inl h)
  ·by_cases hk:k<wc.heap.size
   ·exact .inl (.inr ⟨h.1,hk⟩)
   ·exact .inr ⟨by omega,h.2⟩)
theorem QiT {l:List Q0} {k:Nat} (hk:k<l.length):l.take (k+1) ≠ []:=fun e=>by
 have:=congrArg List.length e
 rw [List.length_take] at this
 simp only [List.length_nil] at this
 omega
set_option maxRecDepth 100000 in
set_option maxHeartbeats 8000000 in
theorem Qlv {w:World} {B p N:Nat} {O:Nat->Prop} {s:QR} (h:QW w B p N O s) (hB:B<=w.heap.size) (hs:Yw s) (n:Nat) (hN:N<=800000) (hI:(Qq s.ks).length<=800000) :
  Calls Tryz.prog 100 #[.pointer (some ⟨p,0,none⟩),.int .u64 (n:Int)] w (Qn1 w B p N O s n):=by
 obtain ⟨W,eW,HB,cg⟩:=Qot w (.int .u64 (n:Int)) 39
 have hWs:W.heap.size=w.heap.size+1:=by rw [<- eW];simp
 have HS:=Lib.hid h
 have HSW:=Lib.hid (h.later HB)
 obtain ⟨mb,D,V,h⟩:=h
 have HLT:=Lib.hid h.lt
 have h0:=h.later HB
 have c1:=h0.c1
 have c2:=h0.c2
 by_cases hlo:n<s.low
 ·have q1:decide ((n:Int)<(s.low:Int))=true:=by rw [decide_eq_true_iff];omega
  have q1n:decide (n<s.low)=true:=decide_eq_true hlo
  have HE:Hid (Xy s n=false):=by show _=_;rw [Xy,decide_eq_false (by omega)];rfl
  clear hlo h h0 hWs
  go_enter Tryz.func100,Tryz.ntmps100
  go_wp2
  go_quiet (fail)
  go_wp2
  go_ret2
  refine ⟨by rw [Qjh,Qji,HE.out];rfl,?_,Qg.of_below (Qj HB _)⟩
  rw [Zv,HE.out]
  exact HS.out.stay (Qj HB _) (Nat.le_refl _) hB
 ·have q1:decide ((n:Int)<(s.low:Int))=false:=by rw [decide_eq_false_iff_not];omega
  have q1n:decide (n<s.low)=false:=decide_eq_false hlo
  by_cases hhi:s.last<n
  ·have q2:decide ((s.last:Int)<(n:Int))=true:=by rw [decide_eq_true_iff];omega
   have q2n:decide (s.last<n)=true:=decide_eq_true hhi
   have HE:Hid (Xy s n=false):=by show _=_;rw [Xy,decide_eq_false (p:=n<=s.last) (by omega),Bool.and_false]
   clear hlo hhi h h0 hWs
   go_enter Tryz.func100,Tryz.ntmps100
   go_wp2
   go_quiet (fail)
   go_wp2
   go_ret2
   refine ⟨by rw [Qjh,Qji,HE.out];rfl,?_,Qg.of_below (Qj HB _)⟩
   rw [Zv,HE.out]
   exact HS.out.stay (Qj HB _) (Nat.le_refl _) hB
  ·have q2:decide ((s.last:Int)<(n:Int))=false:=by rw [decide_eq_false_iff_not];omega
   have q2n:decide (s.last<n)=false:=decide_eq_false hhi
   have HE:Hid (Xy s n=true):=by show _=_;rw [Xy,decide_eq_true (p:=s.low<=n) (by omega),decide_eq_true (by omega)];rfl
   have hsok2:=QdM hs n
   rw [Zv,HE.out,if_pos rfl] at hsok2
   clear hlo hhi h
   have HH0:=Lib.hid h0
   have HWs:=Lib.hid hWs
   clear h0 hWs
   go_enter Tryz.func100,Tryz.ntmps100
   go_wp2
   go_quiet (fail)
   go_upto_region 5 with (go_at_call 153;refine (QcW (HSW.out.later (Qj (Below.refl _ _) _)) hs hI).mono ?_;rintro e w1 ⟨rfl,hb1⟩;have HW1:Below W.heap.size W w1:=(Qj (Below.refl _ _) _).trans hb1;replace cg:=keep HW1 cg;replace c2:=keep HW1 c2;have f2:=(HH0.out.later HW1).fz 2;have HH1:=Lib.hid (HH0.out.later HW1))
   have h2:=HH1.out.setLow n
   have hO2:=YA w1 p 2 (.int .u64 (n:Int))
   have cg2:=VN (j:=2) (u:=.int .u64 (n:Int)) cg (show ¬ (w.heap.size=p) from fun e=>by have:=(HLT.out p HH1.out.hp).2;omega)
   have HSZ:Hid (W.heap.size<=(w1.setCell ⟨p,2,none⟩ (.int .u64 (n:Int))).heap.size):=Nat.le_trans HW1.size hO2.size
   have hOut2:Qg O W (w1.setCell ⟨p,2,none⟩ (.int .u64 (n:Int))):=(Qg.of_below HW1).trans' (hO2.mono fun k e=>by rw [e];exact HH1.out.hp)
   have HOut2:=Lib.hid hOut2
   replace h2:=Lib.hid h2
   clear hOut2 hO2 c1 c2 f2 HH1 cg q1 q2 HW1 hb1
   revert HSZ HOut2 h2 cg2
   generalize w1.setCell ⟨p,2,none⟩ (.int .u64 (n:Int))=wS
   intro cg2 HSZ HOut2 h2
   have c0:=h2.out.c0
   have own:=h2.out.keys.own
   go_wp2_with (at_range;refine wpList_range_own _ rfl _ 167 rfl 9 _ Vz Tryz.underlying167 Xl mb N D rfl own ?_;intro w0 hrg0 hg0 hs0)
   go_frame
   have hb0:Below wS.heap.size wS w0:=Below.grown (Below.refl _ _) hg0 (Nat.le_refl _) (fun k e=>by cases e)
   have HH3:=Lib.hid (h2.out.later hb0)
   have HSTART:Hid (XC (Maps.has D) n s.ks=s.ks):=Qek hs.ne fun q hq=>by
    rw [h2.out.keys.has]
    have:=hs.ne q hq
    rw [Qa8 hs.rises (l:=q.2) hq]
    simpa using this
   replace cg2:=keep hb0 cg2
   have HM:=Lib.hid h2.out.keys.hm
   have HOw:Hid (Qg O w w0):=((Qg.of_below HB).trans' HOut2.out).trans' (Qg.of_below hb0)
   have HS0:=Lib.hid hs0
   clear c0 own hg0 hs0
   go_loopw [] (fun wr=>∃ (left:Lit->Bool) (cnt:Nat) (D':DataW Value) (V':ByteArray->Value),wr.ranges Tryz.prog 9 Xl mb wS.heap.size N D' left cnt/\Hid (QN wr B p N mb D' V' (ext O w0 wr) ⟨XC left n s.ks,s.last,n⟩)/\Hid (Qg (fun k=>O k \/ k=wS.heap.size) w0 wr)) (fun wr=>wr.rangeLeft mb wS.heap.size)
   case atStart =>
    refine ⟨_,_,D,V,hrg0,?_,Qg.refl _ _⟩
    have h9:=HH3.out.mono (O':=ext O w0 w0) (fun k hk=>.inl hk) (fun k hk=>hk.elim (HH3.out.lt k) (fun e=>by omega))
    have e:(⟨XC (Maps.has D) n s.ks,s.last,n⟩:QR)=⟨s.ks,s.last,n⟩:=by rw [HSTART.out]
    show QN _ _ _ _ _ _ _ _ _
    rw [e]
    exact h9
   case round =>
    obtain ⟨left,cnt,D',V',hrg,HI,HOr⟩:=hrel
    obtain ⟨wc,rfl⟩:∃ wc:World,wc=wr:=⟨_,rfl⟩
    clear HSTART HH3
    have hOlt:∀ k,O k->k<wS.heap.size:=fun k hk=>by have:=(HLT.out k hk).2;have:=HSZ.out;have:=HWs.out;omega
    have hgr:w.heap.size<wS.heap.size:=by have:=HSZ.out;have:=HWs.out;omega
    have hnOg:¬ (O w.heap.size \/ w.heap.size=wS.heap.size):=fun e=>e.elim (fun e=>absurd (HLT.out _ e).2 (Nat.lt_irrefl _)) (fun e=>by omega)
    have cgc:=HOr.out.cell cg2 hnOg
    replace hOlt:=Lib.hid hOlt
    replace hnOg:=Lib.hid hnOg
    go_wp2_with (at_next;refine wpList_next_ranges _ rfl _ rfl 9 Vz Xl Value.string id (fun key kl hk=>by obtain ⟨x,hx,_⟩:=Qae hk;exact ⟨x,hx⟩) (fun v _ _=>⟨v,rfl⟩) mb wS.heap.size N _ _ _ rfl hrg ?_ ?_)
    ·intro hc0 hl0
     have hsz0:=HOr.out.size
     have HST:Hid (QW wc B p N (ext O w wc) ⟨Xk s.ks n,s.last,n⟩):=by
      refine ⟨mb,D',V',?_⟩
      have h9:=HI.out
      rw [Qhq hl0] at h9
      exact h9.mono (fun k hk=>hk.elim .inl (fun e=>.inr ⟨by have:=HS0.out;omega,e.2⟩)) (fun k hk=>hk.elim (fun hk=>⟨(HLT.out k hk).1,by have:=(HLT.out k hk).2;have:=HS0.out;omega⟩) (fun e=>⟨by omega,e.2⟩))
     have HOF:Hid (Qg O w wc):=HOw.out.trans (HOr.out.mono fun k hk=>hk.elim .inl (fun e=>.inr ⟨by omega,by have:=HS0.out;omega⟩))
     have hle:=Qem hs n
     have HCnt:=Lib.hid (QcW HST.out hsok2 (by show (Qq (Xk s.ks n)).length<=_;omega))
     have hsub:IntKind.i64.wrap (((Qq s.ks).length:Int)-((Qq (Xk s.ks n)).length:Int))=((Qq s.ks).length:Int)-((Qq (Xk s.ks n)).length:Int):=IntWalk.i64_in _ (by omega)
     clear hle hc0 hl0 hrg
     go_wp2_with (go_at_call 153;refine HCnt.out.mono ?_;rintro e w5 ⟨rfl,hb5⟩)
     go_ret2
     refine ⟨by rw [Qjh,Qji,HE.out];rfl,?_,HOF.out.trans' (Qg.of_below hb5)⟩
     have h9:=HST.out.stay hb5 (Nat.le_refl _) (by have:=HOF.out.size;omega)
     rw [QdN HOF.out.size hb5.size] at h9
     rw [Zv,HE.out]
     exact h9
    ·intro x c kl yd yp w2 cnt2 hkey hlk hv hat hrg2 hlt hg2 hs2 hen
     obtain ⟨x',ex,rfl,hxs⟩:=Qae hkey
     injection ex with ex
     subst ex
     simp only [Xl,Option.some.injEq,Prod.mk.injEq] at hv
     obtain ⟨rfl,rfl⟩:=hv
     have hO2:Qg (fun k=>k=wS.heap.size) wc w2:=Qg.of_grown hg2 (fun k e=>by injection e with e;exact e.symm)
     have hI2:QN w2 B p N mb D' V' (ext O w0 wc) ⟨XC left n s.ks,s.last,n⟩:=HI.out.out hO2 (fun k hk e=>hk.elim (fun hk=>by have:=hOlt.out k hk;omega) (fun e2=>by have:=HS0.out;omega))
     have hhas:Maps.has D' (lit x)=true:=has_true_of_atKey hat
     have hgl:getK (XC left n s.ks) x=getK s.ks x:=by rw [Qb2 hs.rises,if_pos hlk]
     have hkx:getK s.ks x ≠ []:=fun e=>by
      have h9:=hI2.keys.has x
      simp only [hgl,e,hhas] at h9
      cases h9
     have hVc:V' x=c:=by
      have h1:=hat (.held c)
      rw [hI2.keys.at_ x _ (by show getK (XC left n s.ks) x ≠ [];rw [hgl];exact hkx)] at h1
      injection h1 with h1
     have hrow:KO w2 B c (getK s.ks x):=by
      have h9:=hI2.keys.row x
      rw [hVc] at h9
      have e:getK (⟨XC left n s.ks,s.last,n⟩:QR).ks x=getK s.ks x:=hgl
      rw [e] at h9
      exact h9
     obtain ⟨l,hl⟩:∃ l,Hid (getK s.ks x=l):=⟨_,rfl⟩
     have hll:l.length<=800000:=by rw [<- hl.out];exact Nat.le_trans (Qbc _ _) hI
     rw [hl.out] at hrow hkx
     obtain ⟨g,cap,hform⟩:∃ g cap,c = .slice (some ⟨g,0,none⟩) l.length cap:=by
      rcases hrow.2 with ⟨_,h0⟩ | ⟨g,cap,cur,rfl,_⟩
      ·exact absurd (List.eq_nil_of_length_eq_zero h0) hkx
      ·exact ⟨_,_,rfl⟩
     subst hform
     obtain ⟨hA,hcl⟩:VZ w2 (some ⟨g,0,none⟩) l/\l.length<=cap:=by
      obtain ⟨A,cap',e,h1,h2⟩:=Qdf hrow
      injection e with e1 e2 e3
      subst e1 e3
      exact ⟨h2,h1⟩
     have hcells:=Qlu hrow
     have cg3:=hO2.cell cgc (show ¬ (w.heap.size=wS.heap.size) by omega)
     have c0:=hI2.c0
     have hpm:=hI2.n1
     have hN9:N<maxLen:=by unfold maxLen;omega
     have hB2:B<=w2.heap.size:=by have:=HOr.out.size;have:=HOw.out.size;omega
     have hidx:=QmW w.heap.size n cg3 l (some ⟨g,0,none⟩) cap hA (by omega)
     have HFIN:Hid (∀ w4,ext (ext O w0 wc) w2 w4=ext O w0 w4 \/ ¬ (w2.heap.size<=w4.heap.size)):=fun w4=>by
      by_cases h9:w2.heap.size<=w4.heap.size
      ·exact .inl (Qn2 hs2 HOr.out.size h9)
      ·exact .inr h9
     have HOUT:Hid (∀ w4,Qg (fun k=>k=mb) w2 w4->Qg (fun k=>O k \/ k=wS.heap.size) w0 w4):=fun w4 h9=>(HOr.out.trans' (hO2.mono fun k e=>.inr e)).trans' (h9.mono fun k e=>.inl (by rw [e];exact HM.out))
     replace hcells:=Lib.hid hcells
     replace hrow:=Lib.hid hrow
     replace hVc:=Lib.hid hVc
     replace hat:=Lib.hid hat
     replace hhas:=Lib.hid hhas
     replace hgl:=Lib.hid hgl
     replace hlk:=Lib.hid hlk
     replace hI2:=Lib.hid hI2
     replace hs2:=Lib.hid hs2
     replace hkx:=Lib.hid hkx
     clear hg2 hO2 HI HOr hkey cgc
     by_cases hall:l.all (V3 n)=true
     ·rw [QfO hall] at hidx
      have HX:=Lib.hid hidx
      have HCV:Hid (Zp (getK s.ks x) n=l):=by show _=_;rw [hl.out];exact Qls hall
      have hnz:=QoD (List.length_pos_iff.2 hkx.out)
      clear hidx hall hA
      go_wp2_with (go_at_call 154;refine HX.out.mono ?_;rintro e w3 ⟨rfl,hb3⟩;obtain ⟨w4,hrun4,hrg4,ht4⟩:=Uv (hrg2.kept (Qej hb3 none) (by simp) (by simp)) Vz Tryz.underlying167 hN9 (JV hxs) (val:=.slice (some ⟨g,0,none⟩) l.length cap) (d:=.held (.slice (some ⟨g,0,none⟩) l.length cap)) (ps:=[]) rfl hhas.out;replace c0:=keep hb3 c0;replace cg3:=keep hb3 cg3)
      go_roundw
      case rel =>
       have h9:=QN.turnPut hI2.out rfl hs.rises hB2 hlk.out HCV.out hkx.out (Qi hrow.out hb3) (fun g hg=>.inl (by rw [hVc.out];exact hg)) hb3 ht4 hrg4.owns
       refine ⟨_,_,_,fun y=>if y=x then .slice (some ⟨g,0,none⟩) l.length cap else V' y,hrg4,?_,HOUT.out _ h9.2⟩
       have h8:=h9.1
       rw [(HFIN.out w4).resolve_right (fun e=>e h9.2.size)] at h8
       exact h8
      case measure=>rw [hrg4.left_eq,hrg.left_eq];exact hlt
     ·obtain ⟨k,hk,hhi,hlo⟩:=Qn0 (by simpa using hall)
      obtain ⟨g',off,m,z,bt,t,e9,d0,d1,d2,d3,HXk⟩:=hA.at' hk
      injection e9 with e9
      injection e9 with e9 e8
      subst e9 e8
      rw [HXk.out] at hlo
      simp only [Nat.zero_add] at d1
      rw [Qhr hk hhi HXk.out hlo] at hidx
      have HX:=Lib.hid hidx
      have hcol:=QmV hk hhi HXk.out hlo
      have hki:(k:Int)<(l.length:Int):=by omega
      have HCl:Hid (∀ wz mm (T:List Q0),Below w2.heap.size w2 wz->mm<=l.length->T=l.take mm->Calls Tryz.prog 156 #[.slice (some ⟨g,0,none⟩) mm cap] wz fun e w'=>∃ A c,e = .returned (.slice A mm c)/\w'.ownsRow wz.heap.size 195 4 (.slice A mm c) T.length (ZH T)/\Below wz.heap.size wz w'):=fun wz mm T hz hmm hT=>by
       subst hT
       exact Qip (l.take mm) g mm cap wz (fun j u hj=>keep hz (hcells.out j u (QjQ l mm hj))) (by rw [List.length_take];omega) (by rw [List.length_take];omega)
      clear hidx hall hA d0 d2 d3
      by_cases hz:z=0
      ·rw [if_pos hz] at hcol
       subst hz
       by_cases hk0:k=0
       ·subst hk0
        have HCV:Hid (Zp (getK s.ks x) n=[]):=by show _=_;rw [hl.out,hcol];rfl
        clear hcol hhi hlo
        go_wp2_with (first
         | (go_at_call 154;refine HX.out.mono ?_;rintro e w3 ⟨rfl,hb3⟩;replace c0:=keep hb3 c0;replace d1:=keep hb3 d1;replace cg3:=keep hb3 cg3)
         | (go_at_call 156;refine (HCl.out _ 0 _ hb3 (by omega) rfl).mono ?_;rintro e w4 ⟨A4,c4,rfl,hr4,hb4⟩;obtain ⟨w5,hrun5,hrg5,ht5⟩:=Uv (hrg2.kept (Qej (Qa hb3 hb4) none) (by simp) (by simp)) Vz Tryz.underlying167 hN9 (JV hxs) (val:=.slice A4 0 c4) (d:=.held (.slice A4 0 c4)) (ps:=[]) rfl hhas.out;replace c0:=keep hb4 c0;have c5:=ht5.grown.cell c0 (fun e=>hpm (by injection e)))
         | (at_delete;refine wpList_delete_ranges _ rfl _ _ 167 9 rfl 242 Vz Tryz.underlying167 Xl mb wS.heap.size N _ _ cnt2 rfl hrg5 (.string x) (lit x) rfl (JV hxs) ?_;intro w6 cnt6 hrg6 hle6 ht6))
        go_frame
        go_roundw
        case rel =>
         have h9:=QN.turnDel hI2.out rfl hs.rises hB2 hlk.out HCV.out (Qa hb3 hb4) ht5 ht6 hrg6.owns
         rw [Maps.strike_twice] at hrg6
         refine ⟨_,_,_,fun y=>if y=x then .slice none 0 0 else V' y,hrg6,?_,HOUT.out _ h9.2⟩
         have h8:=h9.1
         rw [(HFIN.out w6).resolve_right (fun e=>e h9.2.size)] at h8
         exact h8
        case measure=>rw [hrg6.left_eq,hrg.left_eq];omega
       ·obtain ⟨j,rfl⟩:∃ j,k=j+1:=⟨k-1,by omega⟩
        have HCV:Hid (Zp (getK s.ks x) n=l.take (j+1)):=by show _=_;rw [hl.out];exact hcol
        have HTN:=Lib.hid (QiT (l:=l) (k:=j) (by omega))
        clear hcol hhi hlo hk0
        go_wp2_with (first
         | (go_at_call 154;refine HX.out.mono ?_;rintro e w3 ⟨rfl,hb3⟩;replace c0:=keep hb3 c0;replace d1:=keep hb3 d1;replace cg3:=keep hb3 cg3)
         | (go_at_call 156;refine (HCl.out _ (j+1) _ hb3 (by omega) rfl).mono ?_;rintro e w4 ⟨A4,c4,rfl,hr4,hb4⟩;obtain ⟨w5,hrun5,hrg5,ht5⟩:=Uv (hrg2.kept (Qej (Qa hb3 hb4) none) (by simp) (by simp)) Vz Tryz.underlying167 hN9 (JV hxs) (val:=.slice A4 (j+1) c4) (d:=.held (.slice A4 (j+1) c4)) (ps:=[]) rfl hhas.out;replace c0:=keep hb4 c0))
        go_roundw
        case rel =>
         have h9:=QN.turnPut hI2.out rfl hs.rises hB2 hlk.out HCV.out HTN.out (Qho hr4 (Nat.le_trans hB2 hb3.size)) (fun g hg=>.inr (Nat.le_trans hb3.size (hr4.lt g hg).1)) (Qa hb3 hb4) ht5 hrg5.owns
         refine ⟨_,_,_,fun y=>if y=x then .slice A4 (j+1) c4 else V' y,hrg5,?_,HOUT.out _ h9.2⟩
         have h8:=h9.1
         rw [(HFIN.out w5).resolve_right (fun e=>e h9.2.size)] at h8
         exact h8
        case measure=>rw [hrg5.left_eq,hrg.left_eq];exact hlt
      ·rw [if_neg hz] at hcol
       have HCV:Hid (Zp (getK s.ks x) n=l.take (k+1)):=by show _=_;rw [hl.out];exact hcol
       have q9:(z != 0)=true:=by simpa using hz
       have HTN:=Lib.hid (QiT hk)
       clear hcol hz hhi hlo
       go_wp2_with (first
        | (go_at_call 154;refine HX.out.mono ?_;rintro e w3 ⟨rfl,hb3⟩;replace c0:=keep hb3 c0;replace d1:=keep hb3 d1;replace cg3:=keep hb3 cg3)
        | (go_at_call 156;refine (HCl.out _ (k+1) _ hb3 (by omega) rfl).mono ?_;rintro e w4 ⟨A4,c4,rfl,hr4,hb4⟩;obtain ⟨w5,hrun5,hrg5,ht5⟩:=Uv (hrg2.kept (Qej (Qa hb3 hb4) none) (by simp) (by simp)) Vz Tryz.underlying167 hN9 (JV hxs) (val:=.slice A4 (k+1) c4) (d:=.held (.slice A4 (k+1) c4)) (ps:=[]) rfl hhas.out;replace c0:=keep hb4 c0))
       go_roundw
       case rel =>
        have h9:=QN.turnPut hI2.out rfl hs.rises hB2 hlk.out HCV.out HTN.out (Qho hr4 (Nat.le_trans hB2 hb3.size)) (fun g hg=>.inr (Nat.le_trans hb3.size (hr4.lt g hg).1)) (Qa hb3 hb4) ht5 hrg5.owns
        refine ⟨_,_,_,fun y=>if y=x then .slice A4 (k+1) c4 else V' y,hrg5,?_,HOUT.out _ h9.2⟩
        have h8:=h9.1
        rw [(HFIN.out w5).resolve_right (fun e=>e h9.2.size)] at h8
        exact h8
       case measure=>rw [hrg5.left_eq,hrg.left_eq];exact hlt
structure Qbl where
 kind:Int
 br:Nat
 bn:Int
 slot:Int
 has:Bool
 vr:Nat
 vn:Int
 ck:Int
 ct:Tx
 cA:Option Addr
 cB:Option Addr
 cca:Nat
 ccb:Nat
 cis:Int
 ciq:Int
 cg:Int
 cst:Nat
 cy:Bool
 t:Tx
 A:Option Addr
 B:Option Addr
 ca:Nat
 cb:Nat
 ids:Int
 idq:Int
 g:Int
 st:Nat
 y:Bool
 num:Int
 key:ByteArray
 ver:Nat
 val:JQ
 err:Int
 D:Option Addr
 data:List UInt8
 cd:Nat
def Qbl.vs (m:Qbl):Array Value:=#[.int .i64 m.kind,.int .u32 (m.br:Int),.int .i64 m.bn,.int .i64 m.slot,.bool m.has,.int .u32 (m.vr:Int),.int .i64 m.vn,.int .i64 m.ck,.int .i64 m.ct.ses,.int .i64 m.ct.seq,.slice m.cA m.ct.rds.length m.cca,.slice m.cB m.ct.wrs.length m.ccb,.int .i64 m.cis,.int .i64 m.ciq,.int .i64 m.cg,.int .u64 (m.cst:Int),.bool m.cy,.int .i64 m.t.ses,.int .i64 m.t.seq,.slice m.A m.t.rds.length m.ca,.slice m.B m.t.wrs.length m.cb,.int .i64 m.ids,.int .i64 m.idq,.int .i64 m.g,.int .u64 (m.st:Int),.bool m.y,.int .i64 m.num,.string m.key,.int .u64 (m.ver:Int),.int .i64 m.val.kind,.int .u64 (m.val.bits:Int),.string m.val.text,.int .i64 m.err,.slice m.D m.data.length m.cd]
def Qbl.v (m:Qbl):Value:=.agg m.vs
structure Qgx (w:World) (m:Qbl):Prop where
 c:QY w m.ct m.cA m.cB
 t:QY w m.t m.A m.B
 d:QI w m.D m.data.length fun i=>.int .u8 ((m.data.getD i 0).toNat:Int)
 k:m.key.size<=9223372036854775807
 v:m.val.Good
 n:m.data.length<=9223372036854775807
theorem Qgx.later {w w':World} {m:Qbl} (h:Qgx w m) (hb:Below w.heap.size w w'):Qgx w' m :=
 ⟨h.c.later hb,h.t.later hb,QI.later h.d hb,h.k,h.v,h.n⟩
structure OpX where
 kind:Int
 key:ByteArray
 val:JQ
 K:Option Addr
 keys:List ByteArray
 ck:Nat
 m:Qbl
 num:Int
def OpX.vs (o:OpX):Array Value:=#[.int .i64 o.kind,.string o.key,.int .i64 o.val.kind,.int .u64 (o.val.bits:Int),.string o.val.text,.slice o.K o.keys.length o.ck,.int .i64 o.m.kind,.int .u32 (o.m.br:Int),.int .i64 o.m.bn,.int .i64 o.m.slot,.bool o.m.has,.int .u32 (o.m.vr:Int),.int .i64 o.m.vn,.int .i64 o.m.ck,.int .i64 o.m.ct.ses,.int .i64 o.m.ct.seq,.slice o.m.cA o.m.ct.rds.length o.m.cca,.slice o.m.cB o.m.ct.wrs.length o.m.ccb,.int .i64 o.m.cis,.int .i64 o.m.ciq,.int .i64 o.m.cg,.int .u64 (o.m.cst:Int),.bool o.m.cy,.int .i64 o.m.t.ses,.int .i64 o.m.t.seq,.slice o.m.A o.m.t.rds.length o.m.ca,.slice o.m.B o.m.t.wrs.length o.m.cb,.int .i64 o.m.ids,.int .i64 o.m.idq,.int .i64 o.m.g,.int .u64 (o.m.st:Int),.bool o.m.y,.int .i64 o.m.num,.string o.m.key,.int .u64 (o.m.ver:Int),.int .i64 o.m.val.kind,.int .u64 (o.m.val.bits:Int),.string o.m.val.text,.int .i64 o.m.err,.slice o.m.D o.m.data.length o.m.cd,.int .i64 o.num]
def OpX.v (o:OpX):Value:=.agg o.vs
structure QjR (w:World) (o:OpX):Prop where
 k:o.key.size<=9223372036854775807
 v:o.val.Good
 ks:ZM w o.K o.keys
 kz:∀ i,i<o.keys.length->(o.keys.getD i Qt).size<=9223372036854775807
 kn:o.keys.length<=9223372036854775807
 kc:o.keys.length<=o.ck
 m:Qgx w o.m
theorem QjR.later {w w':World} {o:OpX} (h:QjR w o) (hb:Below w.heap.size w w'):QjR w' o :=
 ⟨h.k,h.v,QI.later h.ks hb,h.kz,h.kn,h.kc,h.m.later hb⟩
def Qny:Qbl:=⟨0,0,0,0,false,0,0,0,⟨0,0,[],[]⟩,none,none,0,0,0,0,0,0,false,⟨0,0,[],[]⟩,none,none,0,0,0,0,0,0,false,0,Qt,0,⟨0,0,Qt⟩,0,none,[],0⟩
instance:Inhabited Qbl:=⟨Qny⟩
def QjS:OpX:=⟨0,Qt,⟨0,0,Qt⟩,none,[],0,Qny,0⟩
instance:Inhabited OpX:=⟨QjS⟩
def Kf (w:World) (a:Addr) (vs:Array Value):Prop:=∀ j v,vs[j]? = some v->w.cell? (a.add j)=some v
theorem Kf.later {w w':World} {a:Addr} {vs:Array Value} (h:Kf w a vs) (hb:Below w.heap.size w w'):Kf w' a vs:=fun j v hv=>keep hb (h j v hv)
def Qe9 (w:World) (S:Option Addr) (l:List OpX):Prop :=
 ∀ i,i<l.length->∃ b off,S=some ⟨b,off,none⟩/\Kf w ⟨b,off+i * 41,none⟩ (l.getD i QjS).vs/\QjR w (l.getD i QjS)
theorem Qe9.later {w w':World} {S:Option Addr} {l:List OpX} (h:Qe9 w S l) (hb:Below w.heap.size w w'):Qe9 w' S l:=fun i hi=>by
 obtain ⟨b,off,e,h0,h1⟩:=h i hi
 exact ⟨b,off,e,h0.later hb,h1.later hb⟩
end Go.Proofs.YtcldpmkhpmlcbaaGreatDoor
