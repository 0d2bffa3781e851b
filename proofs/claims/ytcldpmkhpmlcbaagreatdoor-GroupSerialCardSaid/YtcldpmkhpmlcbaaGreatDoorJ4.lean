/- part -/
import Derived.Test.YtcldpmkhpmlcbaaGreatDoorJ3
import Derived.Test.YtcldpmkhpmlcbaaGreatDoorJ2
import Derived.Maps.RangeWalk
import Derived.Maps.OwnSet
import Derived.Maps.Ext
import Derived.Test.YtcldpmkhpmlcbaaGreatDoorJ1
set_option linter.unusedVariables false
set_option linter.unusedSimpArgs false
namespace Go.Proofs.YtcldpmkhpmlcbaaGreatDoor
open Go.RowKit Go.Maps
def Xl (v:Value):Option (DataW Value × List MemPlace):=some (.held v,[])
theorem Qfr {v u:Value} {ps:List MemPlace} (h:Xl v=some (.held u,ps)):v=u:=by
 simp only [Xl,Option.some.injEq,Prod.mk.injEq,DataW.held.injEq] at h
 exact h.1
def lit (k:ByteArray):Lit:=.string k.data.toList
theorem Ka {a b:ByteArray} (h:lit a=lit b):a=b:=by
 simp only [lit,Lit.string.injEq] at h
 cases a;cases b
 simp at h
 simp [h]
theorem QaO (k:ByteArray):WideAt.IsKeyLit (lit k):=trivial
theorem Vz:Keyed Tryz.prog 9:=string_keyed Tryz.underlying9
theorem JV {k:ByteArray} (h:k.size<=maxLen):keyOf Tryz.prog 9 (.string k)=some (lit k):=WideMaps.keyOf_string_mk Tryz.underlying9 h
theorem Qae {key:Value} {kl:Lit} (h:keyOf Tryz.prog 9 key=some kl):∃ s:ByteArray,key = .string s/\kl=lit s/\s.size<=maxLen:=by
 cases key <;> simp [keyOf,Tryz.underlying9,mapKey] at h
 obtain ⟨hs,rfl⟩:=h
 exact ⟨_,rfl,rfl,hs⟩
theorem QkN {D:DataW Value} {kl:Lit} (h:Maps.has D kl=false) (z:DataW Value):D.atKey kl z=z:=by
 cases D <;> try rfl
 rename_i es
 simp only [Maps.has] at h
 have:es.find? (fun p=>p.1.sameKey kl)=none:=by
  rw [List.find?_eq_none]
  intro p hp hs
  rw [List.any_eq_false] at h
  exact h p hp hs
 simp [DataW.atKey,this]
structure Yz (w:World) (B N mb:Nat) (D:DataW Value) (V:ByteArray->Value) (O:Nat->Prop) (m:KV):Prop where
 own:w.ownsMap Tryz.prog 9 Xl mb N D
 has:∀ k,Maps.has D (lit k) = !(getK m k).isEmpty
 at_:∀ k z,getK m k ≠ []->D.atKey (lit k) z = .held (V k)
 row:∀ k,KO w B (V k) (getK m k)
 nil:∀ k,getK m k=[]->V k = .slice none 0 0
 apart:∀ k k' g,k ≠ k'->(V k).ownBlock=some g->(V k').ownBlock ≠ some g
 mine:∀ k g,(V k).ownBlock=some g->O g/\g ≠ mb
 hm:O mb
theorem Yz.out' {w w':World} {B N mb:Nat} {D:DataW Value} {V:ByteArray->Value} {O O':Nat->Prop} {m:KV} (h:Yz w B N mb D V O m) (hw:Qg O' w w') (hm:¬ O' mb) (hr:∀ k g,(V k).ownBlock=some g->¬ O' g):Yz w' B N mb D V O m :=
 ⟨hw.map h.own hm,h.has,h.at_,fun k=>hw.row (h.row k) (fun g hg=>hr k g hg),h.nil,h.apart,h.mine,h.hm⟩
theorem Yz.out {w w':World} {B N mb:Nat} {D:DataW Value} {V:ByteArray->Value} {O O':Nat->Prop} {m:KV} (h:Yz w B N mb D V O m) (hw:Qg O' w w') (hd:∀ k,O k->¬ O' k):Yz w' B N mb D V O m :=
 h.out' hw (hd _ h.hm) (fun k g hg=>hd g (h.mine k g hg).1)
theorem Yz.mono {w:World} {B N mb:Nat} {D:DataW Value} {V:ByteArray->Value} {O O':Nat->Prop} {m:KV} (h:Yz w B N mb D V O m) (hs:∀ k,O k->O' k):Yz w B N mb D V O' m :=
 ⟨h.own,h.has,h.at_,h.row,h.nil,h.apart,fun k g hg=>⟨hs g (h.mine k g hg).1,(h.mine k g hg).2⟩,hs _ h.hm⟩
theorem Yz.later {w w':World} {B N mb:Nat} {D:DataW Value} {V:ByteArray->Value} {O:Nat->Prop} {m:KV} (h:Yz w B N mb D V O m) (hb:Below w.heap.size w w'):Yz w' B N mb D V O m :=
 h.out (O':=fun _=>False) (Qg.of_below hb) (fun _ _ h=>h)
theorem Qo1 (w:World):(zeroValue 242).run Tryz.prog w = .ok (.slice none 0 0) w:=by kernel_rfl
theorem QnL {w:World} {N mb:Nat} {D:DataW Value} {V:ByteArray->Value} {m:KV} (own:w.ownsMap Tryz.prog 9 Xl mb N D) (has:∀ k,Maps.has D (lit k) = !(getK m k).isEmpty)
  (at_:∀ k z,getK m k ≠ []->D.atKey (lit k) z = .held (V k)) (nil:∀ k,getK m k=[]->V k = .slice none 0 0) (k:ByteArray) (hk:k.size<=maxLen) :
  (Instr.lookup 167 (.map (some mb)) (.string k) false).run Tryz.prog w = .ok (V k) w:=by
 refine Exists.elim (own.lookup Vz Tryz.underlying167 (Qo1 w) (zd:=.held (.slice none 0 0)) rfl (JV hk)) fun v ⟨ps,hrun,hv⟩=>?_
 suffices hvV:v=V k by rw [hrun,hvV]
 by_cases hm:getK m k=[]
 ·have h0:Maps.has D (lit k)=false:=by rw [has,hm];rfl
  rw [QkN h0] at hv
  rw [nil k hm]
  exact Qfr hv
 ·rw [at_ k _ hm] at hv
  exact Qfr hv
theorem Yz.look {w:World} {B N mb:Nat} {D:DataW Value} {V:ByteArray->Value} {O:Nat->Prop} {m:KV} (h:Yz w B N mb D V O m) (k:ByteArray) (hk:k.size<=maxLen) :
  (Instr.lookup 167 (.map (some mb)) (.string k) false).run Tryz.prog w = .ok (V k) w:=QnL h.own h.has h.at_ h.nil k hk
theorem Qbc (m:KV) (k:ByteArray):(getK m k).length<=(Qq m).length:=by
 induction m with
 | nil=>exact Nat.le_refl _
 | cons p m ih =>
  have e:(Qq (p :: m)).length=p.2.length+(Qq m).length:=by
   rw [show Qq (p :: m)=Z8 p ++ Qq m from rfl,List.length_append,Z8,List.length_map]
  rw [getK,e]
  split <;> omega
theorem Yz.put {w w1 w2 w3:World} {B N mb:Nat} {D:DataW Value} {V:ByteArray->Value} {O:Nat->Prop} {m:KV} (h:Yz w B N mb D V O m) (hris:Zg m) (hlt:∀ k,O k->B<=k/\k<w.heap.size) (hb:Below w.heap.size w w1) {k:ByteArray} {v:Value} {l:List Q0} (hl:l ≠ [])
  (hr:KO w2 B v l) (hg:w1.grownBy w2 (V k).ownBlock) (ho:v.ownBlock=(V k).ownBlock \/ ∃ g,v.ownBlock=some g/\w1.heap.size<=g)
  (hown:w3.ownsMap Tryz.prog 9 Xl mb (N+1) (D.put (lit k) (.held v))) (ht:w2.mapTurned w3 mb) :
  Yz w3 B (N+1) mb (D.put (lit k) (.held v)) (fun x=>if x=k then v else V x) (ext O w w3) (Jg m k l):=by
 have ht':=ht.grown
 have hs1:=hb.size
 have hs2:=hg.size
 have hs3:=ht'.size
 have hmlt:mb<w.heap.size:=(hlt mb h.hm).2
 have him:IsMap D:=h.own.isMap
 have hvm:∀ g,v.ownBlock=some g->g ≠ mb:=by
  intro g hgv
  rcases ho with e | ⟨g',e,hge⟩
  ·rw [e] at hgv;exact (h.mine k g hgv).2
  ·rw [e] at hgv;injection hgv with hgv;omega
 refine ⟨hown,fun x=>?_,fun x z hx=>?_,fun x=>?_,fun x hx=>?_,fun x y g hxy hx hy=>?_,fun x g hx=>?_,.inl h.hm⟩
 ·rw [KU hris]
  by_cases e:x=k
  ·subst e
   rw [if_pos rfl,has_put_same him (QaO _)]
   cases l with
   | nil=>exact absurd rfl hl
   | cons a l=>rfl
  ·rw [if_neg e,has_put_other (fun he=>e (Ka he)),h.has]
 ·rw [KU hris] at hx
  by_cases e:x=k
  ·subst e
   rw [atKey_put_same him (QaO _)]
   simp
  ·rw [if_neg e] at hx
   rw [atKey_put_other (fun he=>e (Ka he)),h.at_ x z hx]
   simp [e]
 ·rw [KU hris]
  by_cases e:x=k
  ·subst e
   simp only [↓reduceIte]
   exact hr.kept ht' (by
    cases hv:v.ownBlock with
    | none=>exact .inl rfl
    | some g=>exact .inr (fun he=>hvm g hv (by injection he)))
  ·simp only [e,if_false]
   have hold:∀ g,(V x).ownBlock=some g->g ≠ mb/\(V k).ownBlock ≠ some g:=fun g hgx=>⟨(h.mine x g hgx).2,h.apart x k g e hgx⟩
   have r1:KO w1 B (V x) (getK m x):=Qi (h.row x) hb
   have r2:KO w2 B (V x) (getK m x):=r1.kept hg (by
    cases hv:(V x).ownBlock with
    | none=>exact .inl rfl
    | some g=>exact .inr (fun he=>(hold g hv).2 he.symm))
   exact r2.kept ht' (by
    cases hv:(V x).ownBlock with
    | none=>exact .inl rfl
    | some g=>exact .inr (fun he=>(hold g hv).1 (by injection he)))
 ·rw [KU hris] at hx
  by_cases e:x=k
  ·rw [if_pos e] at hx;exact absurd hx hl
  ·rw [if_neg e] at hx
   simp only [e,if_false]
   exact h.nil x hx
 ·by_cases ex:x=k
  ·replace hx:v.ownBlock=some g:=by rw [<- hx];simp [ex]
   have ey:y ≠ k:=fun e=>hxy (by rw [ex,e])
   replace hy:(V y).ownBlock=some g:=by rw [<- hy];simp [ey]
   rcases ho with e | ⟨g',e,hge⟩
   ·rw [e] at hx
    exact h.apart k y g (Ne.symm ey) hx hy
   ·rw [e] at hx
    injection hx with hx
    have:=(hlt g (h.mine y g hy).1).2
    omega
  ·replace hx:(V x).ownBlock=some g:=by rw [<- hx];simp [ex]
   by_cases ey:y=k
   ·replace hy:v.ownBlock=some g:=by rw [<- hy];simp [ey]
    rcases ho with e | ⟨g',e,hge⟩
    ·rw [e] at hy
     exact h.apart x k g ex hx hy
    ·rw [e] at hy
     injection hy with hy
     have:=(hlt g (h.mine x g hx).1).2
     omega
   ·replace hy:(V y).ownBlock=some g:=by rw [<- hy];simp [ey]
    exact h.apart x y g hxy hx hy
 ·by_cases ex:x=k
  ·replace hx:v.ownBlock=some g:=by rw [<- hx];simp [ex]
   refine ⟨?_,hvm g hx⟩
   rcases ho with e | ⟨g',e,hge⟩
   ·rw [e] at hx;exact .inl (h.mine k g hx).1
   ·have hgl:=(hr.lt g hx).2
    rw [e] at hx
    injection hx with hx
    exact .inr ⟨by omega,by omega⟩
  ·replace hx:(V x).ownBlock=some g:=by rw [<- hx];simp [ex]
   exact ⟨.inl (h.mine x g hx).1,(h.mine x g hx).2⟩
structure QN (w:World) (B p N mb:Nat) (D:DataW Value) (V:ByteArray->Value) (O:Nat->Prop) (s:QR):Prop where
 blk:w.heap[p]? = some (.cells #[.map (some mb),.int .u64 (s.last:Int),.int .u64 (s.low:Int)] 169 (0,0))
 keys:Yz w B N mb D V O s.ks
 hp:O p
 n1:p ≠ mb
 n2:∀ k g,(V k).ownBlock=some g->g ≠ p
 lt:∀ k,O k->B<=k/\k<w.heap.size
def QW (w:World) (B p N:Nat) (O:Nat->Prop) (s:QR):Prop:=∃ mb D V,QN w B p N mb D V O s
theorem QN.c0 {w:World} {B p N mb:Nat} {D:DataW Value} {V:ByteArray->Value} {O:Nat->Prop} {s:QR} (h:QN w B p N mb D V O s):w.cell? ⟨p,0,none⟩=some (.map (some mb)):=by
 rw [cell_of_row w p 0 _ _ _ h.blk];rfl
theorem QN.c1 {w:World} {B p N mb:Nat} {D:DataW Value} {V:ByteArray->Value} {O:Nat->Prop} {s:QR} (h:QN w B p N mb D V O s):w.cell? ⟨p,1,none⟩=some (.int .u64 (s.last:Int)):=by
 rw [cell_of_row w p 1 _ _ _ h.blk];rfl
theorem QN.c2 {w:World} {B p N mb:Nat} {D:DataW Value} {V:ByteArray->Value} {O:Nat->Prop} {s:QR} (h:QN w B p N mb D V O s):w.cell? ⟨p,2,none⟩=some (.int .u64 (s.low:Int)):=by
 rw [cell_of_row w p 2 _ _ _ h.blk];rfl
theorem QN.fz {w:World} {B p N mb:Nat} {D:DataW Value} {V:ByteArray->Value} {O:Nat->Prop} {s:QR} (h:QN w B p N mb D V O s) (j:Nat):w.frozen? ⟨p,j,none⟩=false:=frozen_of_row w p j _ _ h.blk
theorem QN.out {w w':World} {B p N mb:Nat} {D:DataW Value} {V:ByteArray->Value} {O O':Nat->Prop} {s:QR} (h:QN w B p N mb D V O s) (hw:Qg O' w w') (hd:∀ k,O k->¬ O' k):QN w' B p N mb D V O s :=
 ⟨hw.obj h.blk (hd _ h.hp),h.keys.out hw hd,h.hp,h.n1,h.n2,fun k hk=>⟨(h.lt k hk).1,Nat.lt_of_lt_of_le (h.lt k hk).2 hw.size⟩⟩
theorem QN.later {w w':World} {B p N mb:Nat} {D:DataW Value} {V:ByteArray->Value} {O:Nat->Prop} {s:QR} (h:QN w B p N mb D V O s) (hb:Below w.heap.size w w'):QN w' B p N mb D V O s :=
 h.out (O':=fun _=>False) (Qg.of_below hb) (fun _ _ h=>h)
theorem QW.out {w w':World} {B p N:Nat} {O O':Nat->Prop} {s:QR} (h:QW w B p N O s) (hw:Qg O' w w') (hd:∀ k,O k->¬ O' k):QW w' B p N O s:=by
 obtain ⟨mb,D,V,h⟩:=h
 exact ⟨mb,D,V,h.out hw hd⟩
theorem QW.later {w w':World} {B p N:Nat} {O:Nat->Prop} {s:QR} (h:QW w B p N O s) (hb:Below w.heap.size w w'):QW w' B p N O s :=
 h.out (O':=fun _=>False) (Qg.of_below hb) (fun _ _ h=>h)
theorem YZ {w:World} {g j:Nat} {cur:Array Value} {t:TypeId} (v:Value) (h:w.heap[g]? = some (.cells cur t (0,0))):(w.setCell ⟨g,j,none⟩ v).heap[g]? = some (.cells (cur.setIfInBounds j v) t (0,0)):=by
 rw [setCell_eq_setRow w g j cur t (0,0) v h,setRow_heap w g cur _ t _ h]
theorem YA (w:World) (b j:Nat) (u:Value):Qg (fun k=>k=b) w (w.setCell ⟨b,j,none⟩ u) :=
 ⟨rfl,rfl,rfl,by simp [World.setCell],fun i _ hi=>Below.heap_setCell _ _ _ _ hi⟩
theorem QN.setLast {w:World} {B p N mb:Nat} {D:DataW Value} {V:ByteArray->Value} {O:Nat->Prop} {s:QR} (h:QN w B p N mb D V O s) (n:Nat):QN (w.setCell ⟨p,1,none⟩ (.int .u64 (n:Int))) B p N mb D V O ⟨s.ks,n,s.low⟩:=by
 have hb:=YZ (j:=1) (.int .u64 (n:Int)) h.blk
 have ho:=YA w p 1 (.int .u64 (n:Int))
 exact { blk:=by simpa using hb,keys:=h.keys.out' ho (fun e=>h.n1 e.symm) (fun k g hg e=>h.n2 k g hg e),hp:=h.hp,n1:=h.n1,n2:=h.n2,lt:=fun k hk=>⟨(h.lt k hk).1,by have:=(h.lt k hk).2;have:=ho.size;omega⟩ }
theorem QN.setLow {w:World} {B p N mb:Nat} {D:DataW Value} {V:ByteArray->Value} {O:Nat->Prop} {s:QR} (h:QN w B p N mb D V O s) (n:Nat):QN (w.setCell ⟨p,2,none⟩ (.int .u64 (n:Int))) B p N mb D V O ⟨s.ks,s.last,n⟩:=by
 have hb:=YZ (j:=2) (.int .u64 (n:Int)) h.blk
 have ho:=YA w p 2 (.int .u64 (n:Int))
 exact { blk:=by simpa using hb,keys:=h.keys.out' ho (fun e=>h.n1 e.symm) (fun k g hg e=>h.n2 k g hg e),hp:=h.hp,n1:=h.n1,n2:=h.n2,lt:=fun k hk=>⟨(h.lt k hk).1,by have:=(h.lt k hk).2;have:=ho.size;omega⟩ }
theorem QdN {O:Nat->Prop} {w w1 w2:World} (h1:w.heap.size<=w1.heap.size) (h2:w1.heap.size<=w2.heap.size):ext (ext O w w1) w1 w2=ext O w w2:=funext fun k=>propext (QnF h1 h2 k)
theorem QN.put {w w1 w2 w3:World} {B p N mb:Nat} {D:DataW Value} {V:ByteArray->Value} {O:Nat->Prop} {s:QR} (h:QN w B p N mb D V O s) (hris:Zg s.ks) (hb:Below w.heap.size w w1) {k:ByteArray} {v:Value} {l:List Q0} (hl:l ≠ [])
  (hr:KO w2 B v l) (hg:w1.grownBy w2 (V k).ownBlock) (ho:v.ownBlock=(V k).ownBlock \/ ∃ g,v.ownBlock=some g/\w1.heap.size<=g)
  (hown:w3.ownsMap Tryz.prog 9 Xl mb (N+1) (D.put (lit k) (.held v))) (ht:w2.mapTurned w3 mb) :
  QW w3 B p (N+1) (ext O w w3) ⟨Jg s.ks k l,s.last,s.low⟩/\Qg O w w3:=by
 have hs1:=hb.size
 have hs2:=hg.size
 have hs3:=ht.grown.size
 have hk:=h.keys.put hris h.lt hb hl hr hg ho hown ht
 have hplt:=(h.lt p h.hp).2
 have hout:Qg O w w3:=by
  refine ⟨ht.grown.os.trans (hg.os.trans hb.os),ht.grown.tape.trans (hg.tape.trans hb.tape),ht.grown.output.trans (hg.output.trans hb.output),by omega,fun x hx ho'=>?_⟩
  rw [ht.grown.block x (by omega) (fun e=>ho' (by injection e with e;exact e ▸ h.keys.hm)),hg.block x (by omega) (fun e=>ho' (h.keys.mine k x e.symm).1),hb.block x hx]
 refine ⟨⟨mb,D.put (lit k) (.held v),fun x=>if x=k then v else V x,?_⟩,hout⟩
 refine { blk:=?_,keys:=hk,hp:=.inl h.hp,n1:=h.n1,n2:=fun x g hx=>?_,lt:=fun x hx=>Or.elim hx (fun hx=>⟨(h.lt x hx).1,by have:=(h.lt x hx).2;omega⟩) (fun hx=>⟨?_,hx.2⟩) }
 ·rw [ht.grown.block p (by omega) (fun e=>h.n1 (by injection e)),hg.block p (by omega) (fun e=>h.n2 k p e.symm rfl),hb.block p hplt]
  exact h.blk
 ·by_cases e:x=k
  ·replace hx:v.ownBlock=some g:=by rw [<- hx];simp [e]
   rcases ho with eo | ⟨g',eo,hge⟩
   ·rw [eo] at hx;exact h.n2 k g hx
   ·rw [eo] at hx;injection hx with hx;omega
  ·replace hx:(V x).ownBlock=some g:=by rw [<- hx];simp [e]
   exact h.n2 x g hx
 ·have:=(h.lt p h.hp).1
  omega
theorem Qgk {m:KV} (h:Zg m) (n:Nat) (x:Wr):(Qq (JU n m x)).length=(Qq m).length+1:=by
 have:=QdJ h x.key ⟨n,x.val⟩
 rw [JU, <- this,Qay,List.length_append,List.length_cons]
 have e:=congrArg List.length (List.takeWhile_append_dropWhile (p:=fun y:It=>Qy y.key x.key) (l:=Qq m))
 rw [List.length_append] at e
 simp only at e ⊢
 omega
theorem VA (n:Nat):∀ (l:List Wr) {m:KV},Zg m->(Qq (Zx n m l)).length=(Qq m).length+l.length
 | [],_,_=>rfl
 | x :: l,m,h=>by
  have:=VA n l (m:=JU n m x) (J9 h _ _)
  rw [show Zx n m (x :: l)=Zx n (JU n m x) l from rfl,this,Qgk h,List.length_cons]
  omega
open Go.Shelf
theorem QgO (w:World):Calls Tryz.prog 39 #[] w fun e w'=>e = .returned (.pointer (some ⟨w.heap.size+1,0,none⟩))/\(w.alloc (.map #[] 0)).alloc (.cells #[.map (some w.heap.size),.int .u64 0,.int .u64 0] 169)=w':=by
 have hmm:=@run_makeMap Tryz.prog
 go_enter Tryz.func39,Tryz.ntmps39
 go_wp2
 go_ret
 exact ⟨rfl,rfl⟩
def noB (_:Nat):Prop:=False
def QkO (w:World) (e:Ending) (w':World):Prop:=∃ p,e = .returned (.pointer (some ⟨p,0,none⟩))/\QW w' w.heap.size p 0 (ext noB w w') Kt/\Below w.heap.size w w'
theorem QkP (w : World) : Calls Tryz.prog 39 #[] w (QkO w) := by
  refine (QgO w).mono ?_
  rintro e w' ⟨rfl, rfl⟩
  have hsz : ((w.alloc (.map #[] 0)).alloc (.cells #[.map (some w.heap.size), .int .u64 0, .int .u64 0] 169)).heap.size = w.heap.size + 2 := by simp
  have hb := heap_alloc_new (w.alloc (.map #[] 0)) (.cells #[.map (some w.heap.size), .int .u64 0, .int .u64 0] 169)
  rw [show (w.alloc (.map #[] 0)).heap.size = w.heap.size + 1 by simp] at hb
  have hm : ((w.alloc (.map #[] 0)).alloc (.cells #[.map (some w.heap.size), .int .u64 0, .int .u64 0] 169)).ownsMap Tryz.prog 9 Xl w.heap.size 0 (.map []) := (World.ownsMap_made w _ _ _).alloc _
  refine ⟨_, rfl, ⟨w.heap.size, .map [], fun _ => .slice none 0 0, ?_⟩, ZL _ _ _⟩
  exact {
    blk := hb
    keys := {
      own := hm
      has := fun k => rfl
      at_ := fun k z h => absurd rfl h
      row := fun k => Q7 _ _ _ _
      nil := fun k _ => rfl
      apart := fun k k' g _ h => by cases h
      mine := fun k g h => by cases h
      hm := .inr ⟨Nat.le_refl _, by omega⟩ }
    hp := .inr ⟨by omega, by omega⟩
    n1 := by omega
    n2 := fun k g h => by cases h
    lt := fun k h => Or.elim h False.elim (fun h => ⟨h.1, h.2⟩) }
section
variable {w:World} {B p N:Nat} {O:Nat->Prop} {s:QR}
theorem Qbd (h:QW w B p N O s):Calls Tryz.prog 58 #[.pointer (some ⟨p,0,none⟩)] w fun e w'=>e = .returned (.int .u64 (s.last:Int))/\w=w':=by
 obtain ⟨mb,D,V,h⟩:=h
 have c1:=h.c1
 clear h
 go_enter Tryz.func58,Tryz.ntmps58
 go_wp2
 go_ret
 exact ⟨rfl,rfl⟩
theorem QkQ (h:QW w B p N O s):Calls Tryz.prog 54 #[.pointer (some ⟨p,0,none⟩)] w fun e w'=>e = .returned (.int .u64 (s.low:Int))/\w=w':=by
 obtain ⟨mb,D,V,h⟩:=h
 have c2:=h.c2
 clear h
 go_enter Tryz.func54,Tryz.ntmps54
 go_wp2
 go_ret
 exact ⟨rfl,rfl⟩
end
def VZ (w:World) (A:Option Addr) (l:List Q0):Prop :=
 ∀ i,i<l.length->∃ b off,A=some ⟨b,off,none⟩/\w.cell? ⟨b,off+i * 4,none⟩=some (.int .u64 ((l.getD i Yg).num:Nat))/\w.cell? ⟨b,off+i * 4+1,none⟩=some (.int .i64 (l.getD i Yg).val.kind) /\
  w.cell? ⟨b,off+i * 4+2,none⟩=some (.int .u64 ((l.getD i Yg).val.bits:Nat))/\w.cell? ⟨b,off+i * 4+3,none⟩=some (.string (l.getD i Yg).val.text)
theorem VZ.later {w w':World} {A:Option Addr} {l:List Q0} (h:VZ w A l) (hb:Below w.heap.size w w'):VZ w' A l:=by
 intro i hi
 obtain ⟨b,off,e,h0,h1,h2,h3⟩:=h i hi
 exact ⟨b,off,e,keep hb h0,keep hb h1,keep hb h2,keep hb h3⟩
theorem QgP:∀ (l:List Q0) (i:Nat),i<l.length->(ZH l)[i * 4]? = some (.int .u64 ((l.getD i Yg).num:Nat))/\(ZH l)[i * 4+1]? = some (.int .i64 (l.getD i Yg).val.kind)/\(ZH l)[i * 4+2]? = some (.int .u64 ((l.getD i Yg).val.bits:Nat))/\(ZH l)[i * 4+3]? = some (.string (l.getD i Yg).val.text)
 | [],i,h=>by simp at h
 | x :: l,0,_=>by simp [ZH,Xu]
 | x :: l,i+1,h=>by
  have:=QgP l i (by simpa using h)
  rw [show (i+1) * 4=i * 4+4 by omega,show i * 4+4+1=(i * 4+1)+4 by omega,show i * 4+4+2=(i * 4+2)+4 by omega,show i * 4+4+3=(i * 4+3)+4 by omega]
  simpa [ZH,Xu] using this
theorem Qdf {w:World} {B:Nat} {v:Value} {l:List Q0} (h:KO w B v l):∃ (A:Option Addr) (cap:Nat),v = .slice A l.length cap/\l.length<=cap/\VZ w A l:=by
 rcases h.2 with ⟨rfl,h0⟩ | ⟨g,cap,cur,rfl,hfr,hh,hn,_,_,ht⟩
 ·exact ⟨none,0,by rw [h0],by omega,fun i hi=>by omega⟩
 ·refine ⟨some ⟨g,0,none⟩,cap,rfl,hn,fun i hi=>⟨g,0,rfl,?_⟩⟩
  have hc:∀ j,j<l.length * 4->w.cell? ⟨g,0+j,none⟩=(ZH l)[j]?:=by
   intro j hj
   have h1:(cur.toList.take (l.length * 4))[j]? = (ZH l)[j]?:=by rw [ht]
   rw [List.getElem?_take_of_lt (by omega)] at h1
   simp only [World.cell?,hh,Nat.zero_add,Option.isSome_none,Bool.false_eq_true,if_false]
   rw [<- Array.getElem?_toList,h1]
  have:=QgP l i hi
  exact ⟨by rw [hc _ (by omega)];exact this.1,by rw [Nat.add_assoc,hc _ (by omega)];exact this.2.1,by rw [Nat.add_assoc,hc _ (by omega)];exact this.2.2.1,by rw [Nat.add_assoc,hc _ (by omega)];exact this.2.2.2⟩
theorem VZ.at' {w:World} {A:Option Addr} {l:List Q0} (h:VZ w A l) {k:Nat} (hk:k<l.length) :
  ∃ b off n z m t,A=some ⟨b,off,none⟩/\w.cell? ⟨b,off+k * 4,none⟩=some (.int .u64 (n:Nat))/\w.cell? ⟨b,off+k * 4+1,none⟩=some (.int .i64 z) /\
   w.cell? ⟨b,off+k * 4+2,none⟩=some (.int .u64 (m:Nat))/\w.cell? ⟨b,off+k * 4+3,none⟩=some (.string t)/\Hid (l.getD k Yg=⟨n,⟨z,m,t⟩⟩):=by
 obtain ⟨b,off,e,h0,h1,h2,h3⟩:=h k hk
 exact ⟨b,off,_,_,_,_,e,h0,h1,h2,h3,rfl⟩
abbrev Qjn (v:Q0):Value:=.agg #[.int .u64 (v.num:Int),.int .i64 v.val.kind,.int .u64 (v.val.bits:Int),.string v.val.text]
theorem QkR {l:List Q0} {k n:Nat} {v:Q0} (hk:k<l.length) (h:(l.take k).all (fun v=>decide (n<v.num))=true) (hv:l.getD k Yg=v) (hn:v.num<=n):Z3 l n=v:=by
 have e:l=l.take k ++ v :: l.drop (k+1):=by
  have:v=l[k]:=by rw [<- hv,List.getD_eq_getElem?_getD,List.getElem?_eq_getElem hk];rfl
  rw [this];simp
 rw [e,Z3,List.find?_append,KW fun x hx=>by have:=List.all_eq_true.1 h x hx;simp at this;simp;omega,List.find?_cons,decide_eq_true hn]
 rfl
theorem QkS {l:List Q0} {n:Nat} (h:l.all (fun v=>decide (n<v.num))=true):Z3 l n=Yg:=by
 rw [Z3,KW fun x hx=>by have:=List.all_eq_true.1 h x hx;simp at this;simp;omega]
 rfl
def QgQ (w:World) (v:Q0) (e:Ending) (w':World):Prop:=e = .returned (.agg #[.int .u64 (v.num:Int),.int .i64 v.val.kind,.int .u64 (v.val.bits:Int),.string v.val.text])/\Below w.heap.size w w'
theorem QgR (w:World) (u v x y:Value) (t:TypeId):∃ W:World,w.alloc (.cells #[u,v,x,y] t)=W/\Below w.heap.size w W/\W.heap.size=w.heap.size+1/\W.heap[w.heap.size]? = some (.cells #[u,v,x,y] t (0,0)) :=
 ⟨_,rfl,Qc _ _,by simp,heap_alloc_new w _⟩
theorem UK {w:World} {g:Nat} {u v x y:Value} {t:TypeId} (h:w.heap[g]? = some (.cells #[u,v,x,y] t (0,0))):w.cell? ⟨g,0,none⟩=some u/\w.cell? ⟨g,1,none⟩=some v/\w.cell? ⟨g,2,none⟩=some x/\w.cell? ⟨g,3,none⟩=some y /\
  w.frozen? ⟨g,0,none⟩=false/\w.frozen? ⟨g,1,none⟩=false/\w.frozen? ⟨g,2,none⟩=false/\w.frozen? ⟨g,3,none⟩=false:=by
 refine ⟨?_,?_,?_,?_,frozen_of_row w g _ _ _ h,frozen_of_row w g _ _ _ h,frozen_of_row w g _ _ _ h,frozen_of_row w g _ _ _ h⟩ <;> (rw [cell_of_row w g _ _ _ _ h];rfl)
theorem YB {w w':World} {g:Nat} {o:Obj} (h:w.heap[g]? = some o) (hb:Below w.heap.size w w'):w'.heap[g]? = some o:=by
 rw [hb.block g (Array.getElem?_eq_some_iff.1 h).1];exact h
theorem QdO {w:World} {g:Nat} {u v x y:Value} {t:TypeId} (h:w.heap[g]? = some (.cells #[u,v,x,y] t (0,0))) (u' v' x' y':Value) :
  ((((w.setCell ⟨g,0,none⟩ u').setCell ⟨g,1,none⟩ v').setCell ⟨g,2,none⟩ x').setCell ⟨g,3,none⟩ y').heap[g]? = some (.cells #[u',v',x',y'] t (0,0)):=by
 have:=YZ (j:=3) y' (YZ (j:=2) x' (YZ (j:=1) v' (YZ (j:=0) u' h)))
 simpa using this
set_option maxRecDepth 100000 in
set_option maxHeartbeats 2000000 in
theorem Qjo {w:World} {B p N:Nat} {O:Nat->Prop} {s:QR} (h:QW w B p N O s) (k:ByteArray) (hk:k.size<=maxLen) (n:Nat) (hn:(getK s.ks k).length<=900000) :
  Calls Tryz.prog 107 #[.pointer (some ⟨p,0,none⟩),.string k,.int .u64 (n:Int)] w (QgQ w (Z3 (getK s.ks k) n)):=by
 obtain ⟨W,eW,HB,hsz,hrow⟩:=QgR w (.int .u64 0) (.int .i64 0) (.int .u64 0) (.string { data:=#[] }) 195
 replace h:=h.later HB
 obtain ⟨mb,D,V,h⟩:=h
 have c0:=h.c0
 have hl:=h.keys.look k hk
 obtain ⟨A,cap,hV,hcap,hA⟩:=Qdf (h.keys.row k)
 rw [hV] at hl
 obtain ⟨l,hL⟩:∃ l,Hid (getK s.ks k=l):=⟨_,rfl⟩
 rw [hL.out] at hl hA hn ⊢
 have HR:=Lib.hid hrow
 have HZ:=Lib.hid hsz
 clear h hV hcap hrow hsz
 go_enter Tryz.func107,Tryz.ntmps107
 go_wp2
 go_loopw [16] (fun i wr=>∃ j:Nat,j<=l.length/\i = .int .i64 j/\Hid ((l.take j).all (fun v=>decide (n<v.num))=true)/\Below W.heap.size W wr) (fun i _=>l.length-(intOf i).toNat)
 case atStart=>exact ⟨0,Nat.zero_le _,rfl,rfl,Below.refl _ _⟩
 case round =>
  obtain ⟨j,hj,rfl,HA,hw⟩:=hrel
  have hrow:=YB HR.out hw
  obtain ⟨y0,y1,y2,y3,f0,f1,f2,f3⟩:=UK hrow
  clear hrow eW
  have hglt:w.heap.size<wr.heap.size:=by have:=hw.size;have:=HZ.out;omega
  by_cases hlt:j<l.length
  ·obtain ⟨b,off,m,z,bt,t,rfl,d0,d1,d2,d3,HX⟩:=(hA.later hw).at' hlt
   by_cases hle:m<=n
   ·have HS:Hid (Z3 l n=⟨m,⟨z,bt,t⟩⟩):=QkR hlt HA.out HX.out hle
    have hle':((m:Int)<=(n:Int)):=by omega
    go_wp2
    obtain ⟨z0,z1,z2,z3,_⟩:=UK (YB (QdO (YB HR.out hw) (.int .u64 (m:Int)) (.int .i64 z) (.int .u64 (bt:Int)) (.string t)) (Qc _ (.cells #[.int .u64 (m:Int),.int .i64 z,.int .u64 (bt:Int),.string t] 195)))
    exact bodyPost_ret (v:=Qjn ⟨m,⟨z,bt,t⟩⟩) (by simp [results,Tryz.results107,go_sem,Qjn,z0,z1,z2,z3]) rfl ⟨by rw [HS.out],(((((Qa HB hw).setCell (Nat.le_refl _) _).setCell (Nat.le_refl _) _).setCell (Nat.le_refl _) _).setCell (Nat.le_refl _) _).alloc (by simp;omega) _⟩
   ·have HR2:Hid ((l.take (j+1)).all (fun v=>decide (n<v.num))=true):=JS hlt HX.out (by simp;omega) HA.out
    have hle':¬ ((m:Int)<=(n:Int)):=by omega
    go_wp2
    go_roundw
    case rel=>exact ⟨j+1,by omega,by go_num,HR2,hw.alloc hw.size _⟩
    case measure=>simp [intOf];omega
  ·have HS:Hid (Z3 l n=Yg):=by
    show _=_
    have e:l.take j=l:=List.take_of_length_le (by omega)
    have:=HA.out
    rw [e] at this
    exact QkS this
   go_wp2
   obtain ⟨z0,z1,z2,z3,_⟩:=UK (QdO (YB HR.out hw) (.int .u64 0) (.int .i64 0) (.int .u64 0) (.string { data:=#[] }))
   exact bodyPost_ret (v:=Qjn Yg) (by simp [results,Tryz.results107,go_sem,Qjn,z0,z1,z2,z3];exact ⟨rfl,rfl,rfl,rfl⟩) rfl ⟨by rw [HS.out],((((Qa HB hw).setCell (Nat.le_refl _) _).setCell (Nat.le_refl _) _).setCell (Nat.le_refl _) _).setCell (Nat.le_refl _) _⟩
theorem Qjp (w:World) (u v x:Value) (t:TypeId):∃ W:World,w.alloc (.cells #[u,v,x] t)=W/\Below w.heap.size w W/\W.heap.size=w.heap.size+1/\W.heap[w.heap.size]? = some (.cells #[u,v,x] t (0,0)) :=
 ⟨_,rfl,Qc _ _,by simp,heap_alloc_new w _⟩
theorem K9 {w:World} {g:Nat} {u v x:Value} {t:TypeId} (h:w.heap[g]? = some (.cells #[u,v,x] t (0,0))):w.cell? ⟨g,0,none⟩=some u/\w.cell? ⟨g,1,none⟩=some v/\w.cell? ⟨g,2,none⟩=some x /\
  w.frozen? ⟨g,0,none⟩=false/\w.frozen? ⟨g,1,none⟩=false/\w.frozen? ⟨g,2,none⟩=false:=by
 refine ⟨?_,?_,?_,frozen_of_row w g _ _ _ h,frozen_of_row w g _ _ _ h,frozen_of_row w g _ _ _ h⟩ <;> (rw [cell_of_row w g _ _ _ _ h];rfl)
theorem Va {w:World} {g:Nat} {u v x:Value} {t:TypeId} (h:w.heap[g]? = some (.cells #[u,v,x] t (0,0))) (u' v' x':Value) :
  (((w.setCell ⟨g,0,none⟩ u').setCell ⟨g,1,none⟩ v').setCell ⟨g,2,none⟩ x').heap[g]? = some (.cells #[u',v',x'] t (0,0)):=by
 have:=YZ (j:=2) x' (YZ (j:=1) v' (YZ (j:=0) u' h))
 simpa using this
def Qcw (w:World) (v:Q0) (err:Int) (e:Ending) (w':World):Prop :=
 e = .returned (.tuple #[.agg #[.int .i64 v.val.kind,.int .u64 (v.val.bits:Int),.string v.val.text],.int .u64 (v.num:Int),.int .i64 err])/\Below w.heap.size w w'
set_option maxRecDepth 100000 in
set_option maxHeartbeats 2000000 in
theorem Qfs {w:World} {B p N:Nat} {O:Nat->Prop} {s:QR} (h:QW w B p N O s) (k:ByteArray) (hk:k.size<=maxLen) (n:Nat) (hn:(getK s.ks k).length<=900000) :
  Calls Tryz.prog 53 #[.pointer (some ⟨p,0,none⟩),.string k,.int .u64 (n:Int)] w (Qcw w (KN s k n) (Qba s n)):=by
 obtain ⟨W,eW,HB,hsz,hrow⟩:=Qjp w (.int .i64 0) (.int .u64 0) (.string { data:=#[] }) 66
 replace h:=h.later HB
 have HS:=Lib.hid h
 obtain ⟨mb,D,V,h⟩:=h
 have c2:=h.c2
 clear h
 obtain ⟨v,hv⟩:∃ v,Hid (Z3 (getK s.ks k) n=v):=⟨_,rfl⟩
 obtain ⟨y0,y1,y2,f0,f1,f2⟩:=K9 hrow
 have HR:=Lib.hid hrow
 clear hrow
 by_cases hlow:n<s.low
 ·have hl:((n:Int)<(s.low:Int)):=by omega
  have HV:Hid (KN s k n=Yg):=by show _=_;rw [KN,if_pos hlow]
  have HE:Hid (Qba s n=9):=by show _=_;rw [Qba,if_pos hlow]
  clear hlow
  go_enter Tryz.func53,Tryz.ntmps53
  go_wp2
  obtain ⟨z0,z1,z2,_⟩:=K9 (Va HR.out (.int .i64 0) (.int .u64 0) (.string { data:=#[] }))
  refine bodyPost_ret (v:=.tuple #[.agg #[.int .i64 0,.int .u64 0,.string { data:=#[] }],.int .u64 0,.int .i64 9]) (by simp [results,Tryz.results53,go_sem,z0,z1,z2]) rfl ⟨?_,?_⟩
  ·rw [HV.out,HE.out];rfl
  ·exact ((HB.setCell (Nat.le_refl _) _).setCell (Nat.le_refl _) _).setCell (Nat.le_refl _) _
 ·have hl:¬ ((n:Int)<(s.low:Int)):=by omega
  have HV:Hid (KN s k n=v):=by show _=_;rw [KN,if_neg hlow];exact hv.out
  have HE:Hid (Qba s n=0):=by show _=_;rw [Qba,if_neg hlow]
  clear hlow
  go_enter Tryz.func53,Tryz.ntmps53
  go_wp2_with (go_at_call 107;refine (Qjo HS.out k hk n hn).mono ?_;rintro e w1 hq;obtain ⟨rfl,hb⟩:=(show QgQ W v e w1 by rw [<- hv.out];exact hq);clear hq;obtain ⟨W2,eW2,HB2,hsz2,hrow2⟩:=QgR w1 (.int .u64 (v.num:Int)) (.int .i64 v.val.kind) (.int .u64 (v.val.bits:Int)) (.string v.val.text) 195;obtain ⟨x0,x1,x2,x3,_⟩:=UK hrow2;have HR2:=Lib.hid (YB (YB HR.out hb) HB2);obtain ⟨u0,u1,u2,g0,g1,g2⟩:=K9 HR2.out;clear hrow2 y0 y1 y2 f0 f1 f2)
  have hne:¬ (w1.heap.size=w.heap.size):=by have:=hb.size;omega
  have hne2:¬ (w.heap.size=w1.heap.size):=by have:=hb.size;omega
  go_region
  all_goals
   go_wp2
   obtain ⟨z0,z1,z2,_⟩:=K9 (Va HR2.out (.int .i64 v.val.kind) (.int .u64 (v.val.bits:Int)) (.string v.val.text))
   refine bodyPost_ret (v:=.tuple #[.agg #[.int .i64 v.val.kind,.int .u64 (v.val.bits:Int),.string v.val.text],.int .u64 (v.num:Int),.int .i64 0]) (by simp [results,Tryz.results53,go_sem,z0,z1,z2]) rfl ⟨?_,?_⟩
   ·rw [HV.out,HE.out]
   ·exact Qb ((((Qa (Qa HB hb) HB2).setCell (Nat.le_refl _) _).setCell (Nat.le_refl _) _).setCell (Nat.le_refl _) _)
def QU (vs:List (Int × Bool)) (g:Int):Bool:=vs.any fun v=>v.1 == g
def Zh (vs:List (Int × Bool)) (g:Int):Bool:=match vs.find? (fun v=>v.1 == g) with
 | some v=>v.2
 | none=>false
def VM (vs:List (Int × Bool)):Bool:=vs.any fun v=>!v.2
def Zk (n:Nat) (vs:List (Int × Bool)):Bool:=!VM vs && vs.length == n
def Yd (n:Nat) (vs:List (Int × Bool)):Bool:=VM vs || vs.length == n
def X3 (gs:List Int) (vs:List (Int × Bool)) (g:Int):Bool:=gs.contains g && !QU vs g
def ZS (gs:List Int) (vs:List (Int × Bool)) (g:Int) (y:Bool):List (Int × Bool):=if X3 gs vs g then vs ++ [(g,y)] else vs
theorem KX (vs:List (Int × Bool)) (g h:Int) (y:Bool):QU (vs ++ [(g,y)]) h=(QU vs h || g == h):=by simp [QU]
theorem Qdg {vs:List (Int × Bool)} {g:Int} (y:Bool) (h:QU vs g=false):Zh (vs ++ [(g,y)]) g=y:=by
 have:vs.find? (fun v=>v.1 == g)=none:=by
  rw [List.find?_eq_none]
  intro x hx hc
  have:=List.any_eq_false.1 h x hx
  exact this hc
 simp [Zh,List.find?_append,this]
theorem QcK {vs:List (Int × Bool)} {g h:Int} (y:Bool) (hne:g ≠ h):Zh (vs ++ [(g,y)]) h=Zh vs h:=by
 have:(g == h)=false:=by simp [hne]
 simp only [Zh,List.find?_append,List.find?_cons,this]
 cases vs.find? (fun v=>v.1 == h) <;> simp
structure Yh (gs:List Int) (vs:List (Int × Bool)):Prop where
 nodup:gs.Nodup
 keys:(vs.map (·.1)).Nodup
 sub:∀ v ∈ vs,v.1 ∈ gs
theorem KP {vs:List (Int × Bool)} {g:Int}:QU vs g=true ↔ g ∈ vs.map (·.1):=by
 simp [QU]
theorem Yh.put {gs:List Int} {vs:List (Int × Bool)} (h:Yh gs vs) (g:Int) (y:Bool):Yh gs (ZS gs vs g y):=by
 unfold ZS
 split
 ·rename_i hm
  simp only [X3,Bool.and_eq_true,List.contains_iff_mem,Bool.not_eq_true'] at hm
  refine ⟨h.nodup,?_,?_⟩
  ·rw [List.map_append,List.nodup_append]
   refine ⟨h.keys,by simp,?_⟩
   intro a ha b hb e
   simp at hb
   subst hb e
   have:=KP.2 ha
   rw [hm.2] at this
   cases this
  ·intro v hv
   rcases List.mem_append.1 hv with hv | hv
   ·exact h.sub v hv
   ·simp at hv;subst hv;exact hm.1
 ·exact h
theorem XS:∀ {l m:List Int},l.Nodup->(∀ x ∈ l,x ∈ m)->l.length<=m.length
 | [],_,_,_=>Nat.zero_le _
 | a :: l,m,hl,hs=>by
  rw [List.nodup_cons] at hl
  have ha:=hs a (by simp)
  have:=XS (l:=l) (m:=m.erase a) hl.2 (fun x hx=>(List.mem_erase_of_ne (fun e=>hl.1 (by rw [<- e];exact hx))).2 (hs x (by simp [hx])))
  rw [List.length_erase_of_mem ha] at this
  have:=List.length_pos_of_mem ha
  simp only [List.length_cons]
  omega
theorem Yh.le {gs:List Int} {vs:List (Int × Bool)} (h:Yh gs vs):vs.length<=gs.length:=by
 have:=XS (m:=gs) h.keys (fun x hx=>by obtain ⟨v,hv,rfl⟩:=List.mem_map.1 hx;exact h.sub v hv)
 simpa using this
theorem Yh.all_voted {gs:List Int} {vs:List (Int × Bool)} (h:Yh gs vs):(gs.all fun g=>QU vs g)=(vs.length == gs.length):=by
 rw [Bool.eq_iff_iff,List.all_eq_true,beq_iff_eq]
 constructor
 ·intro ha
  have h1:=XS (m:=vs.map (·.1)) h.nodup (fun x hx=>KP.1 (ha x hx))
  have h2:=h.le
  simp at h1
  omega
 ·intro e x hx
  rw [KP]
  apply Classical.byContradiction
  intro hn
  have h3:=XS (l:=x :: vs.map (·.1)) (m:=gs) (List.nodup_cons.2 ⟨hn,h.keys⟩) (fun y hy=>by
   rcases List.mem_cons.1 hy with rfl | hy
   ·exact hx
   ·obtain ⟨v,hv,rfl⟩:=List.mem_map.1 hy;exact h.sub v hv)
  simp at h3
  omega
theorem KD {vs:List (Int × Bool)} (hk:(vs.map (·.1)).Nodup) {v:Int × Bool} (hv:v ∈ vs):Zh vs v.1=v.2:=by
 induction vs with
 | nil=>cases hv
 | cons a l ih =>
  simp only [List.map_cons,List.nodup_cons] at hk
  rcases List.mem_cons.1 hv with rfl | hv
  ·simp [Zh]
  ·have hne:(a.1 == v.1)=false:=by
    rw [beq_eq_false_iff_ne]
    intro e
    exact hk.1 (List.mem_map.2 ⟨v,hv,e.symm⟩)
   have:=ih hk.2 hv
   simp only [Zh,List.find?_cons,hne] at this ⊢
   exact this
theorem Yh.start {gs:List Int} (h:gs.Nodup):Yh gs []:=⟨h,by simp,by simp⟩
end Go.Proofs.YtcldpmkhpmlcbaaGreatDoor
