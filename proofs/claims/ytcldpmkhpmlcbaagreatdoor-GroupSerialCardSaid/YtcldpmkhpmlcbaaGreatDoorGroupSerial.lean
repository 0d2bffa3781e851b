/- parishlaw17.GroupSerial returns true for every configuration, every list of transactions and every list of picks, and leaves all memory that was there as it was; the listed tables of unicode/utf8 read as they do at the program's start (tied); no other condition. -/
import Derived.Test.YtcldpmkhpmlcbaaGreatDoorLawGSe17
import Derived.Test.YtcldpmkhpmlcbaaGreatDoorK3
import Derived.Test.YtcldpmkhpmlcbaaGreatDoorJ21
import Derived.Test.YtcldpmkhpmlcbaaGreatDoorCards
import Derived.Test.YtcldpmkhpmlcbaaGreatDoorTie
import Derived.Lay
import Derived.SevenTiedAt
import Derived.Stop.Joined
set_option linter.unusedVariables false
set_option linter.unusedSimpArgs false
namespace Go.Proofs.YtcldpmkhpmlcbaaGreatDoor.lawGroupSerial
open Go.ChangeShapes Go.WideShapes Go.ChangeAt Go.RowKit
theorem own:ownKnob Tryz.prog.godebug=none:=by kernel_rfl
theorem laidOut:laidOutB Tryz.prog=true:=by kernel_rfl
set_option maxRecDepth 100000 in
theorem lifted (os:Os) (started:os.Started) (H:Type) (enc:TypeId × Value->H) :
  ReturnsInHanded {} Tryz.checked os 5 .any (fun w args=>(Rows.groupSerialSpec.pre enc Tryz.prog Tryz.f5 [] false w args/\laidMetH Tryz.prog Rows.groupSerialRow.laid w)/\sizedMet enc Tryz.prog Tryz.f5 (OpenSpec.ofChange Rows.groupSerialSpec) false w args)
   (Rows.groupSerialSpec.post enc Tryz.prog Tryz.f5 false true false false):=by
 refine returnsInHanded_of_change_and (C:=Tryz.checked) (X:=fun w _=>laidMetH Tryz.prog Rows.groupSerialRow.laid w) (fun _ _ _ hh h=>h.of_heap hh) own started (by kernel_rfl) Tryz.func5
  (ChangeSpec.witness_shaped (enc:=enc) (C:=Tryz.checked) (os:=os) (X:=fun w _=>laidMetH Tryz.prog Rows.groupSerialRow.laid w) false (World.laidAll Tryz.prog os Rows.groupSerialRow.laid) #[.agg #[.slice none 0 0,.slice none 0 0],.slice none 0 0,.slice none 0 0] 8 (World.laidAll_os _ _ _)
   (World.shaped_of_ZipB (by kernel_rfl) (by kernel_rfl)) (by kernel_rfl) (by kernel_rfl) (by kernel_rfl)
   (by rw [MakeChecks.laidMetH_plain _ _ _ (by kernel_rfl)];exact laidMet_laidAll _ (by kernel_rfl) (by kernel_rfl))) ?_
 intro W base args ds gs before hval0 hW _ _ HLAID _
 have hval:∀ (j:Nat) t v,Tryz.f5.params[j]? = some t->args[j]? = some v->Value.okWide Tryz.prog W .any base t v:=hval0
 have hW':=hW
 obtain ⟨p,q,hA0,hV,rfl,hfz,hnd⟩:=hW
 have hA:DataW.TrodAll enc Tryz.prog W 0 (fun _=>true) true Tryz.f5.params.toList args.toList ds p:=hA0
 rw [Tryz.params5] at hA hval
 obtain ⟨v0,v1,v2,d0,d1,d2,p0,p1,p2,rfl,rfl,rfl,h0,h1,h2⟩:=trodAll_three hA
 obtain ⟨c,A,B,ca,cb,rfl,hc,hca,hcb⟩:=Qm7 (hval 0 25 v0 rfl rfl) h0
 obtain ⟨S,l,cs,rfl,hl,hn⟩:=Ql7 (hval 1 47 v1 rfl rfl) h1
 obtain ⟨P,pk,cp,rfl,hpk,hpn⟩:=Qkk (hval 2 48 v2 rfl rfl) h2
 refine (QiE c l pk A B S P ca cb cs cp W hc hl hn hpk hpn (Qoc (by kernel_rfl) HLAID (.tail _ (.head _)) (.head _))).mono fun en W' ⟨he,hb⟩=>?_
 subst he
 exact Qmt laidOut (by kernel_rfl) rfl Tryz.underlying4 rfl rfl rfl rfl hW' hb
theorem holds:Rows.GroupSerialSaid :=
 OpenClaim.holds_of_wide 5 Tryz.f5 rfl rfl rfl rfl rfl rfl rfl ⟨rfl,rfl,rfl,rfl,rfl⟩ rfl rfl rfl rfl rfl (by kernel_rfl) Tryz.func5 (by kernel_rfl)
  (of_decide_eq_true (by kernel_rfl)) (by unfold Func.isWrapper;rw [if_neg (of_decide_eq_false (by kernel_rfl))];exact ⟨rfl,rfl⟩)
  (fun os started H enc _=>lifted os started H enc)
theorem card_holds:Rows.GroupSerialCardSaid :=
 Claim7.holds_tied_plain_at .later [] [.data,.pinned] true Rows.groupSerialCard.stood.harness false holds (fun _ h=>by cases h) (by kernel_rfl) (fun _ h=>by cases h) groupSerial_row_tie rfl ⟨rfl,rfl⟩ (by kernel_rfl) rfl
  (fun f fn hf hfn=>by
   obtain rfl:f=5:=Option.some.inj ((show Tryz.prog.funcNamed Rows.groupSerialRow.func=some 5 by kernel_rfl).symm.trans hf) |>.symm
   obtain rfl:fn=Tryz.f5:=(Option.some.inj (Tryz.func5.symm.trans hfn)).symm
   exact ⟨by kernel_rfl,fun j t ht=>by
    have hall:(Tryz.f5.params.toList.all fun u=>!Tryz.prog.wantsStandIn u)=true:=by kernel_rfl
    exact (show Tryz.prog.wantsStandIn t=false by simpa using List.all_eq_true.1 hall t (by simpa using Array.mem_of_getElem? ht))⟩)
  (by kernel_rfl)
#print axioms card_holds
end Go.Proofs.YtcldpmkhpmlcbaaGreatDoor.lawGroupSerial
