/- Lemmas for the claim, no condition. -/
import Derived.Test.YtjdigpfipmckhaaGreatYChHas0
import Derived.Test.YtjdigpfipmckhaaGreatYChHas4
import Derived.Test.YtjdigpfipmckhaaGreatYChHas3
namespace Go.Proofs.YtjdigpfipmckhaaGreat
open Go Go.RowKit Go.Maps
theorem Blk.set3 {w:World} {B:Nat} {a b c:Value} {e:TypeId} (h:Blk w B #[a,b,c] e)(x0 x1 x2:Value):Blk (((w.setCell ⟨B,0,none⟩ x0).setCell ⟨B,1,none⟩ x1).setCell ⟨B,2,none⟩ x2) B #[x0,x1,x2] e:=((h.set_to (cs':=#[x0,b,c]) 0 x0 rfl).set_to (cs':=#[x0,x1,c]) 1 x1 rfl).set_to 2 x2 rfl
theorem isEmpty_ba (b:ByteArray):b.toList.isEmpty=decide (b=⟨#[]⟩):=by
 by_cases h:b=⟨#[]⟩
 ·subst h;simp[ByteArray.toList_eq]
 ·rw[decide_eq_false h];cases hb:b.toList.isEmpty with
  | false=>rfl
  | true =>
   refine absurd ?_ h;rw[List.isEmpty_iff,ByteArray.toList_eq]at hb;obtain⟨⟨d⟩⟩:=b;simp only at hb;subst hb;rfl
def usetF (s:P3):P3:=s
def viaF (b:ByteArray)(s:P3):P3:=⟨s.t,s.i,b⟩
set_option maxRecDepth 100000 in
set_option maxHeartbeats 1600000 in
theorem userset_any (s:P3)(w:World):Calls Tryz.prog 109 #[pV s] w fun e w'=>e = .returned (.tuple #[pV (usetF s),.bool (decide (s.r≠⟨#[]⟩))])/\Ext w w':=by
 obtain⟨st,si,sr⟩:=s;have hx1:Ext w ((w.alloc (.cells #[.string st,.string si,.string sr] 63)).alloc (.cells #[.string ⟨#[]⟩,.string ⟨#[]⟩,.string ⟨#[]⟩] 30)):=(Ext.alloc w _).trans (Ext.alloc _ _);have HS1:=h! ((Blk.made w #[.string st,.string si,.string sr] 63).alloc (.cells #[.string ⟨#[]⟩,.string ⟨#[]⟩,.string ⟨#[]⟩] 30));have HP1:=h! (Blk.made' (w:=w.alloc (.cells #[.string st,.string si,.string sr] 63)) (B:=w.heap.size+1) (by simp) #[.string ⟨#[]⟩,.string ⟨#[]⟩,.string ⟨#[]⟩] 30);have HX1:=h! hx1;clear hx1;unfold pV usetF;dsimp only;go_enter Tryz.func109,Tryz.ntmps109
 go_wp2_with fail
 obtain⟨wd,hwd⟩:∃ wd,wd=((w.alloc (.cells #[.string st,.string si,.string sr] 63)).alloc (.cells #[.string ⟨#[]⟩,.string ⟨#[]⟩,.string ⟨#[]⟩] 30)).drew:=⟨_,rfl⟩;have HSd:=h! (show Blk wd w.heap.size _ _ from by rw[hwd];exact HS1.out.drew);have HPd:=h! (show Blk wd (w.heap.size+1) _ _ from by rw[hwd];exact HP1.out.drew);have HXd:=h! (show Ext w wd from by rw[hwd];exact HX1.out.trans (Ext.drew _));refine region_walkN (Kept (· ≠ w.heap.size+1) wd) (by rw[<- hwd];exact Kept.refl _ _) (by kernel_rfl) (by kernel_rfl) (fun _ _ d _ _ h=>by cases d <;> exact h) ?_;rw[<- hwd];clear hwd HS1 HP1 HX1;have h1:=fun W (h:Kept (· ≠ w.heap.size+1) wd W)=>(h.blk HSd.out (by show w.heap.size≠w.heap.size+1;omega)).cells;(refine WalkN.tk [0,1,2,3,4,5,6,7] ?_;(iterate 8 ((refine TkN.c _ ?_ (by simp only[gA,gS,gZ];rfl) (by kernel_rfl) (by kernel_rfl) (by rfl) (fun W hW=>?_) ?_;rotate_left;· (go_simp;try with_reducible rfl));simp only[Act.put,pA,pZ,pS]));refine TkN.n ?_)
 have hbf:=HPd.out.cells;have hbz:=HPd.out.free;refine WalkN.one 8 (by kernel_rfl) ?_;refine⟨_,(by simp only[gA,gS,gZ];rfl),by rfl,fun K hK=>?_⟩;go_simp;refine hK.out _ _ ((((Kept.refl _ wd).set (fun h=>h rfl) _).set (fun h=>h rfl) _).set (fun h=>h rfl) _) ?_;clear hK hbf hbz;have HPe:=h! (HPd.out.set3 (.string st) (.string si) (.string sr));have HXe:=h! (show Below w.heap.size w _ from(((HXd.out:Below _ _ _).setCell (by show w.heap.size<=w.heap.size+1;omega) (.string st) (p:=⟨w.heap.size+1,0,none⟩)).setCell (by show w.heap.size<=w.heap.size+1;omega) (.string si) (p:=⟨w.heap.size+1,1,none⟩)).setCell (by show w.heap.size<=w.heap.size+1;omega) (.string sr) (p:=⟨w.heap.size+1,2,none⟩));((refine WalkN.take 9 _ ?_ (by simp only[gA,gS,gZ];rfl) (by kernel_rfl) (by kernel_rfl) (by rfl) (fun W hW=>?_) ?_;rotate_left;· (go_simp;try with_reducible rfl));simp only[Act.put,pA,pZ,pS])
 refine WalkN.done (by kernel_rfl) ?_;clear h1;go_wp2_with fail
 refine bodyPost_ret (v := .tuple #[.agg #[.string st,.string si,.string sr],.bool _]) ?_ rfl ⟨rfl,HXe.out⟩;rw[results_cell_tmp rfl];have hl:=run_loadVar_row (P:=Tryz.prog) _ (w.heap.size+1) _ 30 _ _ _ HPe.out Tryz.underlying30 rfl (by kernel_rfl);simp[asAddr,hl,Result.andThen,isEmpty_ba]
set_option maxRecDepth 100000 in
set_option maxHeartbeats 1600000 in
theorem form1_any (rb:Nat)(k:Int)(a b:ByteArray)(pv:Value)(s:P3)(w:World)(hr:Blk w rb #[.int .i64 k,.string a,.string b,pv] 98):Calls Tryz.prog 110 #[pV s,.pointer (some ⟨rb,0,none⟩)] w fun e w'=>e = .returned (.tuple #[pV (viaF b s),.bool (decide (s.r=⟨#[]⟩))])/\Ext w w':=by
 obtain⟨st,si,sr⟩:=s;have hx1:Ext w ((w.alloc (.cells #[.string st,.string si,.string sr] 63)).alloc (.cells #[.string ⟨#[]⟩,.string ⟨#[]⟩,.string ⟨#[]⟩] 30)):=(Ext.alloc w _).trans (Ext.alloc _ _);have HS1:=h! ((Blk.made w #[.string st,.string si,.string sr] 63).alloc (.cells #[.string ⟨#[]⟩,.string ⟨#[]⟩,.string ⟨#[]⟩] 30));have HP1:=h! (Blk.made' (w:=w.alloc (.cells #[.string st,.string si,.string sr] 63)) (B:=w.heap.size+1) (by simp) #[.string ⟨#[]⟩,.string ⟨#[]⟩,.string ⟨#[]⟩] 30);have HX1:=h! hx1;have HR1:=h! (hr.below hx1);have HRL:=h! hr.lt;clear hx1 hr;unfold pV viaF;dsimp only;go_enter Tryz.func110,Tryz.ntmps110
 go_wp2_with fail
 obtain⟨wd,hwd⟩:∃ wd,wd=((w.alloc (.cells #[.string st,.string si,.string sr] 63)).alloc (.cells #[.string ⟨#[]⟩,.string ⟨#[]⟩,.string ⟨#[]⟩] 30)).drew:=⟨_,rfl⟩;have HSd:=h! (show Blk wd w.heap.size _ _ from by rw[hwd];exact HS1.out.drew);have HRd:=h! (show Blk wd rb _ _ from by rw[hwd];exact HR1.out.drew);have HPd:=h! (show Blk wd (w.heap.size+1) _ _ from by rw[hwd];exact HP1.out.drew);have HXd:=h! (show Ext w wd from by rw[hwd];exact HX1.out.trans (Ext.drew _));refine region_walkN (Kept (· ≠ w.heap.size+1) wd) (by rw[<- hwd];exact Kept.refl _ _) (by kernel_rfl) (by kernel_rfl) (fun _ _ d _ _ h=>by cases d <;> exact h) ?_;rw[<- hwd];clear hwd HS1 HP1 HX1 HR1;have h1:=fun W (h:Kept (· ≠ w.heap.size+1) wd W)=>(h.blk HSd.out (by show w.heap.size≠w.heap.size+1;omega)).cells;have h2:=fun W (h:Kept (· ≠ w.heap.size+1) wd W)=>(h.blk HRd.out (by show rb≠w.heap.size+1;have:=HRL.out;omega)).cells;(refine WalkN.tk [0,1,2,3,4,5,6,7] ?_;(iterate 8 ((refine TkN.c _ ?_ (by simp only[gA,gS,gZ];rfl) (by kernel_rfl) (by kernel_rfl) (by rfl) (fun W hW=>?_) ?_;rotate_left;· (go_simp;try with_reducible rfl));simp only[Act.put,pA,pZ,pS]));refine TkN.n ?_)
 have hbf:=HPd.out.cells;have hbz:=HPd.out.free;refine WalkN.one 8 (by kernel_rfl) ?_;refine⟨_,(by simp only[gA,gS,gZ];rfl),by rfl,fun K hK=>?_⟩;go_simp;refine hK.out _ _ ((((Kept.refl _ wd).set (fun h=>h rfl) _).set (fun h=>h rfl) _).set (fun h=>h rfl) _) ?_;clear hK hbf hbz;have HPe:=h! (HPd.out.set3 (.string st) (.string si) (.string b));have HXe:=h! (show Below w.heap.size w _ from(((HXd.out:Below _ _ _).setCell (by show w.heap.size<=w.heap.size+1;omega) (.string st) (p:=⟨w.heap.size+1,0,none⟩)).setCell (by show w.heap.size<=w.heap.size+1;omega) (.string si) (p:=⟨w.heap.size+1,1,none⟩)).setCell (by show w.heap.size<=w.heap.size+1;omega) (.string b) (p:=⟨w.heap.size+1,2,none⟩));((refine WalkN.take 9 _ ?_ (by simp only[gA,gS,gZ];rfl) (by kernel_rfl) (by kernel_rfl) (by rfl) (fun W hW=>?_) ?_;rotate_left;· (go_simp;try with_reducible rfl));simp only[Act.put,pA,pZ,pS])
 refine WalkN.done (by kernel_rfl) ?_;clear h1 h2;go_wp2_with fail
 refine bodyPost_ret (v := .tuple #[.agg #[.string st,.string si,.string b],.bool _]) ?_ rfl ⟨rfl,HXe.out⟩;rw[results_cell_tmp rfl];have hl:=run_loadVar_row (P:=Tryz.prog) _ (w.heap.size+1) _ 30 _ _ _ HPe.out Tryz.underlying30 rfl (by kernel_rfl);simp[asAddr,hl,Result.andThen,isEmpty_ba]
def selF (ok:P3->Bool)(f:P3->P3)(l:List P3):List P3:=(l.filter ok).map f
theorem setsOf_sel (l:List P3):setsOf l=selF (fun s=>decide (s.r≠⟨#[]⟩)) usetF l:=by
 unfold setsOf selF;rw[show(usetF:P3->P3)=id from rfl,List.map_id]
theorem viaOf_sel (b:ByteArray)(l:List P3):viaOf b l=selF (fun s=>decide (s.r=⟨#[]⟩)) (viaF b) l:=rfl
theorem selF_yes {ok:P3->Bool} {f:P3->P3} {l:List P3} {i:Nat} (hi:i<l.length)(h:ok l[i]=true):selF ok f (l.take (i+1))=selF ok f (l.take i)++[f l[i]]:=by
 unfold selF;rw[List.take_succ_eq_append_getElem hi,List.filter_append,List.map_append];simp[h]
theorem selF_no {ok:P3->Bool} {f:P3->P3} {l:List P3} {i:Nat} (hi:i<l.length)(h:ok l[i]=false):selF ok f (l.take (i+1))=selF ok f (l.take i):=by
 unfold selF;rw[List.take_succ_eq_append_getElem hi,List.filter_append];simp[h]
theorem selF_len (ok:P3->Bool)(f:P3->P3)(l:List P3):(selF ok f l).length<=l.length:=by
 unfold selF;rw[List.length_map];exact List.length_filter_le _ _
theorem putP_len (ps:List P3)(p:P3):(putP ps p).length<=ps.length+1:=by
 unfold putP;split
 ·omega
 ·simp
theorem refsD_len2:∀ (l ps:List P3)(out:List Int),(refsD ps out l).2.length<=ps.length+l.length
 | [],ps,_=>by simp[refsD]
 | p::l,ps,out=>by
  rw[refsD];have h1:=refsD_len2 l (putP ps p) (if (numD ps p:Int)∈out then out else out++[(numD ps p:Int)]);have h2:=putP_len ps p;rw[List.length_cons];omega
theorem refsD_len1:∀ (l ps:List P3)(out:List Int),(refsD ps out l).1.length<=out.length+l.length
 | [],ps,_=>by simp[refsD]
 | p::l,ps,out=>by
  rw[refsD];have h1:=refsD_len1 l (putP ps p) (if (numD ps p:Int)∈out then out else out++[(numD ps p:Int)])
  have h2:(if (numD ps p:Int)∈out then out else out++[(numD ps p:Int)]).length<=out.length+1:=by
   split
   ·omega
   ·simp
  rw[List.length_cons];omega
set_option maxRecDepth 100000 in
set_option maxHeartbeats 3000000 in
theorem refs_any (wp am B:Nat)(tv fi sm pv fv:Value)(ps:List P3)(S:Nat->Prop)(lv:Value)(l:List P3)(g:Nat)(cap:Array Value)(eg:∀ args W,(callFunc g args).run Tryz.prog W = .ok (.enter g args) W)(f:P3->P3)(ok:P3->Bool)(w:World)(h:WkAt w wp am B tv fi sm ps pv fv)(hB:B<=wp/\B<=am)
  (hl:Sl S w 3 lv (pcs l)) (hS:∀ b,S b->KX wp am w pv b) (hok:∀ s∈l,(f s).Ok) (hf:∀ s∈l,∀ W,Kept (KX wp am w pv) w W->Calls Tryz.prog g (#[pV s]++cap) W fun e W'=>e = .returned (.tuple #[pV (f s),.bool (ok s)])/\Ext W W') (hn:ps.length+l.length<=1073741824) :
  Calls Tryz.prog 108 #[.pointer (some ⟨wp,0,none⟩),lv,.func (.func g) #[] cap] w fun e w'=>∃ v pv',e = .returned v/\Own w' w.heap.size 3 1 v (ic (refsD ps [] (selF ok f l)).1)/\WkAt w' wp am B tv fi sm (refsD ps [] (selF ok f l)).2 pv' fv/\Fine wp am w w' pv pv':=by
 have HBB:=h! hB;have HB0:=h! (show B<=w.heap.size from by have:=h.box.lt;omega);have HOK:=h! hok;have HF:=h! hf;have HN:=h! hn;have HSL:=h! hl;have HS:=h! hS;have HW:=h! h;obtain⟨ao,c,rfl,hlc,hcm,-⟩:=Sl.rows pC_length (by decide) (show Sl S w 3 lv (l.flatMap pC)from hl);clear hB hok hf hn hl hS h;go_enter Tryz.func108,Tryz.ntmps108
 go_wp2_with fail
 go_loopw [7,15] (fun ov iv wr=>∃ (i:Nat) (pv':Value),i<=l.length/\iv = .int .i64 i/\Own wr w.heap.size 3 1 ov (ic (refsD ps [] (selF ok f (l.take i))).1)/\WkAt wr wp am B tv fi sm (refsD ps [] (selF ok f (l.take i))).2 pv' fv/\Fine wp am w wr pv pv') (fun _ iv _=>l.length-(intOf iv).toNat)
 case atStart=>exact⟨0,pv,Nat.zero_le _,rfl,Own.nil _ _ _ _,HW.out,Fine.of _ _ _ (Ext.refl _)⟩
 case round =>
  obtain⟨i,pv',hi,rfl,hown,hwk,hpk⟩:=hrel;have HOWN:=h! hown;have HWK:=h! hwk;have HPK:=h! hpk;clear hown hwk hpk;by_cases hlt:i<l.length
  ·obtain⟨ao',c',he',-,-,hcell⟩:=Sl.rows pC_length (by decide) (show Sl S wr 3 (.slice ao l.length c) (l.flatMap pC)from HSL.out.same fun b hb=>HPK.out.kept.block b (HS.out b hb));cases he';obtain⟨b,off,rfl,-,hcell⟩:=hcell (by omega);have hck:=hcell i hlt;clear hcell;have HYES:=h! (selF_yes (ok:=ok) (f:=f) hlt);have HNO:=h! (selF_no (ok:=ok) (f:=f) hlt);have HFS:=h! (HF.out l[i] (List.getElem_mem hlt));have HOKS:=h! (HOK.out l[i] (List.getElem_mem hlt));have HTK:=h! (show(selF ok f (l.take i)).length<=i from Nat.le_trans (selF_len _ _ _) (by rw[List.length_take];omega));have HL2:=h! (refsD_len2 (selF ok f (l.take i)) ps []);have HL1:=h! (refsD_len1 (selF ok f (l.take i)) ps []);have HSN:=h! (fun p=>refsD_snoc (selF ok f (l.take i)) ps [] p);generalize selF ok f (l.take i)=sl at *;have HLT:=h! hlt;generalize l[i]=s at *;generalize hq:f s=q at *;generalize hr:refsD ps [] sl=r at *;obtain⟨ro,rp⟩:=r;dsimp only at HOWN HWK HL1 HL2 HSN;obtain⟨st,si,sr⟩:=s;obtain⟨qt,qi,qr⟩:=q;have c0:wr.cell? ⟨b,off+i*3,none⟩=some (.string st):=hck 0 _ rfl;have c1:=hck 1 _ rfl;have c2:=hck 2 _ rfl;have HRD:=h! hr;clear hck hr hq;have hx1:=Ext.alloc wr (.cells #[.string st,.string si,.string sr] 63);have HX1:=h! hx1;have HCF:=h! (HFS.out _ (HPK.out.trans (Fine.of _ _ _ hx1)).kept);clear hx1 HFS;unfold pV at HCF;dsimp only at HCF;cases hokq:ok ⟨st,si,sr⟩ with
   | false =>
    rw[hokq]at HCF HNO HYES;have HNO2:=h! (HNO.out rfl);clear HYES HNO hokq;go_wp2_with fail
    refine HCF.out.mono ?_;rintro e w2 ⟨rfl,hx2⟩;have HX2:=h! (show Ext wr w2 from HX1.out.trans hx2);have HX3:=h! (Ext.alloc w2 (.cells #[.string qt,.string qi,.string qr] 30));clear HCF hx2 c0 c1 c2;go_wp2_with fail
    go_roundw
    case rel=>exact⟨i+1,pv',HLT.out,by go_num,by rw[HNO2.out,HRD.out];exact HOWN.out.below (HX2.out.trans HX3.out),by rw[HNO2.out,HRD.out];exact HWK.out.ext (HX2.out.trans HX3.out),HPK.out.trans (Fine.of _ _ _ (HX2.out.trans HX3.out))⟩
    case measure=>have:=HLT.out;simp[intOf];omega
   | true =>
    rw[hokq]at HCF HNO HYES;have HYE2:=h! (HYES.out rfl);clear HYES HNO hokq;go_wp2_with fail
    refine HCF.out.mono ?_;rintro e w2 ⟨rfl,hx2⟩;have HX2:=h! (show Ext wr w2 from HX1.out.trans hx2);have HX3:=h! (Ext.alloc w2 (.cells #[.string qt,.string qi,.string qr] 30));have HP3:=h! (Blk.made w2 #[.string qt,.string qi,.string qr] 30);obtain⟨w3,hw3⟩:∃ w3,w3=w2.alloc (.cells #[.string qt,.string qi,.string qr] 30):=⟨_,rfl⟩;have HNB:=h! (number_any wp am B tv fi sm pv' fv rp ⟨qt,qi,qr⟩ w3 HOKS.out (by rw[hw3];exact HWK.out.ext (HX2.out.trans HX3.out)) HBB.out (by have:=HL2.out;have:=HTK.out;have:=HN.out;have:=HLT.out;omega));have HO3:=h! (show Own w3 w.heap.size 3 1 u7 (ic ro)from by rw[hw3];exact HOWN.out.below (HX2.out.trans HX3.out));have HNM3:=h! (show WkAt w3 wp am B tv fi sm rp pv' fv from by rw[hw3];exact HWK.out.ext (HX2.out.trans HX3.out));have HPK3:=h! (show Fine wp am w w3 pv pv' from by rw[hw3];exact HPK.out.trans (Fine.of _ _ _ (HX2.out.trans HX3.out)));subst hw3;clear HCF hx2 c0 c1 c2;unfold pV at HNB;dsimp only at HNB;go_wp2_with fail
    refine HNB.out.mono ?_;rintro e w4 ⟨pv4,rfl,hwk4,hpk4⟩;have HWK4:=h! hwk4;have HO4:=h! (hpk4.row HNM3.out HO3.out (by decide) (by decide));have HPK4:=h! (HPK3.out.trans hpk4);have HCI:=h! (containsI_any u7 ro (numD rp ⟨qt,qi,qr⟩:Nat) w4 HO4.out.sl);have HSNQ:=h! (HSN.out ⟨qt,qi,qr⟩);clear HNB hwk4 hpk4 HO3 HNM3 HPK3 HX2 HX3 HP3;generalize numD rp ⟨qt,qi,qr⟩=nu at *;obtain⟨ao2,n2,c2,rfl,hn2,-,-⟩:=HO4.out.sl.len;by_cases hm:(nu:Int)∈ro
    ·rw[if_pos hm]at HSNQ;rw[decide_eq_true hm]at HCI;clear hm;go_wp2_with fail
     refine HCI.out.mono ?_;rintro e w5 ⟨rfl,rfl⟩;go_wp2_with fail
     go_roundw
     case rel=>exact⟨i+1,pv4,HLT.out,by go_num,by rw[HYE2.out,HSNQ.out];exact HO4.out,by rw[HYE2.out,HSNQ.out];exact HWK4.out,HPK4.out⟩
     case measure=>have:=HLT.out;simp[intOf];omega
    ·rw[if_neg hm]at HSNQ;rw[decide_eq_false hm]at HCI;clear hm;go_wp2_with fail
     refine HCI.out.mono ?_;rintro e w5 ⟨rfl,rfl⟩;have HX5:=h! (Ext.alloc w5 (.cells #[.int .i64 nu] 3));clear HCI;go_wp2_with (at_builtin;go_must (refine wpList_ownw intsT rfl (.tmp 34) (.tmp 36) rfl rfl (HO4.out.below HX5.out) rfl (m:=1) (news:=[.int .i64 nu]) rfl (by intro j u hu;rw[Addr.add_lit,cell_of_row _ w5.heap.size (0+j) #[.int .i64 nu] 3 (0,0) (heap_alloc_new w5 _)];simpa using hu) (by simp[Value.oneCell']) (by have:=HL1.out;have:=HTK.out;have:=HN.out;have:=HLT.out;rw[ic_length];simp at *;omega) (by have:=HL1.out;have:=HTK.out;have:=HN.out;have:=HLT.out;rw[ic_length];simp at *;omega) (by have:=HPK4.out.size;have:=HX5.out.size;omega) ?_;intro v6 w6 hown6 hb6 hg6;have HO6:=h! (show Own w6 w.heap.size 3 1 v6 (ic (ro++[(nu:Int)]))from by rw[ic_append];exact hown6);have HWK6:=h! ((HWK4.out.ext HX5.out).grown (HO4.out.below HX5.out) (by decide) (by decide) hg6);have HPK6:=h! ((HPK4.out.trans (Fine.of _ _ _ HX5.out)).own (HO4.out.below HX5.out) hg6);clear hown6 hb6 hg6))
     go_roundw
     case rel=>exact⟨i+1,pv4,HLT.out,by go_num,by rw[HYE2.out,HSNQ.out];exact HO6.out,by rw[HYE2.out,HSNQ.out];exact HWK6.out,HPK6.out⟩
     case measure=>have:=HLT.out;simp[intOf];omega
  ·obtain rfl:i=l.length:=by omega
   have HTA:=h! (show l.take l.length=l from List.take_length);rw[HTA.out]at HOWN HWK;obtain⟨ao2,n2,c2,rfl,-,-,-⟩:=HOWN.out.sl.len;go_wp2_with fail
   go_ret
   exact⟨_,pv',rfl,HOWN.out,HWK.out,HPK.out⟩
theorem formsT:ElemT Tryz.prog 35 90 4 80:=ElemT.mk' Tryz.underlying35 (show _=some (some (.agg #[.int .i64 0,.slice none 0 0,.slice none 0 0,.slice none 0 0]),4,80)by kernel_rfl) rfl (by decide)
theorem fCs_length (q:List (FT × FV3)):(q.flatMap fC).length=q.length*4:=by rw[flat_length fC_length]
theorem Blk.put4 {w:World} {B:Nat} {a b c d:Value} {e:TypeId} (h:Blk w B #[a,b,c,d] e)(x0 x1 x2 x3:Value):Blk ((((w.setCell ⟨B,0,none⟩ x0).setCell ⟨B,1,none⟩ x1).setCell ⟨B,2,none⟩ x2).setCell ⟨B,3,none⟩ x3) B #[x0,x1,x2,x3] e:=(((h.set_to (cs':=#[x0,b,c,d]) 0 x0 rfl).set_to (cs':=#[x0,x1,c,d]) 1 x1 rfl).set_to (cs':=#[x0,x1,x2,d]) 2 x2 rfl).set_to 3 x3 rfl
theorem Own.lit1 (w:World) {B:Nat} (hB:B<=w.heap.size)(e:TypeId)(x:Value):Own (w.alloc (.cells #[x] e)) B e 1 (.slice (some ⟨w.heap.size,0,none⟩) 1 1) [x] :=
 ⟨1,by simp,.inr ⟨w.heap.size,1,#[x],rfl,hB,heap_alloc_new w _,Nat.le_refl _,by unfold maxLen;omega,by simp,by simp⟩⟩
theorem headF_len (T:List Tup)(p:P3)(k:Int)(a b:ByteArray)(ps:List P3):(headF T p k a b ps).2.2.length<=ps.length+(T.length+1):=by
 have hs:∀ q,(subsOf T q).length<=T.length:=fun q=>by
  unfold subsOf;rw[List.length_map];exact List.length_filter_le _ _
 unfold headF;split
 ·have h1:=refsD_len2 (setsOf (subsOf T p)) ps [];have h2:=selF_len (fun s=>decide (s.r≠⟨#[]⟩)) usetF (subsOf T p);rw[<- setsOf_sel]at h2;have h3:=hs p;simp only;omega
 ·split
  ·have:=putP_len ps ⟨p.t,p.i,a⟩;simp only;omega
  ·split
   ·have h1:=refsD_len2 (viaOf b (subsOf T ⟨p.t,p.i,a⟩)) ps [];have h2:=selF_len (fun s=>decide (s.r=⟨#[]⟩)) (viaF b) (subsOf T ⟨p.t,p.i,a⟩);rw[<- viaOf_sel]at h2;have h3:=hs ⟨p.t,p.i,a⟩;simp only;omega
   ·simp only;omega
theorem formD_len (T:List Tup)(p:P3)(r:RT):∀ ps:List P3,(formD T p r ps).2.length<=ps.length+r.sz*(T.length+1):=by
 induction r using RT.ind with
 | h r ih =>
  intro ps;rw[formD_eq,RT.sz_eq]
  have:∀ (l:List RT) (qs:List P3),(∀ x∈l,x∈r.ps)->(formsD T p l qs).2.length<=qs.length+szL l*(T.length+1):=by
   intro l;induction l with
   | nil=>intro qs _;simp[formsD]
   | cons x l ihl =>
    intro qs hx;rw[formsD,szL];have h1:=ihl (formD T p x qs).2 fun y hy=>hx y (List.mem_cons_of_mem _ hy);have h2:=ih x (hx x (by simp)) qs;rw[Nat.add_mul];simp only;omega
  have h1:=this r.ps (headF T p r.k r.a r.b ps).2.2 fun _ h=>h;have h2:=headF_len T p r.k r.a r.b ps;rw[Nat.add_mul];simp only;omega
theorem formsD_len (T:List Tup)(p:P3):∀ (l:List RT)(qs:List P3),(formsD T p l qs).2.length<=qs.length+szL l*(T.length+1)
 | [],qs=>by simp[formsD]
 | x::l,qs=>by
  rw[formsD,szL];have h1:=formsD_len T p l (formD T p x qs).2;have h2:=formD_len T p x qs;rw[Nat.add_mul];simp only;omega
theorem szL_many:∀ l:List RT,l.length<=szL l
 | []=>by simp[szL]
 | r::l=>by
  have:=szL_many l;have h:=r.sz_eq;rw[szL,List.length_cons];omega
theorem szL_take_le:∀ (l:List RT)(i:Nat),szL (l.take i)<=szL l
 | [],i=>by simp
 | r::l,0=>by simp[szL]
 | r::l,i+1=>by
  have:=szL_take_le l i;rw[List.take_succ_cons,szL,szL];omega
theorem form_room {T:List Tup} {p:P3} {k:Int} {a b:ByteArray} {parts:List RT} {ps:List P3} {n:Nat} {N:Nat} (h:ps.length+(RT.mk k a b parts).sz*(T.length+1)<=N)(i:Nat)(hi:i<parts.length):(formsD T p (parts.take i) (headF T p k a b ps).2.2).2.length+parts[i].sz*(T.length+1)<=N:=by
 rw[RT.sz_eq]at h;have h1:=formsD_len T p (parts.take i) (headF T p k a b ps).2.2;have h2:=headF_len T p k a b ps;have h3:=szL_take hi;have h4:=szL_take_le parts (i+1);have h5:szL (parts.take (i+1))*(T.length+1)<=szL parts*(T.length+1):=Nat.mul_le_mul_right _ h4;rw[h3,Nat.add_mul]at h5;rw[Nat.add_mul]at h;simp only[RT.ps]at h;omega
structure FmAt (w:World)(lo x:Nat)(k:Int)(subs:List P3)(refs:List Int)(q:List (FT × FV3))(sv rv qv:Value):Prop where
 box:Blk w x #[.int .i64 k,sv,rv,qv] 90
 subs:Own w lo 63 3 sv (pcs subs)
 refs:Own w lo 3 1 rv (ic refs)
 parts:FRow lo w q qv
section
variable {w w' : World} {lo x wp am B : Nat} {k : Int} {subs : List P3} {refs : List Int} {q : List (FT × FV3)} {sv rv qv tv fi sm pv fv pv' : Value} {ps : List P3}
theorem FmAt.fine (h:FmAt w lo x k subs refs q sv rv qv)(hw:WkAt w wp am B tv fi sm ps pv fv)(hf:Fine wp am w w' pv pv')(hB:B<=wp/\B<=am)(hM:wp<lo/\am<lo):FmAt w' lo x k subs refs q sv rv qv :=
 ⟨hf.blk hw h.box (by decide) (by decide),hf.row hw h.subs (by decide) (by decide),hf.row hw h.refs (by decide) (by decide),h.parts.keep (hf.pk hw hB) fun x hx=>by
  rcases hx with rfl | rfl
  ·exact hM.1
  ·exact hM.2⟩
theorem FmAt.ext (h:FmAt w lo x k subs refs q sv rv qv)(hx:Ext w w'):FmAt w' lo x k subs refs q sv rv qv:=⟨h.box.below hx,h.subs.below hx,h.refs.below hx,h.parts.ext hx⟩
theorem FmAt.add {w2 w3 w4:World} {y:FT × FV3} {v':Value} {n0:Nat} (h:FmAt w2 lo x k subs refs q sv rv qv)(hx3:Ext w2 w3)(hg:w3.grownBy w4 qv.ownBlock)(ho:Own w4 lo 90 4 v' (q.flatMap fC++fC y))
  (hb:∀ g,v'.ownBlock=some g->qv.ownBlock=some g\/w3.heap.size<=g) (hy:FTAt (FS n0 w2) w2 y.1 y.2) (hn0:lo<=n0) (hpv:∀ g,qv.ownBlock=some g->g<n0) (hxl:x<lo):FmAt (w4.setCell ⟨x,3,none⟩ v') lo x k subs refs (q++[y]) sv rv v':=by
 have hb4:Blk w4 x #[.int .i64 k,sv,rv,qv] 90:=(hg.block x (h.box.below hx3).lt fun e=>by have:=(h.parts.row.block x e.symm).1;omega).trans (h.box.below hx3);have hq3:=h.parts.row.below hx3;refine⟨hb4.set_to 3 v' rfl,?_,?_,?_⟩
 ·exact Own.setBox (x:=x) ((h.subs.below hx3).keepOwn fun g hgs=>hg.block g ((h.subs.below hx3).block g hgs).2 fun e=>(h.subs.below hx3).apart hq3 (by decide) hgs e.symm) hb4 (by decide) _
 ·exact Own.setBox (x:=x) ((h.refs.below hx3).keepOwn fun g hgs=>hg.block g ((h.refs.below hx3).block g hgs).2 fun e=>(h.refs.below hx3).apart hq3 (by decide) hgs e.symm) hb4 (by decide) _
 ·refine FRow.above (h.parts.add (w3:=w4) (fun b h1 h2=>(hg.block b (Nat.lt_of_lt_of_le h1 hx3.size) fun e=>h2 e.symm).trans (hx3.block b h1)) (Nat.le_trans hx3.size hg.size) ho (fun g hg'=>(hb g hg').imp id fun e=>Nat.le_trans hx3.size e) hy hn0 hpv) (fun b hb _=>Below.heap_setCell _ _ _ b (by show b≠x;omega)) (by simp)
theorem FmAt.setSubs {s2:List P3} {sv':Value} (h:FmAt w lo x k subs refs q sv rv qv)(hs:Own w lo 63 3 sv' (pcs s2))(hx:x<lo):FmAt (w.setCell ⟨x,1,none⟩ sv') lo x k s2 refs q sv' rv qv :=
 ⟨h.box.set_to 1 sv' rfl,hs.setBox (x:=x) h.box (by decide) _,h.refs.setBox (x:=x) h.box (by decide) _,FRow.above h.parts (fun b hb _=>Below.heap_setCell _ _ _ b (by show b≠x;omega)) (by simp)⟩
theorem FmAt.setRefs {r2:List Int} {rv':Value} (h:FmAt w lo x k subs refs q sv rv qv)(hs:Own w lo 3 1 rv' (ic r2))(hx:x<lo):FmAt (w.setCell ⟨x,2,none⟩ rv') lo x k subs r2 q sv rv' qv :=
 ⟨h.box.set_to 2 rv' rfl,h.subs.setBox (x:=x) h.box (by decide) _,hs.setBox (x:=x) h.box (by decide) _,FRow.above h.parts (fun b hb _=>Below.heap_setCell _ _ _ b (by show b≠x;omega)) (by simp)⟩
theorem formsD_len1 (T:List Tup)(p:P3):∀ (l:List RT)(qs:List P3),(formsD T p l qs).1.length=l.length
 | [],qs=>rfl
 | x::l,qs=>by rw[formsD,List.length_cons,List.length_cons,formsD_len1 T p l]
theorem FmAt.done {r:FT} (h:FmAt w lo x k subs refs q sv rv qv)(hr:r = .mk k subs refs (q.map (·.1)))(hs:∀ b,lo<=b->b<w.heap.size->w'.heap[b]?=w.heap[b]?)(hz:w.heap.size<=w'.heap.size):FTAt (FS lo w') w' r (sv,rv,qv):=by
 have hsame:Same (FS lo w) w w':=fun b hb=>hs b hb.1 hb.2.1;have hmono:∀ b,FS lo w b->FS lo w' b:=fun b hb=>⟨hb.1,Nat.lt_of_lt_of_le hb.2.1 hz,fun cs=>by rw[hs b hb.1 hb.2.1];exact hb.2.2 cs⟩;refine(FTAt.iff _ _).2 ?_;subst hr;refine⟨((h.subs.fs (by decide)).same hsame).mono hmono,((h.refs.fs (by decide)).same hsame).mono hmono,q,rfl,fun y hy=>?_,((h.parts.row.fs (by decide)).same hsame).mono hmono⟩;exact(((h.parts.parts y hy).mono fun b hb=>hb.1).same hsame).mono hmono
end
set_option maxRecDepth 100000 in
set_option maxHeartbeats 8000000 in
theorem form_any (wp am B b:Nat)(tv sm fv:Value)(T:List Tup)(p:P3)(wb:World)(hp:p.Ok)(hT:∀ t∈T,t.s.Ok)(hTl:T.length<=1000000)(hB:B<=wp/\B<=am)(hbk:BookAt wb b T)(hwb:wb.heap.size<=B)(r:RT):∀ (pv rpv:Value)(ps:List P3)(w:World),r.Ok->RTAt (· < B) w r rpv->Below B wb w->WkAt w wp am B tv (bkV b) sm ps pv fv->ps.length+r.sz*(T.length+1)<=1073741824 ->
  Calls Tryz.prog 54 #[.pointer (some ⟨wp,0,none⟩),pV p,rV r rpv] w fun e w'=>∃ v3 pv',e = .returned (fV (formD T p r ps).1 v3)/\FTAt (FS w.heap.size w') w' (formD T p r ps).1 v3/\WkAt w' wp am B tv (bkV b) sm (formD T p r ps).2 pv' fv/\Fine wp am w w' pv pv':=by
 have HPO:=h! hp;have HTO:=h! hT;have HTL:=h! hTl;have HB:=h! hB;have HBK:=h! (fun W (h:Below B wb W)=>hbk.ext (h.mono hwb));clear hp hT hTl hB hbk hwb;obtain⟨pt,pi,pr⟩:=p;induction r using RT.ind with
 | h r ih =>
 intro pv rpv ps w hro hat hbw hwk hlen;have HFD:=h! (formD_eq T ⟨pt,pi,pr⟩ r ps);have HRO:=h! r.ok_iff;have HROK:=h! ((RT.ok_iff r).1 hro);obtain⟨k,ra,rb,parts⟩:=r;dsimp only[RT.k,RT.a,RT.b,RT.ps]at HFD ih HROK;have HIH:=h! ih;have HRT:=h! hat;have HBW:=h! hbw;have HLEN:=h! hlen;have HROOM:=h! (form_room (p:=⟨pt,pi,pr⟩) (n:=0) hlen)
 have HSUBL:=h! (show ∀ q,(subsOf T q).length<=T.length from fun q=>by
  unfold subsOf;rw[List.length_map];exact List.length_filter_le _ _)
 have HSUBO:=h! (show ∀ q,∀ s∈subsOf T q,s.Ok from fun q s hs=>by
  obtain⟨t,ht,-,rfl⟩:=subsOf_mem hs;exact HTO.out t ht)
 have HLT:=h! (show wp<w.heap.size/\am<w.heap.size from⟨hwk.box.lt,hwk.num.lt⟩)
 have HPSL:=h! (show ps.length+(T.length+1)<=1073741824 from by
  have h1:=(RT.mk k ra rb parts).sz_eq;rw[h1,Nat.add_mul]at hlen;omega)
 obtain⟨ao,c,rfl,hlc,hcm,-⟩:=hat.rows;dsimp only[RT.ps]at hlc hcm ⊢;obtain⟨wa,hwa⟩:∃ x,x=w.alloc (.cells #[.string pt,.string pi,.string pr] 30):=⟨_,rfl⟩;obtain⟨wc,hwc⟩:∃ x,x=wa.alloc (.cells #[.int .i64 k,.string ra,.string rb,.slice ao parts.length c] 98):=⟨_,rfl⟩;obtain⟨wd,hwd⟩:∃ x,x=wc.alloc (.cells #[.int .i64 0,.slice none 0 0,.slice none 0 0,.slice none 0 0] 90):=⟨_,rfl⟩;obtain⟨we,hwe⟩:∃ x,x=wd.alloc (.cells #[.int .i64 k,.slice none 0 0,.slice none 0 0,.slice none 0 0] 90):=⟨_,rfl⟩;have ea:wa.heap.size=w.heap.size+1:=by rw[hwa];simp
 have ec:wc.heap.size=w.heap.size+2:=by rw[hwc];simp[ea]
 have ed:wd.heap.size=w.heap.size+3:=by rw[hwd];simp[ec]
 have ee:we.heap.size=w.heap.size+4:=by rw[hwe];simp[ed]
 have xa:Ext w wa:=by rw[hwa];exact Ext.alloc _ _
 have xc:Ext wa wc:=by rw[hwc];exact Ext.alloc _ _
 have xd:Ext wc wd:=by rw[hwd];exact Ext.alloc _ _
 have xe:Ext wd we:=by rw[hwe];exact Ext.alloc _ _
 have EZ:=h! ee;have EX:=h! (show Ext w we from xa.trans (xc.trans (xd.trans xe)));have EP:=h! (show Blk we w.heap.size #[.string pt,.string pi,.string pr] 30 from Blk.below (by rw[hwa];exact Blk.made _ _ _) (xc.trans (xd.trans xe)));have ER:=h! (show Blk we (w.heap.size+1) #[.int .i64 k,.string ra,.string rb,.slice ao parts.length c] 98 from Blk.below (by rw[hwc,<- ea];exact Blk.made _ _ _) (xd.trans xe));have EO:=h! (show Blk we (w.heap.size+2) #[.int .i64 0,.slice none 0 0,.slice none 0 0,.slice none 0 0] 90 from Blk.below (by rw[hwd,<- ec];exact Blk.made _ _ _) xe);have EF:=h! (show FmAt we (w.heap.size+4) (w.heap.size+3) k [] [] [] (.slice none 0 0) (.slice none 0 0) (.slice none 0 0)from⟨by rw[hwe,<- ed];exact Blk.made _ _ _,Own.nil _ _ _ _,Own.nil _ _ _ _,FRow.nil _ _⟩);have EW:=h! (hwk.ext EX.out);have EB:=h! (show Below B wb we from hbw.trans (EX.out.mono (by have:=hwk.box.lt;have:=HB.out.1;omega)));have HPVB:=h! (fun g hg=>hwk.pts.block g hg);clear ea ec ed ee xa xc xd xe ih hro hat hbw hwk hlen;subst hwe hwd hwc hwa;unfold pV rV;dsimp only[RT.k,RT.a,RT.b,RT.ps]
 have four:Hid (k=1)\/Hid (k=2)\/Hid (k=3)\/Hid (k≠1/\k≠2/\k≠3):=by
  by_cases h1:k=1
  ·exact .inl h1
  ·by_cases h2:k=2
   ·exact .inr (.inl h2)
   ·by_cases h3:k=3
    ·exact .inr (.inr (.inl h3))
    ·exact .inr (.inr (.inr ⟨h1,h2,h3⟩))
 rcases four with HK | HK | HK | HK
 case' inl =>
  have q1:(k == 1)=true:=by rw[HK.out];rfl
  have hpp:=EP.out.cells;go_enter Tryz.func54,Tryz.ntmps54
  go_wp2_with fail
  clear hpp;obtain⟨we,hwe⟩:∃ x,x=(((w.alloc (.cells #[.string pt,.string pi,.string pr] 30)).alloc (.cells #[.int .i64 k,.string ra,.string rb,.slice ao parts.length c] 98)).alloc (.cells #[.int .i64 0,.slice none 0 0,.slice none 0 0,.slice none 0 0] 90)).alloc (.cells #[.int .i64 k,.slice none 0 0,.slice none 0 0,.slice none 0 0] 90):=⟨_,rfl⟩;rw[<- hwe]at EX EP ER EO EF EW EB EZ ⊢;clear hwe;have HSB:=h! (wsubs_any wp am B b tv sm pv fv T ps ⟨pt,pi,pr⟩ we HPO.out EW.out (HBK.out we EB.out) (Nat.le_trans (HSUBL.out _) (by have:=HTL.out;omega)));refine HSB.out.mono ?_;rintro e w2 ⟨v2,rfl,ho2,hx2⟩;have HSO:=h! (HSUBO.out ⟨pt,pi,pr⟩);have HSL:=h! (HSUBL.out ⟨pt,pi,pr⟩);generalize hsb:subsOf T ⟨pt,pi,pr⟩=sb at *;obtain⟨so,sn,sc,rfl,-,-,-⟩:=ho2.sl.len;have F2:=h! (EF.out.ext hx2);have W2:=h! (EW.out.ext hx2);have P2:=h! (EP.out.below hx2);have O2:=h! (EO.out.below hx2);have R2:=h! (ER.out.below hx2);have S2:=h! (ho2.low (B':=w.heap.size+4) (Nat.le_of_eq EZ.out.symm));have X2:=h! (show Ext w w2 from EX.out.trans hx2);have B2:=h! (show Below B wb w2 from EB.out.trans (hx2.mono (by have:=EZ.out;have:=HB.out.1;have:=HLT.out.1;omega)));have Z2:=h! (show w.heap.size+4<=w2.heap.size from by have:=EZ.out;have:=hx2.size;omega);clear HSB ho2 hx2 EF EW EP EO ER EB EX EZ;have hbf:=F2.out.box.cells;have hbz:=F2.out.box.free;have F3:=h! (F2.out.setSubs S2.out (by omega));have W3:=h! (W2.out.setBox (i:=1) F2.out.box (by decide) (by decide) (.slice so sn sc));have S3:=h! (S2.out.setBox (i:=1) F2.out.box (by decide) (.slice so sn sc));have P3:=h! (P2.out.other (a:=⟨w.heap.size+3,1,none⟩) (by show w.heap.size≠w.heap.size+3;omega) (.slice so sn sc));have O3:=h! (O2.out.other (a:=⟨w.heap.size+3,1,none⟩) (by show w.heap.size+2≠w.heap.size+3;omega) (.slice so sn sc));have R3:=h! (R2.out.other (a:=⟨w.heap.size+3,1,none⟩) (by show w.heap.size+1≠w.heap.size+3;omega) (.slice so sn sc));have N3:=h! ((Fine.of wp am pv X2.out).set (x:=w.heap.size+3) (i:=1) (by omega) (.slice so sn sc));have B3:=h! (show Below B wb (w2.setCell ⟨w.heap.size+3,1,none⟩ (.slice so sn sc))from B2.out.setCell (by have:=HB.out.1;have:=HLT.out.1;show B<=w.heap.size+3;omega) _);have Z3:=h! (show w.heap.size+4<=(w2.setCell ⟨w.heap.size+3,1,none⟩ (.slice so sn sc)).heap.size from by simpa using Z2.out);have hbc:=F3.out.box.cells;have HRF:=h! (refs_any wp am B tv (bkV b) sm pv fv ps (KX wp am (w2.setCell ⟨w.heap.size+3,1,none⟩ (.slice so sn sc)) pv) (.slice so sn sc) sb 109 #[] (enters_of Tryz.func109 (by kernel_rfl) rfl) usetF (fun s=>decide (s.r≠⟨#[]⟩)) (w2.setCell ⟨w.heap.size+3,1,none⟩ (.slice so sn sc)) W3.out HB.out (W3.out.sl S3.out (by decide) (by decide)) (fun _ h=>h) (fun s hs=>HSO.out s hs) (fun s _ W _=>userset_any s W) (by have:=HSL.out;have:=HPSL.out;omega));generalize hR:refsD ps [] (selF (fun s=>decide (s.r≠⟨#[]⟩)) usetF sb)=R at *;obtain⟨ro,rp⟩:=R;dsimp only at HRF;clear F2 W2 P2 O2 R2 S2 X2 B2 Z2;have HH:=h! (show headF T ⟨pt,pi,pr⟩ k ra rb ps=(sb,ro,rp)from by unfold headF;rw[if_pos HK.out,hsb,setsOf_sel,hR]);go_wp2_with fail
  refine HRF.out.mono ?_;clear hbf hbz hbc hsb hR;rintro e w4 ⟨v4,pv4,rfl,ho4,hwk4,hfn4⟩;obtain⟨ro4,rn4,rc4,rfl,-,-,-⟩:=ho4.sl.len;have F4:=h! (F3.out.fine W3.out hfn4 HB.out ⟨by have:=HLT.out.1;omega,by have:=HLT.out.2;omega⟩);have P4:=h! (show Blk w4 w.heap.size _ _ from(hfn4.kept.block _ ⟨P3.out.lt,by have:=HLT.out.1;omega,by have:=HLT.out.2;omega,fun e=>absurd (HPVB.out _ e).2 (Nat.lt_irrefl _)⟩).trans P3.out);have O4:=h! (hfn4.blk W3.out O3.out (by decide) (by decide));have R4:=h! (hfn4.blk W3.out R3.out (by decide) (by decide));have S4:=h! (ho4.low (B':=w.heap.size+4) Z3.out);have N4:=h! (N3.out.trans hfn4);have B4:=h! (show Below B wb w4 from B3.out.trans (hfn4.pk W3.out HB.out).below);have Z4:=h! (show w.heap.size+4<=w4.heap.size from Nat.le_trans Z3.out hfn4.size);have FPW:=h! (show ∀ g,pv4.ownBlock=some g->pv.ownBlock=some g\/w.heap.size+4<=g from fun g hg=>(hfn4.wher g hg).imp id fun e=>Nat.le_trans Z3.out e);have W4:=h! hwk4;clear HRF ho4 hwk4 hfn4 F3 W3 P3 O3 R3 N3 B3 Z3;have hbf:=F4.out.box.cells;have hbz:=F4.out.box.free;have FM:=h! (F4.out.setRefs S4.out (by omega));have FW:=h! (W4.out.setBox (i:=2) F4.out.box (by decide) (by decide) (.slice ro4 rn4 rc4));have FP:=h! (P4.out.other (a:=⟨w.heap.size+3,2,none⟩) (by show w.heap.size≠w.heap.size+3;omega) (.slice ro4 rn4 rc4));have FO:=h! (O4.out.other (a:=⟨w.heap.size+3,2,none⟩) (by show w.heap.size+2≠w.heap.size+3;omega) (.slice ro4 rn4 rc4));have FR:=h! (R4.out.other (a:=⟨w.heap.size+3,2,none⟩) (by show w.heap.size+1≠w.heap.size+3;omega) (.slice ro4 rn4 rc4));have FN:=h! (N4.out.set (x:=w.heap.size+3) (i:=2) (by omega) (.slice ro4 rn4 rc4));have FB:=h! (show Below B wb (w4.setCell ⟨w.heap.size+3,2,none⟩ (.slice ro4 rn4 rc4))from B4.out.setCell (by have:=HB.out.1;have:=HLT.out.1;show B<=w.heap.size+3;omega) _);have FZ:=h! (show w.heap.size+4<=(w4.setCell ⟨w.heap.size+3,2,none⟩ (.slice ro4 rn4 rc4)).heap.size from by simpa using Z4.out);clear F4 W4 P4 O4 R4 S4 N4 B4 Z4;have hrc:=FR.out.cells;go_wp2_with fail
  clear hrc hbf hbz;obtain⟨wl,hwl⟩:∃ x,x=w4.setCell ⟨w.heap.size+3,2,none⟩ (.slice ro4 rn4 rc4):=⟨_,rfl⟩;rw[<- hwl]at FM FW FP FO FR FN FB FZ ⊢;clear hwl
 case' inr.inl =>
  have q1:(k == 1)=false:=by rw[HK.out];rfl
  have q2:(k == 2)=true:=by rw[HK.out];rfl
  have hrr:=ER.out.cells;have hpp:=EP.out.cells;go_enter Tryz.func54,Tryz.ntmps54
  go_wp2_with fail
  clear hrr hpp;obtain⟨we,hwe⟩:∃ x,x=(((w.alloc (.cells #[.string pt,.string pi,.string pr] 30)).alloc (.cells #[.int .i64 k,.string ra,.string rb,.slice ao parts.length c] 98)).alloc (.cells #[.int .i64 0,.slice none 0 0,.slice none 0 0,.slice none 0 0] 90)).alloc (.cells #[.int .i64 k,.slice none 0 0,.slice none 0 0,.slice none 0 0] 90):=⟨_,rfl⟩;rw[<- hwe]at EX EP ER EO EF EW EB EZ ⊢;clear hwe;have HNB:=h! (number_any wp am B tv (bkV b) sm pv fv ps ⟨pt,pi,ra⟩ we ⟨HPO.out.1,HPO.out.2.1,by have:=HROK.out.2.1;show ra.size<=maxLen;unfold maxLen;omega⟩ EW.out HB.out (by have:=HPSL.out;omega));have HH:=h! (show headF T ⟨pt,pi,pr⟩ k ra rb ps=([],[(numD ps ⟨pt,pi,ra⟩:Int)],putP ps ⟨pt,pi,ra⟩)from by unfold headF;rw[if_neg (by rw[HK.out];decide),if_pos HK.out]);refine HNB.out.mono ?_;rintro e w3 ⟨pv4,rfl,hwk3,hfn3⟩;generalize numD ps ⟨pt,pi,ra⟩=nu at *;generalize putP ps ⟨pt,pi,ra⟩=rp at *;have Z3:=h! (show w.heap.size+4<=w3.heap.size from by have:=EZ.out;have:=hfn3.size;omega);have hx4:=Ext.alloc w3 (.cells #[.int .i64 nu] 3);have F4:=h! ((EF.out.fine EW.out hfn3 HB.out ⟨by have:=HLT.out.1;omega,by have:=HLT.out.2;omega⟩).ext hx4);have P4:=h! ((show Blk w3 w.heap.size _ _ from(hfn3.kept.block _ ⟨EP.out.lt,by have:=HLT.out.1;omega,by have:=HLT.out.2;omega,fun e=>absurd (HPVB.out _ e).2 (Nat.lt_irrefl _)⟩).trans EP.out).below hx4);have O4:=h! ((hfn3.blk EW.out EO.out (by decide) (by decide)).below hx4);have R4:=h! ((hfn3.blk EW.out ER.out (by decide) (by decide)).below hx4);have S4:=h! (show Own _ (w.heap.size+4) 3 1 _ (ic [(nu:Int)])from Own.lit1 w3 Z3.out 3 (.int .i64 nu));have N4:=h! (((Fine.of wp am pv EX.out).trans hfn3).trans (Fine.of _ _ _ hx4));have B4:=h! (show Below B wb _ from(EB.out.trans (hfn3.pk EW.out HB.out).below).trans (hx4.mono (by have:=Z3.out;have:=HB.out.1;have:=HLT.out.1;omega)));have FPW:=h! (show ∀ g,pv4.ownBlock=some g->pv.ownBlock=some g\/w.heap.size+4<=g from fun g hg=>(hfn3.wher g hg).imp id fun e=>by have:=EZ.out;omega);have W4:=h! (hwk3.ext hx4);have Z4:=h! (show w.heap.size+4<=(w3.alloc (.cells #[.int .i64 nu] 3)).heap.size from Nat.le_trans Z3.out hx4.size);clear HNB hwk3 hfn3 EF EW EP EO ER EB EX EZ hx4;have hbf:=F4.out.box.cells;have hbz:=F4.out.box.free;have FM:=h! (F4.out.setRefs S4.out (by omega));have FW:=h! (W4.out.setBox (i:=2) F4.out.box (by decide) (by decide) (.slice (some ⟨w3.heap.size,0,none⟩) 1 1));have FP:=h! (P4.out.other (a:=⟨w.heap.size+3,2,none⟩) (by show w.heap.size≠w.heap.size+3;omega) (.slice (some ⟨w3.heap.size,0,none⟩) 1 1));have FO:=h! (O4.out.other (a:=⟨w.heap.size+3,2,none⟩) (by show w.heap.size+2≠w.heap.size+3;omega) (.slice (some ⟨w3.heap.size,0,none⟩) 1 1));have FR:=h! (R4.out.other (a:=⟨w.heap.size+3,2,none⟩) (by show w.heap.size+1≠w.heap.size+3;omega) (.slice (some ⟨w3.heap.size,0,none⟩) 1 1));have FN:=h! (N4.out.set (x:=w.heap.size+3) (i:=2) (by omega) (.slice (some ⟨w3.heap.size,0,none⟩) 1 1));have FB:=h! (B4.out.setCell (p:=⟨w.heap.size+3,2,none⟩) (by have:=HB.out.1;have:=HLT.out.1;show B<=w.heap.size+3;omega) (.slice (some ⟨w3.heap.size,0,none⟩) 1 1));have FZ:=h! (show w.heap.size+4<=((w3.alloc (.cells #[.int .i64 nu] 3)).setCell ⟨w.heap.size+3,2,none⟩ (.slice (some ⟨w3.heap.size,0,none⟩) 1 1)).heap.size from by simpa using Z4.out);clear F4 W4 P4 O4 R4 S4 N4 B4 Z4 Z3;have hrc:=FR.out.cells;go_wp2_with fail
  clear hrc hbf hbz;obtain⟨wl,hwl⟩:∃ x,x=(w3.alloc (.cells #[.int .i64 nu] 3)).setCell ⟨w.heap.size+3,2,none⟩ (.slice (some ⟨w3.heap.size,0,none⟩) 1 1):=⟨_,rfl⟩;rw[<- hwl]at FM FW FP FO FR FN FB FZ ⊢;clear hwl;obtain⟨ro4,rn4,rc4,hr⟩:∃ (a:Option Addr) (b c:Nat),Value.slice a b c = .slice (some ⟨w3.heap.size,0,none⟩) 1 1:=⟨_,_,_,rfl⟩;rw[<- hr]at FM;clear hr;obtain⟨ro,hro⟩:∃ ro:List Int,ro=[(nu:Int)]:=⟨_,rfl⟩;rw[<- hro]at FM HH;clear hro;obtain⟨so,sn,sc,hs⟩:∃ (so:Option Addr) (sn sc:Nat),Value.slice so sn sc = .slice none 0 0:=⟨_,_,_,rfl⟩;obtain⟨sb,hsb⟩:∃ sb:List P3,sb=[]:=⟨_,rfl⟩;have FM:=h! (show FmAt wl (w.heap.size+4) (w.heap.size+3) k sb ro [] (.slice so sn sc) (.slice ro4 rn4 rc4) (.slice none 0 0)from by rw[hs,hsb];exact FM.out);have HH:=h! (show headF T ⟨pt,pi,pr⟩ k ra rb ps=(sb,ro,rp)from by rw[hsb];exact HH.out);clear hs hsb
 case' inr.inr.inl =>
  have q1:(k == 1)=false:=by rw[HK.out];rfl
  have q2:(k == 2)=false:=by rw[HK.out];rfl
  have q3:(k == 3)=true:=by rw[HK.out];rfl
  have hrr:=ER.out.cells;have hpp:=EP.out.cells;go_enter Tryz.func54,Tryz.ntmps54
  go_wp2_with fail
  clear hrr hpp;obtain⟨we,hwe⟩:∃ x,x=(((w.alloc (.cells #[.string pt,.string pi,.string pr] 30)).alloc (.cells #[.int .i64 k,.string ra,.string rb,.slice ao parts.length c] 98)).alloc (.cells #[.int .i64 0,.slice none 0 0,.slice none 0 0,.slice none 0 0] 90)).alloc (.cells #[.int .i64 k,.slice none 0 0,.slice none 0 0,.slice none 0 0] 90):=⟨_,rfl⟩;rw[<- hwe]at EX EP ER EO EF EW EB EZ ⊢;clear hwe;have HSB:=h! (wsubs_any wp am B b tv sm pv fv T ps ⟨pt,pi,ra⟩ we ⟨HPO.out.1,HPO.out.2.1,by have:=HROK.out.2.1;show ra.size<=maxLen;unfold maxLen;omega⟩ EW.out (HBK.out we EB.out) (Nat.le_trans (HSUBL.out _) (by have:=HTL.out;omega)));refine HSB.out.mono ?_;rintro e w2 ⟨v2,rfl,ho2,hx2⟩;have HSO:=h! (HSUBO.out ⟨pt,pi,ra⟩);have HSL:=h! (HSUBL.out ⟨pt,pi,ra⟩);generalize hsb:subsOf T ⟨pt,pi,ra⟩=sb at *;obtain⟨so,sn,sc,rfl,-,-,-⟩:=ho2.sl.len;have F2:=h! (EF.out.ext hx2);have W2:=h! (EW.out.ext hx2);have P2:=h! (EP.out.below hx2);have O2:=h! (EO.out.below hx2);have R2:=h! (ER.out.below hx2);have S2:=h! (ho2.low (B':=w.heap.size+4) (Nat.le_of_eq EZ.out.symm));have X2:=h! (show Ext w w2 from EX.out.trans hx2);have B2:=h! (show Below B wb w2 from EB.out.trans (hx2.mono (by have:=EZ.out;have:=HB.out.1;have:=HLT.out.1;omega)));have Z2:=h! (show w.heap.size+4<=w2.heap.size from by have:=EZ.out;have:=hx2.size;omega);clear HSB ho2 hx2 EF EW EP EO ER EB EX EZ;have F3:=F2;have W3:=W2;have S3:=S2;have P3:=P2;have O3:=O2;have R3:=R2;have N3:=h! (Fine.of wp am pv X2.out);have B3:=B2;have Z3:=Z2;have HRF:=h! (refs_any wp am B tv (bkV b) sm pv fv ps (KX wp am (w2) pv) (.slice so sn sc) sb 110 #[.pointer (some ⟨w.heap.size+1,0,none⟩)] (enters_of Tryz.func110 (by kernel_rfl) rfl) (viaF rb) (fun s=>decide (s.r=⟨#[]⟩)) (w2) W3.out HB.out (W3.out.sl S3.out (by decide) (by decide)) (fun _ h=>h) (fun s hs=>⟨(HSO.out s hs).1,(HSO.out s hs).2.1,by have:=HROK.out.2.2.1;show rb.size<=maxLen;unfold maxLen;omega⟩) (fun s _ W hW=>form1_any _ _ _ _ _ s W ((hW.block _ (W3.out.un R3.out (by decide) (by decide))).trans R3.out)) (by have:=HSL.out;have:=HPSL.out;omega));generalize hR:refsD ps [] (selF (fun s=>decide (s.r=⟨#[]⟩)) (viaF rb) sb)=R at *;obtain⟨ro,rp⟩:=R;dsimp only at HRF;clear F2 W2 P2 O2 R2 S2 X2 B2 Z2;have HH:=h! (show headF T ⟨pt,pi,pr⟩ k ra rb ps=([],ro,rp)from by unfold headF;rw[if_neg (by rw[HK.out];decide),if_neg (by rw[HK.out];decide),if_pos HK.out,hsb,viaOf_sel,hR]);go_wp2_with fail
  refine HRF.out.mono ?_;clear hsb hR;rintro e w4 ⟨v4,pv4,rfl,ho4,hwk4,hfn4⟩;obtain⟨ro4,rn4,rc4,rfl,-,-,-⟩:=ho4.sl.len;have F4:=h! (F3.out.fine W3.out hfn4 HB.out ⟨by have:=HLT.out.1;omega,by have:=HLT.out.2;omega⟩);have P4:=h! (show Blk w4 w.heap.size _ _ from(hfn4.kept.block _ ⟨P3.out.lt,by have:=HLT.out.1;omega,by have:=HLT.out.2;omega,fun e=>absurd (HPVB.out _ e).2 (Nat.lt_irrefl _)⟩).trans P3.out);have O4:=h! (hfn4.blk W3.out O3.out (by decide) (by decide));have R4:=h! (hfn4.blk W3.out R3.out (by decide) (by decide));have S4:=h! (ho4.low (B':=w.heap.size+4) Z3.out);have N4:=h! (N3.out.trans hfn4);have B4:=h! (show Below B wb w4 from B3.out.trans (hfn4.pk W3.out HB.out).below);have Z4:=h! (show w.heap.size+4<=w4.heap.size from Nat.le_trans Z3.out hfn4.size);have FPW:=h! (show ∀ g,pv4.ownBlock=some g->pv.ownBlock=some g\/w.heap.size+4<=g from fun g hg=>(hfn4.wher g hg).imp id fun e=>Nat.le_trans Z3.out e);have W4:=h! hwk4;clear HRF ho4 hwk4 hfn4 F3 W3 P3 O3 R3 N3 B3 Z3;have hbf:=F4.out.box.cells;have hbz:=F4.out.box.free;have FM:=h! (F4.out.setRefs S4.out (by omega));have FW:=h! (W4.out.setBox (i:=2) F4.out.box (by decide) (by decide) (.slice ro4 rn4 rc4));have FP:=h! (P4.out.other (a:=⟨w.heap.size+3,2,none⟩) (by show w.heap.size≠w.heap.size+3;omega) (.slice ro4 rn4 rc4));have FO:=h! (O4.out.other (a:=⟨w.heap.size+3,2,none⟩) (by show w.heap.size+2≠w.heap.size+3;omega) (.slice ro4 rn4 rc4));have FR:=h! (R4.out.other (a:=⟨w.heap.size+3,2,none⟩) (by show w.heap.size+1≠w.heap.size+3;omega) (.slice ro4 rn4 rc4));have FN:=h! (N4.out.set (x:=w.heap.size+3) (i:=2) (by omega) (.slice ro4 rn4 rc4));have FB:=h! (show Below B wb (w4.setCell ⟨w.heap.size+3,2,none⟩ (.slice ro4 rn4 rc4))from B4.out.setCell (by have:=HB.out.1;have:=HLT.out.1;show B<=w.heap.size+3;omega) _);have FZ:=h! (show w.heap.size+4<=(w4.setCell ⟨w.heap.size+3,2,none⟩ (.slice ro4 rn4 rc4)).heap.size from by simpa using Z4.out);clear F4 W4 P4 O4 R4 S4 N4 B4 Z4;have hrc:=FR.out.cells;go_wp2_with fail
  clear hrc hbf hbz;obtain⟨wl,hwl⟩:∃ x,x=w4.setCell ⟨w.heap.size+3,2,none⟩ (.slice ro4 rn4 rc4):=⟨_,rfl⟩;rw[<- hwl]at FM FW FP FO FR FN FB FZ ⊢;clear hwl;obtain⟨so,sn,sc,hs⟩:∃ (so:Option Addr) (sn sc:Nat),Value.slice so sn sc = .slice none 0 0:=⟨_,_,_,rfl⟩;obtain⟨sb,hsb⟩:∃ sb:List P3,sb=[]:=⟨_,rfl⟩;have FM:=h! (show FmAt wl (w.heap.size+4) (w.heap.size+3) k sb ro [] (.slice so sn sc) (.slice ro4 rn4 rc4) (.slice none 0 0)from by rw[hs,hsb];exact FM.out);have HH:=h! (show headF T ⟨pt,pi,pr⟩ k ra rb ps=(sb,ro,rp)from by rw[hsb];exact HH.out);clear hs hsb
 case' inr.inr.inr =>
  have q1:(k == 1)=false:=by rw[beq_eq_false_iff_ne];exact HK.out.1
  have q2:(k == 2)=false:=by rw[beq_eq_false_iff_ne];exact HK.out.2.1
  have q3:(k == 3)=false:=by rw[beq_eq_false_iff_ne];exact HK.out.2.2
  have hrc:=ER.out.cells;go_enter Tryz.func54,Tryz.ntmps54
  go_wp2_with fail
  clear hrc;obtain⟨we,hwe⟩:∃ x,x=(((w.alloc (.cells #[.string pt,.string pi,.string pr] 30)).alloc (.cells #[.int .i64 k,.string ra,.string rb,.slice ao parts.length c] 98)).alloc (.cells #[.int .i64 0,.slice none 0 0,.slice none 0 0,.slice none 0 0] 90)).alloc (.cells #[.int .i64 k,.slice none 0 0,.slice none 0 0,.slice none 0 0] 90):=⟨_,rfl⟩;rw[<- hwe]at EX EP ER EO EF EW EB EZ ⊢;clear hwe;have HH:=h! (show headF T ⟨pt,pi,pr⟩ k ra rb ps=([],[],ps)from by unfold headF;rw[if_neg HK.out.1,if_neg HK.out.2.1,if_neg HK.out.2.2]);have FM:=EF;have FW:=EW;have FP:=EP;have FO:=EO;have FR:=ER;have FB:=EB;have FZ:=h! (Nat.le_of_eq EZ.out.symm);have FN:=h! (Fine.of wp am pv EX.out);have FPW:=h! (show ∀ g,pv.ownBlock=some g->pv.ownBlock=some g\/w.heap.size+4<=g from fun g hg => .inl hg);clear EF EW EP EO ER EB EX EZ;obtain⟨wl,hwl⟩:∃ x,x=we:=⟨_,rfl⟩;rw[<- hwl]at FM FW FP FO FR FN FB FZ ⊢;clear hwl;obtain⟨ro4,rn4,rc4,hr⟩:∃ (a:Option Addr) (b c:Nat),Value.slice a b c = .slice none 0 0:=⟨_,_,_,rfl⟩;obtain⟨ro,rp,pv4,hro,hrp,hpv⟩:∃ (ro:List Int) (rp:List P3) (pv4:Value),ro=[]/\rp=ps/\pv4=pv:=⟨_,_,_,rfl,rfl,rfl⟩;have FM:=h! (show FmAt wl (w.heap.size+4) (w.heap.size+3) k [] ro [] (.slice none 0 0) (.slice ro4 rn4 rc4) (.slice none 0 0)from by rw[hr,hro];exact FM.out);have HH:=h! (show headF T ⟨pt,pi,pr⟩ k ra rb ps=([],ro,rp)from by rw[hro,hrp];exact HH.out);have FW:=h! (show WkAt wl wp am B tv (bkV b) sm rp pv4 fv from by rw[hrp,hpv];exact FW.out);have FN:=h! (show Fine wp am w wl pv pv4 from by rw[hpv];exact FN.out);have FPW:=h! (show ∀ g,pv4.ownBlock=some g->pv.ownBlock=some g\/w.heap.size+4<=g from by rw[hpv];exact FPW.out);clear hr hro hrp hpv;obtain⟨so,sn,sc,hs⟩:∃ (so:Option Addr) (sn sc:Nat),Value.slice so sn sc = .slice none 0 0:=⟨_,_,_,rfl⟩;obtain⟨sb,hsb⟩:∃ sb:List P3,sb=[]:=⟨_,rfl⟩;have FM:=h! (show FmAt wl (w.heap.size+4) (w.heap.size+3) k sb ro [] (.slice so sn sc) (.slice ro4 rn4 rc4) (.slice none 0 0)from by rw[hs,hsb];exact FM.out);have HH:=h! (show headF T ⟨pt,pi,pr⟩ k ra rb ps=(sb,ro,rp)from by rw[hsb];exact HH.out);clear hs hsb
 all_goals
  have HSP:=h! (fun i=>formsD_take T ⟨pt,pi,pr⟩ parts rp i)
  have HRM:=h! (show ∀ i (hi:i<parts.length),(formsD T ⟨pt,pi,pr⟩ (parts.take i) rp).2.length+parts[i].sz*(T.length+1)<=1073741824 from fun i hi=>by
   have:=HROOM.out i hi;rw[HH.out]at this;exact this)
  go_loopw [53] (fun iv wr=>∃ (i:Nat) (q:List (FT × FV3)) (qv pv':Value),i<=parts.length/\iv = .int .i64 i/\q.map (·.1)=(formsD T ⟨pt,pi,pr⟩ (parts.take i) rp).1/\FmAt wr (w.heap.size+4) (w.heap.size+3) k sb ro q (.slice so sn sc) (.slice ro4 rn4 rc4) qv/\WkAt wr wp am B tv (bkV b) sm (formsD T ⟨pt,pi,pr⟩ (parts.take i) rp).2 pv' fv/\Blk wr w.heap.size #[.string pt,.string pi,.string pr] 30/\Blk wr (w.heap.size+2) #[.int .i64 0,.slice none 0 0,.slice none 0 0,.slice none 0 0] 90/\Fine wp am w wr pv pv'/\Below B wb wr/\(∀ g,pv'.ownBlock=some g->pv.ownBlock=some g\/w.heap.size+4<=g)/\w.heap.size+4<=wr.heap.size) (fun iv _=>parts.length-(intOf iv).toNat)
  case atStart=>exact⟨0,[],.slice none 0 0,pv4,Nat.zero_le _,rfl,rfl,FM.out,FW.out,FP.out,FO.out,FN.out,FB.out,FPW.out,FZ.out⟩
  case round =>
   obtain⟨i,q,qv,pv',hi,rfl,hq,hfm,hwk,hbp,hbo,hfn,hbw,hpw,hfz⟩:=hrel;have RPW:=h! hpw;have RFM:=h! hfm;have RW:=h! hwk;have RP:=h! hbp;have RO:=h! hbo;have RN:=h! hfn;have RB:=h! hbw;have RQ:=h! hq;have RFZ:=h! (show w.heap.size+4<=wr.heap.size from hfz);clear FM FW FP FO FN FB FPW FZ FR hfz hfm hwk hbp hbo hfn hbw hq hpw;by_cases hlt:i<parts.length
   ·obtain⟨ao',c',he',-,-,hcell⟩:=(HRT.out.same (w':=wr) fun x hx=>(RN.out.kept.block x ⟨Nat.lt_of_lt_of_le hx (by have:=HB.out.1;have:=HLT.out.1;omega),by have:=HB.out.1;omega,by have:=HB.out.2;omega,fun e=>by have:=(HPVB.out x e).1;omega⟩)).rows;cases he';obtain⟨bq,oq,pq,rfl,hbq,d0,d1,d2,d3,hpat⟩:=hcell i hlt;dsimp only[RT.ps]at d0 d1 d2 d3 hpat;have HLTI:=h! hlt;have HST:=h! (HSP.out i hlt);have HRI:=h! (HRM.out i hlt);have HII:=h! (HIH.out parts[i] (List.getElem_mem hlt));have HOI:=h! (HROK.out.2.2.2 parts[i] (List.getElem_mem hlt))
    have HQL:=h! (show q.length=i from by
     have:=congrArg List.length RQ.out;rw[List.length_map]at this;rw[this];rw[formsD_len1,List.length_take];omega)
    have HPL:=h! (show parts.length<=1073741824 from by
     have h1:=szL_many parts;have h2:=(RT.mk k ra rb parts).sz_eq;have h3:=HLEN.out;rw[h2,Nat.add_mul]at h3;have h4:szL parts*1<=szL parts*(T.length+1):=Nat.mul_le_mul_left _ (by omega);simp only[RT.ps]at h3;omega)
    generalize parts[i]=x at *;obtain⟨xo,xc,rfl,-⟩:=hpat.rows;generalize hfd:formsD T ⟨pt,pi,pr⟩ (parts.take i) rp=fd at *;obtain⟨ff,fp⟩:=fd;dsimp only at RQ RW HST HRI;clear hlt hi hfd hbq;go_wp2_with fail
    obtain⟨wo,hwo⟩:∃ wo:World,wo=wr:=⟨_,rfl⟩;subst hwo;have hx1:=Ext.alloc wo (.cells #[.int .i64 x.k,.string x.a,.string x.b,.slice xo x.ps.length xc] 98);obtain⟨wd,hwd⟩:∃ wd,wd=(wo.alloc (.cells #[.int .i64 x.k,.string x.a,.string x.b,.slice xo x.ps.length xc] 98)).drew:=⟨_,rfl⟩;have DX:=h! (show Ext wo wd from by rw[hwd];exact hx1.trans (Ext.drew _));have DT:=h! (show Blk wd wo.heap.size #[.int .i64 x.k,.string x.a,.string x.b,.slice xo x.ps.length xc] 98 from by rw[hwd];exact(Blk.made _ _ _).drew);have DZ:=h! (show wo.heap.size<wd.heap.size from DT.out.lt);have DP:=h! (RP.out.below DX.out);have DFM:=h! (RFM.out.ext DX.out);have DW:=h! (RW.out.ext DX.out);have DO:=h! (RO.out.below DX.out);have DN:=h! (RN.out.trans (Fine.of _ _ _ DX.out));have DB:=h! (show Below B wb wd from RB.out.trans (DX.out.mono (by have:=HB.out.1;have:=HLT.out.1;have:=RN.out.size;omega)));have DA:=h! (hpat.same fun y hy=>DX.out.block y (by have:=HB.out.1;have:=HLT.out.1;have:=RN.out.size;omega));have DQ:=h! (fun g hg=>(RFM.out.parts.row.block g hg).2);have DS:=h! RN.out.size;have EXZ:=h! (show w.heap.size+4<=wo.heap.size from RFZ.out);refine region_walkL 9 (fun W=>Blk W w.heap.size #[.string pt,.string pi,.string pr] 30/\Blk W (w.heap.size+3) #[.int .i64 k,(.slice so sn sc),(.slice ro4 rn4 rc4),qv] 90/\Blk W wo.heap.size #[.int .i64 x.k,.string x.a,.string x.b,.slice xo x.ps.length xc] 98) (by rw[<- hwd];exact⟨DP.out,DFM.out.box,DT.out⟩) (by kernel_rfl) (by kernel_rfl) (fun _ _ d _ _ h=>by cases d <;> exact h) ?_;rw[<- hwd];clear hwd hx1 RFM RW RP RO RN RB hpat d0 d1 d2 d3;obtain⟨qo,qn,qc,rfl,hqn,-,-⟩:=DFM.out.parts.row.sl.len;have h1:=fun W (h:Blk W w.heap.size #[.string pt,.string pi,.string pr] 30/\Blk W (w.heap.size+3) #[.int .i64 k,(.slice so sn sc),(.slice ro4 rn4 rc4),.slice qo qn qc] 90/\Blk W wo.heap.size #[.int .i64 x.k,.string x.a,.string x.b,.slice xo x.ps.length xc] 98)=>h.1.cells;have h2:=fun W (h:Blk W w.heap.size #[.string pt,.string pi,.string pr] 30/\Blk W (w.heap.size+3) #[.int .i64 k,(.slice so sn sc),(.slice ro4 rn4 rc4),.slice qo qn qc] 90/\Blk W wo.heap.size #[.int .i64 x.k,.string x.a,.string x.b,.slice xo x.ps.length xc] 98)=>h.2.1.cells;have h3:=fun W (h:Blk W w.heap.size #[.string pt,.string pi,.string pr] 30/\Blk W (w.heap.size+3) #[.int .i64 k,(.slice so sn sc),(.slice ro4 rn4 rc4),.slice qo qn qc] 90/\Blk W wo.heap.size #[.int .i64 x.k,.string x.a,.string x.b,.slice xo x.ps.length xc] 98)=>h.2.2.cells;(refine WalkL.tk [0,1,2,3,4] ?_;(iterate 5 ((refine TkL.c _ ?_ (by simp only[gA,gS,gZ];rfl) (by kernel_rfl) (by kernel_rfl) (by kernel_rfl) (by rfl) (fun W hW=>?_) ?_;rotate_left;· (go_simp;try with_reducible rfl));simp only[Act.put,pA,pZ,pS]));refine TkL.n ?_)
    refine WalkL.one 5 (by kernel_rfl) ?_;refine⟨_,(by simp only[gA,gS,gZ];rfl),by rfl,fun K hK=>?_⟩;go_simp;refine(HII.out pv' (.slice xo x.ps.length xc) fp wd HOI.out DA.out DB.out DW.out HRI.out).mono ?_;rintro e w2 ⟨v3,pv2,rfl,hat2,hwk2,hfn2⟩
    have TP:=h! (show Blk w2 w.heap.size _ _ from(hfn2.kept.block _ ⟨DP.out.lt,by have:=HLT.out.1;omega,by have:=HLT.out.2;omega,fun e=>by
     rcases RPW.out _ e with e2 | e2
     ·exact absurd (HPVB.out _ e2).2 (Nat.lt_irrefl _)
     ·omega⟩).trans DP.out)
    have TFM:=h! (DFM.out.fine DW.out hfn2 HB.out ⟨by have:=HLT.out.1;omega,by have:=HLT.out.2;omega⟩);have TT:=h! (hfn2.blk DW.out DT.out (by decide) (by decide));have TO:=h! (hfn2.blk DW.out DO.out (by decide) (by decide));have TN:=h! (DN.out.trans hfn2);have TB:=h! (show Below B wb w2 from DB.out.trans (hfn2.pk DW.out HB.out).below);have TA:=h! hat2;have TW:=h! hwk2;have TZ:=h! hfn2.size
    have TPW:=h! (show ∀ g,pv2.ownBlock=some g->pv.ownBlock=some g\/w.heap.size+4<=g from fun g hg=>by
     rcases hfn2.wher g hg with e | e
     ·exact RPW.out g e
     ·exact .inr (by have:=DZ.out;have:=DS.out;have:=EXZ.out;omega))
    refine hK.out _ _ ⟨TP.out,TFM.out.box,TT.out⟩ ?_;clear hK hat2 hwk2 hfn2 DP DFM DT DO DN DB DA DW;generalize hfx:formD T ⟨pt,pi,pr⟩ x fp=fx at *;obtain⟨fx,fxp⟩:=fx;obtain⟨v1,v2,v4⟩:=v3;unfold fV at *;dsimp only at TA TW HST ⊢;obtain⟨s1,s2,-⟩:=(FTAt.iff _ _).1 TA.out;obtain⟨x1,y1,z1,rfl,-,-,-⟩:=s1.len;obtain⟨x2,y2,z2,rfl,-,-,-⟩:=s2.len;obtain⟨x4,z4,rfl,-⟩:=TA.out.rows;clear s1 s2;have hx3:=Ext.alloc w2 (.cells #[.int .i64 fx.k,.slice x1 y1 z1,.slice x2 y2 z2,.slice x4 fx.ps.length z4] 90);refine WalkL.one 6 (by kernel_rfl) ?_;refine⟨_,(by simp only[gA,gS,gZ];rfl),by rfl,fun K hK=>?_⟩;go_simp;refine hK.out _ _ ⟨TP.out.below hx3,TFM.out.box.below hx3,TT.out.below hx3⟩ ?_;clear hK;refine WalkL.one 7 (by kernel_rfl) ?_;refine⟨_,(by simp only[gA,gS,gZ];rfl),by rfl,fun K hK=>?_⟩;refine wp_ownw formsT (.tmp 58) (.tmp 63) rfl rfl (TFM.out.parts.row.below hx3) (m:=1) (news:=fC (fx,(.slice x1 y1 z1,.slice x2 y2 z2,.slice x4 fx.ps.length z4))) rfl rfl (fun j u hu=>?_) (by simp[fC,Value.oneCell']) (by have:=HQL.out;have:=HPL.out;have:=HLTI.out;rw[fCs_length,fC_length];omega) (by have:=HQL.out;have:=HPL.out;have:=HLTI.out;rw[fCs_length,fC_length];omega) (by have:=DZ.out;have:=TZ.out;have:=EXZ.out;simp;omega) (fun v5 w5 hown5 hb5 hg5=>?_)
    ·rw[Addr.add_lit,cell_of_row _ w2.heap.size (0+j) #[.int .i64 fx.k,.slice x1 y1 z1,.slice x2 y2 z2,.slice x4 fx.ps.length z4] 90 (0,0) (heap_alloc_new w2 _),Nat.zero_add];simpa [fC] using hu
    have hq3:=TFM.out.parts.row.below hx3
    have VB:∀ {y:Nat} {cs:Array Value} {t:TypeId},Blk w2 y cs t->y<w.heap.size+4\/t≠90->Blk w5 y cs t:=fun {y cs t} hb hyt=>(hg5.block y (hb.below hx3).lt fun e=>by
     have e':=e.symm;rcases hyt with hy | ht
     ·have:=(TFM.out.parts.row.block y e').1;omega
     ·obtain⟨cc,hc⟩:=TFM.out.parts.row.typed e';rw[show w2.heap[y]?=_ from hb]at hc;injection hc with hc
      injection hc with _ hc _
      exact ht hc).trans (hb.below hx3)
    have UP:=h! (VB TP.out (.inl (by omega)));have UF:=h! (VB TFM.out.box (.inl (by omega)));have UT:=h! (VB TT.out (.inr (by decide)));have UO:=h! (VB TO.out (.inl (by omega)));have UW:=h! ((TW.out.ext hx3).grown hq3 (by decide) (by decide) hg5);have UZ:=h! (show w2.heap.size<=w5.heap.size from Nat.le_trans hx3.size hg5.size);have UK:=h! (show Below (w.heap.size+4) w2 w5 from(hx3.mono (by have:=DZ.out;have:=TZ.out;have:=DS.out;have:=EXZ.out;omega)).trans ⟨hg5.os,hg5.tape,hg5.output,hg5.size,fun y hy=>hg5.block y (by have:=DZ.out;have:=TZ.out;have:=DS.out;have:=EXZ.out;simp;omega) fun e=>by have:=(TFM.out.parts.row.block y e.symm).1;omega⟩);have UFM:=h! (TFM.out.add hx3 hg5 hown5 hb5 TA.out (by have:=DZ.out;have:=DS.out;have:=EXZ.out;omega) (fun g hg=>Nat.lt_trans (DQ.out g hg) DZ.out) (by omega));have hn5:=hown5.sl.len;obtain⟨o5,n5,c5,rfl,-,-,-⟩:=hn5;refine hK.out _ _ ⟨UP.out,UF.out,UT.out⟩ ?_;clear hK hx3 hq3 VB hown5 hb5 hg5;simp only[Act.put,pA,pZ,pS];((refine WalkL.take 8 _ ?_ (by simp only[gA,gS,gZ];rfl) (by kernel_rfl) (by kernel_rfl) (by kernel_rfl) (by rfl) (fun W hW=>?_) ?_;rotate_left;· (go_simp;try with_reducible rfl));simp only[Act.put,pA,pZ,pS])
    clear h1 h2 h3;have hbf:=UF.out.cells;have hbz:=UF.out.free;refine WalkL.last (by kernel_rfl) (by kernel_rfl) ?_;refine⟨_,(by simp only[gA,gS,gZ];rfl),by rfl,fun K hK=>?_⟩;go_simp;refine hK.out _ _ ?_;clear hK hbf hbz;have WN:=h! (show Fine wp am w (w5.setCell ⟨w.heap.size+3,3,none⟩ (.slice o5 n5 c5)) pv pv2 from⟨(TN.out.kept.trans (Below.kept UK.out fun y (hy:KX wp am w pv y)=>by have:=hy.1;show y<w.heap.size+4;omega)).set (fun h=>by have h1:w.heap.size+3<w.heap.size:=h.1;omega) _,TN.out.wher⟩);have WW:=h! (UW.out.setBox (i:=3) UF.out (by decide) (by decide) (.slice o5 n5 c5));have WP:=h! (UP.out.other (a:=⟨w.heap.size+3,3,none⟩) (by show w.heap.size≠w.heap.size+3;omega) (.slice o5 n5 c5));have WO:=h! (UO.out.other (a:=⟨w.heap.size+3,3,none⟩) (by show w.heap.size+2≠w.heap.size+3;omega) (.slice o5 n5 c5));have WB:=h! (show Below B wb (w5.setCell ⟨w.heap.size+3,3,none⟩ (.slice o5 n5 c5))from(TB.out.trans (UK.out.mono (by have:=HB.out.1;have:=HLT.out.1;omega))).setCell (by have:=HB.out.1;have:=HLT.out.1;show B<=w.heap.size+3;omega) _);clear TP TFM TT TO TN TB TW UP UF UT UO UW UK DX;go_wp2_with fail
    go_roundw
    case rel=>exact⟨i+1,_,_,pv2,HLTI.out,by go_num,by rw[HST.out,List.map_append,RQ.out];rfl,UFM.out,by rw[HST.out];exact WW.out,WP.out,WO.out,WN.out,WB.out,TPW.out,by have:=DZ.out;have:=TZ.out;have:=UZ.out;have:=EXZ.out;simp;omega⟩
    case measure=>have:=HLTI.out;simp[intOf];omega
   ·obtain rfl:i=parts.length:=by omega
    have HTA:=h! (show parts.take parts.length=parts from List.take_length);rw[HTA.out]at RQ RW;obtain⟨qo,qn,qc,rfl,-,-,-⟩:=RFM.out.parts.row.sl.len;have hc3:=RFM.out.box.cells;have hc2:=RO.out.cells;have hz2:=RO.out.free;go_wp2_with fail
    clear hc3 hc2 hz2;have ZS:∀ y,y≠w.heap.size+2->((((wr.setCell ⟨w.heap.size+2,0,none⟩ (.int .i64 k)).setCell ⟨w.heap.size+2,1,none⟩ (.slice so sn sc)).setCell ⟨w.heap.size+2,2,none⟩ (.slice ro4 rn4 rc4)).setCell ⟨w.heap.size+2,3,none⟩ (.slice qo qn qc)).heap[y]?=wr.heap[y]?:=fun y hy=>by rw[Below.heap_setCell _ _ _ y hy,Below.heap_setCell _ _ _ y hy,Below.heap_setCell _ _ _ y hy,Below.heap_setCell _ _ _ y hy]
    have ZW:=RW.out.un RO.out (by decide) (by decide);refine bodyPost_ret (results_cell_row rfl _ _ (w.heap.size+2) 90 #[.int .i64 k,(.slice so sn sc),(.slice ro4 rn4 rc4),.slice qo qn qc] (0,0) _ rfl (RO.out.put4 _ _ _ _) Tryz.underlying90 rfl (by kernel_rfl)) rfl ?_;refine⟨((.slice so sn sc),(.slice ro4 rn4 rc4),.slice qo qn qc),pv',by rw[HFD.out];rfl,?_,?_,(((RN.out.set (by omega) _).set (by omega) _).set (by omega) _).set (by omega) _⟩
    ·refine(RFM.out.done (by rw[HFD.out,HH.out,RQ.out]) (fun y hy _=>ZS y (by omega)) (by simp)).mono fun y hy=>hy.mono (by omega)
    ·rw[HFD.out,HH.out];exact RW.out.same (ZS _ fun e=>ZW.2.1 e.symm) (ZS _ fun e=>ZW.2.2.1 e.symm) fun g hg=>ZS _ fun e=>ZW.2.2.2 (by rw[hg,e])
structure GkAt (w:World)(gp B:Nat)(ps:List P3)(pv fv:Value):Prop where
 box:Blk w gp #[pv,fv] 37
 pts:Own w B 30 3 pv (pcs ps)
section
variable {w w' w0 : World} {gp B B' lo x : Nat} {pv fv pv' v sv rv qv : Value} {ps : List P3} {e : TypeId} {sz : Nat} {xs : List Value} {k : Int} {subs : List P3} {refs : List Int} {q : List (FT × FV3)}
theorem GkAt.ext (h:GkAt w gp B ps pv fv)(hx:Ext w w'):GkAt w' gp B ps pv fv:=⟨h.box.below hx,h.pts.below hx⟩
theorem GkAt.same (h:GkAt w gp B ps pv fv)(h1:w'.heap[gp]?=w.heap[gp]?)(h3:∀ g,pv.ownBlock=some g->w'.heap[g]?=w.heap[g]?):GkAt w' gp B ps pv fv:=⟨h1.trans h.box,h.pts.keepOwn h3⟩
theorem GkAt.ptNe (h:GkAt w gp B ps pv fv):∀ g,pv.ownBlock=some g->g≠gp:=fun g hg e=>by
 obtain⟨cur,h2⟩:=h.pts.typed hg;subst e;rw[show w.heap[g]?=_ from h.box]at h2;injection h2 with h2
 injection h2 with _ h2 _
 exact absurd h2 (by decide)
theorem GkAt.un (h:GkAt w gp B ps pv fv) {x:Nat} {cs:Array Value} {fr:Nat × Nat} (hx:w.heap[x]?=some (.cells cs e fr))(he:e≠30)(he2:e≠37):KX gp gp w pv x:=by
 have hne:x≠gp:=fun e=>by
  subst e;rw[show w.heap[x]?=_ from h.box]at hx;injection hx with hx
  injection hx with _ hx _
  exact he2 hx.symm
 refine⟨(Array.getElem?_eq_some_iff.1 hx).1,hne,hne,fun e=>?_⟩;obtain⟨c,hc⟩:=h.pts.typed e;rw[hc]at hx;injection hx with hx
 injection hx with _ hx _
 exact he hx.symm
theorem Fine.gpk (h:Fine gp gp w w' pv pv')(hw:GkAt w gp B ps pv fv)(hB:B<=gp):PKept (· = gp) B w w':=h.kept.mono fun x hx=>by
 rcases hx with hx | ⟨h1,h2,h3⟩
 ·exact⟨by have:=hw.box.lt;omega,by omega,by omega,fun e=>by have:=(hw.pts.block x e).1;omega⟩
 ·refine⟨h2,h1,h1,fun e=>?_⟩;obtain⟨c,hc⟩:=hw.pts.typed e;exact h3 c hc
theorem Fine.gblk (h:Fine gp gp w w' pv pv')(hw:GkAt w gp B ps pv fv) {x:Nat} {cs:Array Value} (hx:Blk w x cs e)(he:e≠30)(he2:e≠37):Blk w' x cs e:=(h.kept.block x (hw.un hx he he2)).trans hx
theorem Fine.grow (h:Fine gp gp w w' pv pv')(hw:GkAt w gp B ps pv fv)(ho:Own w B' e sz v xs)(he:e≠30)(he2:e≠37):Own w' B' e sz v xs:=ho.keepOwn fun g hg=>by
 obtain⟨c,hc⟩:=ho.typed hg;exact h.kept.block g (hw.un hc he he2)
theorem GkAt.grown (h:GkAt w gp B ps pv fv)(ho:Own w B' e sz v xs)(he:e≠30)(he2:e≠37)(hg:w.grownBy w' v.ownBlock):GkAt w' gp B ps pv fv:=by
 refine h.same (hg.block gp h.box.lt fun e=>?_) fun g hgp=>hg.block g (h.pts.block g hgp).2 fun e=>?_
 ·obtain⟨c,hc⟩:=ho.typed e.symm;exact(h.un hc he he2).2.1 rfl
 ·obtain⟨c,hc⟩:=ho.typed e.symm;exact(h.un hc he he2).2.2.2 hgp
theorem GkAt.setBox (h:GkAt w gp B ps pv fv) {x i:Nat} {cs:Array Value} (hx:Blk w x cs e)(he:e≠30)(he2:e≠37)(u:Value):GkAt (w.setCell ⟨x,i,none⟩ u) gp B ps pv fv:=by
 have hu:=h.un hx he he2;exact h.same (Below.heap_setCell _ _ _ _ fun e=>hu.2.1 e.symm) fun g hg=>Below.heap_setCell _ _ _ _ fun e=>hu.2.2.2 (by rw[hg,show g=x from e])
theorem FmAt.gfine (h:FmAt w lo x k subs refs q sv rv qv)(hw:GkAt w gp B ps pv fv)(hf:Fine gp gp w w' pv pv')(hB:B<=gp)(hM:gp<lo):FmAt w' lo x k subs refs q sv rv qv :=
 ⟨hf.gblk hw h.box (by decide) (by decide),hf.grow hw h.subs (by decide) (by decide),hf.grow hw h.refs (by decide) (by decide),h.parts.keep (hf.gpk hw hB) fun x hx=>by
  rw[show x=gp from hx];exact hM⟩
end
theorem grown_blk {w w':World} {B sz x:Nat} {e t:TypeId} {v:Value} {xs:List Value} {cs:Array Value} (ho:Own w B e sz v xs)(hg:w.grownBy w' v.ownBlock)(hx:Blk w x cs t)(hne:t≠e):Blk w' x cs t :=
 (hg.block x hx.lt fun hv=>by
  obtain⟨c2,h2⟩:=ho.typed hv.symm;rw[show w.heap[x]?=_ from hx]at h2;exact hne (by injection Option.some.inj h2)).trans hx
theorem grown_below {w0 w w':World} {B sz:Nat} {e:TypeId} {v:Value} {xs:List Value} (h:Below B w0 w)(ho:Own w B e sz v xs)(hg:w.grownBy w' v.ownBlock)(hB:B<=w.heap.size):Below B w0 w' :=
 h.trans ⟨hg.os,hg.tape,hg.output,hg.size,fun x hx=>hg.block x (by omega) fun e=>by have:=(ho.block x e.symm).1;omega⟩
theorem numD_at {ps:List P3} {p:P3} {i:Nat} (hi:i<ps.length)(h:ps[i]=p)(hn:∀ j (hj:j<ps.length),j<i->ps[j]≠p):numD ps p=i:=by
 unfold numD;rw[List.findIdx_eq hi];exact⟨by simpa using h,fun j hj=>by simpa using hn j (by omega) hj⟩
set_option maxRecDepth 100000 in
set_option maxHeartbeats 1600000 in
theorem number26_any (gp B:Nat)(pv fv:Value)(ps:List P3)(p:P3)(w:World)(h:GkAt w gp B ps pv fv)(hB:B<=gp)(hl:ps.length<=1073741824) :
  Calls Tryz.prog 123 #[.pointer (some ⟨gp,0,none⟩),pV p] w fun e w'=>∃ pv',e = .returned (.int .i64 (numD ps p:Nat))/\GkAt w' gp B (putP ps p) pv' fv/\Fine gp gp w w' pv pv':=by
 have HBB:=h! hB;have HB0:=h! (show B<=w.heap.size from by have:=h.box.lt;omega);have HPT:=h! h.ptNe;have HPL:=h! h.pts.block;obtain⟨po,pc,rfl,hlc,hcm,-⟩:=Sl.rows pC_length (by decide) (show Sl _ w 3 pv (ps.flatMap pC)from h.pts.sl);have HNW:=h! (numD_new ps p);have HAT:=h! (fun i hi=>numD_at (ps:=ps) (p:=p) (i:=i) hi);have HPP:=h! (show putP ps p=if p∈ps then ps else ps++[p]from rfl);obtain⟨pt,pi,pr⟩:=p;have hx1:=Ext.alloc w (.cells #[.string pt,.string pi,.string pr] 30);have HW1:=h! (h.ext hx1);have HP1:=h! (Blk.made w #[.string pt,.string pi,.string pr] 30);have HX1:=h! hx1;have hgc:=HW1.out.box.cells;clear hx1 h hB;unfold pV;dsimp only;go_enter Tryz.func123,Tryz.ntmps123
 go_wp2_with fail
 clear hgc;obtain⟨w1,hw1⟩:∃ x,x=w.alloc (.cells #[.string pt,.string pi,.string pr] 30):=⟨_,rfl⟩;rw[<- hw1]at HW1 HP1 HX1 ⊢;clear hw1;go_loopw [12] (fun ii wr=>∃ i:Nat,i<=ps.length/\ii = .int .i64 i/\(∀ j (hj:j<ps.length),j<i->ps[j]≠⟨pt,pi,pr⟩)/\Ext w1 wr) (fun ii _=>ps.length-(intOf ii).toNat)
 case atStart=>exact⟨0,Nat.zero_le _,rfl,fun _ _ h=>absurd h (Nat.not_lt_zero _),Ext.refl _⟩
 case round =>
  obtain⟨i,hi,rfl,hall,hxr⟩:=hrel;have HALL:=h! hall;have HXR:=h! hxr;clear hall hxr;by_cases hlt:i<ps.length
  ·obtain⟨ao',c',he',-,-,hcell⟩:=Sl.rows pC_length (by decide) (show Sl _ wr 3 (.slice po ps.length pc) (ps.flatMap pC)from(HW1.out.pts.below HXR.out).sl);cases he';obtain⟨b,off,rfl,-,hcell⟩:=hcell (by omega);have hck:=hcell i hlt;clear hcell;have HEQ:=h! (fun(h:ps[i]=⟨pt,pi,pr⟩)=>HAT.out i hlt h HALL.out);have HMEM:=h! (fun(h:ps[i]=(⟨pt,pi,pr⟩:P3))=>h▸List.getElem_mem hlt);have HNX:=h! (fun(h:ps[i]≠⟨pt,pi,pr⟩)=>upto_succ (p:=fun j hj=>ps[j]≠⟨pt,pi,pr⟩) HALL.out hlt h);have HLT:=h! hlt;have hli:(i:Int)<(ps.length:Int):=by omega
   have HII:=h! (show ps.length<=1073741824 from hl);generalize ps[i]=x at *;have hqe:=fun W=>p3_eql x ⟨pt,pi,pr⟩ W;by_cases he:x=⟨pt,pi,pr⟩
   ·rw[decide_eq_true he]at hqe;have HE:=h! (HEQ.out he);have HM:=h! (show putP ps ⟨pt,pi,pr⟩=ps from by rw[HPP.out,if_pos (HMEM.out he)]);clear HEQ HMEM HNX;obtain⟨xt,xi,xr⟩:=x;unfold pV at hqe;dsimp only at hqe;have c0:wr.cell? ⟨b,off+i*3,none⟩=some (.string xt):=hck 0 _ rfl;have c1:=hck 1 _ rfl;have c2:=hck 2 _ rfl;clear hck he;have HX2:=h! (Ext.alloc wr (.cells #[.string xt,.string xi,.string xr] 30));have hxc:=(Blk.made wr #[.string xt,.string xi,.string xr] 30).cells;have hpc:=((HP1.out.below HXR.out).below HX2.out).cells;clear hl hlt;go_wp2_with fail
    go_ret
    exact⟨by rw[HE.out];rfl,.slice (some ⟨b,off,none⟩) ps.length pc,by rw[HM.out];exact(HW1.out.ext HXR.out).ext HX2.out,Fine.of _ _ _ (HX1.out.trans (HXR.out.trans HX2.out))⟩
   ·rw[decide_eq_false he]at hqe;have HN:=h! (HNX.out he);clear HEQ HMEM HNX;obtain⟨xt,xi,xr⟩:=x;unfold pV at hqe;dsimp only at hqe;have c0:wr.cell? ⟨b,off+i*3,none⟩=some (.string xt):=hck 0 _ rfl;have c1:=hck 1 _ rfl;have c2:=hck 2 _ rfl;clear hck he;have HX2:=h! (Ext.alloc wr (.cells #[.string xt,.string xi,.string xr] 30));have hxc:=(Blk.made wr #[.string xt,.string xi,.string xr] 30).cells;have hpc:=((HP1.out.below HXR.out).below HX2.out).cells;clear hlt;go_wp2_with fail
    go_roundw
    case rel=>exact⟨i+1,HLT.out,by go_num,HN.out,HXR.out.trans HX2.out⟩
    case measure=>have:=HLT.out;simp[intOf];omega
  ·obtain rfl:i=ps.length:=by omega
   have hm:(⟨pt,pi,pr⟩:P3)∉ps:=fun h=>by
    obtain⟨j,hj,e⟩:=List.getElem_of_mem h;exact HALL.out j hj hj e
   have HR:=h! (show putP ps ⟨pt,pi,pr⟩=ps++[⟨pt,pi,pr⟩]from by rw[HPP.out,if_neg hm]);have HNN:=h! (HNW.out hm);have HLL:=h! hl;clear hm hl hlt;go_wp2_with fail
   obtain⟨wg,hwg⟩:∃ wg,wg=wr.drew:=⟨_,rfl⟩;have HXg:=h! (show Ext w wg from by rw[hwg];exact HX1.out.trans (HXR.out.trans (Ext.drew _)));have HGg:=h! (show GkAt wg gp B ps (.slice po ps.length pc) fv from by rw[hwg];exact(HW1.out.ext HXR.out).ext (Ext.drew _));have HPg:=h! (show Blk wg w.heap.size _ _ from by rw[hwg];exact(HP1.out.below HXR.out).drew);refine region_walkL 10 (Kept (fun x=>x<wg.heap.size/\Value.ownBlock (.slice po ps.length pc)≠some x) wg) (by rw[<- hwg];exact Kept.refl _ _) (by kernel_rfl) (by kernel_rfl) (fun _ _ d _ _ h=>by cases d <;> exact h) ?_;rw[<- hwg];clear hwg;have h1:=fun W (h:Kept (fun x=>x<wg.heap.size/\Value.ownBlock (.slice po ps.length pc)≠some x) wg W)=>(h.blk HGg.out.box ⟨HGg.out.box.lt,fun e=>HPT.out _ e rfl⟩).cells;have h2:=fun W (h:Kept (fun x=>x<wg.heap.size/\Value.ownBlock (.slice po ps.length pc)≠some x) wg W)=>(h.blk HPg.out ⟨HPg.out.lt,fun e=>by have:=(HPL.out _ e).2;omega⟩).cells;(refine WalkL.tk [0,1,2,3,4,5] ?_;(iterate 6 ((refine TkL.c _ ?_ (by simp only[gA,gS,gZ];rfl) (by kernel_rfl) (by kernel_rfl) (by kernel_rfl) (by rfl) (fun W hW=>?_) ?_;rotate_left;· (go_simp;try with_reducible rfl));simp only[Act.put,pA,pZ,pS]));refine TkL.n ?_)
   clear h1 h2;have hE1:Ext wg (wg.alloc (.cells #[.string pt,.string pi,.string pr] 30)):=Ext.alloc _ _;refine WalkL.one 6 (by kernel_rfl) ?_;refine⟨_,(by simp only[gA,gS,gZ];rfl),by rfl,fun K hK=>?_⟩;go_simp;refine hK.out _ _ ((Kept.refl _ _).alloc (fun x hx=>hx.1) _) ?_;clear hK;refine WalkL.one 7 (by kernel_rfl) ?_;refine⟨_,(by simp only[gA,gS,gZ];rfl),by rfl,fun K hK=>?_⟩;refine wp_ownw pointsT (.tmp 26) (.tmp 28) rfl rfl (HGg.out.pts.below hE1) (m:=1) (news:=pC ⟨pt,pi,pr⟩) rfl rfl (fun j u hu=>?_) (pC_one _) (by rw[pcs_length,pC_length];have:=HLL.out;omega) (by rw[pcs_length,pC_length];have:=HLL.out;omega) (by have:=HXg.out.size;have:=HB0.out;simp;omega) (fun v2 w2 hown2 hw2 hg2=>?_)
   ·rw[Addr.add_lit,cell_of_row _ wg.heap.size (0+j) #[.string pt,.string pi,.string pr] 30 (0,0) (heap_alloc_new wg _),Nat.zero_add];simpa [pC] using hu
   have hkg:Kept (fun x=>x<wg.heap.size/\Value.ownBlock (.slice po ps.length pc)≠some x) wg w2:=⟨hg2.os.trans rfl,hg2.tape.trans rfl,hg2.output.trans rfl,Nat.le_trans (by simp) hg2.size,fun x hx=>(hg2.block x (by have:=hx.1;simp;omega) (fun e=>hx.2 e.symm)).trans (Below.heap_alloc wg _ x hx.1)⟩;have HQ2:=h! (show Kept (KX gp gp w (.slice po ps.length pc)) w w2 from(show Kept (KX gp gp w (.slice po ps.length pc)) w wg from Below.kept HXg.out fun x hx=>hx.1).trans (hkg.mono fun x hx=>⟨Nat.lt_of_lt_of_le hx.1 HXg.out.size,hx.2.2.2⟩));have HWH:=h! (show ∀ g,v2.ownBlock=some g->(Value.slice po ps.length pc).ownBlock=some g\/w.heap.size<=g from fun g hg=>(hw2 g hg).imp id fun e=>by have:=HXg.out.size;simp at e;omega);have HB2:=h! (hkg.blk HGg.out.box ⟨HGg.out.box.lt,fun e=>HPT.out _ e rfl⟩);refine hK.out _ _ hkg ?_;clear hK;simp only[Act.put,pA,pZ,pS];have HO2:=h! (show Own w2 B 30 3 v2 (pcs (ps++[⟨pt,pi,pr⟩]))from by rw[pcs_append,pcs_single];exact hown2);have HW2:=h! (show ∀ g,v2.ownBlock=some g->g≠gp from fun g hg=>(hw2 g hg).elim (fun e=>HPT.out g e) (fun e=>by have h2:=HGg.out.box.lt;simp at e;omega));obtain⟨o2,c2,hv2,-,-,-⟩:=Sl.rows pC_length (by decide) (show Sl _ w2 3 v2 (List.flatMap pC (ps++[⟨pt,pi,pr⟩]))from HO2.out.sl);rw[List.length_append,List.length_singleton]at hv2;subst hv2;clear hkg hown2 hw2 hg2 hE1 HGg HPg;(refine WalkL.tk [8,9] ?_;(iterate 2 ((refine TkL.c _ ?_ (by simp only[gA,gS,gZ];rfl) (by kernel_rfl) (by kernel_rfl) (by kernel_rfl) (by rfl) (fun W hW=>?_) ?_;rotate_left;· (go_simp;try with_reducible rfl));simp only[Act.put,pA,pZ,pS]));refine TkL.n ?_)
   have hbf:=HB2.out.cells;have hbz:=HB2.out.free;refine WalkL.last (by kernel_rfl) (by kernel_rfl) ?_;refine⟨_,(by simp only[gA,gS,gZ];rfl),by rfl,fun K hK=>?_⟩;go_simp;refine hK.out _ _ ?_;clear hK hbf hbz;have HB3:=h! (HB2.out.set_to 0 (.slice o2 (ps.length+1) c2) rfl);have hb3:=HB3.out.cells;have HWI:=h! (show wrap64 ((ps.length+1:Nat)-1:Int)=(ps.length:Int)from by have:=HLL.out;unfold wrap64;omega);clear hi;go_wp2_with fail
   go_ret
   refine⟨.slice o2 (ps.length+1) c2,?_,?_,?_⟩
   ·rw[HNN.out];refine congrArg Ending.returned ?_;rfl
   ·rw[HR.out];exact⟨HB3.out,HO2.out.keepOwn fun g hg=>Below.heap_setCell _ _ _ _ (HW2.out g hg)⟩
   ·exact⟨HQ2.out.set (fun h=>h.2.1 rfl) _,HWH.out⟩
set_option maxRecDepth 100000 in
set_option maxHeartbeats 1600000 in
theorem put26_any {B:Nat} (v:Value)(l:List Int)(n:Int)(w:World)(h:Own w B 3 1 v (ic l))(hl:l.length<=1099511627776)(hB:B<=w.heap.size) :
  Calls Tryz.prog 122 #[v,.int .i64 n] w fun e w'=>∃ v',e = .returned v'/\Own w' B 3 1 v' (ic (if n∈l then l else l++[n]))/\Kept (fun b=>b<w.heap.size/\v.ownBlock≠some b) w w'/\(∀ g,v'.ownBlock=some g->v.ownBlock=some g\/w.heap.size<=g):=by
 obtain⟨ao,m,c,rfl,hm,-,-⟩:=h.sl.len;rw[ic_length]at hm;obtain rfl:m=l.length:=by omega
 obtain⟨r,hr⟩:∃ r,r=if n∈l then l else l++[n]:=⟨_,rfl⟩;rw[<- hr];have HRR:=h! hr;have HO:=h! h;have HL:=h! hl;have HB:=h! hB;clear h hm hl hB hr;go_enter Tryz.func122,Tryz.ntmps122
 go_wp2_with fail
 go_loopw [9] (fun ii wr=>∃ i:Nat,i<=l.length/\ii = .int .i64 i/\(∀ j (hj:j<l.length),j<i->l[j]≠n)/\wr=w) (fun ii _=>l.length-(intOf ii).toNat)
 case atStart=>exact⟨0,Nat.zero_le _,rfl,fun _ _ h=>absurd h (Nat.not_lt_zero _),rfl⟩
 case round =>
  obtain⟨i,hi,rfl,hall,rfl⟩:=hrel;have HALL:=h! hall;clear hall;by_cases hlt:i<l.length
  ·obtain⟨a1,n1,c1,hv,-,-,-,-,hcell⟩:=HO.out.sl;cases hv;obtain⟨b,off,rfl,-,hcell⟩:=hcell (by intro h;have:=congrArg List.length h;rw[ic_length]at this;rw[List.length_nil]at this;omega);have c0:=hcell i (.int .i64 l[i]) (by simp[ic,List.getElem?_eq_getElem hlt]);clear hcell;have HMEM:=h! (fun(h:l[i]=n)=>show r=l from by rw[HRR.out,if_pos (h▸List.getElem_mem hlt)]);have HNX:=h! (fun(h:l[i]≠n)=>upto_succ (p:=fun j hj=>l[j]≠n) HALL.out hlt h);have HLT:=h! hlt;have hli:(i:Int)<(l.length:Int):=by omega
   have HII:=h! HL.out;generalize l[i]=x at *;clear hlt;by_cases he:x=n
   ·have HR:=h! (HMEM.out he);have hb:(x == n)=true:=by simpa using he
    clear HMEM HNX he;go_wp2_with fail
    go_ret
    exact⟨_,rfl,by rw[HR.out];exact HO.out,Kept.refl _ _,fun g hg => .inl hg⟩
   ·have HN:=h! (HNX.out he);have hb:(x == n)=false:=by simpa using he
    have HWI:=h! (show wrap64 ((i:Int)+1)=((i+1:Nat):Int)from by have:=HL.out;have:=HLT.out;unfold wrap64;omega);clear HMEM HNX he;go_wp2_with fail
    go_roundw
    case rel=>exact⟨i+1,HLT.out,by rw[HWI.out],HN.out,trivial⟩
    case measure=>have:=HLT.out;rw[HWI.out];simp[intOf];omega
  ·obtain rfl:i=l.length:=by omega
   have hm:n∉l:=fun h=>by
    obtain⟨j,hj,e⟩:=List.getElem_of_mem h;exact HALL.out j hj hj e
   have HR:=h! (show r=l++[n]from by rw[HRR.out,if_neg hm]);clear hm hlt hi;have HX:=h! (Ext.alloc wr (.cells #[.int .i64 n] 3));go_wp2_with (at_builtin;go_must (refine wpList_ownw intsT rfl (.tmp 18) (.tmp 20) rfl rfl (HO.out.below HX.out) rfl (m:=1) (news:=[.int .i64 n]) rfl (by intro j u hu;rw[Addr.add_lit,cell_of_row _ wr.heap.size (0+j) #[.int .i64 n] 3 (0,0) (heap_alloc_new wr _)];simpa using hu) (by simp[Value.oneCell']) (by have:=HL.out;rw[ic_length];simp;omega) (by have:=HL.out;rw[ic_length];simp;omega) (by have:=HB.out;simp;omega) ?_;intro v6 w6 hown6 hb6 hg6;have HO6:=h! (show Own w6 B 3 1 v6 (ic (l++[n]))from by rw[ic_append];exact hown6);have HB6:=h! (show ∀ g,v6.ownBlock=some g->(Value.slice ao l.length c).ownBlock=some g\/(wr.alloc (.cells #[.int .i64 n] 3)).heap.size<=g from hb6);have HG6:=h! (show(wr.alloc (.cells #[.int .i64 n] 3)).grownBy w6 (Value.slice ao l.length c).ownBlock from hg6);clear hown6 hb6 hg6))
   go_ret
   exact⟨_,rfl,by rw[HR.out];exact HO6.out,⟨HG6.out.os.trans rfl,HG6.out.tape.trans rfl,HG6.out.output.trans rfl,Nat.le_trans HX.out.size HG6.out.size,fun b hb=>(HG6.out.block b (Nat.lt_of_lt_of_le hb.1 HX.out.size) fun e=>hb.2 e.symm).trans (HX.out.block b hb.1)⟩,fun g hg=>(HB6.out g hg).imp id fun h=>Nat.le_trans HX.out.size h⟩
theorem obj_eqlG (a1 a2 b1 b2:ByteArray)(W:World):(binOp BinOp.eql 28 (.agg #[.string a1,.string a2]) (.agg #[.string b1,.string b2])).run Tryz.prog W = .ok (.bool (decide (a1=b1/\a2=b2))) W:=by
 go_simp;simp only[ba_toList];by_cases h1:a1=b1 <;> by_cases h2:a2=b2 <;> simp[h1,h2]
theorem str_beq (a b:ByteArray):(a.toList == b.toList)=decide (a=b):=by
 by_cases h:a=b
 ·subst h;simp
 ·rw[decide_eq_false h,ByteArray.toList_eq,ByteArray.toList_eq,ba_beq' h]
theorem subsOf_take {T:List Tup} {p:P3} {i:Nat} (h:i<T.length):subsOf (T.take (i+1)) p=if T[i].o=p then subsOf (T.take i) p++[T[i].s]else subsOf (T.take i) p:=by
 rw[List.take_succ_eq_append_getElem h,subsOf_snoc]
set_option maxRecDepth 100000 in
set_option maxHeartbeats 1600000 in
theorem subs25_any {S:Nat->Prop} (v:Value)(T:List Tup)(p:P3)(w:World)(hS:∀ x,S x->x<w.heap.size)(h:Sl S w 6 v (tuCs T))(hl:T.length<=1000000000) :
  Calls Tryz.prog 121 #[v,pV p] w fun e w'=>∃ v',e = .returned v'/\Own w' w.heap.size 63 3 v' (pcs (subsOf T p))/\Ext w w':=by
 obtain⟨ao,c,rfl,hlc,hcm,hrow⟩:=tups_rows h;have HR:=h! hrow;have HL:=h! hl;have HSS:=h! hS;obtain⟨pt,pi,pr⟩:=p;have hx1:=Ext.alloc w (.cells #[.string pt,.string pi,.string pr] 30);have HP1:=h! (Blk.made w #[.string pt,.string pi,.string pr] 30);have HX1:=h! hx1;clear hrow hl h hx1 hS;unfold pV;dsimp only;go_enter Tryz.func121,Tryz.ntmps121
 go_wp2_with fail
 obtain⟨w1,hw1⟩:∃ x,x=w.alloc (.cells #[.string pt,.string pi,.string pr] 30):=⟨_,rfl⟩;rw[<- hw1]at HP1 HX1 ⊢;clear hw1;go_loopw [5,10] (fun ov ii wr=>∃ i:Nat,i<=T.length/\ii = .int .i64 i/\Own wr w.heap.size 63 3 ov (pcs (subsOf (T.take i) ⟨pt,pi,pr⟩))/\Blk wr w.heap.size #[.string pt,.string pi,.string pr] 30/\Below w.heap.size w wr) (fun _ ii _=>T.length-(intOf ii).toNat)
 case atStart=>exact⟨0,Nat.zero_le _,rfl,Own.nil _ _ _ _,HP1.out,HX1.out⟩
 case round =>
  obtain⟨i,hi,rfl,hown,hb1,hbw⟩:=hrel;have HOWN:=h! hown;have HB1:=h! hb1;have HBW:=h! hbw;clear hown hb1 hbw;by_cases hlt:i<T.length
  ·obtain⟨b,off,rfl,hSb,c0,c1,c2,c3,c4,c5⟩:=HR.out i hlt;have hlw:=HSS.out b hSb;have d0:=(HBW.out.cell (p:=⟨b,off+i*6,none⟩) hlw).trans c0;have d1:=(HBW.out.cell (p:=⟨b,off+i*6+1,none⟩) hlw).trans c1;have d2:=(HBW.out.cell (p:=⟨b,off+i*6+2,none⟩) hlw).trans c2;have d3:=(HBW.out.cell (p:=⟨b,off+i*6+3,none⟩) hlw).trans c3;have d4:=(HBW.out.cell (p:=⟨b,off+i*6+4,none⟩) hlw).trans c4;have d5:=(HBW.out.cell (p:=⟨b,off+i*6+5,none⟩) hlw).trans c5;have HTK:=h! (subsOf_take (p:=⟨pt,pi,pr⟩) hlt)
   have HSL:=h! (show(subsOf (T.take i) ⟨pt,pi,pr⟩).length<=1000000000 from by
    unfold subsOf;rw[List.length_map];refine Nat.le_trans (List.length_filter_le _ _) ?_;rw[List.length_take];have:=HL.out;omega)
   have HLT:=h! hlt;have HWI:=h! (show wrap64 ((i:Int)+1)=((i+1:Nat):Int)from by have:=HL.out;unfold wrap64;omega);have hli:(i:Int)<(T.length:Int):=by omega
   clear c0 c1 c2 c3 c4 c5 hlw hSb;generalize T[i]=x at *;clear hlt;generalize subsOf (T.take i) ⟨pt,pi,pr⟩=sl at *;generalize hs2:subsOf (T.take (i+1)) ⟨pt,pi,pr⟩=sl2 at *;have HS2:=h! hs2;clear hs2;obtain⟨⟨ot,oi,or_⟩,⟨st,si,sr⟩⟩:=x;dsimp only at d0 d1 d2 d3 d4 d5 HTK;have HX2:=h! (Ext.alloc wr (.cells #[.string ot,.string oi,.string or_,.string st,.string si,.string sr] 104));have hxc:=(Blk.made wr #[.string ot,.string oi,.string or_,.string st,.string si,.string sr] 104).cells;have hpc:=(HB1.out.below HX2.out).cells;have hob:=fun W=>obj_eqlG ot oi pt pi W;have hrb:=str_beq or_ pr;by_cases h1:ot=pt/\oi=pi
   ·rw[decide_eq_true h1]at hob;by_cases h2:or_=pr
    ·have HY:=h! (show sl2=sl++[⟨st,si,sr⟩]from by rw[HTK.out,if_pos (by rw[h1.1,h1.2,h2])]);rw[decide_eq_true h2]at hrb;clear h1 h2;have HX3:=h! (Ext.alloc (wr.alloc (.cells #[.string ot,.string oi,.string or_,.string st,.string si,.string sr] 104)) (.cells #[.string st,.string si,.string sr] 63));have HLB:=h! (Blk.made' (w:=wr.alloc (.cells #[.string ot,.string oi,.string or_,.string st,.string si,.string sr] 104)) (B:=wr.heap.size+1) (by simp) #[.string st,.string si,.string sr] 63);go_wp2_with (at_builtin;go_must (refine wpList_ownw subsT rfl (.tmp 26) (.tmp 29) rfl rfl ((HOWN.out.below HX2.out).below HX3.out) rfl (m:=1) (news:=pC ⟨st,si,sr⟩) rfl (by intro j u hu;rw[Addr.add_lit,Nat.zero_add];exact(HLB.out.cells j).trans (by simpa [pC] using hu)) (pC_one _) (by have:=HSL.out;rw[pcs_length,pC_length];omega) (by have:=HSL.out;rw[pcs_length,pC_length];omega) (by have:=HBW.out.size;have:=HX2.out.size;have:=HX3.out.size;omega) ?_;intro v6 w6 hown6 hb6 hg6;have HO6:=h! (show Own w6 w.heap.size 63 3 v6 (pcs (sl++[⟨st,si,sr⟩]))from by rw[pcs_append,pcs_single];exact hown6);have HP6:=h! (grown_blk ((HOWN.out.below HX2.out).below HX3.out) hg6 ((HB1.out.below HX2.out).below HX3.out) (by decide));have HW6:=h! (grown_below (HBW.out.trans ((HX2.out.trans HX3.out).mono HBW.out.size)) ((HOWN.out.below HX2.out).below HX3.out) hg6 (by have:=HBW.out.size;have:=HX2.out.size;have:=HX3.out.size;omega));clear hown6 hb6 hg6))
     go_roundw
     case rel=>exact⟨i+1,HLT.out,by first | rw[HWI.out] | go_num,by rw[HS2.out,HY.out];exact HO6.out,HP6.out,HW6.out⟩
     case measure=>have:=HLT.out;(try rw[HWI.out]);simp[intOf];omega
    ·have HY:=h! (show sl2=sl from by rw[HTK.out,if_neg (by simp[h2])]);rw[decide_eq_false h2]at hrb;clear h1 h2;go_wp2_with fail
     go_roundw
     case rel=>exact⟨i+1,HLT.out,by first | rw[HWI.out] | go_num,by rw[HS2.out,HY.out];exact HOWN.out.below HX2.out,HB1.out.below HX2.out,HBW.out.trans (HX2.out.mono HBW.out.size)⟩
     case measure=>have:=HLT.out;(try rw[HWI.out]);simp[intOf];omega
   ·have HY:=h! (show sl2=sl from by rw[HTK.out,if_neg (fun e=>h1 ⟨by injection e,by injection e⟩)]);rw[decide_eq_false h1]at hob;clear h1 hrb;go_wp2_with fail
    go_roundw
    case rel=>exact⟨i+1,HLT.out,by first | rw[HWI.out] | go_num,by rw[HS2.out,HY.out];exact HOWN.out.below HX2.out,HB1.out.below HX2.out,HBW.out.trans (HX2.out.mono HBW.out.size)⟩
    case measure=>have:=HLT.out;(try rw[HWI.out]);simp[intOf];omega
  ·obtain rfl:i=T.length:=by omega
   rw[List.take_length]at HOWN;go_wp2_with fail
   go_ret
   exact⟨_,rfl,HOWN.out,HBW.out⟩
end Go.Proofs.YtjdigpfipmckhaaGreat
