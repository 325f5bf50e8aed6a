/- Parts of the walks and of the plain theory, the first: A part's state is made: the walk of state at what is no until and no release. Conditions: the maker and the formula lie in the world. -/
import Derived.Test.YtkgfdgfhpdhhaaaGreatT23
import Derived.Test.YtkgfdgfhpdhhaaaGreatT31
namespace Go.Proofs.YtkgfdgfhpdhhaaaGreat
open Go.ChangeShapes Go.WideShapes Go.RowKit
attribute [local go_sem] Oper.semAt_some
set_option maxRecDepth 100000
set_option maxHeartbeats 8000000
theorem state_plain {R:Nat→Prop} {mb:Nat} {nv:Value} {L:List (List UInt8)} {t:T} {fa:MkS→Option (List Mvi × MkS)} (hk:t.kind≠12∧t.kind≠13) (hks:∀ u∈allT t,1≤u.kind∧u.kind≤14) (hsz:(keyT t).length≤1000000000) (ca:WaysC R mb nv L t fa) :
 StateC R mb nv L t (stateI (keyT t) false fa):=by
 intro W D s v hM hok hT hNm hDR hRW
 obtain ⟨ao,cap,rfl,hl,-⟩:=hT.parts
 obtain ⟨kd,hkd⟩:∃ kd,kd=t.kind:=⟨_,rfl⟩
 rw [← hkd] at hT hk ⊢
 have k12:(kd==12)=false:=beq_eq_false_iff_ne.2 hk.1
 have k13:(kd==13)=false:=beq_eq_false_iff_ne.2 hk.2
 obtain ⟨X,hX,hcX,hbX,hsX⟩:=box_cells W #[.int .i64 kd,.string ⟨t.name.toArray⟩,.slice ao t.kids.length cap] 24
 obtain ⟨xb,hxb⟩:∃ xb,xb=W.heap.size:=⟨_,rfl⟩
 rw [← hxb] at hbX hsX
 have hkc:=key_any t hks hsz R X _ (by rw [hkd] at hT;exact hT.nob hcX)
 rw [← hkd] at hkc
 obtain ⟨key,hkey⟩:∃ key,key=keyT t:=⟨_,rfl⟩
 rw [← hkey] at hkc hsz ⊢
 have HM:=Lib.hid (hM.nob hcX)
 have Hok:=Lib.hid hok
 have HNm:=Lib.hid (hNm.nob hcX)
 have HT:=Lib.hid (hT.nob hcX)
 have HDR:=Lib.hid hDR
 have HRX:Hid (∀ q,R q→q < xb):=Lib.hid (fun q hq=>by have:=hRW q hq;omega)
 have HDX:Hid (∀ q,D q→q < xb):=Lib.hid (fun q hq=>by have:=hM.lt q hq;omega)
 have Hsz:=Lib.hid hsz
 have Hcx:=Lib.hid hcX
 have HbX:=Lib.hid hbX
 have Hxs:Hid (X.heap.size=xb+1):=Lib.hid hsX
 have Hxb:=Lib.hid hxb
 obtain ⟨x0,x1,x2,_⟩:=cells_three hbX
 rw [hX] at x0 x1 x2
 clear hNm hM hok hDR hRW hT hl hks hsz hbX hsX hcX hkey hxb hkd hk
 go_enter Tryz.func62,Tryz.ntmps62
 go_wp2_with fail
 rw [← hX,← Hxb.out]
 rw [← hX] at x0 x1 x2
 clear hX
 (with_reducible refine hkc.mono ?_)
 clear hkc
 rintro e w1 ⟨rfl,hc1⟩
 have H1:=Lib.hid hc1
 have HM1:=Lib.hid (HM.out.nob hc1)
 obtain ⟨pb,hpb,cn,hlook,hcn⟩:=HM1.out.look key Hsz.out
 clear hc1 x0 x1 x2
 cases hlk:s.num.lookup key with
 | some n =>
   have Hn:Hid (cn=(n:Int)):=Lib.hid (hcn n hlk)
   rw [hlk] at hlook
   have Hlk:=Lib.hid hlk
   clear hcn hlk
   go_wp2_with fail
   go_ret
   exact ⟨(Hcx.out.trans1 H1.out).any,.inr ⟨n,s,_,D,by unfold stateI;rw [Hlk.out],rfl,HM1.out,fun k hk=> .inl hk,Hok.out,Nat.le_refl _,by rw [Hn.out];exact ⟨rfl,Hok.out.1 _ _ Hlk.out⟩⟩⟩
 | none =>
   rw [hlk] at hlook
   have Hlk:=Lib.hid hlk
   clear hcn hlk
   obtain ⟨x0,x1,x2,_⟩:=cells_three (H1.out.at HbX.out (fun e=>e))
   obtain ⟨Y,hY,hcY,hbY,hsY⟩:=box_cells w1 #[.bool false,.slice none 0 0] 69
   obtain ⟨sb,hsb⟩:∃ sb,sb=w1.heap.size:=⟨_,rfl⟩
   rw [← hsb] at hbY hsY
   have HcXY:Hid (Chg Nob X Y):=Lib.hid (H1.out.trans1 hcY)
   have HbY:=Lib.hid hbY
   have HsY:=Lib.hid hsY
   have HMY:=Lib.hid (HM1.out.nob hcY)
   have hpa:=ca Y D s _ HMY.out Hok.out (HT.out.nob HcXY.out) (HNm.out.nob HcXY.out) HDR.out (fun q hq=>by have:=HRX.out q hq;have:=HcXY.out.size;have:=Hxs.out;omega)
   have Hxsb:Hid (xb < sb):=(show xb < sb by have:=H1.out.size;have:=Hxs.out;omega)
   obtain ⟨z0,z1,z2,_⟩:=cells_three (HcXY.out.at HbX.out (fun e=>e))
   clear hcY hbY hsY
   go_upto_region 6 with fail
   rw [← hY,← hsb]
   clear hY hlook hpb x0 x1 x2
   have Hsb:=Lib.hid hsb
   clear hsb
   go_wp2_with fail
   (with_reducible refine hpa.mono ?_)
   clear hpa z0 z1 z2
   rintro e w2 ⟨hc2,⟨hf,rfl⟩ | ⟨ms,s2,va,D3,hf,rfl,hM2,hg2,hok2,hle2,⟨xq,hva⟩,hna,hla,hsa⟩⟩
   ·have Hf:=Lib.hid hf
    have Hc2:=Lib.hid hc2
    clear hc2 hf
    go_wp2_with fail
    exact ⟨rfl,(Hcx.out.trans1 HcXY.out).of_mk Hc2.out,.inl ⟨stateI_none Hlk.out Hf.out,rfl⟩⟩
   ·obtain ⟨n,hn⟩:∃ n,n=s2.sts.length:=⟨_,rfl⟩
    have Hn:=Lib.hid hn
    have hn5:n≤4096:=by rw [hn];exact hok2.2.1
    have Hok3:=Lib.hid hok2
    have Hle:=Lib.hid hle2
    have Hraw:=Lib.hid hf
    have hmsl:=hla
    have HmsS:Hid (∀ m∈ms,SetN (n+1) m.to):=Lib.hid (fun m hm=>(hsa m hm).mono (by omega))
    have hnD:¬ D3 xb∧¬ D3 sb:=⟨fun e=>(hg2 _ e).elim (fun e=>by have:=HDX.out _ e;omega) (fun e=>by have:=HsY.out;have:=Hxsb.out;omega),fun e=>(hg2 _ e).elim (fun e=>by have:=HDX.out _ e;have:=Hxsb.out;omega) (fun e=>by have:=HsY.out;omega)⟩
    have Hn3x:=Lib.hid hnD
    have hb6:=hc2.at HbY.out (fun e=>by have:=HDX.out _ e;have:=Hxsb.out;omega)
    obtain ⟨t0,t1,tf0,tf1⟩:=cell_two hb6
    obtain ⟨aq,cq,rfl,-,-⟩:=hva.min2
    obtain ⟨w7,hw7⟩:∃ w7,w7=w2.setCell ⟨sb,1,none⟩ (.slice aq ms.length cq):=⟨_,rfl⟩
    have hc7:Chg (At1 sb) w2 w7:=by rw [hw7];exact (Chg.refl (At1 sb) w2).setCell (p:=⟨sb,1,none⟩) (fun _=>rfl) _
    have hne7:∀ q,At1 sb q→∀ cs t m,w2.heap[q]? = some (.cells cs t m)→t=69:=fun q e cs t m h=>by
     have e:q=sb:=e
     subst e
     rw [hb6] at h
     simp at h
     exact h.2.1.symm
    have HQ:Hid (MOwn w7 Y.heap.size (.slice aq ms.length cq) ms xq):=Lib.hid (hva.typed hc7 (fun q hq2 e=>by
     obtain ⟨cs,m,hb⟩:=ownsRow_block hva.own q hq2
     exact absurd (hne7 q e cs 75 m hb) (by decide)) (fun q e cs m h=>absurd (hne7 q e cs 3 m h) (by decide)))
    have HbS7:Hid (w7.heap[sb]? = some (.cells #[.bool false,.slice aq ms.length cq] 69 (0,0))):=Lib.hid (by rw [hw7];exact block_two_set1 hb6)
    have HM7:Hid (MkIs w7 D3 mb nv s2 (sumN s2.sts)):=Lib.hid (hM2.keep hc7 (fun q e hq2=>by have e:q=sb:=e;subst e;exact hnD.2 hq2) (fun q e cs m h=>absurd (hne7 q e cs 3 m h) (by decide)))
    have HW7:Hid (Chg D W w7):=Lib.hid (((Hcx.out.trans1 HcXY.out).of_mk hc2).trans hc7 (fun i hi e=>by have e:i=sb:=e;have:=Hxsb.out;have:=Hxb.out;omega))
    have Hs7:Hid (Y.heap.size≤w7.heap.size∧W.heap.size≤Y.heap.size):=(show _∧_ from ⟨Nat.le_trans hc2.size hc7.size,(Hcx.out.trans1 HcXY.out).size⟩)
    have Hgr:Hid (Grows D D3 W.heap.size):=Lib.hid (fun k hk=>(hg2 k hk).imp id (fun e=>by have:=(Hcx.out.trans1 HcXY.out).size;omega))
    clear hf hc2 hM2 hg2 hok2 hle2 hva hna hla hsa hn hb6 hc7 hne7 hnD ca
    go_upto_region 16 with fail
    rw [← hw7]
    clear hw7 t0 t1 tf0 tf1
    have hsum:=Hok3.out.sum
    obtain ⟨sm,hsm⟩:∃ sm,sm=sumN s2.sts:=⟨_,rfl⟩
    rw [← hsm] at HM7 hsum
    rw [← Hn.out] at hsum
    have Hsm:=Lib.hid hsm
    have hsm5:sm≤16777216:=by omega
    have HM8:Hid (MkIs ((w7.setCell ⟨mb,3,none⟩ (.int .i64 ((sm:Int)+(ms.length:Int)))).drew) D3 mb nv s2 ((sm:Int)+(ms.length:Int))):=Lib.hid ((HM7.out.moves _).nob ((Chg.refl Nob _).drew))
    obtain ⟨m3,mf3,-,hDmb⟩:=HM7.out.mv
    have HDmb:=Lib.hid hDmb
    have hmbsb:mb≠sb:=fun e=>Hn3x.out.2 (e ▸ hDmb)
    have hc8:Chg (At1 mb) w7 ((w7.setCell ⟨mb,3,none⟩ (.int .i64 ((sm:Int)+(ms.length:Int)))).drew):=((Chg.refl (At1 mb) w7).setCell (p:=⟨mb,3,none⟩) (fun _=>rfl) _).drew
    have HbS8:=Lib.hid (hc8.at HbS7.out (fun e=>hmbsb (show mb=sb from (show sb=mb from e).symm)))
    have h62:∀ q,At1 mb q→∀ cs t m,w7.heap[q]? = some (.cells cs t m)→t=62:=fun q e cs t m h=>by
     obtain ⟨_,_,_,_,_,_,_,_,hb,_⟩:=HM7.out
     have e:q=mb:=e
     subst e
     rw [hb] at h
     simp at h
     exact h.2.1.symm
    have HQ8:Hid (MOwn ((w7.setCell ⟨mb,3,none⟩ (.int .i64 ((sm:Int)+(ms.length:Int)))).drew) Y.heap.size (.slice aq ms.length cq) ms xq):=Lib.hid (HQ.out.typed hc8 (fun q hq2 e=>by
     obtain ⟨cs,m,hb⟩:=ownsRow_block HQ.out.own q hq2
     exact absurd (h62 q e cs 75 m hb) (by decide)) (fun q e cs m h=>absurd (h62 q e cs 3 m h) (by decide)))
    have HW8:Hid (Chg D W ((w7.setCell ⟨mb,3,none⟩ (.int .i64 ((sm:Int)+(ms.length:Int)))).drew)):=(show Chg D W _ from HW7.out.trans hc8 (fun i hi e=>by have e:i=mb:=e;subst e;exact (Hgr.out _ HDmb.out).elim id (fun e=>by omega)))
    have Hs8:Hid (Y.heap.size≤((w7.setCell ⟨mb,3,none⟩ (.int .i64 ((sm:Int)+(ms.length:Int)))).drew).heap.size):=(show _≤_ from Nat.le_trans Hs7.out.1 hc8.size)
    obtain ⟨c7a,c7b,_⟩:=cell_two HbS7.out
    clear hsum hsm hDmb hmbsb hc8 h62 c7a
    refine wp_region_free (fun i=>i != 10) (fun w'=>w'.cell? ⟨mb,3,none⟩=some (.int .i64 (sm:Int))∧w'.cell? ⟨sb,1,none⟩=some (.slice aq ms.length cq)) (by kernel_rfl) ⟨m3,c7b⟩ (fun hHeld=>?_)
    refine tkG 0 hHeld ?_
    refine tkG 1 hHeld ?_
    refine tkG 2 hHeld ?_
    refine tkG 3 hHeld ?_
    refine tkG 4 hHeld ?_
    refine tkG 5 hHeld ?_
    refine tkG 6 hHeld ?_
    refine tkB 7 hHeld ?_
    refine rdG 8 fun K hK=>?_
    go_simp
    refine hK.out _ _ (fun _=>hHeld) ?_
    clear hK K
    try simp only [Act.put]
    refine tkG 9 hHeld ?_
    refine rdG 10 fun K hK=>?_
    have h8:=HM8.out
    go_simp
    refine hK.out _ _ (fun h=>absurd h (by decide)) ?_
    clear hK K
    try simp only [Act.put]
    refine wpAnyG_done (by kernel_rfl) ?_ _
    go_simp
    clear hHeld h8 m3 mf3 c7b
    generalize (w7.setCell ⟨mb,3,none⟩ (.int .i64 ((sm:Int)+(ms.length:Int)))).drew=w8 at *
    obtain ⟨m3,-,-,-⟩:=HM8.out.mv
    obtain ⟨a8,c8,hl8⟩:=HM8.out.len
    rw [← Hn.out] at hl8
    by_cases h1:131072 < sm+ms.length
    ·have h1i:(131072:Int) < (sm:Int)+(ms.length:Int):=by omega
     go_wp2_with fail
     exact ⟨rfl,HW8.out,.inl ⟨stateI_many Hlk.out Hraw.out (.inl (by rw [← Hsm.out];omega)),rfl⟩⟩
    ·have h1i:¬ (131072:Int) < (sm:Int)+(ms.length:Int):=by omega
     have h1d:decide ((131072:Int) < (sm:Int)+(ms.length:Int))=false:=decide_eq_false h1i
     by_cases h2:4096≤n
     ·have h2i:(4096:Int)≤(n:Int):=by omega
      go_wp2_with fail
      exact ⟨rfl,HW8.out,.inl ⟨stateI_many Hlk.out Hraw.out (.inr (by rw [← Hn.out];omega)),rfl⟩⟩
     ·have h2i:¬ (4096:Int)≤(n:Int):=by omega
      have h2d:decide ((4096:Int)≤(n:Int))=false:=decide_eq_false h2i
      have h2n:decide (4096≤n)=false:=decide_eq_false h2
      obtain ⟨w9,hw9⟩:∃ w9,w9=w8.drew:=⟨_,rfl⟩
      have hc9:Chg Nob w8 w9:=by rw [hw9];exact (Chg.refl Nob w8).drew
      have hpush:=(HM8.out.nob hc9).push (by have:=Hok3.out.2.1;omega) (HQ8.out.nob hc9) (by omega) false
      obtain ⟨a9,c9,o9,sl',w10,hrun9,⟨g10,c10,rfl⟩,hcell10,hfr9,hcD10,hcD11,D4,hM11,hD4⟩:=hpush
      rw [← Hn.out] at o9 hcell10 hrun9
      have hb9:=hc9.at HbS8.out (fun e=>e)
      obtain ⟨s90,s91,_⟩:=cell_two hb9
      have hcA:Chg Nob w9 (w9.alloc (.cells #[.bool false,.slice aq ms.length cq] 69)):=(Chg.refl _ _).alloc _
      have HS20a:Hid ((w9.alloc (.cells #[.bool false,.slice aq ms.length cq] 69)).cell? ⟨mb,1,none⟩=some (.slice a9 n c9)∧(w9.alloc (.cells #[.bool false,.slice aq ms.length cq] 69)).cell? ⟨sb,0,none⟩=some (.bool false)∧(w9.alloc (.cells #[.bool false,.slice aq ms.length cq] 69)).cell? ⟨sb,1,none⟩=some (.slice aq ms.length cq)):=(show _∧_∧_ from ⟨hcA.cell' o9 (fun e=>e),hcA.cell' s90 (fun e=>e),hcA.cell' s91 (fun e=>e)⟩)
      have HS20b:Hid (w10.cell? ⟨mb,1,none⟩=some (.slice a9 n c9)∧w10.cell? ⟨sb,0,none⟩=some (.bool false)∧w10.cell? ⟨sb,1,none⟩=some (.slice aq ms.length cq)):=(show _∧_∧_ from ⟨hcell10,hcD10.cell' s90 (fun e=>Hn3x.out.2 e),hcD10.cell' s91 (fun e=>Hn3x.out.2 e)⟩)
      obtain ⟨w11,hw11⟩:∃ w11,w11=w10.setCell ⟨mb,1,none⟩ (.slice (some ⟨g10,0,none⟩) (s2.sts.length+1) c10):=⟨_,rfl⟩
      rw [← hw11] at hcD11 hM11
      rw [← Hn.out] at hw11
      have hnum:=hM11.number (by show s2.num.length < (s2.sts++[_]).length;rw [List.length_append];have:=HM8.out.few.1;show s2.num.length < s2.sts.length+1;omega) key Hsz.out n (by omega)
      obtain ⟨pb2,hpb2,w12,hrun12,hM12,hc12⟩:=hnum
      have HWend:Hid (Chg D W w12):=(show Chg D W w12 from ((HW8.out.trans hc9 (fun _ _ e=>e.elim)).trans hcD11 (fun i hi e=>(Hgr.out i e).elim id (fun e=>by omega))).trans hc12 (fun i hi e=>by
       rcases hD4 i e with e | e | e
       ·exact (Hgr.out i e).elim id (fun e=>by omega)
       ·have:=HW8.out.size;have:=hc9.size;omega
       ·have:=(HQ8.out.own.lt i e).1;have:=Hs7.out;omega))
      have HgrE:Hid (Grows D D4 W.heap.size):=(show Grows D D4 W.heap.size from fun k hk=>by
       rcases hD4 k hk with e | e | e
       ·exact Hgr.out k e
       ·exact .inr (by have:=HW8.out.size;have:=hc9.size;omega)
       ·exact .inr (by have:=(HQ8.out.own.lt k e).1;have:=Hs7.out;omega))
      have HMend:Hid (MkIs w12 D4 mb nv ⟨s2.sts++[⟨false,ms⟩],(key,n)::s2.num⟩ (sumN (s2.sts++[(⟨false,ms⟩:Sti)]))):=(show MkIs w12 D4 mb nv _ _ by
       rw [sumN_app,← Hsm.out,show ((sm+ms.length:Nat):Int)=(sm:Int)+(ms.length:Int) by omega]
       exact hM12)
      have Hst:Hid (stateI key false (fa) s=some (n,⟨s2.sts++[⟨false,ms⟩],(key,n)::s2.num⟩)):=(show _=_ by
       rw [Hn.out]
       exact stateI_some Hlk.out Hraw.out (by rw [← Hsm.out,← Hn.out];omega))
      have HokE:Hid (MkOk ⟨s2.sts++[⟨false,ms⟩],(key,n)::s2.num⟩):=(show MkOk _ by
       have:=Hok3.out.push (fin:=false) (ms:=ms) key (by rw [← Hn.out];omega) hmsl (by rw [← Hn.out];exact HmsS.out)
       rw [Hn.out]
       exact this)
      have Hrun9:=Lib.hid hrun9
      have Hfr9:=Lib.hid hfr9
      have Hrun12:=Lib.hid hrun12
      have Hpb2:=Lib.hid hpb2
      have Hw11:=Lib.hid hw11
      have Hw9:=Lib.hid hw9
      rw [hw9] at o9 s90 s91
      clear hrun9 hfr9 hcell10 hcD10 hcD11 hM11 hD4 hb9 hcA hw11 hpb2 hrun12 hM12 hc12 hc9 hw9
      go_wp2_with fail
      clear m3 hl8 h1i h1d h2i h2d h2n
      refine wp_region_free (fun i=>i != 10) (fun w'=>w'.cell? ⟨mb,1,none⟩=some (.slice a9 n c9)∧w'.cell? ⟨sb,0,none⟩=some (.bool false)∧w'.cell? ⟨sb,1,none⟩=some (.slice aq ms.length cq)) (by kernel_rfl) ⟨o9,s90,s91⟩ (fun hHeld=>?_)
      rw [← Hw9.out] at hHeld ⊢
      refine tkG 0 hHeld ?_
      refine tkG 1 hHeld ?_
      refine tkG 2 hHeld ?_
      refine tkG 3 hHeld ?_
      refine tkG 4 hHeld ?_
      refine tkG 5 hHeld ?_
      refine rdG 6 fun K hK=>?_
      go_simp
      refine hK.out _ _ (fun _=>HS20a.out) ?_
      clear hK K
      try simp only [Act.put]
      refine rdG 7 fun K hK=>?_
      refine wp_append_runM (.tmp 114) (.tmp 116) 36 36 rfl _ _ rfl rfl _ _ Hrun9.out ?_
      refine hK.out _ _ (fun _=>HS20b.out) ?_
      clear hK K
      try simp only [Act.put]
      refine rdG 8 fun K hK=>?_
      go_simp
      refine hK.out _ _ (fun _=>HS20b.out) ?_
      clear hK K
      try simp only [Act.put]
      refine tkG 9 HS20b.out ?_
      refine rdG 10 fun K hK=>?_
      have f9:=Hfr9.out
      have o9:=HS20b.out.1
      go_simp
      refine hK.out _ _ (fun h=>absurd h (by decide)) ?_
      clear hK K f9 o9
      try simp only [Act.put]
      refine wpAnyG_done (by kernel_rfl) ?_ _
      go_simp
      clear hHeld o9 s90 s91
      rw [← Hw11.out]
      have hrun12:=Hrun12.out
      have hpb2:=Hpb2.out
      go_wp2_with fail
      go_ret
      exact ⟨HWend.out,.inr ⟨n,_,_,D4,Hst.out,rfl,HMend.out,HgrE.out,HokE.out,by show s.sts.length≤(s2.sts++[_]).length;rw [List.length_append];have:=Hle.out;omega,rfl,by show n < (s2.sts++[_]).length;rw [List.length_append,← Hn.out];exact Nat.lt_succ_self _⟩⟩
theorem MkIs.moves_at {D:Nat→Prop} {W:World} {mb:Nat} {nv:Value} {s:MkS} {mv:Int} (h:MkIs W D mb nv s mv) {n:Nat} {st:Sti} (hn:s.sts[n]? = some st) :
 ∃ b c am cm ys,W.cell? ⟨mb,1,none⟩=some (.slice (some ⟨b,0,none⟩) s.sts.length c)∧W.cell? ⟨b,n * 2+1,none⟩=some (.slice am st.moves.length cm)∧MIn W am ys∧ys.map (·.1)=st.moves∧(am=none→cm=0):=by
 obtain ⟨h1,h2,h3,sv,pb,lo,xs,dm,hb,dmb,dpb,hm,hnum,hrow,hfst,hown,hx⟩:=h
 have hlt:=(List.getElem?_eq_some_iff.1 hn).1
 obtain ⟨g,c,rfl,hc⟩:=ownsRow_some hrow (by omega)
 have hj2:(xs.map (·.1))[n]? = some st:=by rw [hfst];exact hn
 rw [List.getElem?_map] at hj2
 cases hxj:xs[n]? with
 | none=>rw [hxj] at hj2;cases hj2
 | some x =>
   rw [hxj] at hj2
   obtain rfl:x.1=st:=by simpa using hj2
   obtain ⟨⟨l,ho⟩,_,hlen⟩:=hx x (List.mem_of_getElem? hxj)
   obtain ⟨am,cm,em,hmr,hnil⟩:=ho.min2
   have q1:=hc (n * 2+1) _ ((flatR_at hxj (q:=1) (by decide)).trans rfl)
   rw [Go.WideShapes.add_plain,Nat.zero_add] at q1
   exact ⟨g,c,am,cm,x.2.2,cell_row hb 1 rfl,by rw [← em];exact q1,hmr,ho.fst,hnil⟩
def waysK (f:MkS→Option (Nat × MkS)):MkS→Option (List Mvi × MkS):=fun s=>(f s).map fun x=>((x.2.sts.getD x.1 s0).moves,x.2)
theorem ways_kept {R:Nat→Prop} {mb:Nat} {nv:Value} {L:List (List UInt8)} {t:T} {f:MkS→Option (Nat × MkS)} (hk:t.kind=12∨t.kind=13) (ca:StateC R mb nv L t f):WaysC R mb nv L t (waysK f):=by
 intro W D s v hM hok hT hNm hDR hRW
 obtain ⟨ao,cap,rfl,hl,-⟩:=hT.parts
 obtain ⟨kd,hkd⟩:∃ kd,kd=t.kind:=⟨_,rfl⟩
 rw [← hkd] at hT hk ⊢
 have k1:(kd==1)=false:=beq_eq_false_iff_ne.2 (by omega)
 have k2:(kd==2)=false:=beq_eq_false_iff_ne.2 (by omega)
 have k3:(kd==3)=false:=beq_eq_false_iff_ne.2 (by omega)
 have k4:(kd==4)=false:=beq_eq_false_iff_ne.2 (by omega)
 have k5:(kd==5)=false:=beq_eq_false_iff_ne.2 (by omega)
 have k8:(kd==8)=false:=beq_eq_false_iff_ne.2 (by omega)
 have k9:(kd==9)=false:=beq_eq_false_iff_ne.2 (by omega)
 obtain ⟨X,hX,hcX,hbX,hsX⟩:=box_cells W #[.int .i64 kd,.string ⟨t.name.toArray⟩,.slice ao t.kids.length cap] 24
 obtain ⟨x0,x1,x2,_⟩:=cells_three hbX
 have hpa:=ca X D s _ (hM.nob hcX) hok (hT.nob hcX) (hNm.nob hcX) hDR (fun q hq=>Nat.lt_of_lt_of_le (hRW q hq) hcX.size)
 have Hcx:=Lib.hid hcX
 clear hM hok hT hNm hDR hRW hl hbX hsX hcX hkd hk
 rw [hX] at x0 x1 x2
 go_enter Tryz.func115,Tryz.ntmps115
 go_wp2_with fail
 rw [← hX]
 clear hX x0 x1 x2
 (with_reducible refine hpa.mono ?_)
 clear hpa
 rintro e w2 ⟨hc2,⟨hf,rfl⟩ | ⟨n,s1,va,D2,hf,rfl,hM2,hg2,hok2,hle2,rfl,hn⟩⟩
 ·have Hf:=Lib.hid hf
  have Hc2:=Lib.hid hc2
  clear hc2 hf
  go_wp2_with fail
  exact ⟨rfl,Hcx.out.of_mk Hc2.out,.inl ⟨by unfold waysK;rw [Hf.out];rfl,rfl⟩⟩
 ·obtain ⟨st,hst⟩:∃ st,s1.sts[n]? = some st:=⟨_,List.getElem?_eq_getElem hn⟩
  obtain ⟨b,c,am,cm,ys,m1,m2,hmin,hfst,hnil⟩:=hM2.moves_at hst
  obtain ⟨hlen,hset⟩:=hok2.2.2 n st hst
  have hcl:=mclone_any (c:=cm) hfst hmin hnil (by omega)
  have Hf:=Lib.hid hf
  have Hend2:Hid (Chg D W w2):=Lib.hid (Hcx.out.of_mk hc2)
  have HM:=Lib.hid hM2
  have Hgr:Hid (Grows D D2 W.heap.size):=Lib.hid (fun k hk=>(hg2 k hk).imp id (fun e=>Nat.le_trans Hcx.out.size e))
  have Hok2:=Lib.hid hok2
  have Hle2:=Lib.hid hle2
  have Hset:=Lib.hid hset
  have Hst:=Lib.hid hst
  have hni:(n:Int) < (s1.sts.length:Int):=by omega
  have hn0:(0:Int)≤(n:Int):=by omega
  have Hn:=Lib.hid hn
  have Hlen:=Lib.hid hlen
  clear hf hc2 hM2 hg2 hok2 hle2 hst hmin hfst hnil hlen hset
  go_wp2_with fail
  (with_reducible refine hcl.mono ?_)
  clear hcl m1 m2
  rintro e w3 ⟨hc3,v,ys2,rfl,hown⟩
  have Hown:=Lib.hid hown
  have H3:Hid (Chg D W w3):=Lib.hid (Hend2.out.trans hc3 (fun _ _ e=>e.elim))
  have HM3:=Lib.hid (HM.out.nob hc3)
  clear hc3 hown
  go_wp2_with fail
  go_ret
  have hgd:s1.sts.getD n s0=st:=by rw [List.getD_eq_getElem?_getD,Hst.out];rfl
  exact ⟨H3.out,.inr ⟨st.moves,s1,_,D2,by unfold waysK;rw [Hf.out];show some (_,_)=_;rw [hgd],rfl,HM3.out,Hgr.out,Hok2.out,Hle2.out,⟨_,Hown.out.low Hend2.out.size⟩,fun q hq e=>by
   have h1:=(Hown.out.own.lt q hq).1
   have h2:=HM.out.lt q e
   omega,Hlen.out,fun m hm=>(Hset.out m hm).mono (by have:=Hn.out;omega)⟩⟩
def toM (l:List Int):Mvi:=⟨0,0,l⟩
def waysN (f:MkS→Option (List (List Int) × MkS)):MkS→Option (List Mvi × MkS):=fun s=>(f s).map fun x=>(x.1.map toM,x.2)
theorem ways_next {R:Nat→Prop} {mb:Nat} {nv:Value} {L:List (List UInt8)} {t ta:T} {f:MkS→Option (List (List Int) × MkS)} (hk:t.kind=5) (hkids:t.kids=[ta]) (ca:SetsC R mb nv L ta f):WaysC R mb nv L t (waysN f):=by
 intro W D s v hM hok hT hNm hDR hRW
 obtain ⟨ao,cap,rfl,hl,hkk⟩:=hT.parts
 obtain ⟨b0,o0,ka0,kc0,hao,hRb,a0,a1,a2,hkl0,_,hta⟩:=hkk.kid (j:=0) (t:=ta) (by rw [hkids];rfl)
 subst hao
 rw [hk,hkids]
 simp only [Nat.zero_mul,Nat.add_zero] at a0 a1 a2
 rw [show ([ta]:List T).length=1 from rfl]
 obtain ⟨X,hX,hcX,hbX,hsX⟩:=box_cells W #[.int .i64 5,.string ⟨t.name.toArray⟩,.slice (some ⟨b0,o0,none⟩) 1 cap] 24
 obtain ⟨x0,x1,x2,_⟩:=cells_three hbX
 have hpa:=ca X D s _ (hM.nob hcX) hok (hta.nob hcX) (hNm.nob hcX) hDR (fun q hq=>Nat.lt_of_lt_of_le (hRW q hq) hcX.size)
 have y0:=hcX.cell' a0 (fun e=>e)
 have y1:=hcX.cell' a1 (fun e=>e)
 have y2:=hcX.cell' a2 (fun e=>e)
 have Hcx:=Lib.hid hcX
 clear hM hok hT hNm hDR hRW hl hbX hsX hcX hkids hk hkk hta hRb hkl0 a0 a1 a2
 rw [hX] at x0 x1 x2 y0 y1 y2
 go_enter Tryz.func115,Tryz.ntmps115
 go_wp2_with fail
 rw [← hX]
 clear hX x0 x1 x2 y0 y1 y2
 (with_reducible refine hpa.mono ?_)
 clear hpa
 rintro e w2 ⟨hc2,⟨hf,rfl⟩ | ⟨ls,s1,va,D2,hf,rfl,hM2,hg2,hok2,hle2,⟨xs,hva⟩,hna,hla,hsa⟩⟩
 ·have Hf:=Lib.hid hf
  have Hc2:=Lib.hid hc2
  clear hc2 hf
  go_wp2_with fail
  exact ⟨rfl,Hcx.out.of_mk Hc2.out,.inl ⟨by unfold waysN;rw [Hf.out];rfl,rfl⟩⟩
 ·obtain ⟨ai,ci,rfl,hin⟩:=hva.sin
  have hxl:xs.length=ls.length:=by rw [← hva.fst,List.length_map]
  have hget:∀ (j:Nat) (x:StS),xs[j]? = some x→ls[j]? = some x.1:=fun j x hj=>by
   rw [← hva.fst,List.getElem?_map,hj];rfl
  have Hf:=Lib.hid hf
  have Hend2:Hid (Chg D W w2):=Lib.hid (Hcx.out.of_mk hc2)
  have HM:=Lib.hid hM2
  have Hgr:Hid (Grows D D2 W.heap.size):=Lib.hid (fun k hk=>(hg2 k hk).imp id (fun e=>Nat.le_trans Hcx.out.size e))
  have Hok2:=Lib.hid hok2
  have Hle2:=Lib.hid hle2
  have Hin:=Lib.hid hin
  have Hxl:=Lib.hid hxl
  have Hget:=Lib.hid hget
  have Hsa:=Lib.hid hsa
  have hla4:ls.length≤4096:=hla
  clear hf hc2 hM2 hg2 hok2 hle2 hva hna hla hsa hin hxl hget
  go_wp2_with fail
  go_loopw [5,55] (fun ov iv wr=>∃ (k:Nat) (ys:List MvS),iv = .int .i64 (k:Int)∧k≤ls.length∧Hid (MOwn wr w2.heap.size ov ((ls.take k).map toM) ys)∧Hid (Chg Nob w2 wr)) (fun _ iv _=>ls.length - (intOf iv).toNat)
  case atStart=>exact ⟨0,[],rfl,Nat.zero_le _,MOwn.nil _ _,Chg.refl _ _⟩
  case round =>
   obtain ⟨k,ys,rfl,hk,HO,Hc⟩:=hrel
   by_cases hlt:k < ls.length
   ·obtain ⟨x,hx⟩:∃ x,xs[k]? = some x:=⟨_,List.getElem?_eq_getElem (by have:=Hxl.out;omega)⟩
    obtain ⟨b,o,rfl,c0,hxl,hxt,hxn⟩:=(Hin.out.nob Hc.out) k x hx
    unfold cellS at c0
    have hki:(k:Int) < (ls.length:Int):=by omega
    have hk0:(0:Int)≤(k:Int):=by omega
    have hlen:((ls.take k).map toM).length≤1000000:=by rw [List.length_map,List.length_take];omega
    have hkl:((ls.take k).map toM).length=k:=by rw [List.length_map,List.length_take];omega
    obtain ⟨sl',W',hrun,hown,hcw⟩:=HO.out.push Hc.out.size hlen ((⟨0,0,x.1⟩:Mvi),x.2.1,x.2.2) ⟨hxl,hxt,hxn⟩
    have H2:Hid (MOwn W' w2.heap.size sl' ((ls.take (k+1)).map toM) (ys++[((⟨0,0,x.1⟩:Mvi),x.2.1,x.2.2)])):=(show MOwn W' w2.heap.size sl' ((ls.take (k+1)).map toM) _ by
     rw [List.take_add_one,Hget.out k x hx,List.map_append]
     exact hown)
    have H3:Hid (Chg Nob w2 W'):=Lib.hid (Hc.out.trans hcw (fun i hi e=>by have:=(HO.out.own.lt i e).1;omega))
    have Hrun:=Lib.hid hrun
    clear hrun hown hcw hxl hxt hxn hx hlen hkl
    go_wp2_with (refine wpList_append_known rfl _ _ 67 67 rfl _ _ rfl rfl _ W' Hrun.out ?_)
    go_roundw
    case rel=>exact ⟨k+1,_,by go_num,by omega,H2,H3⟩
    case measure=>simp [intOf];omega
   ·obtain rfl:k=ls.length:=by omega
    have Hown:Hid (MOwn wr w2.heap.size u5 (ls.map toM) ys):=(show MOwn wr w2.heap.size u5 (ls.map toM) ys by
     have:=HO.out
     rwa [List.take_length] at this)
    have H3:Hid (Chg D W wr):=Lib.hid (Hend2.out.trans Hc.out (fun _ _ e=>e.elim))
    have HM3:=Lib.hid (HM.out.nob Hc.out)
    clear HO
    go_wp2_with fail
    go_ret
    exact ⟨H3.out,.inr ⟨ls.map toM,s1,_,D2,by unfold waysN;rw [Hf.out];rfl,rfl,HM3.out,Hgr.out,Hok2.out,Hle2.out,⟨_,Hown.out.low Hend2.out.size⟩,fun q hq e=>by
     have h1:=(Hown.out.own.lt q hq).1
     have h2:=HM.out.lt q e
     omega,by rw [List.length_map];exact hla4,fun m hm=>by
     obtain ⟨l,hl,rfl⟩:=List.mem_map.1 hm
     exact Hsa.out l hl⟩⟩
theorem ways_not {R:Nat→Prop} {mb:Nat} {nv:Value} {L:List (List UInt8)} {t tk:T} (hk:t.kind=4) (hkids:t.kids=[tk]) (hin:tk.name∈L) (hL:L.length≤64):WaysC R mb nv L t (fun s=>some ([⟨0,bitI L tk.name,[]⟩],s)):=by
 intro W D s v hM hok hT hNm hDR hRW
 obtain ⟨ao,cap,rfl,hl,hkk⟩:=hT.parts
 obtain ⟨k,hk2⟩:∃ k,k=L.idxOf tk.name:=⟨_,rfl⟩
 have hk64:k < 64:=by have:=List.idxOf_lt_length_of_mem hin;omega
 have hix:∀ V,Chg Nob W V→Calls Tryz.prog 99 #[nv,.string ⟨tk.name.toArray⟩] V fun e w'=>e = .returned (.int .i64 (k:Int))∧V=w':=fun V hV=>by
  have:=index_any nv L tk.name V (hNm.nob hV).1
  unfold indexL at this
  rw [if_pos hin,← hk2] at this
  exact this
 obtain ⟨b0,o0,ka0,kc0,hao,hRb,a0,a1,a2,hkl0,_,hta⟩:=hkk.kid (j:=0) (t:=tk) (by rw [hkids];rfl)
 subst hao
 simp only [Nat.zero_mul,Nat.add_zero] at a1
 rw [hk,hkids]
 rw [show ([tk]:List T).length=1 from rfl]
 obtain ⟨X,hX,hcX,hbX,hsX⟩:=box_cells W #[.int .i64 4,.string ⟨t.name.toArray⟩,.slice (some ⟨b0,o0,none⟩) 1 cap] 24
 obtain ⟨xb,hxb⟩:∃ xb,xb=W.heap.size:=⟨_,rfl⟩
 rw [← hxb] at hbX hsX
 obtain ⟨x0,x1,x2,_⟩:=cells_three hbX
 have n0:=(hM.nob hcX).nvc
 have y1:=hcX.cell' a1 (fun e=>e)
 have HS:Hid (∀ V,Chg Nob X V→V.cell? ⟨mb,0,none⟩=some nv∧V.cell? ⟨xb,2,none⟩=some (.slice (some ⟨b0,o0,none⟩) 1 cap)∧V.cell? ⟨b0,o0+1,none⟩=some (.string ⟨tk.name.toArray⟩)):=(show ∀ V,Chg Nob X V→_∧_∧_ from fun V hV=>⟨hV.cell' n0 (fun e=>e),hV.cell' x2 (fun e=>e),hV.cell' y1 (fun e=>e)⟩)
 have Hix:Hid (∀ V,Chg Nob X V→Calls Tryz.prog 99 #[nv,.string ⟨tk.name.toArray⟩] V fun e w'=>e = .returned (.int .i64 (k:Int))∧V=w'):=Lib.hid (fun V hV=>hix V (hcX.trans1 hV))
 have HM:=Lib.hid (hM.nob hcX)
 have Hok:=Lib.hid hok
 have Hcx:=Lib.hid hcX
 have Hk2:=Lib.hid hk2
 have Hxb:=Lib.hid hxb
 have hk0:(0:Int)≤(k:Int):=by omega
 have hk64i:(k:Int) < 64:=by omega
 have HDlt:Hid (∀ q,D q→q < W.heap.size):=Lib.hid hM.lt
 clear hix hM hok hT hNm hDR hRW hkk hl hin hL hbX hsX hk2 hkids hk hRb hta hkl0 a0 a1 a2
 go_enter Tryz.func115,Tryz.ntmps115
 rw [hX] at x0 x2 n0 y1
 go_upto_region 9 with fail
 rw [← hX,← Hxb.out]
 rw [← hX] at n0 x2 y1
 clear hX x0 hxb
 refine wp_region_free (fun _=>true) (fun w'=>w'.cell? ⟨mb,0,none⟩=some nv∧w'.cell? ⟨xb,2,none⟩=some (.slice (some ⟨b0,o0,none⟩) 1 cap)∧w'.cell? ⟨b0,o0+1,none⟩=some (.string ⟨tk.name.toArray⟩)) (by kernel_rfl) ⟨n0,x2,y1⟩ (fun hHeld=>?_)
 refine tkG 0 hHeld ?_
 refine tkG 1 hHeld ?_
 refine tkG 2 hHeld ?_
 refine tkG 3 hHeld ?_
 refine tkG 4 hHeld ?_
 refine tkG 5 hHeld ?_
 refine tkG 6 hHeld ?_
 refine tkG 7 hHeld ?_
 refine tkG 8 hHeld ?_
 refine rdG 9 fun K hK=>?_
 go_simp
 (with_reducible refine (Hix.out _ ((Chg.refl Nob X).drew)).mono ?_)
 rintro e v1 ⟨rfl,rfl⟩
 refine hK.out _ _ (fun _=>HS.out _ ((Chg.refl Nob X).drew)) ?_
 clear hK K
 try simp only [Act.put]
 refine tkB 10 (HS.out _ ((Chg.refl Nob X).drew)) ?_
 refine tkG 11 (HS.out _ ((Chg.refl Nob X).drew)) ?_
 refine tkG 12 (HS.out _ ((Chg.refl Nob X).drew)) ?_
 refine rdG 13 fun K hK=>?_
 go_simp
 refine hK.out _ _ (fun _=>HS.out _ (((Chg.refl Nob X).drew).alloc _)) ?_
 clear hK K
 try simp only [Act.put]
 refine tkG 14 (HS.out _ (((Chg.refl Nob X).drew).alloc _)) ?_
 refine wpAnyG_done (by kernel_rfl) ?_ _
 go_simp
 clear hHeld
 go_wp2_with fail
 go_ret
 rw [wrap_pow k hk64]
 have hbit:(2:Int) ^ k=bitI L tk.name:=by unfold bitI;rw [Hk2.out]
 rw [hbit]
 have hend:Chg Nob X ((X.alloc (.cells #[.int .u64 0,.int .u64 (bitI L tk.name),.slice none 0 0] 75)).drew):=((Chg.refl _ _).alloc _).drew
 have hown:MOwn ((X.alloc (.cells #[.int .u64 0,.int .u64 (bitI L tk.name),.slice none 0 0] 75)).drew) X.heap.size (.slice (some ⟨X.heap.size,0,none⟩) 1 1) [⟨0,bitI L tk.name,[]⟩] [((⟨0,bitI L tk.name,[]⟩:Mvi),none,0)]:=(MOwn.lit X ((⟨0,bitI L tk.name,[]⟩:Mvi),none,0) ⟨by simp,⟨fun j x h=>by simp at h,fun h=>absurd rfl h⟩,fun _=>rfl⟩).nob ((Chg.refl _ _).drew)
 exact ⟨(Hcx.out.trans1 hend).any,.inr ⟨_,s,_,D,rfl,rfl,HM.out.nob hend,fun k hk=> .inl hk,Hok.out,Nat.le_refl _,⟨_,hown.low Hcx.out.size⟩,fun q hq e=>by
  cases hq
  have h9:X.heap.size < W.heap.size:=HDlt.out _ e
  have:=Hcx.out.size
  omega,by simp,fun m hm=>by rw [List.mem_singleton] at hm;subst hm;exact ⟨List.Pairwise.nil,fun k hk=>by cases hk⟩⟩⟩
end Go.Proofs.YtkgfdgfhpdhhaaaGreat
