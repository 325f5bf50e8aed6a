/- Parts of the walks and of the plain theory, the first: The sets of two parts together, of one of two. Conditions: the maker and the formula lie in the world. -/
import Derived.Test.YtkgfdgfhpdhhaaaGreatT31
namespace Go.Proofs.YtkgfdgfhpdhhaaaGreat
open Go.ChangeShapes Go.WideShapes Go.RowKit
attribute [local go_sem] Oper.semAt_some
set_option maxRecDepth 100000
set_option maxHeartbeats 8000000
def fewestO (l:List (List Int)):Option (List (List Int)):=if 4096 < l.length then none else some (fewestI l l.length)
def orS (a b:MkS→Option (List (List Int) × MkS)):MkS→Option (List (List Int) × MkS):=fun s=>(a s).bind fun (x,s1)=>(b s1).bind fun (y,s2)=>(fewestO (x++y)).map fun q=>(q,s2)
theorem fewestI_mem {l:List (List Int)} {n:Nat} (hn:n≤l.length) {m:List Int} (h:m∈fewestI l n):m∈l:=by
 unfold fewestI at h
 rw [List.mem_map] at h
 obtain ⟨i,hi,rfl⟩:=h
 rw [List.mem_filter,List.mem_range] at hi
 have h1:i < l.length:=by omega
 rw [List.getD_eq_getElem?_getD,List.getElem?_eq_getElem h1]
 exact List.getElem_mem h1
theorem fewestI_len (l:List (List Int)) (n:Nat):(fewestI l n).length≤n:=by
 unfold fewestI
 rw [List.length_map]
 have:=List.length_filter_le (fun i=>keepS l i l.length) (List.range n)
 rwa [List.length_range] at this
theorem SOwn.mono2 {W:World} {lo lo':Nat} {sl:Value} {ls:List (List Int)} {xs:List StS} (h:SOwn W lo sl ls xs) (hl:lo'≤lo):SOwn W lo' sl ls xs:=⟨ownsRow_mono h.own hl,h.fst,h.tos⟩
theorem sets_or {R:Nat→Prop} {mb:Nat} {nv:Value} {L:List (List UInt8)} {t ta tb:T} {fa fb:MkS→Option (List (List Int) × MkS)} (hk:t.kind=9) (hkids:t.kids=[ta,tb]) (ca:SetsC R mb nv L ta fa) (cb:SetsC R mb nv L tb fb):SetsC R mb nv L t (orS fa fb):=by
 intro W D s v hM hok hT hNm hDR hRW
 obtain ⟨ao,cap,rfl,hl,hkk⟩:=hT.parts
 obtain ⟨b0,o0,ka0,kc0,hao,hRb,a0,a1,a2,hkl0,_,hta⟩:=hkk.kid (j:=0) (t:=ta) (by rw [hkids];rfl)
 obtain ⟨b1,o1,ka1,kc1,hao1,_,e0,e1,e2,hkl1,_,htb⟩:=hkk.kid (j:=1) (t:=tb) (by rw [hkids];rfl)
 subst hao
 cases hao1
 rw [hk,hkids]
 simp only [Nat.zero_mul,Nat.one_mul,Nat.add_zero] at a0 a1 a2 e0 e1 e2
 rw [show ([ta,tb]:List T).length=2 from rfl]
 obtain ⟨X0,hX0,hcX0,hbX0,hsX0⟩:=box_cells W #[.int .i64 9,.string ⟨t.name.toArray⟩,.slice (some ⟨b0,o0,none⟩) 2 cap] 24
 obtain ⟨X,hX,hcX1,hbO,hsX⟩:=box_cells X0 #[.slice none 0 0] 35
 have hcX:Chg Nob W X:=hcX0.trans1 hcX1
 have hbX:=hcX1.at hbX0 (fun e=>e)
 rw [hsX0] at hbO hsX
 obtain ⟨xb,hxb⟩:∃ xb,xb=W.heap.size:=⟨_,rfl⟩
 rw [← hxb] at hbX hsX hbO hsX0
 have HM:=Lib.hid (hM.nob hcX)
 have Hok:=Lib.hid hok
 have HNm:=Lib.hid (hNm.nob hcX)
 have Hta:=Lib.hid (hta.nob hcX)
 have Htb:=Lib.hid (htb.nob hcX)
 have HDR:=Lib.hid hDR
 have HRX:Hid (∀ q,R q→q < xb):=Lib.hid (fun q hq=>by have:=hRW q hq;omega)
 have HDX:Hid (∀ q,D q→q < xb):=Lib.hid (fun q hq=>by have:=hM.lt q hq;omega)
 have Hcx:=Lib.hid hcX
 have Hxs:Hid (X.heap.size=xb+1+1):=Lib.hid hsX
 have HbO:=Lib.hid hbO
 have HX0:=Lib.hid hX0
 have HXe:=Lib.hid hX
 have HsX0:=Lib.hid hsX0
 have Hxb:=Lib.hid hxb
 obtain ⟨x0,x1,x2,_⟩:=cells_three hbX
 have HS:Hid (∀ (S:Nat→Prop) (V:World),Chg S X V→(∀ q,S q→¬ R q)→¬ S xb→V.cell? ⟨xb,2,none⟩=some (.slice (some ⟨b0,o0,none⟩) 2 cap)∧V.cell? ⟨b0,o0,none⟩=some (.int .i64 ta.kind)∧V.cell? ⟨b0,o0+1,none⟩=some (.string ⟨ta.name.toArray⟩)∧V.cell? ⟨b0,o0+2,none⟩=some (.slice ka0 ta.kids.length kc0)∧V.cell? ⟨b0,o0+3,none⟩=some (.int .i64 tb.kind)∧V.cell? ⟨b0,o0+3+1,none⟩=some (.string ⟨tb.name.toArray⟩)∧V.cell? ⟨b0,o0+3+2,none⟩=some (.slice ka1 tb.kids.length kc1)):=(show ∀ (S:Nat→Prop) (V:World),Chg S X V→(∀ q,S q→¬ R q)→¬ S xb→_ from fun S V hV hS hx=>by
  have hn:¬ S b0:=fun e=>hS b0 e hRb
  have f:∀ {p u},W.cell? ⟨b0,p,none⟩=some u→V.cell? ⟨b0,p,none⟩=some u:=fun h=>hV.cell' (hcX.cell' h (fun e=>e)) hn
  exact ⟨hV.cell' x2 hx,f a0,f a1,f a2,f e0,f e1,f e2⟩)
 have Hpa:Hid (∀ V,Chg Nob X V→Calls Tryz.prog 30 #[.pointer (some ⟨mb,0,none⟩),.agg #[.int .i64 ta.kind,.string ⟨ta.name.toArray⟩,.slice ka0 ta.kids.length kc0]] V (MkPost D mb nv V s (fa s) (SetsR V.heap.size))):=Lib.hid (fun V hV=>ca V D s _ (HM.out.nob hV) hok (Hta.out.nob hV) (HNm.out.nob hV) hDR (fun q hq=>by have:=HRX.out q hq;have:=hV.size;omega))
 clear hNm hM hok hta htb hDR hRW hT hkk hl hkids hkl0 hkl1 a0 a1 a2 e0 e1 e2 hbX hbO hsX hsX0 hcX hcX0 hcX1 hbX0 hRb hxb ca hk hX hX0 x2
 go_enter Tryz.func30,Tryz.ntmps30
 go_upto_region 1 with fail
 rw [← HX0.out,← Hxb.out]
 go_upto_region 2 with fail
 rw [← HXe.out,HsX0.out]
 go_upto_region 9 with fail
 clear x0 x1
 obtain ⟨x2,k0,k1,k2,k3,k4,k5⟩:=HS.out Nob X (Chg.refl _ _) (fun _ e=>e.elim) (fun e=>e)
 refine wp_region_free (fun i=>i != 13) (fun w'=>w'.cell? ⟨xb,2,none⟩=some (.slice (some ⟨b0,o0,none⟩) 2 cap)∧w'.cell? ⟨b0,o0,none⟩=some (.int .i64 ta.kind)∧w'.cell? ⟨b0,o0+1,none⟩=some (.string ⟨ta.name.toArray⟩)∧w'.cell? ⟨b0,o0+2,none⟩=some (.slice ka0 ta.kids.length kc0)∧w'.cell? ⟨b0,o0+3,none⟩=some (.int .i64 tb.kind)∧w'.cell? ⟨b0,o0+3+1,none⟩=some (.string ⟨tb.name.toArray⟩)∧w'.cell? ⟨b0,o0+3+2,none⟩=some (.slice ka1 tb.kids.length kc1)) (by kernel_rfl) ⟨x2,k0,k1,k2,k3,k4,k5⟩ (fun hHeld=>?_)
 refine tkG 0 hHeld ?_
 refine tkG 1 hHeld ?_
 refine tkG 2 hHeld ?_
 refine tkG 3 hHeld ?_
 refine tkG 4 hHeld ?_
 refine tkG 6 hHeld ?_
 refine tkG 7 hHeld ?_
 refine tkG 8 hHeld ?_
 refine tkG 9 hHeld ?_
 refine tkG 10 hHeld ?_
 refine rdG 5 fun K hK=>?_
 go_simp
 (with_reducible refine (Hpa.out _ ((Chg.refl Nob X).drew)).mono ?_)
 clear Hpa
 rintro e w2 ⟨hc2,⟨hf,rfl⟩ | ⟨ma,s1,va,D2,hf,rfl,hM2,hg2,hok2,hle2,⟨xa,hva⟩,hna,hla,hsa⟩⟩
 ·have Hf:=Lib.hid hf
  have Hc2:Hid (Chg D X w2):=Lib.hid ((((Chg.refl Nob X).drew).any (S:=D)).trans1 hc2)
  clear hc2 hf
  try go_simp
  exact ⟨rfl,Hcx.out.of_mk Hc2.out,.inl ⟨by unfold orS;rw [Hf.out];rfl,rfl⟩⟩
 have hsXd:(X.drew).heap.size=xb+1+1:=Hxs.out
 have HcX2:Hid (Chg D X w2):=Lib.hid ((((Chg.refl Nob X).drew).any (S:=D)).trans1 hc2)
 have HDR2:Hid (∀ q,D2 q→¬ R q):=Lib.hid (fun q hq hr=>(hg2 q hq).elim (fun e=>HDR.out q e hr) (fun e=>by have:=HRX.out q hr;omega))
 have Hpb:Hid (∀ V,Chg Nob w2 V→Calls Tryz.prog 30 #[.pointer (some ⟨mb,0,none⟩),.agg #[.int .i64 tb.kind,.string ⟨tb.name.toArray⟩,.slice ka1 tb.kids.length kc1]] V (MkPost D2 mb nv V s1 (fb s1) (SetsR V.heap.size))):=Lib.hid (fun V hV=>cb V D2 s1 _ (hM2.nob hV) hok2 ((Htb.out.chg HcX2.out (fun b hb hd=>HDR.out b hd hb)).nob hV) ((HNm.out.chg HcX2.out HDR.out).nob hV) HDR2.out (fun q hq=>by have:=HRX.out q hq;have:=HcX2.out.size;have:=hV.size;have:=Hxs.out;omega))
 have HS2:=Lib.hid (HS.out D w2 HcX2.out HDR.out (fun e=>by have:=HDX.out _ e;omega))
 have Hg2:Hid (∀ q,D2 q→D q∨xb+1 < q):=Lib.hid (fun q hq=>(hg2 q hq).imp id (fun e=>by omega))
 have HM2:=Lib.hid hM2
 have Hle2:=Lib.hid hle2
 have Hva:Hid (SOwn w2 (xb+1+1) va ma xa):=Lib.hid (hsXd ▸ hva)
 have Hna:=Lib.hid hna
 have Hla:=Lib.hid hla
 have Hsa:=Lib.hid hsa
 have Hfa:=Lib.hid hf
 have HbO2:=Lib.hid (HcX2.out.at HbO.out (fun e=>by have:=HDX.out _ e;omega))
 clear hc2 hM2 hg2 hle2 hva hna hla hsa hf hok2 hsXd cb
 refine hK.out _ _ (fun _=>HS2.out) ?_
 clear hK K
 try simp only [Act.put]
 refine rdG 11 fun K hK=>?_
 go_simp
 (with_reducible refine (Hpb.out _ (Chg.refl Nob w2)).mono ?_)
 clear Hpb
 rintro e w3 ⟨hc3,⟨hf,rfl⟩ | ⟨my,s2,vy,D3,hf,rfl,hM3,hg3,hok3,hle3,⟨ya,hvy⟩,hny,hly,hsy⟩⟩
 ·have Hf:=Lib.hid hf
  have Hc3:=Lib.hid hc3
  clear hc3 hf
  try go_simp
  exact ⟨rfl,(Hcx.out.of_mk HcX2.out).trans Hc3.out (fun i hi e=>(Hg2.out i e).elim id (fun e=>by have:=Hxb.out;omega)),.inl ⟨by unfold orS;rw [Hfa.out];show Option.bind (fb s1) _=none;rw [Hf.out];rfl,rfl⟩⟩
 have HW3:Hid (Chg D W w3):=Lib.hid ((Hcx.out.of_mk HcX2.out).trans hc3 (fun i hi e=>(Hg2.out i e).elim id (fun e=>by have:=Hxb.out;omega)))
 have Hva3:Hid (SOwn w3 (xb+1+1) va ma xa):=Lib.hid (Hva.out.typed hc3 (fun q hq=>Hna.out q hq) HM2.out.ty)
 have Hg3:Hid (∀ q,D3 q→D q∨xb+1 < q):=Lib.hid (fun q hq=>(hg3 q hq).elim (fun e=>Hg2.out q e) (fun e=> .inr (by have:=HcX2.out.size;have:=Hxs.out;omega)))
 have Hnva:Hid (∀ q,va.ownBlock=some q→¬ D3 q):=(show ∀ q,va.ownBlock=some q→¬ D3 q from fun q hq e=>by
  rcases hg3 q e with e | e
  ·exact Hna.out q hq e
  ·have:=(Hva.out.own.lt q hq).2;omega)
 have Hvalt:Hid (∀ q,va.ownBlock=some q→q < w2.heap.size):=Lib.hid (fun q hq=>(Hva.out.own.lt q hq).2)
 have Hs3:Hid (xb+1+1≤w2.heap.size∧w2.heap.size≤w3.heap.size):=(show _∧_ from ⟨by have:=HcX2.out.size;have:=Hxs.out;omega,hc3.size⟩)
 have Hf2:Hid (fb s1=some (my,s2)):=Lib.hid hf
 have HbO3:=Lib.hid (hc3.at HbO2.out (fun e=>(Hg2.out _ e).elim (fun e=>by have:=HDX.out _ e;omega) (fun e=>by omega)))
 have HM3:=Lib.hid hM3
 have Hok3:=Lib.hid hok3
 have Hle:Hid (s.sts.length≤s2.sts.length):=(show _≤_ from Nat.le_trans Hle2.out hle3)
 have HSA:Hid (∀ m∈ma,SetN s2.sts.length m):=Lib.hid (fun m hm=>(Hsa.out m hm).mono hle3)
 have Hvy:=Lib.hid hvy
 have Hny:=Lib.hid hny
 have Hly:=Lib.hid hly
 have Hsy:=Lib.hid hsy
 have HS4:Hid (∀ V,Chg Nob w3 V→V.cell? ⟨xb,2,none⟩=some (.slice (some ⟨b0,o0,none⟩) 2 cap)∧V.cell? ⟨b0,o0,none⟩=some (.int .i64 ta.kind)∧V.cell? ⟨b0,o0+1,none⟩=some (.string ⟨ta.name.toArray⟩)∧V.cell? ⟨b0,o0+2,none⟩=some (.slice ka0 ta.kids.length kc0)∧V.cell? ⟨b0,o0+3,none⟩=some (.int .i64 tb.kind)∧V.cell? ⟨b0,o0+3+1,none⟩=some (.string ⟨tb.name.toArray⟩)∧V.cell? ⟨b0,o0+3+2,none⟩=some (.slice ka1 tb.kids.length kc1)):=(show ∀ V,Chg Nob w3 V→_ from fun V hV=>HS.out (fun q=>D q∨D2 q) V (((HcX2.out.mono (fun _ _ e=> .inl e)).trans hc3 (fun _ _ e=> .inr e)).trans1 hV.any) (fun q e=>e.elim (HDR.out q) (HDR2.out q)) (fun e=>e.elim (fun e=>by have:=HDX.out _ e;omega) (fun e=>(Hg2.out _ e).elim (fun e=>by have:=HDX.out _ e;omega) (fun e=>by omega))))
 have HS3:=Lib.hid (HS4.out w3 (Chg.refl _ _))
 have HcX3:Hid (Chg (fun q=>D q∨D2 q) X w3):=Lib.hid ((HcX2.out.mono (fun _ _ e=> .inl e)).trans hc3 (fun _ _ e=> .inr e))
 have HnR:Hid (∀ q,(D q∨D2 q)→¬ R q):=Lib.hid (fun q e=>e.elim (HDR.out q) (HDR2.out q))
 have HnX:Hid (¬ (D xb∨D2 xb)):=Lib.hid (fun e=>e.elim (fun e=>by have:=HDX.out _ e;omega) (fun e=>(Hg2.out _ e).elim (fun e=>by have:=HDX.out _ e;omega) (fun e=>by omega)))
 obtain ⟨aa,ca',rfl,hmina,hnila⟩:=Hva3.out.sin2
 obtain ⟨ay,cy,rfl,hminy,hnily⟩:=Hvy.out.sin2
 have Hmina:=Lib.hid hmina
 have Hminy:=Lib.hid hminy
 have Hnily:=Lib.hid hnily
 clear hc3 hM3 hok3 hle3 hvy hny hly hsy hf hg3 hmina hnila hminy hnily
 refine hK.out _ _ (fun _=>HS3.out) ?_
 clear hK K
 try simp only [Act.put]
 refine rdG 12 fun K hK=>?_
 have hcat0:=Hva3.out.concat (by have:=Hs3.out;omega) Hvy.out.fst Hminy.out Hnily.out (by have:=Hla.out;have:=Hly.out;omega)
 obtain ⟨sl',w4,hrun,hcat,hc4,hob4⟩:=hcat0
 have h753:∀ q,(Value.slice aa ma.length ca').ownBlock=some q→∀ cs m,w3.heap[q]?≠some (.cells cs 3 m):=fun q e cs m hb=>by
  obtain ⟨cs',m',hb2⟩:=ownsRow_block Hva3.out.own q e
  rw [hb] at hb2
  simp at hb2
 have hlo:∀ q,(Value.slice aa ma.length ca').ownBlock=some q→xb+1+1≤q:=fun q hq=>(Hva3.out.own.lt q hq).1
 have HM4:=Lib.hid (HM3.out.keep hc4 (fun q e=>Hnva.out q e) h753)
 have HW4:Hid (Chg D W w4):=Lib.hid (HW3.out.trans hc4 (fun i hi e=>by have:=hlo i e;have:=Hxb.out;omega))
 have HS5:Hid (w4.cell? ⟨xb,2,none⟩=some (.slice (some ⟨b0,o0,none⟩) 2 cap)∧w4.cell? ⟨b0,o0,none⟩=some (.int .i64 ta.kind)∧w4.cell? ⟨b0,o0+1,none⟩=some (.string ⟨ta.name.toArray⟩)∧w4.cell? ⟨b0,o0+2,none⟩=some (.slice ka0 ta.kids.length kc0)∧w4.cell? ⟨b0,o0+3,none⟩=some (.int .i64 tb.kind)∧w4.cell? ⟨b0,o0+3+1,none⟩=some (.string ⟨tb.name.toArray⟩)∧w4.cell? ⟨b0,o0+3+2,none⟩=some (.slice ka1 tb.kids.length kc1)):=Lib.hid (HS.out (fun q=>(D q∨D2 q)∨(Value.slice aa ma.length ca').ownBlock=some q) w4 ((HcX3.out.mono (fun _ _ e=> .inl e)).trans hc4 (fun _ _ e=> .inr e)) (fun q e=>e.elim (HnR.out q) (fun e hr=>by have:=hlo q e;have:=HRX.out q hr;omega)) (fun e=>e.elim HnX.out (fun e=>by have:=hlo _ e;omega)))
 have HbO4:=Lib.hid (hc4.at HbO3.out (fun e=>by have:=hlo _ e;omega))
 obtain ⟨as',cs',rfl,-,-⟩:=hcat.sin2
 have Hcat:=Lib.hid hcat
 have Hrun:=Lib.hid hrun
 have Hs4:Hid (w3.heap.size≤w4.heap.size):=Lib.hid hc4.size
 have hcl:(ma++my).length=ma.length+my.length:=List.length_append
 have Hcl:=Lib.hid hcl
 clear hrun hcat hc4 hob4 h753 hlo hcl
 refine wp_append_runM (.tmp 27) (.tmp 33) 35 35 rfl _ _ rfl rfl _ _ Hrun.out ?_
 refine hK.out _ _ (fun _=>HS5.out) ?_
 clear hK K
 try simp only [Act.put]
 refine rdG 13 fun K hK=>?_
 obtain ⟨o7,f7⟩:=cell_oneM HbO4.out
 obtain ⟨w5,hw5⟩:∃ w5,w5=w4.setCell ⟨xb+1,0,none⟩ (.slice as' (ma++my).length cs'):=⟨_,rfl⟩
 have hc5:Chg (At1 (xb+1)) w4 w5:=by rw [hw5];exact (Chg.refl (At1 (xb+1)) w4).setCell (p:=⟨xb+1,0,none⟩) (fun _=>rfl) _
 have HbO5:Hid (w5.heap[xb+1]? = some (.cells #[.slice as' (ma++my).length cs'] 35 (0,0))):=Lib.hid (by rw [hw5];exact block_one_set HbO4.out)
 have hne5:∀ q,At1 (xb+1) q→∀ cs t m,w4.heap[q]? = some (.cells cs t m)→t=35:=fun q e cs t m h=>by
  have e:q=xb+1:=e
  subst e
  rw [HbO4.out] at h
  simp at h
  exact h.2.1.symm
 have HM5:=Lib.hid (HM4.out.keep hc5 (fun q e hq=>by have e:q=xb+1:=e;subst e;exact (Hg3.out _ hq).elim (fun e=>by have:=HDX.out _ e;omega) (fun e=>by omega)) (fun q e cs m h=>absurd (hne5 q e cs 3 m h) (by decide)))
 have Hcat5:=Lib.hid (Hcat.out.typed hc5 (fun q hq e=>by
  obtain ⟨cs,m,hb⟩:=ownsRow_block Hcat.out.own q hq
  exact absurd (hne5 q e cs 73 m hb) (by decide)) (fun q e cs m h=>absurd (hne5 q e cs 3 m h) (by decide)))
 have HW5:Hid (Chg D W w5):=Lib.hid (HW4.out.trans hc5 (fun i hi e=>by have e:i=xb+1:=e;have:=Hxb.out;omega))
 have Hs5:Hid (w4.heap.size≤w5.heap.size):=Lib.hid hc5.size
 have Hw5e:=Lib.hid hw5
 clear hc5 hne5 hw5
 go_simp
 refine hK.out _ _ (fun h=>absurd h (by decide)) ?_
 clear hK K o7 f7
 try simp only [Act.put]
 refine wpAnyG_done (by kernel_rfl) ?_ _
 go_simp
 clear hHeld x2 k0 k1 k2 k3 k4 k5
 try rw [Hcl.out] at Hw5e
 rw [← Hw5e.out]
 obtain ⟨o8,f8⟩:=cell_oneM HbO5.out
 have HsetL:Hid (∀ m∈ma++my,SetN s2.sts.length m):=Lib.hid (fun m hm=>(List.mem_append.1 hm).elim (HSA.out m) (Hsy.out m))
 obtain ⟨lz,hlz⟩:∃ lz,lz=ma++my:=⟨_,rfl⟩
 have hlz8:lz.length≤8192:=by rw [hlz,Hcl.out];have:=Hla.out;have:=Hly.out;omega
 have Hlz:=Lib.hid hlz
 rw [← hlz] at o8 Hcat5 HsetL
 clear hlz
 by_cases hbig:4096 < lz.length
 ·have hbi:(4096:Int) < (lz.length:Int):=by omega
  go_wp2_with fail
  exact ⟨rfl,HW5.out,.inl ⟨by unfold orS fewestO;rw [Hfa.out];show Option.bind (fb s1) _=none;rw [Hf2.out];show Option.map _ (if 4096 < (ma++my).length then none else _)=none;rw [← Hlz.out,if_pos hbig];rfl,rfl⟩⟩
 ·have hbi:¬ (4096:Int) < (lz.length:Int):=by omega
  have hbd:decide ((4096:Int) < (lz.length:Int))=false:=decide_eq_false hbi
  obtain ⟨af,cf,ef,hsin⟩:=Hcat5.out.sin
  cases ef
  have hfew:=fewest_any (c:=cs') Hcat5.out.fst (by omega) hsin
  clear hsin
  go_wp2_with fail
  (with_reducible refine hfew.mono ?_)
  clear hfew o8 f8
  rintro e w6 ⟨hc6,vq,xq,rfl,hown⟩
  obtain ⟨ms,hms⟩:∃ ms,ms=fewestI lz lz.length:=⟨_,rfl⟩
  rw [← hms] at hown
  have Hraw:Hid (orS fa fb s=some (ms,s2)):=(show _=_ by
   unfold orS fewestO
   rw [Hfa.out]
   show Option.bind (fb s1) _=_
   rw [Hf2.out]
   show Option.map _ (if 4096 < (ma++my).length then none else some (fewestI (ma++my) (ma++my).length))=_
   rw [← Hlz.out,if_neg hbig,← hms]
   rfl)
  have hmsl:ms.length≤4096:=by rw [hms];exact Nat.le_trans (fewestI_len _ _) (by omega)
  have HmsS:Hid (∀ m∈ms,SetN s2.sts.length m):=(show ∀ m∈ms,SetN s2.sts.length m from fun m hm=>by
   rw [hms] at hm
   exact HsetL.out m (fewestI_mem (Nat.le_refl _) hm))
  have Hown:=Lib.hid hown
  have HM6:=Lib.hid (HM5.out.nob hc6)
  have HW6:Hid (Chg D W w6):=Lib.hid (HW5.out.trans hc6 (fun _ _ e=>e.elim))
  clear hc6 hown hms
  go_wp2_with fail
  go_ret
  exact ⟨HW6.out,.inr ⟨ms,s2,_,D3,Hraw.out,rfl,HM6.out,fun k hk=>(Hg3.out k hk).imp id (fun e=>by have:=Hxb.out;omega),Hok3.out,Hle.out,⟨_,SOwn.mono2 Hown.out (by have:=HW5.out.size;omega)⟩,fun q hq e=>by
   have h1:=(Hown.out.own.lt q hq).1
   have h2:=HM5.out.lt q e
   omega,hmsl,HmsS.out⟩⟩
end Go.Proofs.YtkgfdgfhpdhhaaaGreat
namespace Go.Proofs.YtkgfdgfhpdhhaaaGreat
open Go.ChangeShapes Go.WideShapes Go.RowKit Go.Shelf
attribute [local go_sem] Oper.semAt_some
set_option maxRecDepth 100000
set_option maxHeartbeats 8000000
def joinN (a b:List (List Int)) (k:Nat):List (List Int):=(List.range k).map fun p=>joinI (a.getD (p / b.length) []) (b.getD (p % b.length) [])
def joinsI (a b:List (List Int)):List (List Int):=joinN a b (a.length * b.length)
def andS (a b:MkS→Option (List (List Int) × MkS)):MkS→Option (List (List Int) × MkS):=fun s=>(a s).bind fun (x,s1)=>(b s1).bind fun (y,s2)=>(fewestO (joinsI x y)).map fun q=>(q,s2)
theorem joinN_len (a b:List (List Int)) (k:Nat):(joinN a b k).length=k:=by unfold joinN;rw [List.length_map,List.length_range]
theorem joinN_succ (a b:List (List Int)) (k:Nat):joinN a b (k+1)=joinN a b k++[joinI (a.getD (k / b.length) []) (b.getD (k % b.length) [])]:=by
 unfold joinN
 rw [List.range_succ,List.map_append]
 rfl
theorem joinsI_set {n:Nat} {a b:List (List Int)} (ha:∀ m∈a,SetN n m) (hb:∀ m∈b,SetN n m):∀ m∈joinsI a b,SetN n m:=by
 intro m hm
 unfold joinsI joinN at hm
 rw [List.mem_map] at hm
 obtain ⟨p,hp,rfl⟩:=hm
 rw [List.mem_range] at hp
 have hb0:0 < b.length:=by
  rcases Nat.eq_zero_or_pos b.length with e | e
  ·rw [e,Nat.mul_zero] at hp;omega
  ·exact e
 have h1:p / b.length < a.length:=by rw [Nat.div_lt_iff_lt_mul hb0];omega
 have h2:p % b.length < b.length:=Nat.mod_lt _ hb0
 rw [List.getD_eq_getElem?_getD,List.getD_eq_getElem?_getD,List.getElem?_eq_getElem h1,List.getElem?_eq_getElem h2]
 exact joinI_set (ha _ (List.getElem_mem h1)) (hb _ (List.getElem_mem h2))
theorem getD_map1s {xs:List StS} {a:List (List Int)} (h:xs.map (·.1)=a) {i:Nat} (hi:i < xs.length):∃ x,x∈xs∧xs[i]? = some x∧xs.getD i sS0=x∧a.getD i []=x.1:=by
 refine ⟨xs[i],List.getElem_mem hi,List.getElem?_eq_getElem hi,by rw [List.getD_eq_getElem?_getD,List.getElem?_eq_getElem hi];rfl,?_⟩
 rw [← h,List.getD_eq_getElem?_getD,List.getElem?_map,List.getElem?_eq_getElem hi];rfl
theorem wpAt_condF {f:FuncId} {P:Program} {Q:Exit→Act→World→Prop} {a:Act} {w:World} {c:Operand} {x y:Code} (hc:a.eval c = .bool false) (h:wpAt f P y Q a w):wpAt f P (Code.cond c x y) Q a w:=wpAt_cond (t:=false) hc h
theorem wpAt_condT {f:FuncId} {P:Program} {Q:Exit→Act→World→Prop} {a:Act} {w:World} {c:Operand} {x y:Code} (hc:a.eval c = .bool true) (h:wpAt f P x Q a w):wpAt f P (Code.cond c x y) Q a w:=wpAt_cond (t:=true) hc h
def QP (Q:Exit→Act→World→Prop) (R:Ending→World→Prop):Exit→Act→World→Prop
 | .normal,a,w=>Q .normal a w
 | .panic c,a,w=>a.defers=[]∧R (.panicked c) w
 | _,_,_=>False
theorem wp_region_free_P {P:Program} {Q:Exit→Act→World→Prop} {R:Ending→World→Prop} (hp:∀ c a w,a.defers=[]→R (.panicked c) w→Q (.panic c) a w) {ops:Array Oper} (F:Nat→Bool) (S:World→Prop) {id:Nat} {a:Act} {w:World} (hm:P.follows .mixedOrders=true) (hS:S w.drew)
 (h:S w.drew→wpAnyG P .any ops (QP Q R) F S ops.size (Array.replicate ops.size false) a w.drew):(Code.region id ops true).wp P Q a w :=
 Go.wp_mono (wp_region_free F S hm hS h) (fun e a w h=>by
  cases e <;> first | exact h.elim | exact hp _ _ _ h.1 h.2 | exact h)
theorem QP.mk {Q:Exit→Act→World→Prop} {R:Ending→World→Prop} {a:Act} {w:World} (h:Q .normal a w):QP Q R .normal a w:=h
def SIv (a b:List (List Int)) (Z:World) (ob:Nat) (pre:List Nat) (D:Nat→Prop) (W:World):Prop:=∃ sl xs',DOwnS D W Z.heap.size ob sl (joinN a b pre.length) xs'∧pre.length≤4096∧Chg (At1 ob) Z W∧∀ q,D q→q=ob∨Z.heap.size≤q
def SIp (a b:List (List Int)) (Z:World) (ob:Nat) (ch:List PanicEntry) (W:World):Prop:=ch=manyE∧4096 < (joinsI a b).length∧Chg (At1 ob) Z W
theorem sets_and {R:Nat→Prop} {mb:Nat} {nv:Value} {L:List (List UInt8)} {t ta tb:T} {fa fb:MkS→Option (List (List Int) × MkS)} (hk:t.kind=8) (hkids:t.kids=[ta,tb]) (ca:SetsC R mb nv L ta fa) (cb:SetsC R mb nv L tb fb):SetsC R mb nv L t (andS fa fb):=by
 intro W D s v hM hok hT hNm hDR hRW
 obtain ⟨ao,cap,rfl,hl,hkk⟩:=hT.parts
 obtain ⟨b0,o0,ka0,kc0,hao,hRb,a0,a1,a2,hkl0,_,hta⟩:=hkk.kid (j:=0) (t:=ta) (by rw [hkids];rfl)
 obtain ⟨b1,o1,ka1,kc1,hao1,_,e0,e1,e2,hkl1,_,htb⟩:=hkk.kid (j:=1) (t:=tb) (by rw [hkids];rfl)
 subst hao
 cases hao1
 rw [hk,hkids]
 simp only [Nat.zero_mul,Nat.one_mul,Nat.add_zero] at a0 a1 a2 e0 e1 e2
 rw [show ([ta,tb]:List T).length=2 from rfl]
 obtain ⟨X0,hX0,hcX0,hbX0,hsX0⟩:=box_cells W #[.int .i64 8,.string ⟨t.name.toArray⟩,.slice (some ⟨b0,o0,none⟩) 2 cap] 24
 obtain ⟨X,hX,hcX1,hbO,hsX⟩:=box_cells X0 #[.slice none 0 0] 35
 have hcX:Chg Nob W X:=hcX0.trans1 hcX1
 have hbX:=hcX1.at hbX0 (fun e=>e)
 rw [hsX0] at hbO hsX
 obtain ⟨xb,hxb⟩:∃ xb,xb=W.heap.size:=⟨_,rfl⟩
 rw [← hxb] at hbX hsX hbO hsX0
 have HM:=Lib.hid (hM.nob hcX)
 have Hok:=Lib.hid hok
 have HNm:=Lib.hid (hNm.nob hcX)
 have Hta:=Lib.hid (hta.nob hcX)
 have Htb:=Lib.hid (htb.nob hcX)
 have HDR:=Lib.hid hDR
 have HRX:Hid (∀ q,R q→q < xb):=Lib.hid (fun q hq=>by have:=hRW q hq;omega)
 have HDX:Hid (∀ q,D q→q < xb):=Lib.hid (fun q hq=>by have:=hM.lt q hq;omega)
 have Hcx:=Lib.hid hcX
 have Hxs:Hid (X.heap.size=xb+1+1):=Lib.hid hsX
 have HbO:=Lib.hid hbO
 have HX0:=Lib.hid hX0
 have HXe:=Lib.hid hX
 have HsX0:=Lib.hid hsX0
 have Hxb:=Lib.hid hxb
 obtain ⟨x0,x1,x2,_⟩:=cells_three hbX
 have HS:Hid (∀ (S:Nat→Prop) (V:World),Chg S X V→(∀ q,S q→¬ R q)→¬ S xb→V.cell? ⟨xb,2,none⟩=some (.slice (some ⟨b0,o0,none⟩) 2 cap)∧V.cell? ⟨b0,o0,none⟩=some (.int .i64 ta.kind)∧V.cell? ⟨b0,o0+1,none⟩=some (.string ⟨ta.name.toArray⟩)∧V.cell? ⟨b0,o0+2,none⟩=some (.slice ka0 ta.kids.length kc0)∧V.cell? ⟨b0,o0+3,none⟩=some (.int .i64 tb.kind)∧V.cell? ⟨b0,o0+3+1,none⟩=some (.string ⟨tb.name.toArray⟩)∧V.cell? ⟨b0,o0+3+2,none⟩=some (.slice ka1 tb.kids.length kc1)):=(show ∀ (S:Nat→Prop) (V:World),Chg S X V→(∀ q,S q→¬ R q)→¬ S xb→_ from fun S V hV hS hx=>by
  have hn:¬ S b0:=fun e=>hS b0 e hRb
  have f:∀ {p u},W.cell? ⟨b0,p,none⟩=some u→V.cell? ⟨b0,p,none⟩=some u:=fun h=>hV.cell' (hcX.cell' h (fun e=>e)) hn
  exact ⟨hV.cell' x2 hx,f a0,f a1,f a2,f e0,f e1,f e2⟩)
 have Hpa:Hid (∀ V,Chg Nob X V→Calls Tryz.prog 30 #[.pointer (some ⟨mb,0,none⟩),.agg #[.int .i64 ta.kind,.string ⟨ta.name.toArray⟩,.slice ka0 ta.kids.length kc0]] V (MkPost D mb nv V s (fa s) (SetsR V.heap.size))):=Lib.hid (fun V hV=>ca V D s _ (HM.out.nob hV) hok (Hta.out.nob hV) (HNm.out.nob hV) hDR (fun q hq=>by have:=HRX.out q hq;have:=hV.size;omega))
 clear hNm hM hok hta htb hDR hRW hT hkk hl hkids hkl0 hkl1 a0 a1 a2 e0 e1 e2 hbX hbO hsX hsX0 hcX hcX0 hcX1 hbX0 hRb hxb ca hk hX hX0 x2
 refine calls_of_wpAt (n:=3) Tryz.func30 rfl ?_
 simp only [Tryz.ntmps30,List.size_toArray,List.length_cons,List.length_nil,Nat.reduceAdd,Nat.reduceSub,Array.replicate_succ,Array.replicate_zero,List.push_toArray,List.append_toArray,List.nil_append,List.cons_append]
 refine wpAt_seq (wpAt_of_wp ?_)
 go_wp2_with fail
 rw [← HX0.out,← Hxb.out]
 refine wpAt_seq (wpAt_of_wp ?_)
 go_wp2_with fail
 rw [← HXe.out,HsX0.out]
 refine wpAt_seq (wpAt_seq (wpAt_of_wp ?_))
 go_wp2_with fail
 refine wpAt_block (wpAt_seq (wpAt_of_wp ?_))
 go_wp2_with fail
 refine wpAt_condF rfl (wpAt_seq (wpAt_of_wp ?_))
 go_wp2_with fail
 refine wpAt_condF rfl (wpAt_seq (wpAt_of_wp ?_))
 go_wp2_with fail
 refine wpAt_condF rfl (wpAt_seq (wpAt_of_wp ?_))
 go_wp2_with fail
 refine wpAt_condT rfl (wpAt_seq (wpAt_of_wp ?_))
 clear x0 x1
 obtain ⟨x2,k0,k1,k2,k3,k4,k5⟩:=HS.out Nob X (Chg.refl _ _) (fun _ e=>e.elim) (fun e=>e)
 refine wp_region_free_P (R:=MkPost D mb nv W s (andS fa fb s) (SetsR xb)) (fun c a w hd h=>by show LeavesInM _ _ _ _ _ _ a.defers _ _;rw [hd];exact h) (fun _=>true) (fun w'=>w'.cell? ⟨xb,2,none⟩=some (.slice (some ⟨b0,o0,none⟩) 2 cap)∧w'.cell? ⟨b0,o0,none⟩=some (.int .i64 ta.kind)∧w'.cell? ⟨b0,o0+1,none⟩=some (.string ⟨ta.name.toArray⟩)∧w'.cell? ⟨b0,o0+2,none⟩=some (.slice ka0 ta.kids.length kc0)∧w'.cell? ⟨b0,o0+3,none⟩=some (.int .i64 tb.kind)∧w'.cell? ⟨b0,o0+3+1,none⟩=some (.string ⟨tb.name.toArray⟩)∧w'.cell? ⟨b0,o0+3+2,none⟩=some (.slice ka1 tb.kids.length kc1)) (by kernel_rfl) ⟨x2,k0,k1,k2,k3,k4,k5⟩ (fun hHeld=>?_)
 refine tkG 0 hHeld ?_
 refine tkG 1 hHeld ?_
 refine tkG 2 hHeld ?_
 refine tkG 3 hHeld ?_
 refine tkG 4 hHeld ?_
 refine tkG 6 hHeld ?_
 refine tkG 7 hHeld ?_
 refine tkG 8 hHeld ?_
 refine tkG 9 hHeld ?_
 refine tkG 10 hHeld ?_
 refine rdG 5 fun K hK=>?_
 go_simp
 (with_reducible refine (Hpa.out _ ((Chg.refl Nob X).drew)).mono ?_)
 clear Hpa
 rintro e w2 ⟨hc2,⟨hf,rfl⟩ | ⟨ma,s1,va,D2,hf,rfl,hM2,hg2,hok2,hle2,⟨xa,hva⟩,hna,hla,hsa⟩⟩
 ·have Hf:=Lib.hid hf
  have Hc2:Hid (Chg D X w2):=Lib.hid ((((Chg.refl Nob X).drew).any (S:=D)).trans1 hc2)
  clear hc2 hf
  try go_simp
  exact ⟨rfl,Hcx.out.of_mk Hc2.out,.inl ⟨by unfold andS;rw [Hf.out];rfl,rfl⟩⟩
 have hsXd:(X.drew).heap.size=xb+1+1:=Hxs.out
 have HcX2:Hid (Chg D X w2):=Lib.hid ((((Chg.refl Nob X).drew).any (S:=D)).trans1 hc2)
 have HDR2:Hid (∀ q,D2 q→¬ R q):=Lib.hid (fun q hq hr=>(hg2 q hq).elim (fun e=>HDR.out q e hr) (fun e=>by have:=HRX.out q hr;omega))
 have Hpb:Hid (∀ V,Chg Nob w2 V→Calls Tryz.prog 30 #[.pointer (some ⟨mb,0,none⟩),.agg #[.int .i64 tb.kind,.string ⟨tb.name.toArray⟩,.slice ka1 tb.kids.length kc1]] V (MkPost D2 mb nv V s1 (fb s1) (SetsR V.heap.size))):=Lib.hid (fun V hV=>cb V D2 s1 _ (hM2.nob hV) hok2 ((Htb.out.chg HcX2.out (fun b hb hd=>HDR.out b hd hb)).nob hV) ((HNm.out.chg HcX2.out HDR.out).nob hV) HDR2.out (fun q hq=>by have:=HRX.out q hq;have:=HcX2.out.size;have:=hV.size;have:=Hxs.out;omega))
 have HS2:=Lib.hid (HS.out D w2 HcX2.out HDR.out (fun e=>by have:=HDX.out _ e;omega))
 have Hg2:Hid (∀ q,D2 q→D q∨xb+1 < q):=Lib.hid (fun q hq=>(hg2 q hq).imp id (fun e=>by omega))
 have HM2:=Lib.hid hM2
 have Hle2:=Lib.hid hle2
 have Hva:Hid (SOwn w2 (xb+1+1) va ma xa):=Lib.hid (hsXd ▸ hva)
 have Hna:=Lib.hid hna
 have Hla:=Lib.hid hla
 have Hsa:=Lib.hid hsa
 have Hfa:=Lib.hid hf
 have HbO2:=Lib.hid (HcX2.out.at HbO.out (fun e=>by have:=HDX.out _ e;omega))
 clear hc2 hM2 hg2 hle2 hva hna hla hsa hf hok2 hsXd cb
 refine hK.out _ _ (fun _=>HS2.out) ?_
 clear hK K
 try simp only [Act.put]
 refine rdG 11 fun K hK=>?_
 go_simp
 (with_reducible refine (Hpb.out _ (Chg.refl Nob w2)).mono ?_)
 clear Hpb
 rintro e w3 ⟨hc3,⟨hf,rfl⟩ | ⟨my,s2,vy,D3,hf,rfl,hM3,hg3,hok3,hle3,⟨ya,hvy⟩,hny,hly,hsy⟩⟩
 ·have Hf:=Lib.hid hf
  have Hc3:=Lib.hid hc3
  clear hc3 hf
  try go_simp
  exact ⟨rfl,(Hcx.out.of_mk HcX2.out).trans Hc3.out (fun i hi e=>(Hg2.out i e).elim id (fun e=>by have:=Hxb.out;omega)),.inl ⟨by unfold andS;rw [Hfa.out];show Option.bind (fb s1) _=none;rw [Hf.out];rfl,rfl⟩⟩
 have HW3:Hid (Chg D W w3):=Lib.hid ((Hcx.out.of_mk HcX2.out).trans hc3 (fun i hi e=>(Hg2.out i e).elim id (fun e=>by have:=Hxb.out;omega)))
 have Hva3:Hid (SOwn w3 (xb+1+1) va ma xa):=Lib.hid (Hva.out.typed hc3 (fun q hq=>Hna.out q hq) HM2.out.ty)
 have Hg3:Hid (∀ q,D3 q→D q∨xb+1 < q):=Lib.hid (fun q hq=>(hg3 q hq).elim (fun e=>Hg2.out q e) (fun e=> .inr (by have:=HcX2.out.size;have:=Hxs.out;omega)))
 have Hnva:Hid (∀ q,va.ownBlock=some q→¬ D3 q):=(show ∀ q,va.ownBlock=some q→¬ D3 q from fun q hq e=>by
  rcases hg3 q e with e | e
  ·exact Hna.out q hq e
  ·have:=(Hva.out.own.lt q hq).2;omega)
 have Hvalt:Hid (∀ q,va.ownBlock=some q→q < w2.heap.size):=Lib.hid (fun q hq=>(Hva.out.own.lt q hq).2)
 have Hs3:Hid (xb+1+1≤w2.heap.size∧w2.heap.size≤w3.heap.size):=(show _∧_ from ⟨by have:=HcX2.out.size;have:=Hxs.out;omega,hc3.size⟩)
 have Hf2:Hid (fb s1=some (my,s2)):=Lib.hid hf
 have HbO3:=Lib.hid (hc3.at HbO2.out (fun e=>(Hg2.out _ e).elim (fun e=>by have:=HDX.out _ e;omega) (fun e=>by omega)))
 have HM3:=Lib.hid hM3
 have Hok3:=Lib.hid hok3
 have Hle:Hid (s.sts.length≤s2.sts.length):=(show _≤_ from Nat.le_trans Hle2.out hle3)
 have HSA:Hid (∀ m∈ma,SetN s2.sts.length m):=Lib.hid (fun m hm=>(Hsa.out m hm).mono hle3)
 have Hvy:=Lib.hid hvy
 have Hny:=Lib.hid hny
 have Hly:=Lib.hid hly
 have Hsy:=Lib.hid hsy
 have HS4:Hid (∀ V,Chg Nob w3 V→V.cell? ⟨xb,2,none⟩=some (.slice (some ⟨b0,o0,none⟩) 2 cap)∧V.cell? ⟨b0,o0,none⟩=some (.int .i64 ta.kind)∧V.cell? ⟨b0,o0+1,none⟩=some (.string ⟨ta.name.toArray⟩)∧V.cell? ⟨b0,o0+2,none⟩=some (.slice ka0 ta.kids.length kc0)∧V.cell? ⟨b0,o0+3,none⟩=some (.int .i64 tb.kind)∧V.cell? ⟨b0,o0+3+1,none⟩=some (.string ⟨tb.name.toArray⟩)∧V.cell? ⟨b0,o0+3+2,none⟩=some (.slice ka1 tb.kids.length kc1)):=(show ∀ V,Chg Nob w3 V→_ from fun V hV=>HS.out (fun q=>D q∨D2 q) V (((HcX2.out.mono (fun _ _ e=> .inl e)).trans hc3 (fun _ _ e=> .inr e)).trans1 hV.any) (fun q e=>e.elim (HDR.out q) (HDR2.out q)) (fun e=>e.elim (fun e=>by have:=HDX.out _ e;omega) (fun e=>(Hg2.out _ e).elim (fun e=>by have:=HDX.out _ e;omega) (fun e=>by omega))))
 have HS3:=Lib.hid (HS4.out w3 (Chg.refl _ _))
 have HcX3:Hid (Chg (fun q=>D q∨D2 q) X w3):=Lib.hid ((HcX2.out.mono (fun _ _ e=> .inl e)).trans hc3 (fun _ _ e=> .inr e))
 have HnR:Hid (∀ q,(D q∨D2 q)→¬ R q):=Lib.hid (fun q e=>e.elim (HDR.out q) (HDR2.out q))
 have HnX:Hid (¬ (D xb∨D2 xb)):=Lib.hid (fun e=>e.elim (fun e=>by have:=HDX.out _ e;omega) (fun e=>(Hg2.out _ e).elim (fun e=>by have:=HDX.out _ e;omega) (fun e=>by omega)))
 obtain ⟨aa,ca',rfl,hmina,hnila⟩:=Hva3.out.sin2
 obtain ⟨ay,cy,rfl,hminy,hnily⟩:=Hvy.out.sin2
 have Hmina:=Lib.hid hmina
 have Hminy:=Lib.hid hminy
 have Hnily:=Lib.hid hnily
 clear hc3 hM3 hok3 hle3 hvy hny hly hsy hf hg3 hmina hnila hminy hnily
 refine hK.out _ _ (fun _=>HS3.out) ?_
 clear hK K
 try simp only [Act.put]
 refine rdG 12 fun K hK=>?_
 have hpa:=pairsS_any (.slice aa ma.length ca') (.slice ay my.length cy) ⟨_,_,_,rfl⟩ ⟨_,_,_,rfl⟩ w3
 obtain ⟨Y1,hY1,hcY1,hbY1,hsY1⟩:=box_cells w3 #[.slice aa ma.length ca'] 35
 obtain ⟨Z,hZ,hcZ,hbZ,hsZ⟩:=box_cells Y1 #[.slice ay my.length cy] 35
 rw [← hY1,← hZ] at hpa
 rw [hsY1] at hbZ hsZ
 have HbY:=Lib.hid (hcZ.at hbY1 (fun e=>e))
 have HbZ:=Lib.hid hbZ
 have HsZ:=Lib.hid hsZ
 have HcZ:=Lib.hid (hcY1.trans1 hcZ)
 clear hY1 hZ hcY1 hcZ hbY1 hbZ hsY1 hsZ
 go_simp
 (with_reducible refine hpa.mono ?_)
 clear hpa
 rintro e Z' ⟨rfl,rfl⟩
 refine hK.out _ _ (fun _=>HS4.out _ HcZ.out) ?_
 clear hK K
 try simp only [Act.put]
 refine wpAnyG_done (by kernel_rfl) ?_ _
 go_simp
 refine QP.mk ?_
 go_simp
 clear hHeld x2 k0 k1 k2 k3 k4 k5
 have Hax:=Lib.hid Hva3.out.fst
 have Hay:=Lib.hid Hvy.out.fst
 have Hxl:Hid (xa.length=ma.length):=(show xa.length=ma.length by rw [← Hax.out,List.length_map])
 have Hyl:Hid (ya.length=my.length):=(show ya.length=my.length by rw [← Hay.out,List.length_map])
 generalize hob:xb+1=ob at *
 have Hob:=Lib.hid hob
 have HbO4:=Lib.hid (HcZ.out.at HbO3.out (fun e=>e))
 have hlx:xa≠[]→∀ ad,aa=some ad→¬ (ad.block=ob):=fun hne ad e e2=>by
  obtain ⟨z,zs',e5⟩:=List.exists_cons_of_ne_nil hne
  obtain ⟨b9,o9,e3,c0,_⟩:=Hmina.out 0 z (by rw [e5];rfl)
  rw [e] at e3
  cases e3
  have:=(Hva3.out.own.lt b9 (by rw [e];rfl)).1
  have e2:b9=ob:=e2
  omega
 have hly:ya≠[]→∀ ad,ay=some ad→¬ (ad.block=ob):=fun hne ad e e2=>by
  obtain ⟨z,zs',e5⟩:=List.exists_cons_of_ne_nil hne
  obtain ⟨b9,o9,e3,c0,_⟩:=Hminy.out 0 z (by rw [e5];rfl)
  rw [e] at e3
  cases e3
  have:=(Hvy.out.own.lt b9 (by rw [e];rfl)).1
  have:=Hs3.out
  have e2:b9=ob:=e2
  omega
 have hit:=pairsS_iter 3 (by omega) (fun q=>q=ob) w3.heap.size (w3.heap.size+1) (ax:=aa) (ay:=ay) (xs:=xa) (ys:=ya) (cx:=ca') (cy:=cy) Z' (by rw [Hxl.out];exact HbY.out) (by rw [Hyl.out];exact HbZ.out) (by rw [Hxl.out];have:=Hla.out;omega) (by rw [Hyl.out];have:=Hly.out;omega) (Hmina.out.nob HcZ.out).cl (Hminy.out.nob HcZ.out).cl hlx hly (by have:=Hs3.out;omega) (by have:=Hs3.out;omega)
 have hZ0:DOwnS (fun q=>q=ob) Z' Z'.heap.size ob (.slice none 0 0) (joinN ma my 0) []:=⟨fun q e=>by have e:q=ob:=e;have:=(Array.getElem?_eq_some_iff.1 HbO4.out).1;omega,⟨rfl,HbO4.out⟩,⟨World.ownsRow_nil _ _ _ _,rfl,fun x h=>by cases h⟩,fun q h=>by simp [Value.ownBlock] at h,fun x h=>by cases h⟩
 have Hit:=Lib.hid hit
 have HZ0:=Lib.hid hZ0
 have HHob:Hid (ob < Z'.heap.size):=Lib.hid ((Array.getElem?_eq_some_iff.1 HbO4.out).1)
 clear hlx hly hit hZ0 hob
 refine wpAt_block (range_iterD Tryz.func30 (n:=3) (gf:=110) rfl (enters_of Tryz.func110 (by kernel_rfl) rfl) Hit.out (fun _=>rfl)
  (SIv ma my Z' ob) (SIp ma my Z' ob) ?_ ?_ ⟨_,_,HZ0.out,Nat.zero_le _,Chg.refl _ _,fun q e=> .inl e⟩ ?_ ?_ ?_)
 ·rintro pre D' A ⟨sl,xs',h,_⟩ k hk
  exact h.lt k hk
 ·rintro pre D' A B ⟨sl,xs',h,h4,hc,hlo⟩ hs
  exact ⟨sl,xs',h.keep hs (fun q e=>e.2),h4,hc.trans hs (fun i hi e=>by have:=e.1;omega),hlo⟩
 ·rintro l pre p DD A ⟨sl,xs',hD,h4,hc,hDlo⟩ hpre hsz hn0 hn1
  obtain ⟨hpl,hpN⟩:=range_pre_inv hpre
  rw [← hpl] at hD h4
  have hys0:0 < ya.length:=by
   rcases Nat.eq_zero_or_pos ya.length with e | e
   ·rw [e,Nat.mul_zero] at hpN;omega
   ·exact e
  have hpx:p / ya.length < xa.length:=by rw [Nat.div_lt_iff_lt_mul hys0];exact hpN
  have hpy:p % ya.length < ya.length:=Nat.mod_lt _ hys0
  obtain ⟨x,hxm,hxi,hxd,hxa⟩:=getD_map1s Hax.out hpx
  obtain ⟨y,hym,hyi,hyd,hyb⟩:=getD_map1s Hay.out hpy
  have henc:encS xa ya p=#[.slice x.2.1 x.1.length x.2.2,.slice y.2.1 y.1.length y.2.2]:=by unfold encS;rw [hxd,hyd];rfl
  have H5:Hid (joinN ma my (pre++[p]).length=joinN ma my p++[joinI x.1 y.1]):=(show _=_ by rw [List.length_append,List.length_singleton,← hpl,joinN_succ,← Hyl.out,hxa,hyb])
  have H6:Hid (p+1≤(joinsI ma my).length):=(show p+1≤_ by unfold joinsI;rw [joinN_len,← Hxl.out,← Hyl.out];omega)
  have hbt:∀ q,At1 ob q→∀ cs m,Z'.heap[q]?≠some (.cells cs 3 m):=fun q e cs m h=>by
   have e:q=ob:=e
   rw [e,HbO4.out] at h
   simp at h
  obtain ⟨hxt,hxn,hxq⟩:TRow A 0 x.2.1 x.1∧(x.2.1=none→x.2.2=0)∧(x.1≠[]→∀ a,x.2.1=some a→¬ At1 (Z'.heap.size+1) a.block):=by
   obtain ⟨b9,o9,e,c0,hl,ht,hn⟩:=Hmina.out _ x hxi
   refine ⟨(ht.nob HcZ.out).typed hc hbt,hn,fun hne a ha e9=>?_⟩
   obtain ⟨g,cs,m,e2,_,hg⟩:=ht.2 hne
   rw [e2] at ha
   cases ha
   have e9:g=Z'.heap.size+1:=e9
   have:=(Array.getElem?_eq_some_iff.1 hg).1
   have:=HsZ.out
   omega
  obtain ⟨hyt,hyn,hyq⟩:TRow A 0 y.2.1 y.1∧(y.2.1=none→y.2.2=0)∧(y.1≠[]→∀ a,y.2.1=some a→¬ At1 (Z'.heap.size+1) a.block):=by
   obtain ⟨b9,o9,e,c0,hl,ht,hn⟩:=Hminy.out _ y hyi
   refine ⟨(ht.nob HcZ.out).typed hc hbt,hn,fun hne a ha e9=>?_⟩
   obtain ⟨g,cs,m,e2,_,hg⟩:=ht.2 hne
   rw [e2] at ha
   cases ha
   have e9:g=Z'.heap.size+1:=e9
   have:=(Array.getElem?_eq_some_iff.1 hg).1
   have:=HsZ.out
   omega
  have Hjl:Hid (x.1.length+y.1.length≤10000):=(show _≤_ by
   have h1:=(HSA.out x.1 (by rw [← Hax.out];exact List.mem_map_of_mem hxm)).len
   have h2:=(Hsy.out y.1 (by rw [← Hay.out];exact List.mem_map_of_mem hym)).len
   have:=Hok3.out.2.1
   omega)
  obtain ⟨ap,cp,hsl⟩:=ownsRow_shape hD.own.own
  subst hsl
  rw [henc]
  simp only [zip2,List.setIfInBounds_toArray,List.set_cons_succ,List.set_cons_zero]
  have HD:=Lib.hid hD
  have Hc:=Lib.hid hc
  have H4:=Lib.hid h4
  have Hpl:=Lib.hid hpl
  have Hxt:=Lib.hid hxt
  have Hyt:=Lib.hid hyt
  have Hxn:=Lib.hid hxn
  have Hyn:=Lib.hid hyn
  have Hxq:=Lib.hid hxq
  have Hyq:=Lib.hid hyq
  have Hsz:=Lib.hid hsz
  have HDlo:=Lib.hid hDlo
  have Hn1:=Lib.hid hn1
  clear hD hDlo hc h4 hpre hpl hpN hpx hpy hxm hym hxi hyi hxd hyd hxa hyb henc hxt hyt hxn hyn hxq hyq hsz hn0 hn1 hys0 hbt
  gi_wp2
  refine ⟨Chg.refl _ _,fun w₂ hc2=>?_⟩
  have HD2:Hid (DOwnS DD w₂ Z'.heap.size ob (.slice ap (joinN ma my p).length cp) (joinN ma my p) xs'):=(show DOwnS DD w₂ _ ob _ _ xs' from HD.out.keep hc2 (fun q e=>by have e:q=Z'.heap.size+1:=e;subst e;exact Hn1.out))
  have Hcw:Hid (Chg (At1 ob) Z' w₂):=Lib.hid (Hc.out.trans hc2 (fun i hi e=>by have e:i=Z'.heap.size+1:=e;omega))
  have Hjc:Hid (∀ V,Chg Nob w₂ V→Calls Tryz.prog 61 #[.slice x.2.1 x.1.length x.2.2,.slice y.2.1 y.1.length y.2.2] V fun e w'=>Chg Nob V w'∧∃ at' ct,e = .returned (.slice at' (joinI x.1 y.1).length ct)∧TRow w' V.heap.size at' (joinI x.1 y.1)∧(at'=none→ct=0)):=Lib.hid (fun V hV=>join_any Hjl.out ((Hxt.out.kept hc2 Hxq.out).nob hV).1 ((Hyt.out.kept hc2 Hyq.out).nob hV).1 Hxn.out Hyn.out)
  have o0:=(cell_oneM HD2.out.box.2).1
  have HSE:Hid (∀ V,Chg Nob w₂ V→V.cell? ⟨ob,0,none⟩=some (.slice ap (joinN ma my p).length cp)):=(show ∀ V,Chg Nob w₂ V→_ from fun V hV=>hV.cell' o0 (fun e=>e))
  clear hc2 HD Hc HX0 HXe
  gi_wp2
  refine wp_region_free_veil (fun i=>i != 6) (fun w'=>w'.cell? ⟨ob,0,none⟩=some (.slice ap (joinN ma my p).length cp)) (by kernel_rfl) (by kernel_rfl) o0 (fun Q2 hQ2 hpan hHeld=>?_)
  refine wpAnyG_take (i:=0) (v:=?_) rfl (by kernel_rfl) (fun c _ w h=>hpan c _ _ w h) (Or.inl ⟨by rfl,?_⟩) hHeld ?_
  rotate_left
  ·intro w hSw;have o0:=hSw;go_simp;(try (with_reducible rfl))
  simp only [Act.put,List.setIfInBounds_toArray]
  refine wpAnyG_take (i:=1) (v:=?_) rfl (by kernel_rfl) (fun c _ w h=>hpan c _ _ w h) (Or.inl ⟨by rfl,?_⟩) hHeld ?_
  rotate_left
  ·intro w hSw;have o0:=hSw;go_simp;(try (with_reducible rfl))
  try simp only [Act.put]
  refine wpAnyG_take (i:=2) (v:=?_) rfl (by kernel_rfl) (fun c _ w h=>hpan c _ _ w h) (Or.inl ⟨by rfl,?_⟩) hHeld ?_
  rotate_left
  ·intro w hSw;have o0:=hSw;go_simp;(try (with_reducible rfl))
  try simp only [Act.put]
  refine rdG 3 fun K hK=>?_
  go_simp
  (with_reducible refine (Hjc.out _ ((Chg.refl Nob w₂).drew)).mono ?_)
  rintro e v1 ⟨hc5,at',ct,rfl,hT,hn⟩
  have Hv1:Hid (Chg Nob w₂ v1):=Lib.hid (((Chg.refl Nob w₂).drew).trans1 hc5)
  have HT:Hid (TRow v1 w₂.heap.size at' (joinI x.1 y.1)):=Lib.hid hT
  have Hnt:=Lib.hid hn
  clear hc5 hT hn
  refine hK.out _ _ (fun _=>HSE.out _ Hv1.out) ?_
  clear hK K
  try simp only [Act.put]
  refine rdG 4 fun K hK=>?_
  go_simp
  refine hK.out _ _ (fun _=>HSE.out _ (Hv1.out.alloc _)) ?_
  clear hK K
  try simp only [Act.put]
  refine rdG 5 fun K hK=>?_
  have hpush:=HD2.out.push (W:=w₂) (V:=v1) (by have:=Hcw.out.size;omega) (by rw [joinN_len];have:=H4.out;omega) Hv1.out (joinI x.1 y.1,at',ct) ⟨by show (joinI x.1 y.1).length≤2000000;have:=joinI_len x.1 y.1;have:=Hjl.out;omega,HT.out,Hnt.out⟩
  obtain ⟨sl',V1,hrun,hob1,hc1,⟨q,c,hsl⟩,D',hDV,hcD,hgr⟩:=hpush
  subst hsl
  have Hrun:=Lib.hid hrun
  have HDV:=Lib.hid hDV
  have HcD:=Lib.hid hcD
  have Hgr:=Lib.hid hgr
  have Hob1:=Lib.hid hob1
  clear hrun hDV hcD hgr hob1 hc1
  refine wp_append_runM (.tmp 52) (.tmp 56) 35 35 rfl _ _ rfl rfl _ _ Hrun.out ?_
  refine hK.out _ _ (fun _=>(cell_oneM Hob1.out).1) ?_
  clear hK K
  try simp only [Act.put]
  refine rdG 6 fun K hK=>?_
  obtain ⟨o7,f7⟩:=cell_oneM Hob1.out
  go_simp
  refine hK.out _ _ (fun h=>absurd h (by decide)) ?_
  clear hK K o7 f7
  try simp only [Act.put]
  refine wpAnyG_done (by kernel_rfl) (hQ2 _ _ ?_) _
  go_simp
  clear hHeld hQ2 hpan o0
  have z0:=(cell_oneM HDV.out.box.2).1
  have hjln:=joinN_len ma my p
  generalize hV2:V1.setCell ⟨ob,0,none⟩ (.slice (some ⟨q,0,none⟩) ((joinN ma my p).length+1) c)=V2 at *
  have HcV:Hid (Chg (At1 ob) Z' V2):=Lib.hid (Hcw.out.trans HcD.out (fun i hi e=>(HDlo.out i e).elim id (fun e=>by omega)))
  by_cases hbig:4096 < (joinN ma my p).length+1
  ·have hbi:(4096:Int) < ((joinN ma my p).length:Int)+1:=by omega
   gi_wp2
   exact ⟨rfl,KeepS.of_chg HcD.out,rfl,by have:=H6.out;omega,HcV.out⟩
  ·have hbi:¬ (4096:Int) < ((joinN ma my p).length:Int)+1:=by omega
   gi_wp2
   exact ⟨KeepS.of_chg HcD.out,D',⟨.slice (some ⟨q,0,none⟩) ((joinN ma my p).length+1) c,xs'++[(joinI x.1 y.1,at',ct)],by rw [H5.out];exact HDV.out,by rw [List.length_append,List.length_singleton,← Hpl.out];omega,HcV.out,fun k hk=>(Hgr.out k hk).elim (fun e=>HDlo.out k e) (fun e=> .inr (Nat.le_trans Hcw.out.size e))⟩,Hgr.out⟩
 ·rintro DD Wf ⟨sl,xs',hD,h4,hc,hDlo⟩ hdf
  rw [List.length_range] at hD h4
  have hN:joinN ma my (xa.length * ya.length)=joinsI ma my:=by unfold joinsI;rw [Hxl.out,Hyl.out]
  have hNl:(joinsI ma my).length=xa.length * ya.length:=by rw [← hN,joinN_len]
  rw [hN] at hD
  rw [← hNl] at h4
  obtain ⟨af,cf,rfl,hsin,-⟩:=hD.own.sin2
  have hfew:=fewest_any (c:=cf) hD.own.fst (by omega) hsin
  obtain ⟨o0,-⟩:=cell_oneM hD.box.2
  obtain ⟨lz,hlz⟩:∃ lz,lz=joinsI ma my:=⟨_,rfl⟩
  rw [← hlz] at hfew o0 h4
  have HsetL:Hid (∀ m∈lz,SetN s2.sts.length m):=Lib.hid (by rw [hlz];exact joinsI_set HSA.out Hsy.out)
  have Hlz:=Lib.hid hlz
  have H4:=Lib.hid h4
  have Hdf:=Lib.hid hdf
  have hcO:∀ q,At1 ob q→∀ cs t m,Z'.heap[q]? = some (.cells cs t m)→t=35:=fun q e cs t m h=>by
   have e:q=ob:=e
   rw [e,HbO4.out] at h
   simp at h
   exact h.2.1.symm
  have HMf:=Lib.hid ((HM3.out.nob HcZ.out).keep hc (fun q e hq=>by have e:q=ob:=e;subst e;exact by have:=Hob.out;exact (Hg3.out _ hq).elim (fun e=>by have:=HDX.out _ e;omega) (fun e=>by omega)) (fun q e cs m h=>absurd (hcO q e cs 3 m h) (by decide)))
  have HWf:Hid (Chg D W Wf):=Lib.hid ((HW3.out.trans1 HcZ.out.any).trans hc (fun i hi e=>by have e:i=ob:=e;have:=Hxb.out;have:=Hob.out;omega))
  have hbi:¬ (4096:Int) < (lz.length:Int):=by omega
  have hbd:decide ((4096:Int) < (lz.length:Int))=false:=decide_eq_false hbi
  have Hzs:Hid (Z'.heap.size≤Wf.heap.size):=Lib.hid hc.size
  clear hD hc hDlo hdf hsin hN hNl hlz hcO
  refine wpAt_of_wp ?_
  go_wp2_with fail
  (with_reducible refine hfew.mono ?_)
  clear hfew o0
  rintro e w6 ⟨hc6,vq,xq,rfl,hown⟩
  obtain ⟨ms,hms⟩:∃ ms,ms=fewestI lz lz.length:=⟨_,rfl⟩
  rw [← hms] at hown
  have Hraw:Hid (andS fa fb s=some (ms,s2)):=(show _=_ by
   unfold andS fewestO
   rw [Hfa.out]
   show Option.bind (fb s1) _=_
   rw [Hf2.out]
   show Option.map _ (if 4096 < (joinsI ma my).length then none else some (fewestI (joinsI ma my) (joinsI ma my).length))=_
   rw [← Hlz.out,if_neg (by have:=H4.out;omega),← hms]
   rfl)
  have hmsl:ms.length≤4096:=by rw [hms];exact Nat.le_trans (fewestI_len _ _) H4.out
  have HmsS:Hid (∀ m∈ms,SetN s2.sts.length m):=(show ∀ m∈ms,SetN s2.sts.length m from fun m hm=>by
   rw [hms] at hm
   exact HsetL.out m (fewestI_mem (Nat.le_refl _) hm))
  have Hown:=Lib.hid hown
  have HM6:=Lib.hid (HMf.out.nob hc6)
  have HW6:Hid (Chg D W w6):=Lib.hid (HWf.out.trans1 hc6.any)
  have Hd6:=Lib.hid (hc6.at Hdf.out (fun e=>e))
  clear hc6 hown hms
  go_wp2_with fail
  refine leaves_one Hd6.out (fun W' hc'=>⟨_,results_tmp rfl _ _ _,?_⟩)
  have hne:∀ q,(∃ cs t m,w6.heap[q]? = some (.cells cs t m))→¬ At1 Z'.heap.size q:=by
   rintro q ⟨cs,t,m,h⟩ e
   have e:q=Z'.heap.size:=e
   subst e
   rw [Hd6.out] at h
   cases h
  refine ⟨HW6.out.trans hc' (fun i hi e=>by have e:i=Z'.heap.size:=e;have:=HsZ.out;have:=Hxb.out;have:=Hob.out;have:=Hs3.out;omega),.inr ⟨ms,s2,_,D3,Hraw.out,rfl,HM6.out.keep hc' (fun q e hq=>by have e:q=Z'.heap.size:=e;have:=HM3.out.lt q hq;have:=HsZ.out;omega) (fun q e cs m h=>hne q ⟨cs,3,m,h⟩ e),fun k hk=>(Hg3.out k hk).imp id (fun e=>by have:=Hxb.out;have:=Hob.out;omega),Hok3.out,Hle.out,⟨_,SOwn.low (lo:=Wf.heap.size) (Hown.out.typed hc' (fun q hq=>?_) (fun q e cs m h=>hne q ⟨cs,3,m,h⟩ e)) (by have:=Hzs.out;have:=HsZ.out;have:=Hs3.out;have:=Hxb.out;have:=Hob.out;omega)⟩,fun q hq e=>?_,hmsl,HmsS.out⟩⟩
  ·obtain ⟨cs,m,h⟩:=ownsRow_block Hown.out.own q hq
   exact hne q ⟨cs,73,m,h⟩
  ·have h1:=(Hown.out.own.lt q hq).1
   have h2:=HM3.out.lt q e
   have:=Hzs.out
   have:=HsZ.out
   omega
 ·rintro ch Wf ⟨rfl,h4,hc⟩ hdf
  refine leaves_oneP hdf (fun W' hc'=>⟨((HW3.out.trans1 HcZ.out.any).trans hc (fun i hi e=>by have e:i=ob:=e;have:=Hxb.out;have:=Hob.out;omega)).trans hc' (fun i hi e=>by have e:i=Z'.heap.size:=e;have:=HsZ.out;have:=Hxb.out;have:=Hob.out;have:=Hs3.out;omega),.inl ⟨?_,rfl⟩⟩)
  unfold andS fewestO
  rw [Hfa.out]
  show Option.bind (fb s1) _=none
  rw [Hf2.out]
  show Option.map _ (if 4096 < (joinsI ma my).length then none else _)=none
  rw [if_pos h4]
  rfl
end Go.Proofs.YtkgfdgfhpdhhaaaGreat
