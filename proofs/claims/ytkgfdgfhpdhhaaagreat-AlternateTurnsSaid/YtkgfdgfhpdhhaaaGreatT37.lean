/- Parts of the walks and of the plain theory, the first: The ways of two parts together, of one of two. Conditions: the maker and the formula lie in the world. -/
import Derived.Test.YtkgfdgfhpdhhaaaGreatT31
import Derived.Test.YtkgfdgfhpdhhaaaGreatT32
import Derived.Test.YtkgfdgfhpdhhaaaGreatT35
import Derived.Test.YtkgfdgfhpdhhaaaGreatT36
import Derived.Test.YtkgfdgfhpdhhaaaGreatT24
namespace Go.Proofs.YtkgfdgfhpdhhaaaGreat
open Go.ChangeShapes Go.WideShapes Go.RowKit
attribute [local go_sem] Oper.semAt_some
set_option maxRecDepth 100000
set_option maxHeartbeats 8000000
def andI (a b:MkS→Option (List Mvi × MkS)):MkS→Option (List Mvi × MkS):=fun s=>(a s).bind fun (x,s1)=>(b s1).bind fun (y,s2)=>(bothO x y).map fun q=>(q,s2)
def orI (a b:MkS→Option (List Mvi × MkS)):MkS→Option (List Mvi × MkS):=fun s=>(a s).bind fun (x,s1)=>(b s1).bind fun (y,s2)=>(leastO (x++y)).map fun q=>(q,s2)
theorem ways_and {R:Nat→Prop} {mb:Nat} {nv:Value} {L:List (List UInt8)} {t ta tb:T} {fa fb:MkS→Option (List Mvi × MkS)} (hk:t.kind=8) (hkids:t.kids=[ta,tb]) (ca:WaysC R mb nv L ta fa) (cb:WaysC R mb nv L tb fb):WaysC R mb nv L t (andI fa fb):=by
 intro W D s v hM hok hT hNm hDR hRW
 obtain ⟨ao,cap,rfl,hl,hkk⟩:=hT.parts
 obtain ⟨b0,o0,ka0,kc0,hao,hRb,a0,a1,a2,hkl0,_,hta⟩:=hkk.kid (j:=0) (t:=ta) (by rw [hkids];rfl)
 obtain ⟨b1,o1,ka1,kc1,hao1,_,e0,e1,e2,hkl1,_,htb⟩:=hkk.kid (j:=1) (t:=tb) (by rw [hkids];rfl)
 subst hao
 cases hao1
 rw [hk,hkids]
 simp only [Nat.zero_mul,Nat.one_mul,Nat.add_zero] at a0 a1 a2 e0 e1 e2
 rw [show ([ta,tb]:List T).length=2 from rfl]
 obtain ⟨X,hX,hcX,hbX,hsX⟩:=box_cells W #[.int .i64 8,.string ⟨t.name.toArray⟩,.slice (some ⟨b0,o0,none⟩) 2 cap] 24
 obtain ⟨xb,hxb⟩:∃ xb,xb=W.heap.size:=⟨_,rfl⟩
 rw [← hxb] at hbX hsX
 have HM:=Lib.hid (hM.nob hcX)
 have Hok:=Lib.hid hok
 have HNm:=Lib.hid (hNm.nob hcX)
 have Hta:=Lib.hid (hta.nob hcX)
 have Htb:=Lib.hid (htb.nob hcX)
 have HDR:=Lib.hid hDR
 have HRX:Hid (∀ q,R q→q < xb):=Lib.hid (fun q hq=>by have:=hRW q hq;omega)
 have HDX:Hid (∀ q,D q→q < xb):=Lib.hid (fun q hq=>by have:=hM.lt q hq;omega)
 have Hcx:=Lib.hid hcX
 have Hxs:Hid (X.heap.size=xb+1):=Lib.hid hsX
 have Hxb:=Lib.hid hxb
 obtain ⟨x0,x1,x2,_⟩:=cells_three hbX
 have HS:Hid (∀ (S:Nat→Prop) (V:World),Chg S X V→(∀ q,S q→¬ R q)→¬ S xb→V.cell? ⟨xb,2,none⟩=some (.slice (some ⟨b0,o0,none⟩) 2 cap)∧V.cell? ⟨b0,o0,none⟩=some (.int .i64 ta.kind)∧V.cell? ⟨b0,o0+1,none⟩=some (.string ⟨ta.name.toArray⟩)∧V.cell? ⟨b0,o0+2,none⟩=some (.slice ka0 ta.kids.length kc0)∧V.cell? ⟨b0,o0+3,none⟩=some (.int .i64 tb.kind)∧V.cell? ⟨b0,o0+3+1,none⟩=some (.string ⟨tb.name.toArray⟩)∧V.cell? ⟨b0,o0+3+2,none⟩=some (.slice ka1 tb.kids.length kc1)):=(show ∀ (S:Nat→Prop) (V:World),Chg S X V→(∀ q,S q→¬ R q)→¬ S xb→_ from fun S V hV hS hx=>by
  have hn:¬ S b0:=fun e=>hS b0 e hRb
  have f:∀ {p u},W.cell? ⟨b0,p,none⟩=some u→V.cell? ⟨b0,p,none⟩=some u:=fun h=>hV.cell' (hcX.cell' h (fun e=>e)) hn
  exact ⟨hV.cell' x2 hx,f a0,f a1,f a2,f e0,f e1,f e2⟩)
 have Hpa:Hid (∀ V,Chg Nob X V→Calls Tryz.prog 115 #[.pointer (some ⟨mb,0,none⟩),.agg #[.int .i64 ta.kind,.string ⟨ta.name.toArray⟩,.slice ka0 ta.kids.length kc0]] V (MkPost D mb nv V s (fa s) (WaysR V.heap.size))):=Lib.hid (fun V hV=>ca V D s _ (HM.out.nob hV) hok (Hta.out.nob hV) (HNm.out.nob hV) hDR (fun q hq=>by have:=HRX.out q hq;have:=hV.size;omega))
 rw [hX] at x0 x1 x2
 clear hNm hM hok hta htb hDR hRW hT hkk hl hkids hkl0 hkl1 a0 a1 a2 e0 e1 e2 hbX hsX hcX hRb hxb ca hk
 go_enter Tryz.func115,Tryz.ntmps115
 go_upto_region 19 with fail
 rw [← hX,← Hxb.out]
 clear hX x0 x1 x2
 obtain ⟨x2,k0,k1,k2,k3,k4,k5⟩:=HS.out Nob X (Chg.refl _ _) (fun _ e=>e.elim) (fun e=>e)
 refine wp_region_free (fun _=>true) (fun w'=>w'.cell? ⟨xb,2,none⟩=some (.slice (some ⟨b0,o0,none⟩) 2 cap)∧w'.cell? ⟨b0,o0,none⟩=some (.int .i64 ta.kind)∧w'.cell? ⟨b0,o0+1,none⟩=some (.string ⟨ta.name.toArray⟩)∧w'.cell? ⟨b0,o0+2,none⟩=some (.slice ka0 ta.kids.length kc0)∧w'.cell? ⟨b0,o0+3,none⟩=some (.int .i64 tb.kind)∧w'.cell? ⟨b0,o0+3+1,none⟩=some (.string ⟨tb.name.toArray⟩)∧w'.cell? ⟨b0,o0+3+2,none⟩=some (.slice ka1 tb.kids.length kc1)) (by kernel_rfl) ⟨x2,k0,k1,k2,k3,k4,k5⟩ (fun hHeld=>?_)
 refine tkG 0 hHeld ?_
 refine tkG 1 hHeld ?_
 refine tkG 2 hHeld ?_
 refine tkG 3 hHeld ?_
 refine tkG 4 hHeld ?_
 refine tkG 5 hHeld ?_
 refine tkG 7 hHeld ?_
 refine tkG 8 hHeld ?_
 refine tkG 9 hHeld ?_
 refine tkG 10 hHeld ?_
 refine tkG 11 hHeld ?_
 refine rdG 6 fun K hK=>?_
 go_simp
 (with_reducible refine (Hpa.out _ ((Chg.refl Nob X).drew)).mono ?_)
 clear Hpa
 rintro e w2 ⟨hc2,⟨hf,rfl⟩ | ⟨ma,s1,va,D2,hf,rfl,hM2,hg2,hok2,hle2,⟨xa,hva⟩,hna,hla,hsa⟩⟩
 ·have Hf:=Lib.hid hf
  have Hc2:Hid (Chg D X w2):=Lib.hid ((((Chg.refl Nob X).drew).any (S:=D)).trans1 hc2)
  clear hc2 hf
  try go_simp
  exact ⟨rfl,Hcx.out.of_mk Hc2.out,.inl ⟨by unfold andI;rw [Hf.out];rfl,rfl⟩⟩
 have hsXd:(X.drew).heap.size=xb+1:=Hxs.out
 have HcX2:Hid (Chg D X w2):=Lib.hid ((((Chg.refl Nob X).drew).any (S:=D)).trans1 hc2)
 have HDR2:Hid (∀ q,D2 q→¬ R q):=Lib.hid (fun q hq hr=>(hg2 q hq).elim (fun e=>HDR.out q e hr) (fun e=>by have:=HRX.out q hr;omega))
 have Hpb:Hid (∀ V,Chg Nob w2 V→Calls Tryz.prog 115 #[.pointer (some ⟨mb,0,none⟩),.agg #[.int .i64 tb.kind,.string ⟨tb.name.toArray⟩,.slice ka1 tb.kids.length kc1]] V (MkPost D2 mb nv V s1 (fb s1) (WaysR V.heap.size))):=Lib.hid (fun V hV=>cb V D2 s1 _ (hM2.nob hV) hok2 ((Htb.out.chg HcX2.out (fun b hb hd=>HDR.out b hd hb)).nob hV) ((HNm.out.chg HcX2.out HDR.out).nob hV) HDR2.out (fun q hq=>by have:=HRX.out q hq;have:=HcX2.out.size;have:=hV.size;have:=Hxs.out;omega))
 have HS2:=Lib.hid (HS.out D w2 HcX2.out HDR.out (fun e=>by have:=HDX.out _ e;omega))
 have Hg2:Hid (∀ q,D2 q→D q∨xb < q):=Lib.hid (fun q hq=>(hg2 q hq).imp id (fun e=>by omega))
 have HM2:=Lib.hid hM2
 have Hle2:=Lib.hid hle2
 have Hva:Hid (MOwn w2 (xb+1) va ma xa):=Lib.hid (hsXd ▸ hva)
 have Hna:=Lib.hid hna
 have Hla:=Lib.hid hla
 have Hsa:=Lib.hid hsa
 have Hfa:=Lib.hid hf
 clear hc2 hM2 hg2 hle2 hva hna hla hsa hf hok2 hsXd cb
 refine hK.out _ _ (fun _=>HS2.out) ?_
 clear hK K
 try simp only [Act.put]
 refine rdG 12 fun K hK=>?_
 go_simp
 (with_reducible refine (Hpb.out _ (Chg.refl Nob w2)).mono ?_)
 clear Hpb
 rintro e w3 ⟨hc3,⟨hf,rfl⟩ | ⟨my,s2,vy,D3,hf,rfl,hM3,hg3,hok3,hle3,⟨ya,hvy⟩,hny,hly,hsy⟩⟩
 ·have Hf:=Lib.hid hf
  have Hc3:=Lib.hid hc3
  clear hc3 hf
  try go_simp
  exact ⟨rfl,(Hcx.out.of_mk HcX2.out).trans Hc3.out (fun i hi e=>(Hg2.out i e).elim id (fun e=>by have:=Hxb.out;omega)),.inl ⟨by unfold andI;rw [Hfa.out];show Option.bind (fb s1) _=none;rw [Hf.out];rfl,rfl⟩⟩
 have HW3:Hid (Chg D W w3):=Lib.hid ((Hcx.out.of_mk HcX2.out).trans hc3 (fun i hi e=>(Hg2.out i e).elim id (fun e=>by have:=Hxb.out;omega)))
 have Hva3:Hid (MOwn w3 (xb+1) va ma xa):=Lib.hid (Hva.out.typed hc3 (fun q hq=>Hna.out q hq) HM2.out.ty)
 have Hg3:Hid (∀ q,D3 q→D q∨xb < q):=Lib.hid (fun q hq=>(hg3 q hq).elim (fun e=>Hg2.out q e) (fun e=> .inr (by have:=HcX2.out.size;have:=Hxs.out;omega)))
 have Hnva:Hid (∀ q,va.ownBlock=some q→¬ D3 q):=(show ∀ q,va.ownBlock=some q→¬ D3 q from fun q hq e=>by
  rcases hg3 q e with e | e
  ·exact Hna.out q hq e
  ·have:=(Hva.out.own.lt q hq).2;omega)
 have Hvalt:Hid (∀ q,va.ownBlock=some q→q < w2.heap.size):=Lib.hid (fun q hq=>(Hva.out.own.lt q hq).2)
 have Hs3:Hid (xb+1≤w2.heap.size∧w2.heap.size≤w3.heap.size):=(show _∧_ from ⟨by have:=HcX2.out.size;have:=Hxs.out;omega,hc3.size⟩)
 have Hf2:Hid (fb s1=some (my,s2)):=Lib.hid hf
 have HM3:=Lib.hid hM3
 have Hok3:=Lib.hid hok3
 have Hle:Hid (s.sts.length≤s2.sts.length):=(show _≤_ from Nat.le_trans Hle2.out hle3)
 have HSA:Hid (∀ m∈ma,SetN s2.sts.length m.to):=Lib.hid (fun m hm=>(Hsa.out m hm).mono hle3)
 have Hvy:=Lib.hid hvy
 have Hny:=Lib.hid hny
 have Hly:=Lib.hid hly
 have Hsy:=Lib.hid hsy
 have HS4:Hid (∀ V,Chg Nob w3 V→V.cell? ⟨xb,2,none⟩=some (.slice (some ⟨b0,o0,none⟩) 2 cap)∧V.cell? ⟨b0,o0,none⟩=some (.int .i64 ta.kind)∧V.cell? ⟨b0,o0+1,none⟩=some (.string ⟨ta.name.toArray⟩)∧V.cell? ⟨b0,o0+2,none⟩=some (.slice ka0 ta.kids.length kc0)∧V.cell? ⟨b0,o0+3,none⟩=some (.int .i64 tb.kind)∧V.cell? ⟨b0,o0+3+1,none⟩=some (.string ⟨tb.name.toArray⟩)∧V.cell? ⟨b0,o0+3+2,none⟩=some (.slice ka1 tb.kids.length kc1)):=(show ∀ V,Chg Nob w3 V→_ from fun V hV=>HS.out (fun q=>D q∨D2 q) V (((HcX2.out.mono (fun _ _ e=> .inl e)).trans hc3 (fun _ _ e=> .inr e)).trans1 hV.any) (fun q e=>e.elim (HDR.out q) (HDR2.out q)) (fun e=>e.elim (fun e=>by have:=HDX.out _ e;omega) (fun e=>(Hg2.out _ e).elim (fun e=>by have:=HDX.out _ e;omega) (fun e=>by omega))))
 have HS3:=Lib.hid (HS4.out w3 (Chg.refl _ _))
 have HcX3:Hid (Chg (fun q=>D q∨D2 q) X w3):=Lib.hid ((HcX2.out.mono (fun _ _ e=> .inl e)).trans hc3 (fun _ _ e=> .inr e))
 have HnR:Hid (∀ q,(D q∨D2 q)→¬ R q):=Lib.hid (fun q e=>e.elim (HDR.out q) (HDR2.out q))
 have HnX:Hid (¬ (D xb∨D2 xb)):=Lib.hid (fun e=>e.elim (fun e=>by have:=HDX.out _ e;omega) (fun e=>(Hg2.out _ e).elim (fun e=>by have:=HDX.out _ e;omega) (fun e=>by omega)))
 obtain ⟨aa,ca',rfl,hmina,hnila⟩:=Hva3.out.min2
 obtain ⟨ay,cy,rfl,hminy,hnily⟩:=Hvy.out.min2
 have Hmina:=Lib.hid hmina
 have Hminy:=Lib.hid hminy
 have Hnily:=Lib.hid hnily
 clear hc3 hM3 hok3 hle3 hvy hny hly hsy hf hg3 hmina hnila hminy hnily
 refine hK.out _ _ (fun _=>HS3.out) ?_
 clear hK K
 try simp only [Act.put]
 refine rdG 13 fun K hK=>?_
 have hboth:Calls Tryz.prog 117 #[.pointer (some ⟨mb,0,none⟩),.slice aa ma.length ca',.slice ay my.length cy] w3 (BothPost ma my w3):=mboth_any Hva3.out.fst Hvy.out.fst (by have:=Hla.out;omega) (by have:=Hly.out;omega) (fun x hx y hy=>by
  have h1:=(HSA.out x.1 (by rw [← Hva3.out.fst];exact List.mem_map_of_mem hx)).len
  have h2:=(Hsy.out y.1 (by rw [← Hvy.out.fst];exact List.mem_map_of_mem hy)).len
  have:=Hok3.out.2.1
  omega) Hmina.out Hminy.out
 go_simp
 (with_reducible refine hboth.mono ?_)
 clear hboth
 rintro e w4 ⟨hc4,⟨hbig,rfl⟩ | ⟨hle4,vp,xp,rfl,hown⟩⟩
 ·have Hc4:=Lib.hid hc4
  have Hbig:=Lib.hid hbig
  clear hc4 hbig
  try go_simp
  exact ⟨rfl,HW3.out.trans Hc4.out (fun _ _ e=>e.elim),.inl ⟨by unfold andI bothO;rw [Hfa.out];show Option.bind (fb s1) _=none;rw [Hf2.out];show Option.map _ (if 4096 < (pairsI ma my).length then none else _)=none;rw [if_pos Hbig.out];rfl,rfl⟩⟩
 obtain ⟨ms,hms⟩:∃ ms,ms=leastI (pairsI ma my) (pairsI ma my).length:=⟨_,rfl⟩
 rw [← hms] at hown
 have hmsl:ms.length≤4096:=by rw [hms];exact Nat.le_trans (leastI_len _ _) hle4
 have HmsS:Hid (∀ m∈ms,SetN s2.sts.length m.to):=(show ∀ m∈ms,SetN s2.sts.length m.to from fun m hm=>by
  rw [hms] at hm
  exact pairsI_set HSA.out Hsy.out m (leastI_mem (Nat.le_refl _) hm))
 have Hraw:Hid (andI fa fb s=some (ms,s2)):=(show _=_ by
  unfold andI bothO
  rw [Hfa.out]
  show Option.bind (fb s1) _=_
  rw [Hf2.out]
  show Option.map _ (if 4096 < (pairsI ma my).length then none else _)=_
  rw [if_neg (by omega),← hms]
  rfl)
 have Hown:=Lib.hid hown
 have HM4:=Lib.hid (HM3.out.nob hc4)
 have HW4:Hid (Chg D W w4):=Lib.hid (HW3.out.trans hc4 (fun _ _ e=>e.elim))
 have HS5:=Lib.hid (HS4.out w4 hc4)
 have Hs5:Hid (w3.heap.size≤w4.heap.size):=Lib.hid hc4.size
 clear hc4 hown hms hle4
 refine hK.out _ _ (fun _=>HS5.out) ?_
 clear hK K
 try simp only [Act.put]
 refine tkG 14 HS5.out ?_
 refine wpAnyG_done (by kernel_rfl) ?_ _
 go_simp
 clear hHeld x2 k0 k1 k2 k3 k4 k5
 go_wp2_with fail
 go_ret
 exact ⟨HW4.out,.inr ⟨ms,s2,_,D3,Hraw.out,rfl,HM4.out,fun k hk=>(Hg3.out k hk).imp id (fun e=>by have:=Hxb.out;omega),Hok3.out,Hle.out,⟨_,Hown.out.low (by have:=Hs3.out;have:=Hxb.out;omega)⟩,fun q hq e=>by
  have h1:=(Hown.out.own.lt q hq).1
  have h2:=HM3.out.lt q e
  omega,hmsl,HmsS.out⟩⟩
theorem ways_or {R:Nat→Prop} {mb:Nat} {nv:Value} {L:List (List UInt8)} {t ta tb:T} {fa fb:MkS→Option (List Mvi × MkS)} (hk:t.kind=9) (hkids:t.kids=[ta,tb]) (ca:WaysC R mb nv L ta fa) (cb:WaysC R mb nv L tb fb):WaysC R mb nv L t (orI fa fb):=by
 intro W D s v hM hok hT hNm hDR hRW
 obtain ⟨ao,cap,rfl,hl,hkk⟩:=hT.parts
 obtain ⟨b0,o0,ka0,kc0,hao,hRb,a0,a1,a2,hkl0,_,hta⟩:=hkk.kid (j:=0) (t:=ta) (by rw [hkids];rfl)
 obtain ⟨b1,o1,ka1,kc1,hao1,_,e0,e1,e2,hkl1,_,htb⟩:=hkk.kid (j:=1) (t:=tb) (by rw [hkids];rfl)
 subst hao
 cases hao1
 rw [hk,hkids]
 simp only [Nat.zero_mul,Nat.one_mul,Nat.add_zero] at a0 a1 a2 e0 e1 e2
 rw [show ([ta,tb]:List T).length=2 from rfl]
 obtain ⟨X,hX,hcX,hbX,hsX⟩:=box_cells W #[.int .i64 9,.string ⟨t.name.toArray⟩,.slice (some ⟨b0,o0,none⟩) 2 cap] 24
 obtain ⟨xb,hxb⟩:∃ xb,xb=W.heap.size:=⟨_,rfl⟩
 rw [← hxb] at hbX hsX
 have HM:=Lib.hid (hM.nob hcX)
 have Hok:=Lib.hid hok
 have HNm:=Lib.hid (hNm.nob hcX)
 have Hta:=Lib.hid (hta.nob hcX)
 have Htb:=Lib.hid (htb.nob hcX)
 have HDR:=Lib.hid hDR
 have HRX:Hid (∀ q,R q→q < xb):=Lib.hid (fun q hq=>by have:=hRW q hq;omega)
 have HDX:Hid (∀ q,D q→q < xb):=Lib.hid (fun q hq=>by have:=hM.lt q hq;omega)
 have Hcx:=Lib.hid hcX
 have Hxs:Hid (X.heap.size=xb+1):=Lib.hid hsX
 have Hxb:=Lib.hid hxb
 obtain ⟨x0,x1,x2,_⟩:=cells_three hbX
 have HS:Hid (∀ (S:Nat→Prop) (V:World),Chg S X V→(∀ q,S q→¬ R q)→¬ S xb→V.cell? ⟨xb,2,none⟩=some (.slice (some ⟨b0,o0,none⟩) 2 cap)∧V.cell? ⟨b0,o0,none⟩=some (.int .i64 ta.kind)∧V.cell? ⟨b0,o0+1,none⟩=some (.string ⟨ta.name.toArray⟩)∧V.cell? ⟨b0,o0+2,none⟩=some (.slice ka0 ta.kids.length kc0)∧V.cell? ⟨b0,o0+3,none⟩=some (.int .i64 tb.kind)∧V.cell? ⟨b0,o0+3+1,none⟩=some (.string ⟨tb.name.toArray⟩)∧V.cell? ⟨b0,o0+3+2,none⟩=some (.slice ka1 tb.kids.length kc1)):=(show ∀ (S:Nat→Prop) (V:World),Chg S X V→(∀ q,S q→¬ R q)→¬ S xb→_ from fun S V hV hS hx=>by
  have hn:¬ S b0:=fun e=>hS b0 e hRb
  have f:∀ {p u},W.cell? ⟨b0,p,none⟩=some u→V.cell? ⟨b0,p,none⟩=some u:=fun h=>hV.cell' (hcX.cell' h (fun e=>e)) hn
  exact ⟨hV.cell' x2 hx,f a0,f a1,f a2,f e0,f e1,f e2⟩)
 have Hpa:Hid (∀ V,Chg Nob X V→Calls Tryz.prog 115 #[.pointer (some ⟨mb,0,none⟩),.agg #[.int .i64 ta.kind,.string ⟨ta.name.toArray⟩,.slice ka0 ta.kids.length kc0]] V (MkPost D mb nv V s (fa s) (WaysR V.heap.size))):=Lib.hid (fun V hV=>ca V D s _ (HM.out.nob hV) hok (Hta.out.nob hV) (HNm.out.nob hV) hDR (fun q hq=>by have:=HRX.out q hq;have:=hV.size;omega))
 rw [hX] at x0 x1 x2
 clear hNm hM hok hta htb hDR hRW hT hkk hl hkids hkl0 hkl1 a0 a1 a2 e0 e1 e2 hbX hsX hcX hRb hxb ca hk
 go_enter Tryz.func115,Tryz.ntmps115
 go_upto_region 21 with fail
 rw [← hX,← Hxb.out]
 clear hX x0 x1 x2
 obtain ⟨x2,k0,k1,k2,k3,k4,k5⟩:=HS.out Nob X (Chg.refl _ _) (fun _ e=>e.elim) (fun e=>e)
 refine wp_region_free (fun _=>true) (fun w'=>w'.cell? ⟨xb,2,none⟩=some (.slice (some ⟨b0,o0,none⟩) 2 cap)∧w'.cell? ⟨b0,o0,none⟩=some (.int .i64 ta.kind)∧w'.cell? ⟨b0,o0+1,none⟩=some (.string ⟨ta.name.toArray⟩)∧w'.cell? ⟨b0,o0+2,none⟩=some (.slice ka0 ta.kids.length kc0)∧w'.cell? ⟨b0,o0+3,none⟩=some (.int .i64 tb.kind)∧w'.cell? ⟨b0,o0+3+1,none⟩=some (.string ⟨tb.name.toArray⟩)∧w'.cell? ⟨b0,o0+3+2,none⟩=some (.slice ka1 tb.kids.length kc1)) (by kernel_rfl) ⟨x2,k0,k1,k2,k3,k4,k5⟩ (fun hHeld=>?_)
 refine tkG 0 hHeld ?_
 refine tkG 1 hHeld ?_
 refine tkG 2 hHeld ?_
 refine tkG 3 hHeld ?_
 refine tkG 4 hHeld ?_
 refine tkG 5 hHeld ?_
 refine tkG 7 hHeld ?_
 refine tkG 8 hHeld ?_
 refine tkG 9 hHeld ?_
 refine tkG 10 hHeld ?_
 refine tkG 11 hHeld ?_
 refine rdG 6 fun K hK=>?_
 go_simp
 (with_reducible refine (Hpa.out _ ((Chg.refl Nob X).drew)).mono ?_)
 clear Hpa
 rintro e w2 ⟨hc2,⟨hf,rfl⟩ | ⟨ma,s1,va,D2,hf,rfl,hM2,hg2,hok2,hle2,⟨xa,hva⟩,hna,hla,hsa⟩⟩
 ·have Hf:=Lib.hid hf
  have Hc2:Hid (Chg D X w2):=Lib.hid ((((Chg.refl Nob X).drew).any (S:=D)).trans1 hc2)
  clear hc2 hf
  try go_simp
  exact ⟨rfl,Hcx.out.of_mk Hc2.out,.inl ⟨by unfold orI;rw [Hf.out];rfl,rfl⟩⟩
 have hsXd:(X.drew).heap.size=xb+1:=Hxs.out
 have HcX2:Hid (Chg D X w2):=Lib.hid ((((Chg.refl Nob X).drew).any (S:=D)).trans1 hc2)
 have HDR2:Hid (∀ q,D2 q→¬ R q):=Lib.hid (fun q hq hr=>(hg2 q hq).elim (fun e=>HDR.out q e hr) (fun e=>by have:=HRX.out q hr;omega))
 have Hpb:Hid (∀ V,Chg Nob w2 V→Calls Tryz.prog 115 #[.pointer (some ⟨mb,0,none⟩),.agg #[.int .i64 tb.kind,.string ⟨tb.name.toArray⟩,.slice ka1 tb.kids.length kc1]] V (MkPost D2 mb nv V s1 (fb s1) (WaysR V.heap.size))):=Lib.hid (fun V hV=>cb V D2 s1 _ (hM2.nob hV) hok2 ((Htb.out.chg HcX2.out (fun b hb hd=>HDR.out b hd hb)).nob hV) ((HNm.out.chg HcX2.out HDR.out).nob hV) HDR2.out (fun q hq=>by have:=HRX.out q hq;have:=HcX2.out.size;have:=hV.size;have:=Hxs.out;omega))
 have HS2:=Lib.hid (HS.out D w2 HcX2.out HDR.out (fun e=>by have:=HDX.out _ e;omega))
 have Hg2:Hid (∀ q,D2 q→D q∨xb < q):=Lib.hid (fun q hq=>(hg2 q hq).imp id (fun e=>by omega))
 have HM2:=Lib.hid hM2
 have Hle2:=Lib.hid hle2
 have Hva:Hid (MOwn w2 (xb+1) va ma xa):=Lib.hid (hsXd ▸ hva)
 have Hna:=Lib.hid hna
 have Hla:=Lib.hid hla
 have Hsa:=Lib.hid hsa
 have Hfa:=Lib.hid hf
 clear hc2 hM2 hg2 hle2 hva hna hla hsa hf hok2 hsXd cb
 refine hK.out _ _ (fun _=>HS2.out) ?_
 clear hK K
 try simp only [Act.put]
 refine rdG 12 fun K hK=>?_
 go_simp
 (with_reducible refine (Hpb.out _ (Chg.refl Nob w2)).mono ?_)
 clear Hpb
 rintro e w3 ⟨hc3,⟨hf,rfl⟩ | ⟨my,s2,vy,D3,hf,rfl,hM3,hg3,hok3,hle3,⟨ya,hvy⟩,hny,hly,hsy⟩⟩
 ·have Hf:=Lib.hid hf
  have Hc3:=Lib.hid hc3
  clear hc3 hf
  try go_simp
  exact ⟨rfl,(Hcx.out.of_mk HcX2.out).trans Hc3.out (fun i hi e=>(Hg2.out i e).elim id (fun e=>by have:=Hxb.out;omega)),.inl ⟨by unfold orI;rw [Hfa.out];show Option.bind (fb s1) _=none;rw [Hf.out];rfl,rfl⟩⟩
 have HW3:Hid (Chg D W w3):=Lib.hid ((Hcx.out.of_mk HcX2.out).trans hc3 (fun i hi e=>(Hg2.out i e).elim id (fun e=>by have:=Hxb.out;omega)))
 have Hva3:Hid (MOwn w3 (xb+1) va ma xa):=Lib.hid (Hva.out.typed hc3 (fun q hq=>Hna.out q hq) HM2.out.ty)
 have Hg3:Hid (∀ q,D3 q→D q∨xb < q):=Lib.hid (fun q hq=>(hg3 q hq).elim (fun e=>Hg2.out q e) (fun e=> .inr (by have:=HcX2.out.size;have:=Hxs.out;omega)))
 have Hnva:Hid (∀ q,va.ownBlock=some q→¬ D3 q):=(show ∀ q,va.ownBlock=some q→¬ D3 q from fun q hq e=>by
  rcases hg3 q e with e | e
  ·exact Hna.out q hq e
  ·have:=(Hva.out.own.lt q hq).2;omega)
 have Hvalt:Hid (∀ q,va.ownBlock=some q→q < w2.heap.size):=Lib.hid (fun q hq=>(Hva.out.own.lt q hq).2)
 have Hs3:Hid (xb+1≤w2.heap.size∧w2.heap.size≤w3.heap.size):=(show _∧_ from ⟨by have:=HcX2.out.size;have:=Hxs.out;omega,hc3.size⟩)
 have Hf2:Hid (fb s1=some (my,s2)):=Lib.hid hf
 have HM3:=Lib.hid hM3
 have Hok3:=Lib.hid hok3
 have Hle:Hid (s.sts.length≤s2.sts.length):=(show _≤_ from Nat.le_trans Hle2.out hle3)
 have HSA:Hid (∀ m∈ma,SetN s2.sts.length m.to):=Lib.hid (fun m hm=>(Hsa.out m hm).mono hle3)
 have Hvy:=Lib.hid hvy
 have Hny:=Lib.hid hny
 have Hly:=Lib.hid hly
 have Hsy:=Lib.hid hsy
 have HS4:Hid (∀ V,Chg Nob w3 V→V.cell? ⟨xb,2,none⟩=some (.slice (some ⟨b0,o0,none⟩) 2 cap)∧V.cell? ⟨b0,o0,none⟩=some (.int .i64 ta.kind)∧V.cell? ⟨b0,o0+1,none⟩=some (.string ⟨ta.name.toArray⟩)∧V.cell? ⟨b0,o0+2,none⟩=some (.slice ka0 ta.kids.length kc0)∧V.cell? ⟨b0,o0+3,none⟩=some (.int .i64 tb.kind)∧V.cell? ⟨b0,o0+3+1,none⟩=some (.string ⟨tb.name.toArray⟩)∧V.cell? ⟨b0,o0+3+2,none⟩=some (.slice ka1 tb.kids.length kc1)):=(show ∀ V,Chg Nob w3 V→_ from fun V hV=>HS.out (fun q=>D q∨D2 q) V (((HcX2.out.mono (fun _ _ e=> .inl e)).trans hc3 (fun _ _ e=> .inr e)).trans1 hV.any) (fun q e=>e.elim (HDR.out q) (HDR2.out q)) (fun e=>e.elim (fun e=>by have:=HDX.out _ e;omega) (fun e=>(Hg2.out _ e).elim (fun e=>by have:=HDX.out _ e;omega) (fun e=>by omega))))
 have HS3:=Lib.hid (HS4.out w3 (Chg.refl _ _))
 have HcX3:Hid (Chg (fun q=>D q∨D2 q) X w3):=Lib.hid ((HcX2.out.mono (fun _ _ e=> .inl e)).trans hc3 (fun _ _ e=> .inr e))
 have HnR:Hid (∀ q,(D q∨D2 q)→¬ R q):=Lib.hid (fun q e=>e.elim (HDR.out q) (HDR2.out q))
 have HnX:Hid (¬ (D xb∨D2 xb)):=Lib.hid (fun e=>e.elim (fun e=>by have:=HDX.out _ e;omega) (fun e=>(Hg2.out _ e).elim (fun e=>by have:=HDX.out _ e;omega) (fun e=>by omega)))
 obtain ⟨aa,ca',rfl,hmina,hnila⟩:=Hva3.out.min2
 obtain ⟨ay,cy,rfl,hminy,hnily⟩:=Hvy.out.min2
 have Hmina:=Lib.hid hmina
 have Hminy:=Lib.hid hminy
 have Hnily:=Lib.hid hnily
 clear hc3 hM3 hok3 hle3 hvy hny hly hsy hf hg3 hmina hnila hminy hnily
 refine hK.out _ _ (fun _=>HS3.out) ?_
 clear hK K
 try simp only [Act.put]
 refine rdG 13 fun K hK=>?_
 have hcat0:=Hva3.out.concat (by have:=Hs3.out;omega) Hvy.out.fst Hminy.out Hnily.out (by have:=Hla.out;have:=Hly.out;omega)
 obtain ⟨sl',w4,hrun,hcat,hc4,hob4⟩:=hcat0
 have h753:∀ q,(Value.slice aa ma.length ca').ownBlock=some q→∀ cs m,w3.heap[q]?≠some (.cells cs 3 m):=fun q e cs m hb=>by
  obtain ⟨cs',m',hb2⟩:=ownsRow_block Hva3.out.own q e
  rw [hb] at hb2
  simp at hb2
 have hlo:∀ q,(Value.slice aa ma.length ca').ownBlock=some q→xb+1≤q:=fun q hq=>(Hva3.out.own.lt q hq).1
 have HM4:=Lib.hid (HM3.out.keep hc4 (fun q e=>Hnva.out q e) h753)
 have HW4:Hid (Chg D W w4):=Lib.hid (HW3.out.trans hc4 (fun i hi e=>by have:=hlo i e;have:=Hxb.out;omega))
 have HS5:Hid (∀ V,Chg Nob w4 V→V.cell? ⟨xb,2,none⟩=some (.slice (some ⟨b0,o0,none⟩) 2 cap)∧V.cell? ⟨b0,o0,none⟩=some (.int .i64 ta.kind)∧V.cell? ⟨b0,o0+1,none⟩=some (.string ⟨ta.name.toArray⟩)∧V.cell? ⟨b0,o0+2,none⟩=some (.slice ka0 ta.kids.length kc0)∧V.cell? ⟨b0,o0+3,none⟩=some (.int .i64 tb.kind)∧V.cell? ⟨b0,o0+3+1,none⟩=some (.string ⟨tb.name.toArray⟩)∧V.cell? ⟨b0,o0+3+2,none⟩=some (.slice ka1 tb.kids.length kc1)):=(show ∀ V,Chg Nob w4 V→_ from fun V hV=>HS.out (fun q=>(D q∨D2 q)∨(Value.slice aa ma.length ca').ownBlock=some q) V (((HcX3.out.mono (fun _ _ e=> .inl e)).trans hc4 (fun _ _ e=> .inr e)).trans1 hV.any) (fun q e=>e.elim (HnR.out q) (fun e hr=>by have:=hlo q e;have:=HRX.out q hr;omega)) (fun e=>e.elim HnX.out (fun e=>by have:=hlo _ e;omega)))
 obtain ⟨as',cs',rfl,hmins⟩:=hcat.min
 have Hcatfst:=Lib.hid hcat.fst
 have Hmins:=Lib.hid hmins
 have Hrun:=Lib.hid hrun
 have Hs4:Hid (w3.heap.size≤w4.heap.size):=Lib.hid hc4.size
 have hcl:(ma++my).length=ma.length+my.length:=List.length_append
 have Hcl:=Lib.hid hcl
 clear hrun hcat hc4 hob4 h753 hlo hmins hcl
 refine wp_append_runM (.tmp 90) (.tmp 96) 67 67 rfl _ _ rfl rfl _ _ Hrun.out ?_
 refine hK.out _ _ (fun _=>HS5.out w4 (Chg.refl _ _)) ?_
 clear hK K
 try simp only [Act.put]
 refine rdG 14 fun K hK=>?_
 have hleast:Calls Tryz.prog 116 #[.pointer (some ⟨mb,0,none⟩),.slice as' (ma++my).length cs'] w4 (LeastPost (ma++my) w4):=least_any Hcatfst.out Hmins.out
 go_simp
 try rw [Hcl.out] at hleast
 (with_reducible refine hleast.mono ?_)
 clear hleast
 rintro e w5 ⟨hc5,⟨hbig,rfl⟩ | ⟨hle5,vp,xp,rfl,hown⟩⟩
 ·have Hc5:=Lib.hid hc5
  have Hbig:=Lib.hid hbig
  clear hc5 hbig
  try go_simp
  exact ⟨rfl,HW4.out.trans Hc5.out (fun _ _ e=>e.elim),.inl ⟨by unfold orI leastO;rw [Hfa.out];show Option.bind (fb s1) _=none;rw [Hf2.out];show Option.map _ (if 4096 < (ma++my).length then none else _)=none;rw [if_pos Hbig.out];rfl,rfl⟩⟩
 obtain ⟨ms,hms⟩:∃ ms,ms=leastI (ma++my) (ma++my).length:=⟨_,rfl⟩
 rw [← hms] at hown
 have hmsl:ms.length≤4096:=by rw [hms];exact Nat.le_trans (leastI_len _ _) hle5
 have HmsS:Hid (∀ m∈ms,SetN s2.sts.length m.to):=(show ∀ m∈ms,SetN s2.sts.length m.to from fun m hm=>by
  rw [hms] at hm
  rcases List.mem_append.1 (leastI_mem (Nat.le_refl _) hm) with hm | hm
  ·exact HSA.out m hm
  ·exact Hsy.out m hm)
 have Hraw:Hid (orI fa fb s=some (ms,s2)):=(show _=_ by
  unfold orI leastO
  rw [Hfa.out]
  show Option.bind (fb s1) _=_
  rw [Hf2.out]
  show Option.map _ (if 4096 < (ma++my).length then none else _)=_
  rw [if_neg (by omega),← hms]
  rfl)
 have Hown:=Lib.hid hown
 have HM5:=Lib.hid (HM4.out.nob hc5)
 have HW5:Hid (Chg D W w5):=Lib.hid (HW4.out.trans hc5 (fun _ _ e=>e.elim))
 have HS6:=Lib.hid (HS5.out w5 hc5)
 clear hc5 hown hms hle5
 refine hK.out _ _ (fun _=>HS6.out) ?_
 clear hK K
 try simp only [Act.put]
 refine tkG 15 HS6.out ?_
 refine wpAnyG_done (by kernel_rfl) ?_ _
 go_simp
 clear hHeld x2 k0 k1 k2 k3 k4 k5
 go_wp2_with fail
 go_ret
 exact ⟨HW5.out,.inr ⟨ms,s2,_,D3,Hraw.out,rfl,HM5.out,fun k hk=>(Hg3.out k hk).imp id (fun e=>by have:=Hxb.out;omega),Hok3.out,Hle.out,⟨_,Hown.out.low (by have:=Hs4.out;have:=Hs3.out;have:=Hxb.out;omega)⟩,fun q hq e=>by
  have h1:=(Hown.out.own.lt q hq).1
  have h2:=HM3.out.lt q e
  have:=Hs4.out
  omega,hmsl,HmsS.out⟩⟩
end Go.Proofs.YtkgfdgfhpdhhaaaGreat
namespace Go.Proofs.YtkgfdgfhpdhhaaaGreat
open PL (F)
abbrev WaysI:=MkS→Option (List Mvi × MkS)
abbrev SetsI:=MkS→Option (List (List Int) × MkS)
abbrev NumI:=MkS→Option (Nat × MkS)
def oneI (st:NumI):SetsI:=fun s=>(st s).map fun x=>([[(x.1:Int)]],x.2)
structure FnsI where
 sets:SetsI
 ways:WaysI
def plainI (k:List UInt8) (w:WaysI):FnsI:=⟨oneI (stateI k false w),w⟩
def keptI (k:List UInt8) (fin:Bool) (raw:WaysI):FnsI:=⟨oneI (stateI k fin raw),waysK (stateI k fin raw)⟩
def mkI (L:List (List UInt8)):F→FnsI
 | .tt=>⟨fun s=>some ([[]],s),fun s=>some ([⟨0,0,[]⟩],s)⟩
 | .ff=>⟨fun s=>some ([],s),fun s=>some ([],s)⟩
 | .pr n=>plainI (keyT (tF (.pr n))) fun s=>some ([⟨bitI L n,0,[]⟩],s)
 | .np n=>plainI (keyT (tF (.np n))) fun s=>some ([⟨0,bitI L n,[]⟩],s)
 | .nx a=>plainI (keyT (tF (.nx a))) (waysN (mkI L a).sets)
 | .an a b=>⟨andS (mkI L a).sets (mkI L b).sets,andI (mkI L a).ways (mkI L b).ways⟩
 | .or a b=>⟨orS (mkI L a).sets (mkI L b).sets,orI (mkI L a).ways (mkI L b).ways⟩
 | .un a b=>keptI (keyT (tF (.un a b))) true (untilI (mkI L a).ways (mkI L b).ways)
 | .re a b=>keptI (keyT (tF (.re a b))) false (releaseI (mkI L a).ways (mkI L b).ways)
theorem tF_kinds:∀ f:F,∀ u∈allT (tF f),1≤u.kind∧u.kind≤14:=by
 intro f
 induction f with
 | tt | ff=>intro u hu;rw [tF,allT_leaf,List.mem_singleton] at hu;subst hu;simp [T.kind]
 | pr n=>intro u hu;rw [tF,allT_leaf,List.mem_singleton] at hu;subst hu;simp [T.kind]
 | np n =>
   intro u hu
   rw [tF,allT_one,allT_leaf,List.mem_cons,List.mem_singleton] at hu
   rcases hu with rfl | rfl <;> simp [T.kind]
 | nx a ih =>
   intro u hu
   rw [tF,allT_one,List.mem_cons] at hu
   rcases hu with rfl | hu
   ·simp [T.kind]
   ·exact ih u hu
 | an a b iha ihb | or a b iha ihb | un a b iha ihb | re a b iha ihb =>
   intro u hu
   rw [tF,allT_two,List.mem_cons,List.mem_append] at hu
   rcases hu with rfl | hu | hu
   ·simp [T.kind]
   ·exact iha u hu
   ·exact ihb u hu
theorem key_one (k:Int) (a:T):(keyT a).length < (keyT (.node k [] [a])).length:=by
 rw [keyT,keyL,keyL];simp;omega
theorem key_two (k:Int) (a b:T):(keyT a).length < (keyT (.node k [] [a,b])).length∧(keyT b).length < (keyT (.node k [] [a,b])).length:=by
 rw [keyT,keyL,keyL,keyL];simp;omega
theorem kinds_ne {t:T} {k:Int} (h:t.kind=k) (hk:k≠1∧k≠2∧k≠8∧k≠9):t.kind≠1∧t.kind≠2∧t.kind≠8∧t.kind≠9:=h ▸ hk
theorem kinds_nu {t:T} {k:Int} (h:t.kind=k) (hk:k≠12∧k≠13):t.kind≠12∧t.kind≠13:=h ▸ hk
theorem mk_any {L:List (List UInt8)} (hL:L.length≤64):∀ f:F,(∀ n∈PL.namesF f,n∈L)→(keyT (tF f)).length≤1000000000→∀ (R:Nat→Prop) (mb:Nat) (nv:Value),SetsC R mb nv L (tF f) (mkI L f).sets∧WaysC R mb nv L (tF f) (mkI L f).ways:=by
 intro f
 induction f with
 | tt=>intro _ _ R mb nv;exact ⟨sets_true rfl,ways_true rfl⟩
 | ff=>intro _ _ R mb nv;exact ⟨sets_false rfl,ways_false rfl⟩
 | pr n =>
   intro hn hk R mb nv
   have hw:WaysC R mb nv L (tF (.pr n)) (mkI L (.pr n)).ways:=ways_prop (t:=tF (.pr n)) rfl (hn n (by simp [PL.namesF])) hL
   exact ⟨sets_state (kinds_ne (k:=3) rfl (by decide)) (state_plain (kinds_nu (k:=3) rfl (by decide)) (tF_kinds _) hk hw),hw⟩
 | np n =>
   intro hn hk R mb nv
   have hw:WaysC R mb nv L (tF (.np n)) (mkI L (.np n)).ways:=ways_not (t:=tF (.np n)) (tk:= .node 3 n []) rfl rfl (hn n (by simp [PL.namesF])) hL
   exact ⟨sets_state (kinds_ne (k:=4) rfl (by decide)) (state_plain (kinds_nu (k:=4) rfl (by decide)) (tF_kinds _) hk hw),hw⟩
 | nx a ih =>
   intro hn hk R mb nv
   have h1:=key_one 5 (tF a)
   have ha:=ih hn (by rw [tF] at hk;omega) R mb nv
   have hw:WaysC R mb nv L (tF (.nx a)) (mkI L (.nx a)).ways:=ways_next (t:=tF (.nx a)) rfl rfl ha.1
   exact ⟨sets_state (kinds_ne (k:=5) rfl (by decide)) (state_plain (kinds_nu (k:=5) rfl (by decide)) (tF_kinds _) hk hw),hw⟩
 | an a b iha ihb =>
   intro hn hk R mb nv
   have h1:=key_two 8 (tF a) (tF b)
   have ha:=iha (fun n h=>hn n (by simp [PL.namesF,h])) (by rw [tF] at hk;omega) R mb nv
   have hb:=ihb (fun n h=>hn n (by simp [PL.namesF,h])) (by rw [tF] at hk;omega) R mb nv
   exact ⟨sets_and (t:=tF (.an a b)) rfl rfl ha.1 hb.1,ways_and (t:=tF (.an a b)) rfl rfl ha.2 hb.2⟩
 | or a b iha ihb =>
   intro hn hk R mb nv
   have h1:=key_two 9 (tF a) (tF b)
   have ha:=iha (fun n h=>hn n (by simp [PL.namesF,h])) (by rw [tF] at hk;omega) R mb nv
   have hb:=ihb (fun n h=>hn n (by simp [PL.namesF,h])) (by rw [tF] at hk;omega) R mb nv
   exact ⟨sets_or (t:=tF (.or a b)) rfl rfl ha.1 hb.1,ways_or (t:=tF (.or a b)) rfl rfl ha.2 hb.2⟩
 | un a b iha ihb =>
   intro hn hk R mb nv
   have h1:=key_two 12 (tF a) (tF b)
   have ha:=iha (fun n h=>hn n (by simp [PL.namesF,h])) (by rw [tF] at hk;omega) R mb nv
   have hb:=ihb (fun n h=>hn n (by simp [PL.namesF,h])) (by rw [tF] at hk;omega) R mb nv
   have hs:=state_until (t:=tF (.un a b)) rfl rfl (tF_kinds _) hk ha.2 hb.2
   exact ⟨sets_state (kinds_ne (k:=12) rfl (by decide)) hs,ways_kept (.inl rfl) hs⟩
 | re a b iha ihb =>
   intro hn hk R mb nv
   have h1:=key_two 13 (tF a) (tF b)
   have ha:=iha (fun n h=>hn n (by simp [PL.namesF,h])) (by rw [tF] at hk;omega) R mb nv
   have hb:=ihb (fun n h=>hn n (by simp [PL.namesF,h])) (by rw [tF] at hk;omega) R mb nv
   have hs:=state_release (t:=tF (.re a b)) rfl rfl (tF_kinds _) hk ha.2 hb.2
   exact ⟨sets_state (kinds_ne (k:=13) rfl (by decide)) hs,ways_kept (.inr rfl) hs⟩
end Go.Proofs.YtkgfdgfhpdhhaaaGreat
