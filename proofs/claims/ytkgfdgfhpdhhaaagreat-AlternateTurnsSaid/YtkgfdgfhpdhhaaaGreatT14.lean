/- Parts of the walks and of the plain theory, the first: Plain formulas: what they are made, how great that is, and that it says the same. No condition. -/
import Derived.Test.YtkgfdgfhpdhhaaaGreatT01
import Derived.Test.YtkgfdgfhpdhhaaaGreatT13
import Derived.Test.YtkgfdgfhpdhhaaaGreatT12
import Derived.Deep.DeepCutAuto
import Derived.Test.YtkgfdgfhpdhhaaaGreatT11
import Derived.Test.YtkgfdgfhpdhhaaaGreatT10
namespace Go.Proofs.YtkgfdgfhpdhhaaaGreat.PL
inductive F where
 | tt | ff
 | pr (n:List UInt8)
 | np (n:List UInt8)
 | nx (a:F)
 | an (a b:F)
 | or (a b:F)
 | un (a b:F)
 | re (a b:F)
def eqF:F→F→Bool
 | .tt,.tt=>true
 | .ff,.ff=>true
 | .pr n,.pr m=>n==m
 | .np n,.np m=>n==m
 | .nx a,.nx b=>eqF a b
 | .an a b,.an c d=>eqF a c&&eqF b d
 | .or a b,.or c d=>eqF a c&&eqF b d
 | .un a b,.un c d=>eqF a c&&eqF b d
 | .re a b,.re c d=>eqF a c&&eqF b d
 | _,_=>false
theorem eqF_refl:∀ a:F,eqF a a=true
 | .tt | .ff=>rfl
 | .pr n | .np n=>by simp [eqF]
 | .nx a=>by simp [eqF,eqF_refl a]
 | .an a b | .or a b | .un a b | .re a b=>by simp [eqF,eqF_refl a,eqF_refl b]
theorem eqF_eq:∀ a b:F,eqF a b=true→a=b:=by
 intro a
 induction a <;> intro b h <;> cases b <;> simp_all [eqF]
 all_goals first | (rename_i h1 h2 _ _;exact ⟨h1 _ h.1,h2 _ h.2⟩) | (rename_i h1 _;exact h1 _ h)
theorem eqF_iff (a b:F):eqF a b=true↔a=b:=⟨eqF_eq a b,fun h=>h ▸ eqF_refl a⟩
instance:DecidableEq F:=fun a b=>decidable_of_iff _ (eqF_iff a b)
def fgf:F→Bool
 | .re .ff (.un .tt _)=>true
 | _=>false
def gfg:F→Bool
 | .un .tt (.re .ff _)=>true
 | _=>false
def untilF (a:F):F→F
 | .un x y=>if a = .ff∨a = .un x y then .un x y else if a = .tt then (if x = .tt then .un x y else untilF a y) else .un a (.un x y)
 | b=>if b = .tt∨b = .ff∨a = .ff∨a=b then b else if a = .tt∧fgf b=true then b else .un a b
def releaseF (a:F):F→F
 | .re x y=>if a = .tt∨a = .re x y then .re x y else if a = .ff then (if x = .ff then .re x y else releaseF a y) else .re a (.re x y)
 | b=>if b = .tt∨b = .ff∨a = .tt∨a=b then b else if a = .ff∧gfg b=true then b else .re a b
def oppF:F→F→Bool
 | .np n,.pr m=>n==m
 | .pr n,.np m=>n==m
 | _,_=>false
def jn (c:Bool) (a b:F):F:=if c then .an a b else .or a b
def noF (c:Bool):F:=if c then .ff else .tt
def yesF (c:Bool):F:=if c then .tt else .ff
def baseF (c:Bool) (a b:F):Option F :=
 if a=noF c∨b=yesF c then some a else if b=noF c∨a=yesF c then some b else if a=b then some a else if oppF a b=true then some (noF c) else none
def joinedF (c:Bool):F→F→F
 | .nx x,.nx y=>(baseF c (.nx x) (.nx y)).getD (.nx (joinedF c x y))
 | .re .ff x,.re .ff y=>(baseF c (.re .ff x) (.re .ff y)).getD (if c then releaseF .ff (joinedF c x y) else jn c (.re .ff x) (.re .ff y))
 | .un .tt x,.un .tt y=>(baseF c (.un .tt x) (.un .tt y)).getD (if c then jn c (.un .tt x) (.un .tt y) else untilF .tt (joinedF c x y))
 | a,b=>(baseF c a b).getD (jn c a b)
def smallF:F→F
 | .nx a=>if smallF a = .tt∨smallF a = .ff then smallF a else .nx (smallF a)
 | .an a b=>joinedF true (smallF a) (smallF b)
 | .or a b=>joinedF false (smallF a) (smallF b)
 | .un a b=>untilF (smallF a) (smallF b)
 | .re a b=>releaseF (smallF a) (smallF b)
 | t=>t
def sizeF:F→Nat
 | .tt | .ff | .pr _=>1
 | .np _=>2
 | .nx a=>sizeF a+1
 | .an a b | .or a b | .un a b | .re a b=>sizeF a+sizeF b+1
def namesF:F→List (List UInt8)
 | .tt | .ff=>[]
 | .pr n | .np n=>[n]
 | .nx a=>namesF a
 | .an a b | .or a b | .un a b | .re a b=>namesF a++namesF b
def nextF:F→Bool
 | .tt | .ff | .pr _ | .np _=>false
 | .nx _=>true
 | .an a b | .or a b | .un a b | .re a b=>nextF a || nextF b
structure Le (r n:F):Prop where
 size:sizeF r≤sizeF n
 names:∀ x,x∈namesF r→x∈namesF n
 next:nextF r=true→nextF n=true
theorem Le.refl (a:F):Le a a:=⟨Nat.le_refl _,fun _ h=>h,fun h=>h⟩
theorem Le.trans {a b c:F} (h:Le a b) (k:Le b c):Le a c:=⟨Nat.le_trans h.size k.size,fun x hx=>k.names x (h.names x hx),fun hx=>k.next (h.next hx)⟩
theorem sizeF_pos (a:F):1≤sizeF a:=by cases a <;> simp [sizeF]
theorem Le.tt (a:F):Le .tt a:=⟨sizeF_pos a,fun _ h=>by simp [namesF] at h,fun h=>by simp [nextF] at h⟩
theorem Le.ff (a:F):Le .ff a:=⟨sizeF_pos a,fun _ h=>by simp [namesF] at h,fun h=>by simp [nextF] at h⟩
theorem Le.nx {a b:F} (h:Le a b):Le (.nx a) (.nx b):=⟨by simp [sizeF];exact h.size,h.names,fun _=>rfl⟩
theorem Le.an {a b c d:F} (h:Le a b) (k:Le c d):Le (.an a c) (.an b d) :=
 ⟨by have:=h.size;have:=k.size;simp [sizeF];omega,fun x hx=>by simp [namesF] at hx ⊢;exact hx.imp (h.names x) (k.names x),fun hx=>by simp [nextF] at hx ⊢;exact hx.imp h.next k.next⟩
theorem Le.or {a b c d:F} (h:Le a b) (k:Le c d):Le (.or a c) (.or b d) :=
 ⟨by have:=h.size;have:=k.size;simp [sizeF];omega,fun x hx=>by simp [namesF] at hx ⊢;exact hx.imp (h.names x) (k.names x),fun hx=>by simp [nextF] at hx ⊢;exact hx.imp h.next k.next⟩
theorem Le.un {a b c d:F} (h:Le a b) (k:Le c d):Le (.un a c) (.un b d) :=
 ⟨by have:=h.size;have:=k.size;simp [sizeF];omega,fun x hx=>by simp [namesF] at hx ⊢;exact hx.imp (h.names x) (k.names x),fun hx=>by simp [nextF] at hx ⊢;exact hx.imp h.next k.next⟩
theorem Le.re {a b c d:F} (h:Le a b) (k:Le c d):Le (.re a c) (.re b d) :=
 ⟨by have:=h.size;have:=k.size;simp [sizeF];omega,fun x hx=>by simp [namesF] at hx ⊢;exact hx.imp (h.names x) (k.names x),fun hx=>by simp [nextF] at hx ⊢;exact hx.imp h.next k.next⟩
theorem Le.left (c:Bool) (a b:F):Le a (PL.jn c a b):=by
 cases c <;> exact ⟨by simp [PL.jn,sizeF];omega,fun x hx=>by simp [PL.jn,namesF];exact .inl hx,fun hx=>by simp [PL.jn,nextF];exact .inl hx⟩
theorem Le.right (c:Bool) (a b:F):Le b (PL.jn c a b):=by
 cases c <;> exact ⟨by simp [PL.jn,sizeF];omega,fun x hx=>by simp [PL.jn,namesF];exact .inr hx,fun hx=>by simp [PL.jn,nextF];exact .inr hx⟩
theorem Le.unR (a b:F):Le b (.un a b):=⟨by simp [sizeF];omega,fun x hx=>by simp [namesF];exact .inr hx,fun hx=>by simp [nextF];exact .inr hx⟩
theorem Le.reR (a b:F):Le b (.re a b):=⟨by simp [sizeF];omega,fun x hx=>by simp [namesF];exact .inr hx,fun hx=>by simp [nextF];exact .inr hx⟩
theorem Le.nxR (a:F):Le a (.nx a):=⟨by simp [sizeF],fun x hx=>hx,fun _=>rfl⟩
theorem untilF_le (a:F):∀ b,Le (untilF a b) (.un a b):=by
 intro b
 induction b with
 | un x y _ ih =>
   rw [untilF]
   split
   ·exact .unR _ _
   ·split
    ·split
     ·exact .unR _ _
     ·exact ih.trans ((Le.refl a).un (.unR x y))
    ·exact .refl _
 | _ =>
   rw [untilF]
   ·split
    ·exact .unR _ _
    ·split
     ·exact .unR _ _
     ·exact .refl _
   ·intro _ _ h;cases h
theorem releaseF_le (a:F):∀ b,Le (releaseF a b) (.re a b):=by
 intro b
 induction b with
 | re x y _ ih =>
   rw [releaseF]
   split
   ·exact .reR _ _
   ·split
    ·split
     ·exact .reR _ _
     ·exact ih.trans ((Le.refl a).re (.reR x y))
    ·exact .refl _
 | _ =>
   rw [releaseF]
   ·split
    ·exact .reR _ _
    ·split
     ·exact .reR _ _
     ·exact .refl _
   ·intro _ _ h;cases h
theorem baseF_le {c:Bool} {a b r:F} (h:baseF c a b=some r):Le r (jn c a b):=by
 unfold baseF at h
 split at h
 ·cases h;exact .left c _ _
 ·split at h
  ·cases h;exact .right c _ _
  ·split at h
   ·cases h;exact .left c _ _
   ·split at h
    ·cases h;cases c
     ·exact .tt _
     ·exact .ff _
    ·cases h
theorem getD_le {c:Bool} {a b r:F} (h:Le r (jn c a b)):Le ((baseF c a b).getD r) (jn c a b):=by
 cases hb:baseF c a b with
 | none=>exact h
 | some x=>exact baseF_le hb
theorem joinedF_le (c:Bool):∀ a b,Le (joinedF c a b) (jn c a b):=by
 intro a b
 induction a,b using joinedF.induct with
 | case1 x y ih =>
   rw [joinedF]
   refine getD_le (ih.nx.trans ?_)
   cases c <;> exact ⟨by simp [jn,sizeF];omega,fun x hx=>by simpa [jn,namesF] using hx,fun _=>rfl⟩
 | case2 x y ih =>
   rw [joinedF]
   refine getD_le ?_
   cases c
   ·exact .refl _
   ·exact (releaseF_le _ _).trans (((Le.refl _).re ih).trans ⟨by simp [jn,sizeF];omega,fun x hx=>by simpa [jn,namesF] using hx,fun hx=>by simpa [jn,nextF] using hx⟩)
 | case3 x y ih =>
   rw [joinedF]
   refine getD_le ?_
   cases c
   ·exact (untilF_le _ _).trans (((Le.refl _).un ih).trans ⟨by simp [jn,sizeF];omega,fun x hx=>by simpa [jn,namesF] using hx,fun hx=>by simpa [jn,nextF] using hx⟩)
   ·exact .refl _
 | case4 a b h1 h2 h3 =>
   rw [joinedF]
   ·exact getD_le (.refl _)
   ·exact h1
   ·exact h2
   ·exact h3
theorem smallF_le:∀ t,Le (smallF t) t:=by
 intro t
 induction t with
 | nx a ih =>
   rw [smallF]
   split
   ·exact ih.trans (.nxR _)
   ·exact ih.nx
 | an a b iha ihb=>exact (joinedF_le true _ _).trans (iha.an ihb)
 | or a b iha ihb=>exact (joinedF_le false _ _).trans (iha.or ihb)
 | un a b iha ihb=>exact (untilF_le _ _).trans (iha.un ihb)
 | re a b iha ihb=>exact (releaseF_le _ _).trans (iha.re ihb)
 | _=>exact .refl _
def semF (σ : Nat→List UInt8→Prop):F→Nat→Prop
 | .tt,_=>True
 | .ff,_=>False
 | .pr n,i=>σ i n
 | .np n,i=>¬ σ i n
 | .nx a,i=>semF σ a (i+1)
 | .an a b,i=>semF σ a i∧semF σ b i
 | .or a b,i=>semF σ a i∨semF σ b i
 | .un a b,i=>∃ d,semF σ b (i+d)∧∀ j,j < d→semF σ a (i+j)
 | .re a b,i=>∀ d,semF σ b (i+d)∨∃ j,j < d∧semF σ a (i+j)
section
variable {σ : Nat → List UInt8 → Prop}
def Eqv (σ : Nat→List UInt8→Prop) (a b:F):Prop:=∀ i,semF σ a i↔semF σ b i
theorem Eqv.refl (a:F):Eqv σ a a:=fun _=>Iff.rfl
theorem Eqv.symm {a b:F} (h:Eqv σ a b):Eqv σ b a:=fun i=>(h i).symm
theorem Eqv.trans {a b c:F} (h:Eqv σ a b) (k:Eqv σ b c):Eqv σ a c:=fun i=>(h i).trans (k i)
theorem Eqv.nx {a b:F} (h:Eqv σ a b):Eqv σ (.nx a) (.nx b):=fun i=>h (i+1)
theorem Eqv.an {a b c d:F} (h:Eqv σ a b) (k:Eqv σ c d):Eqv σ (.an a c) (.an b d):=fun i=>and_congr (h i) (k i)
theorem Eqv.or {a b c d:F} (h:Eqv σ a b) (k:Eqv σ c d):Eqv σ (.or a c) (.or b d):=fun i=>or_congr (h i) (k i)
theorem Eqv.un {a b c d:F} (h:Eqv σ a b) (k:Eqv σ c d):Eqv σ (.un a c) (.un b d):=fun i=>by
 simp only [semF]
 exact ⟨fun ⟨n,x,y⟩=>⟨n,(k _).1 x,fun j hj=>(h _).1 (y j hj)⟩,fun ⟨n,x,y⟩=>⟨n,(k _).2 x,fun j hj=>(h _).2 (y j hj)⟩⟩
theorem Eqv.re {a b c d:F} (h:Eqv σ a b) (k:Eqv σ c d):Eqv σ (.re a c) (.re b d):=fun i=>by
 simp only [semF]
 exact ⟨fun H n=>(H n).imp (k _).1 (fun ⟨j,x,y⟩=>⟨j,x,(h _).1 y⟩),fun H n=>(H n).imp (k _).2 (fun ⟨j,x,y⟩=>⟨j,x,(h _).2 y⟩)⟩
theorem un_now {a b:F} {i:Nat} (h:semF σ b i):semF σ (.un a b) i:=by
 rw [semF];exact ⟨0,h,fun j hj=>absurd hj (Nat.not_lt_zero j)⟩
theorem re_now {a b:F} {i:Nat} (h:semF σ (.re a b) i):semF σ b i:=by
 rw [semF] at h
 exact (h 0).elim (fun x=>x) (fun ⟨j,hj,_⟩=>absurd hj (Nat.not_lt_zero j))
theorem un_tt {b:F} {i:Nat}:semF σ (.un .tt b) i↔∃ d,semF σ b (i+d):=by
 simp [semF]
theorem re_ff {b:F} {i:Nat}:semF σ (.re .ff b) i↔∀ d,semF σ b (i+d):=by
 simp [semF]
theorem un_const {a b:F} (h:∀ i j,semF σ b i↔semF σ b j):Eqv σ (.un a b) b:=fun i=>by
 refine ⟨fun H=>?_,un_now⟩
 rw [semF] at H
 obtain ⟨d,x,_⟩:=H
 exact (h _ _).1 x
theorem re_const {a b:F} (h:∀ i j,semF σ b i↔semF σ b j):Eqv σ (.re a b) b:=fun i=>by
 refine ⟨re_now,fun H=>?_⟩
 rw [semF]
 exact fun d=> .inl ((h _ _).1 H)
theorem un_ff (b:F):Eqv σ (.un .ff b) b:=fun i=>by
 refine ⟨fun H=>?_,un_now⟩
 rw [semF] at H
 obtain ⟨d,x,y⟩:=H
 cases d with
 | zero=>exact x
 | succ d=>exact (y 0 (by omega)).elim
theorem re_tt (b:F):Eqv σ (.re .tt b) b:=fun i=>by
 refine ⟨re_now,fun H=>?_⟩
 rw [semF]
 intro d
 cases d with
 | zero=>exact .inl H
 | succ d=>exact .inr ⟨0,by omega,trivial⟩
theorem un_self (b:F):Eqv σ (.un b b) b:=fun i=>by
 refine ⟨fun H=>?_,un_now⟩
 rw [semF] at H
 obtain ⟨d,x,y⟩:=H
 cases d with
 | zero=>exact x
 | succ d=>exact y 0 (by omega)
theorem re_self (b:F):Eqv σ (.re b b) b:=fun i=>by
 refine ⟨re_now,fun H=>?_⟩
 rw [semF]
 intro d
 cases d with
 | zero=>exact .inl H
 | succ d=>exact .inr ⟨0,by omega,H⟩
theorem ev_un (x y:F):Eqv σ (.un .tt (.un x y)) (.un .tt y):=fun i=>by
 rw [un_tt,un_tt]
 constructor
 ·rintro ⟨d,h⟩
  rw [semF] at h
  obtain ⟨e,h,_⟩:=h
  exact ⟨d+e,by rwa [← Nat.add_assoc]⟩
 ·rintro ⟨d,h⟩
  exact ⟨d,un_now h⟩
theorem al_re (x y:F):Eqv σ (.re .ff (.re x y)) (.re .ff y):=fun i=>by
 rw [re_ff,re_ff]
 constructor
 ·exact fun h d=>re_now (h d)
 ·intro h d
  rw [semF]
  exact fun e=> .inl (by rw [Nat.add_assoc];exact h _)
theorem ev_fgf {b:F} (h:fgf b=true):Eqv σ (.un .tt b) b:=fun i=>by
 unfold fgf at h
 split at h
 ·rename_i x
  rw [un_tt]
  constructor
  ·rintro ⟨d,h⟩
   rw [re_ff] at h ⊢
   intro e
   have h:=h e
   rw [un_tt] at h ⊢
   obtain ⟨f,h⟩:=h
   exact ⟨d+f,by rwa [show i+e+(d+f)=i+d+e+f by omega]⟩
  ·exact fun h=>⟨0,h⟩
 ·cases h
theorem al_gfg {b:F} (h:gfg b=true):Eqv σ (.re .ff b) b:=fun i=>by
 unfold gfg at h
 split at h
 ·rename_i x
  rw [re_ff]
  constructor
  ·exact fun h=>h 0
  ·intro h d
   rw [un_tt] at h ⊢
   obtain ⟨e,h⟩:=h
   rw [re_ff] at h
   refine ⟨e,?_⟩
   rw [re_ff]
   intro f
   have:=h (d+f)
   rwa [show i+e+(d+f)=i+d+e+f by omega] at this
 ·cases h
theorem untilF_sem (a:F):∀ b,Eqv σ (untilF a b) (.un a b):=by
 intro b
 induction b with
 | un x y _ ih =>
   rw [untilF]
   split
   ·rename_i h
    rcases h with rfl | rfl
    ·exact (un_ff _).symm
    ·exact (un_self _).symm
   ·split
    ·rename_i h;subst h
     split
     ·rename_i h;subst h
      exact ((ev_un _ _).trans (Eqv.refl _)).symm
     ·exact ih.trans (ev_un x y).symm
    ·exact .refl _
 | _ =>
   rw [untilF]
   ·split
    ·rename_i h
     rcases h with h | h | h | h
     ·first | (rw [h];exact (un_const fun i j=>Iff.rfl).symm) | cases h
     ·first | (rw [h];exact (un_const fun i j=>Iff.rfl).symm) | cases h
     ·rw [h];exact (un_ff _).symm
     ·rw [h];exact (un_self _).symm
    ·split
     ·rename_i h
      rw [h.1]
      exact (ev_fgf h.2).symm
     ·exact .refl _
   ·intro _ _ h;cases h
theorem releaseF_sem (a:F):∀ b,Eqv σ (releaseF a b) (.re a b):=by
 intro b
 induction b with
 | re x y _ ih =>
   rw [releaseF]
   split
   ·rename_i h
    rcases h with rfl | rfl
    ·exact (re_tt _).symm
    ·exact (re_self _).symm
   ·split
    ·rename_i h;subst h
     split
     ·rename_i h;subst h
      exact (al_re _ _).symm
     ·exact ih.trans (al_re x y).symm
    ·exact .refl _
 | _ =>
   rw [releaseF]
   ·split
    ·rename_i h
     rcases h with h | h | h | h
     ·first | (rw [h];exact (re_const fun i j=>Iff.rfl).symm) | cases h
     ·first | (rw [h];exact (re_const fun i j=>Iff.rfl).symm) | cases h
     ·rw [h];exact (re_tt _).symm
     ·rw [h];exact (re_self _).symm
    ·split
     ·rename_i h
      rw [h.1]
      exact (al_gfg h.2).symm
     ·exact .refl _
   ·intro _ _ h;cases h
theorem noF_sem (c:Bool) (x:F) (y:F):(Eqv σ (jn c (noF c) x) (noF c))∧(Eqv σ (jn c x (noF c)) (noF c))∧(Eqv σ (jn c (yesF c) y) y)∧(Eqv σ (jn c y (yesF c)) y):=by
 cases c <;> simp [Eqv,jn,noF,yesF,semF]
theorem opp_sem {a b:F} (h:oppF a b=true) (i:Nat):semF σ a i↔¬ semF σ b i:=by
 unfold oppF at h
 split at h
 ·simp at h;subst h;rw [semF,semF]
 ·simp at h;subst h;rw [semF,semF];exact ⟨fun h k=>k h,fun h=>Classical.not_not.1 h⟩
 ·cases h
theorem baseF_sem {c:Bool} {a b r:F} (h:baseF c a b=some r):Eqv σ r (jn c a b):=by
 unfold baseF at h
 split at h
 ·rename_i h1
  cases h
  rcases h1 with rfl | rfl
  ·exact (noF_sem c b b).1.symm
  ·exact (noF_sem c a a).2.2.2.symm
 ·split at h
  ·rename_i h1
   cases h
   rcases h1 with rfl | rfl
   ·exact (noF_sem c a a).2.1.symm
   ·exact (noF_sem c b b).2.2.1.symm
  ·split at h
   ·rename_i h1
    cases h;subst h1
    cases c <;> intro i <;> simp [jn,semF]
   ·split at h
    ·rename_i h1
     cases h
     intro i
     have:=opp_sem (σ:=σ) h1 i
     cases c
     ·simp only [noF,jn,semF,Bool.false_eq_true,if_false,true_iff]
      rw [this];exact (Classical.em _).symm
     ·simp only [noF,jn,semF,if_true,false_iff]
      rw [this];exact fun h=>h.1 h.2
    ·cases h
theorem getD_sem {c:Bool} {a b r:F} (h:Eqv σ r (jn c a b)):Eqv σ ((baseF c a b).getD r) (jn c a b):=by
 cases hb:baseF c a b with
 | none=>exact h
 | some x=>exact baseF_sem hb
theorem joinedF_sem (c:Bool):∀ a b,Eqv σ (joinedF c a b) (jn c a b):=by
 intro a b
 induction a,b using joinedF.induct with
 | case1 x y ih =>
   rw [joinedF]
   refine getD_sem (ih.nx.trans ?_)
   cases c <;> exact fun i=>Iff.rfl
 | case2 x y ih =>
   rw [joinedF]
   refine getD_sem ?_
   cases c
   ·exact .refl _
   ·refine (releaseF_sem _ _).trans (((Eqv.refl _).re ih).trans (fun i=>?_))
    simp only [jn,if_true]
    rw [re_ff,semF,re_ff,re_ff]
    simp only [semF]
    exact ⟨fun h=>⟨fun d=>(h d).1,fun d=>(h d).2⟩,fun h d=>⟨h.1 d,h.2 d⟩⟩
 | case3 x y ih =>
   rw [joinedF]
   refine getD_sem ?_
   cases c
   ·refine (untilF_sem _ _).trans (((Eqv.refl _).un ih).trans (fun i=>?_))
    simp only [jn,Bool.false_eq_true,if_false]
    rw [un_tt,semF,un_tt,un_tt]
    simp only [semF]
    exact ⟨fun ⟨d,h⟩=>h.imp (fun h=>⟨d,h⟩) (fun h=>⟨d,h⟩),fun h=>h.elim (fun ⟨d,h⟩=>⟨d,.inl h⟩) (fun ⟨d,h⟩=>⟨d,.inr h⟩)⟩
   ·exact .refl _
 | case4 a b h1 h2 h3 =>
   rw [joinedF]
   ·exact getD_sem (.refl _)
   ·exact h1
   ·exact h2
   ·exact h3
theorem smallF_sem:∀ t,Eqv σ (smallF t) t:=by
 intro t
 induction t with
 | nx a ih =>
   rw [smallF]
   split
   ·rename_i h
    intro i
    have:=ih (i+1)
    rw [semF,← this]
    rcases h with h | h <;> rw [h] <;> rfl
   ·exact ih.nx
 | an a b iha ihb=>exact (joinedF_sem true _ _).trans (iha.an ihb)
 | or a b iha ihb=>exact (joinedF_sem false _ _).trans (iha.or ihb)
 | un a b iha ihb=>exact (untilF_sem _ _).trans (iha.un ihb)
 | re a b iha ihb=>exact (releaseF_sem _ _).trans (iha.re ihb)
 | _=>exact .refl _
end
structure Mv where
 yes:BitVec 64
 no:BitVec 64
 «to» : List Nat
structure Sta where
 moves:List Mv
 fin:Bool
def hasM (m:Mv) (x:BitVec 64):Bool:=(x &&& m.yes==m.yes)&&(x &&& m.no==0)
theorem hasM_iff {m:Mv} {x:BitVec 64}:hasM m x=true↔(∀ j:Nat,m.yes.getLsbD j=true→x.getLsbD j=true)∧(∀ j:Nat,m.no.getLsbD j=true→x.getLsbD j=false):=by
 unfold hasM
 rw [Bool.and_eq_true,beq_iff_eq,beq_iff_eq]
 constructor
 ·rintro ⟨h1,h2⟩
  refine ⟨fun j hj=>?_,fun j hj=>?_⟩
  ·rw [← h1,BitVec.getLsbD_and] at hj
   simp at hj;exact hj.1
  ·have:=congrArg (fun b=>b.getLsbD j) h2
   simp [BitVec.getLsbD_and,hj] at this
   exact this
 ·rintro ⟨h1,h2⟩
  refine ⟨BitVec.eq_of_getLsbD_eq (fun j hj=>?_),BitVec.eq_of_getLsbD_eq (fun j hj=>?_)⟩
  ·rw [BitVec.getLsbD_and]
   cases h:m.yes.getLsbD j with
   | true=>rw [h1 j h];rfl
   | false=>simp
  ·rw [BitVec.getLsbD_and]
   cases h:m.no.getLsbD j with
   | true=>rw [h2 j h];simp
   | false=>simp
section
variable (S : Nat → Sta) (σ : Nat → BitVec 64)
def TakeM (r:Nat→Nat→Prop) (n i:Nat) (own:Bool):Prop:=∃ m∈(S n).moves,hasM m (σ i)=true∧(n∈m.to↔own=true)∧∀ k∈m.to,k≠n→r k (i+1)
def acc (n:Nat) (i:Nat):Prop :=
 FX (!(S n).fin) (fun i=>TakeM S σ (fun k j=>if _h:k < n then acc k j else False) n i false) (fun i=>TakeM S σ (fun k j=>if _h:k < n then acc k j else False) n i true) i
termination_by n
end
theorem acc_eq (S:Nat→Sta) (σ : Nat→BitVec 64) (n i:Nat):acc S σ n i↔FX (!(S n).fin) (fun i=>TakeM S σ (fun k j=>k < n∧acc S σ k j) n i false) (fun i=>TakeM S σ (fun k j=>k < n∧acc S σ k j) n i true) i:=by
 rw [acc]
 have h:∀ k j,(if h:k < n then acc S σ k j else False)↔(k < n∧acc S σ k j):=fun k j=>by
  by_cases h:k < n <;> simp [h]
 refine FX.congr (fun i=>?_) (fun i=>?_) i <;> (unfold TakeM;simp only [h])
theorem acc_ext {S S':Nat→Sta} {σ : Nat→BitVec 64}:∀ n,(∀ k,k≤n→S k=S' k)→∀ i,acc S σ n i↔acc S' σ n i:=by
 intro n
 induction n using Nat.strongRecOn with
 | ind n ih =>
   intro h i
   rw [acc_eq,acc_eq,h n (Nat.le_refl _)]
   have hk:∀ k j,(k < n∧acc S σ k j)↔(k < n∧acc S' σ k j):=fun k j=>and_congr_right fun hlt=>ih k hlt (fun q hq=>h q (by omega)) j
   refine FX.congr (fun i=>?_) (fun i=>?_) i <;> (unfold TakeM;rw [h n (Nat.le_refl _)];simp only [hk])
theorem acc_step {S:Nat→Sta} {σ : Nat→BitVec 64} {n:Nat} (hto:∀ m∈(S n).moves,∀ k∈m.to,k≤n) (i:Nat) :
 acc S σ n i↔∃ m∈(S n).moves,hasM m (σ i)=true∧∀ k∈m.to,acc S σ k (i+1):=by
 rw [acc_eq,FX.step,← acc_eq]
 constructor
 ·rintro (⟨m,hm,hh,ho,hk⟩ | ⟨⟨m,hm,hh,ho,hk⟩,ha⟩)
  ·refine ⟨m,hm,hh,fun k hk2=>?_⟩
   have hn:k≠n:=fun e=>by subst e;have:=ho.1 hk2;cases this
   exact (hk k hk2 hn).2
  ·refine ⟨m,hm,hh,fun k hk2=>?_⟩
   by_cases hn:k=n
   ·subst hn;exact ha
   ·exact (hk k hk2 hn).2
 ·rintro ⟨m,hm,hh,hk⟩
  by_cases hn:n∈m.to
  ·exact .inr ⟨⟨m,hm,hh,⟨fun _=>rfl,fun _=>hn⟩,fun k hk2 hne=>⟨by have:=hto m hm k hk2;omega,hk k hk2⟩⟩,hk n hn⟩
  ·exact .inl ⟨m,hm,hh,⟨fun h=>absurd h hn,fun h=>by cases h⟩,fun k hk2 hne=>⟨by have:=hto m hm k hk2;omega,hk k hk2⟩⟩
def mvS (S:Nat→Sta) (σ : Nat→BitVec 64) (M:List Mv) (i:Nat):Prop:=∃ m∈M,hasM m (σ i)=true∧∀ k∈m.to,acc S σ k (i+1)
def setS (S:Nat→Sta) (σ : Nat→BitVec 64) (L:List (List Nat)) (i:Nat):Prop:=∃ s∈L,∀ k∈s,acc S σ k i
def staN (S:List Sta) (n:Nat):Sta:=S.getD n ⟨[],false⟩
end Go.Proofs.YtkgfdgfhpdhhaaaGreat.PL
namespace Go.Proofs.YtkgfdgfhpdhhaaaGreat
open Go.ChangeShapes Go.WideShapes Go.RowKit
attribute [local go_sem] Oper.semAt_some
set_option maxRecDepth 100000
set_option maxHeartbeats 4000000
section
variable {w : World} {ao bo : Option Addr} {l m : List Int} {c d : Nat}
theorem index_int (hl:l.length≤2000000) (h:IRow w ao l) (x:Int):Calls Tryz.prog 187 #[.slice ao l.length c,.int .i64 x] w fun e w'=>(∃ r:Int,e = .returned (.int .i64 r)∧(decide (0≤r)=l.contains x))∧Chg Nob w w':=by
 have H:=Lib.hid h
 clear h
 go_enter Tryz.func187,Tryz.ntmps187
 go_wp2_with fail
 go_loopw [8] (fun iv wr=>∃ i:Nat,iv = .int .i64 (i:Int)∧i≤l.length∧Hid (∀ (j:Nat) y,j < i→l[j]? = some y→y≠x)∧Hid (Chg Nob w wr)) (fun iv _=>l.length - (intOf iv).toNat)
 case atStart=>exact ⟨0,rfl,Nat.zero_le _,(by show ∀ (j:Nat) y,j < 0→_;intro j y hj;omega),Chg.refl _ _⟩
 case round =>
  obtain ⟨i,rfl,hi,Hno,Hc⟩:=hrel
  by_cases hlt:i < l.length
  ·obtain ⟨y,hy⟩:∃ y,l[i]? = some y:=⟨_,List.getElem?_eq_getElem hlt⟩
   obtain ⟨a,rfl,hcell⟩:=H.out i y hy
   have hcell2:=Hc.out.cell' hcell (by unfold Addr.add;split <;> exact fun e=>e)
   have hii:(i:Int) < (l.length:Int):=by omega
   have hi0:(0:Int)≤(i:Int):=by omega
   have Hy:=Lib.hid hy
   clear hy hcell
   cases hd:(x==y) with
   | true =>
     have Hr:Hid (l.contains x=true):=Lib.hid (List.contains_iff_mem.2 (by rw [beq_iff_eq.1 hd];exact List.mem_of_getElem? Hy.out))
     have hd2:(y==x)=true:=by rw [beq_iff_eq.1 hd];exact beq_self_eq_true y
     go_wp2_with fail
     go_ret
     exact ⟨⟨i,rfl,by rw [Hr.out];exact decide_eq_true hi0⟩,Hc.out⟩
   | false =>
     have hd2:(y==x)=false:=beq_eq_false_iff_ne.2 (fun e=>beq_eq_false_iff_ne.1 hd e.symm)
     have Hno2:Hid (∀ (j:Nat) z,j < i+1→l[j]? = some z→z≠x):=(show ∀ (j:Nat) z,j < i+1→l[j]? = some z→z≠x by
      intro j z hj hz
      by_cases e:j=i
      ·subst e;rw [Hy.out] at hz;cases hz;exact beq_eq_false_iff_ne.1 hd2
      ·exact Hno.out j z (by omega) hz)
     go_wp2_with fail
     go_roundw
     case rel=>exact ⟨i+1,by go_num,by omega,Hno2,Hc⟩
     case measure=>simp [intOf];omega
  ·obtain rfl:i=l.length:=by omega
   have Hr:Hid (l.contains x=false):=(show l.contains x=false by
    cases hcx:l.contains x with
    | false=>rfl
    | true =>
      obtain ⟨j,hj,e⟩:=List.mem_iff_getElem.1 (List.contains_iff_mem.1 hcx)
      exact absurd e (Hno.out j _ hj (List.getElem?_eq_getElem hj)))
   go_wp2_with fail
   go_ret
   exact ⟨⟨-1,rfl,by rw [Hr.out];rfl⟩,Hc.out⟩
theorem contains_int (hl:l.length≤2000000) (h:IRow w ao l) (x:Int):Calls Tryz.prog 158 #[.slice ao l.length c,.int .i64 x] w fun e w'=>e = .returned (.bool (l.contains x))∧Chg Nob w w':=by
 have hp:=index_int (c:=c) hl h x
 clear h
 go_enter Tryz.func158,Tryz.ntmps158
 go_wp2_with fail
 (with_reducible refine hp.mono ?_)
 clear hp
 rintro e w' ⟨⟨r,rfl,hr⟩,hc⟩
 have Hr:=Lib.hid hr
 clear hr
 go_wp2_with fail
 go_ret
 exact ⟨by rw [← Hr.out];rfl,hc⟩
def withinI (l m:List Int):Bool:=l.all fun x=>m.contains x
theorem within_fn {mb:Nat} (hbox:w.cell? ⟨mb,0,none⟩=some (.slice bo m.length d)) (hm:m.length≤2000000) (h:IRow w bo m) (x:Int):Calls Tryz.prog 157 #[.int .i64 x,.pointer (some ⟨mb,0,none⟩)] w fun e w'=>e = .returned (.bool (!(m.contains x)))∧Chg Nob w w':=by
 have hp:=contains_int (c:=d) hm h x
 generalize m.contains x=b at *
 clear h
 go_enter Tryz.func157,Tryz.ntmps157
 go_wp2_with fail
 (with_reducible refine hp.mono ?_)
 clear hp
 rintro e w' ⟨rfl,hc⟩
 go_wp2_with fail
 go_ret
 exact ⟨rfl,hc⟩
theorem within_any (hl:l.length≤2000000) (hm:m.length≤2000000) (h:IRow w ao l) (k:IRow w bo m):Calls Tryz.prog 119 #[.slice ao l.length c,.slice bo m.length d] w fun e w'=>e = .returned (.bool (withinI l m))∧Chg Nob w w':=by
 obtain ⟨X,hX,hcX,hb,_⟩:=box_cells w #[.slice bo m.length d] 73
 have hbox:=cell_row hb 0 (v:= .slice bo m.length d) rfl
 have hp:=contains_ints (c:=c) (k:=157) (caps:=#[.pointer (some ⟨w.heap.size,0,none⟩)]) (s:=fun x=>!(m.contains x)) hl (h.nob hcX) (enters_of Tryz.func157 (by kernel_rfl) rfl) (fun i x hx W hW=>within_fn (hW.cell' hbox (fun e=>e)) hm ((k.nob hcX).nob hW) x)
 have HcX:=Lib.hid hcX
 have e:withinI l m=!(l.any fun x=>!(m.contains x)):=by
  unfold withinI
  rw [List.not_any_eq_all_not]
  congr 1
  funext x
  exact (Bool.not_not _).symm
 rw [e]
 generalize (l.any fun x=>!(m.contains x))=b at *
 clear h k hb hcX hbox e
 go_enter Tryz.func119,Tryz.ntmps119
 go_wp2_with fail
 rw [← hX]
 (with_reducible refine hp.mono ?_)
 clear hp
 rintro e w' ⟨rfl,hc⟩
 go_wp2_with fail
 go_ret
 exact ⟨rfl,HcX.out.trans1 hc⟩
def coversI (a b:Mvi):Bool:=(bits .andNot .u64 a.yes b.yes==0)&&((bits .andNot .u64 a.no b.no==0)&&withinI a.to b.to)
theorem covers_any {a b:Mvi} {ca cb:Nat} (hl:a.to.length≤2000000) (hm:b.to.length≤2000000) (h:IRow w ao a.to) (k:IRow w bo b.to):Calls Tryz.prog 155 #[.agg #[.int .u64 a.yes,.int .u64 a.no,.slice ao a.to.length ca],.agg #[.int .u64 b.yes,.int .u64 b.no,.slice bo b.to.length cb]] w fun e w'=>e = .returned (.bool (coversI a b))∧Chg Nob w w':=by
 obtain ⟨X1,hX1,hcX1,hb1,hs1⟩:=box_cells w #[.int .u64 a.yes,.int .u64 a.no,.slice ao a.to.length ca] 75
 obtain ⟨X,hX,hcX,hb2,_⟩:=box_cells X1 #[.int .u64 b.yes,.int .u64 b.no,.slice bo b.to.length cb] 75
 obtain ⟨c0,c1,c2,_⟩:=cells_three (hcX.at hb1 (fun e=>e))
 rw [hs1] at hb2
 obtain ⟨d0,d1,d2,_⟩:=cells_three hb2
 have hp:=within_any (w:=X) (c:=ca) (d:=cb) hl hm ((h.nob hcX1).nob hcX) ((k.nob hcX1).nob hcX)
 have HcX:=Lib.hid (hcX1.trans1 hcX)
 obtain ⟨y,hy⟩:∃ y,bits .andNot .u64 a.yes b.yes=y:=⟨_,rfl⟩
 obtain ⟨z,hz⟩:∃ z,bits .andNot .u64 a.no b.no=z:=⟨_,rfl⟩
 have e:coversI a b=((y==0)&&((z==0)&&withinI a.to b.to)):=by unfold coversI;rw [hy,hz]
 rw [e]
 rw [hX1] at hX
 rw [hX] at c0 c1 c2 d0 d1 d2
 clear h k hb1 hb2 hcX1 hcX e hs1 hX1
 go_enter Tryz.func155,Tryz.ntmps155
 cases h1:(y==0) with
 | false =>
   go_wp2_with fail
   go_ret
   exact ⟨rfl,by rw [← hX];exact HcX.out⟩
 | true =>
   cases h2:(z==0) with
   | false =>
     go_wp2_with fail
     go_ret
     exact ⟨rfl,by rw [← hX];exact HcX.out⟩
   | true =>
     go_wp2_with fail
     rw [← hX]
     (with_reducible refine hp.mono ?_)
     clear hp
     rintro e w' ⟨rfl,hc⟩
     go_wp2_with fail
     go_ret
     exact ⟨rfl,HcX.out.trans1 hc⟩
end
end Go.Proofs.YtkgfdgfhpdhhaaaGreat
namespace Go.Proofs.YtkgfdgfhpdhhaaaGreat
open Go.ChangeShapes Go.WideShapes Go.RowKit
set_option maxRecDepth 100000
set_option maxHeartbeats 4000000
theorem Tryz.info3i:(Tryz.prog.info? 3).map (fun i=>(i.zero,i.size,i.bytes))=some (some (.int .i64 0),1,8):=by kernel_rfl
theorem info3i_parts:∃ i,Tryz.prog.info? 3=some i∧i.zero=some (.int .i64 0)∧i.size=1∧i.bytes=8:=by
 have h:=Tryz.info3i
 cases hi:Tryz.prog.info? 3 with
 | none=>rw [hi] at h;simp at h
 | some i=>rw [hi] at h;simp at h;exact ⟨i,rfl,h.1,h.2.1,h.2.2⟩
def ivs (M:List Int):List Value:=M.map (.int .i64)
theorem ivs_one (M:List Int):∀ u∈ivs M,u.oneCell'=true:=by
 intro u hu
 obtain ⟨x,_,rfl⟩:=List.mem_map.1 hu
 rfl
theorem append3i {B:Nat} {w:World} {v:Value} {n:Nat} {xs:List Value} {a:Addr} {M:List Int} (c:Nat) (h:w.ownsRow B 3 1 v n xs) (hB:B≤w.heap.size) (hn:n+M.length≤1000000) (hM:∀ j x,M[j]? = some x→w.cell? (a.add j)=some (.int .i64 x)) :
 ∃ v' w',(Builtin.append_ #[73,73] 73 #[v,.slice (some a) M.length c]).run Tryz.prog w = .ok v' w'∧w'.ownsRow B 3 1 v' (n+M.length) (xs++ivs M)∧w.grownBy w' v.ownBlock∧(v'.ownBlock=v.ownBlock∨v'.ownBlock=some w.heap.size):=by
 obtain ⟨i,hi,hz,hs,hb⟩:=info3i_parts
 obtain ⟨v',w',h1,h2,h3,_,h5⟩:=run_append_own_at (P:=Tryz.prog) w B 73 73 3 i _ 1 8 Tryz.underlying73 hi hz hs hb rfl (by decide) v n _ h a M.length c (ivs M) (by simp [ivs])
  (fun j u hj=>by
   unfold ivs at hj
   rw [List.getElem?_map] at hj
   cases hx:M[j]? with
   | none=>rw [hx] at hj;cases hj
   | some x=>rw [hx] at hj;cases hj;exact hM j x hx) (ivs_one M) (by unfold maxLen;omega) (by omega) hB
 exact ⟨v',w',h1,h2,h3,h5⟩
theorem igrow_any (n:Nat) (h1:1≤n) (hn:n≤10000) (w:World):Calls Tryz.prog 152 #[.slice none 0 0,.int .i64 (n:Int)] w fun e w'=>Chg Nob w w'∧∃ v,e = .returned v∧w'.ownsRow w.heap.size 3 1 v 0 []:=by
 obtain ⟨i,hi,hz,hs,hb⟩:=info3i_parts
 have hrun:=Lib.run_append_nil_zeros (P:=Tryz.prog) w 73 3 73 3 i (.int .i64 0) .i64 .i64 Tryz.underlying73 Tryz.underlying3 hi hz n h1 (by rw [hs];omega) (by omega) (by rw [hb];omega)
 obtain ⟨G,hG⟩:∃ G,G=grownCap w n 0 3:=⟨_,rfl⟩
 have hGn:n≤G:=hG ▸ grownCap_ge w _ _ _
 have hGm:G≤maxLen:=hG ▸ grownCap_le_maxLen w n 0 3 (by unfold maxLen;omega)
 rw [← hG] at hrun
 obtain ⟨Z,hZ⟩:∃ Z,Z=Builtin.zeroCells (Value.cells (.int .i64 0)) n++Builtin.zeroCells (Value.cells (.int .i64 0)) (G - n):=⟨_,rfl⟩
 have hZs:Z.size=G * 1:=by
  rw [hZ,Array.size_append]
  simp [Builtin.zeroCells,Value.cells]
  omega
 rw [← hZ] at hrun
 have hrow:(w.drew.alloc (.cells Z 3)).ownsRow w.heap.size 3 1 (.slice (some ⟨w.heap.size,0,none⟩) 0 G) 0 []:=World.ownsRow_made w.drew Z G (Nat.le_refl _) hGm hZs
 have hc:Chg Nob w (w.drew.alloc (.cells Z 3)):=((Chg.refl _ _).drew).alloc _
 have Hrow:=Lib.hid hrow
 have Hc:=Lib.hid hc
 have hni:¬ (n:Int) < 0:=by omega
 have hni2:(0:Int) < (n:Int):=by omega
 have hni3:(n:Int)≤10000:=by omega
 have hGi:0≤G:=Nat.zero_le _
 unfold maxLen at hGm
 clear hrow hc hZ hZs hG
 have Hrun:=Lib.hid hrun
 clear hrun
 go_enter Tryz.func152,Tryz.ntmps152
 go_wp2_with (refine wpList_append_known rfl _ _ 73 3 rfl _ _ rfl rfl _ _ Hrun.out ?_)
 go_wp2
 go_ret
 exact ⟨Hc.out,_,rfl,Hrow.out⟩
theorem igrow_zero (w:World):Calls Tryz.prog 152 #[.slice none 0 0,.int .i64 ((0:Nat):Int)] w fun e w'=>Chg Nob w w'∧∃ v,e = .returned v∧w'.ownsRow w.heap.size 3 1 v 0 []:=by
 go_enter Tryz.func152,Tryz.ntmps152
 go_wp2_with fail
 go_ret
 exact ⟨Chg.refl _ _,_,rfl,World.ownsRow_nil _ _ _ _⟩
theorem append_i {B:Nat} {w:World} {v:Value} {n:Nat} {xs:List Value} {ao:Option Addr} {M:List Int} {c:Nat} (h:w.ownsRow B 3 1 v n xs) (hB:B≤w.heap.size) (hn:n+M.length≤1000000) (hM:IRow w ao M) (hnil:ao=none→c=0) :
 ∃ v' w',(Builtin.append_ #[73,73] 73 #[v,.slice ao M.length c]).run Tryz.prog w = .ok v' w'∧w'.ownsRow B 3 1 v' (n+M.length) (xs++ivs M)∧w.grownBy w' v.ownBlock:=by
 cases ao with
 | some a =>
   obtain ⟨v',w',h1,h2,h3,_⟩:=append3i c h hB hn (fun j x hj=>by obtain ⟨_,e,h⟩:=hM j x hj;cases e;exact h)
   exact ⟨v',w',h1,h2,h3⟩
 | none =>
   have hM0:M=[]:=by
    cases M with
    | nil=>rfl
    | cons x M=>obtain ⟨_,e,_⟩:=hM 0 x rfl;cases e
   subst hM0
   obtain rfl:=hnil rfl
   obtain ⟨i,hi,hz,hs,hb⟩:=info3i_parts
   refine ⟨v,w,run_append_owned_none (P:=Tryz.prog) (w:=w) B 73 73 3 i 1 Tryz.underlying73 hi v n xs h,?_,⟨rfl,rfl,rfl,Nat.le_refl _,fun _ _ _=>rfl⟩⟩
   rw [show ivs []=[] from rfl,List.append_nil]
   exact h
section
variable {ap al : Option Addr} {cp cl rb c : Nat} {P L : List Int} {w : World}
theorem concat_int (hl:P.length+L.length≤10000) (hP:IRow w ap P) (hL:IRow w al L) (hnp:ap=none→cp=0) (hnl:al=none→cl=0)
 (hb:w.heap[rb]? = some (.cells #[.slice ap P.length cp,.slice al L.length cl] 73 (0,0))) :
 Calls Tryz.prog 111 #[.slice (some ⟨rb,0,none⟩) 2 c] w fun e w'=>Chg Nob w w'∧∃ v,e = .returned v∧w'.ownsRow w.heap.size 3 1 v (P.length+L.length) (ivs (P++L)):=by
 have hg:Calls Tryz.prog 152 #[.slice none 0 0,.int .i64 ((P.length+L.length:Nat):Int)] w fun e w'=>Chg Nob w w'∧∃ v,e = .returned v∧w'.ownsRow w.heap.size 3 1 v 0 []:=by
  rcases Nat.eq_zero_or_pos (P.length+L.length) with h | h
  ·rw [h];exact igrow_zero w
  ·exact igrow_any (P.length+L.length) h hl w
 rw [Int.natCast_add] at hg
 obtain ⟨c0,c1,_⟩:=cell_two hb
 have HP:=Lib.hid hP
 have HL:=Lib.hid hL
 have Hnp:=Lib.hid hnp
 have Hnl:=Lib.hid hnl
 have Hb:=Lib.hid hb
 have hpl:(P.length:Int)≤10000:=by omega
 have hll:(L.length:Int)≤10000:=by omega
 have hsum:((P.length:Int)+(L.length:Int))≤10000:=by omega
 clear hP hL hnp hnl hb
 go_enter Tryz.func111,Tryz.ntmps111
 go_wp2_with fail
 refine wp_loop_rounds 3 ?_
 rw [rounds_succ]
 go_wp2_with fail
 rw [rounds_succ]
 go_wp2_with fail
 rw [rounds_succ]
 go_wp2_with fail
 (with_reducible refine hg.mono ?_)
 clear hg c0 c1
 rintro e w2 ⟨hc2,v,rfl,hrow⟩
 have hs2:=hc2.size
 have h1:=append_i (ao:=ap) (M:=P) (c:=cp) hrow hs2 (by omega) (HP.out.nob hc2) Hnp.out
 obtain ⟨v3,h1⟩:=h1
 obtain ⟨w3,h1⟩:=h1
 have hrun3:=h1.1
 have hrow3:=h1.2.1
 have hgr3:=h1.2.2
 have hc3:Chg Nob w w3:=hc2.trans (S':=fun b=>v.ownBlock=some b) ((Chg.refl _ _).grown hgr3 (fun k e _=>e)) (fun i hi e=>by have:=(hrow.lt i e).1;omega)
 rw [Nat.zero_add,List.nil_append] at hrow3
 have hs3:=hc3.size
 have h2:=append_i (ao:=al) (M:=L) (c:=cl) hrow3 hs3 (by omega) (HL.out.nob hc3) Hnl.out
 obtain ⟨v4,h2⟩:=h2
 obtain ⟨w4,h2⟩:=h2
 have hrun4:=h2.1
 have hrow4:=h2.2.1
 have hgr4:=h2.2.2
 have hc4:Chg Nob w w4:=hc3.trans (S':=fun b=>v3.ownBlock=some b) ((Chg.refl _ _).grown hgr4 (fun k e _=>e)) (fun i hi e=>by have:=(hrow3.lt i e).1;omega)
 have he:ivs P++ivs L=ivs (P++L):=by unfold ivs;rw [List.map_append]
 rw [he] at hrow4
 have Hrow4:=Lib.hid hrow4
 have Hc4:=Lib.hid hc4
 have Hrun3:=Lib.hid hrun3
 have Hrun4:=Lib.hid hrun4
 obtain ⟨c0,c1,_⟩:=cell_two (hc2.at Hb.out (fun e=>e))
 obtain ⟨d0,d1,_⟩:=cell_two (hc3.at Hb.out (fun e=>e))
 clear h1 h2 hrow hrow3 hrow4 hgr3 hgr4 hc2 hc3 hc4 hrun3 hrun4 he hs2 hs3
 go_wp2_with fail
 refine wp_loop_rounds 3 ?_
 rw [rounds_succ]
 go_wp2_with (refine wpList_append_known rfl _ _ 73 73 rfl _ _ rfl rfl _ w3 Hrun3.out ?_)
 rw [rounds_succ]
 go_wp2_with (refine wpList_append_known rfl _ _ 73 73 rfl _ _ rfl rfl _ w4 Hrun4.out ?_)
 rw [rounds_succ]
 go_wp2
 go_ret
 exact ⟨Hc4.out,_,rfl,Hrow4.out⟩
end
end Go.Proofs.YtkgfdgfhpdhhaaaGreat
namespace Go.Proofs.YtkgfdgfhpdhhaaaGreat
open Go.ChangeShapes Go.WideShapes Go.RowKit Go.Shelf Go.Sort
attribute [local go_sem] Oper.semAt_some
set_option maxRecDepth 100000
set_option maxHeartbeats 8000000
def joinI (a b:List Int):List Int:=Lib.compact ((a++b).mergeSort fun x y=>decide (x≤y))
theorem joinI_len (a b:List Int):(joinI a b).length≤a.length+b.length:=by
 have h:=Lib.compact_length_le ((a++b).mergeSort fun x y=>decide (x≤y))
 rw [List.length_mergeSort,List.length_append] at h
 exact h
theorem holds_ints {W:World} {B g n cap:Nat} {L:List Int} (h:W.ownsRow B 3 1 (.slice (some ⟨g,0,none⟩) n cap) n (ivs L)):Holds (Value.int .i64) W g 0 L.toArray:=fun j hj=>by
 have hjl:j < L.length:=by simpa using hj
 rw [Nat.zero_add]
 refine ⟨?_,ownsRow_frozen h j⟩
 have h1:=ownsRow_at h (j:=j) (u:= .int .i64 L[j]) (by unfold ivs;rw [List.getElem?_map,List.getElem?_eq_getElem hjl];rfl)
 rw [h1,getElem!_pos L.toArray j hj]
 simp
theorem holds_chgi {W W':World} {g:Nat} {d:Array Int} (h:Holds (Value.int .i64) W g 0 d) (hc:Chg Nob W W'):Holds (Value.int .i64) W' g 0 d:=by
 intro j hj
 obtain ⟨h1,h2⟩:=h j hj
 refine ⟨hc.cell' h1 (fun e=>e),?_⟩
 have hb:=hc.block g (World.block_lt_of_cell? _ _ h1) (fun e=>e)
 unfold World.frozen? at h2 ⊢
 show (match W'.heap[g]? with | _=>_)=false
 rw [hb]
 exact h2
theorem chg_putRowi (w:World) (g off:Nat) (d:Array Int):Chg (At1 g) w (putRow (Value.int .i64) w g off d):=by
 refine ⟨rfl,rfl,rfl,by simp,fun k _ hn=>?_⟩
 unfold putRow mapBlock
 rw [Array.getElem?_modify,if_neg (fun e=>hn e.symm)]
theorem putRow_type {w:World} {g t:Nat} {cs:Array Value} {m:Nat × Nat} (h:w.heap[g]? = some (.cells cs t m)) (off:Nat) (d:Array Int):∃ cs',(putRow (Value.int .i64) w g off d).heap[g]? = some (.cells cs' t m):=by
 unfold putRow mapBlock
 rw [Array.getElem?_modify,if_pos rfl,h]
 exact ⟨_,rfl⟩
def TRow (W:World) (lo:Nat) (ao:Option Addr) (l:List Int):Prop:=IRow W ao l∧(l≠[]→∃ g cs m,ao=some ⟨g,0,none⟩∧lo≤g∧W.heap[g]? = some (.cells cs 3 m))
section
variable {w : World} {ao bo : Option Addr} {a b : List Int} {ca cb : Nat}
theorem join_any (hl:a.length+b.length≤10000) (ha:IRow w ao a) (hb:IRow w bo b) (hna:ao=none→ca=0) (hnb:bo=none→cb=0) :
 Calls Tryz.prog 61 #[.slice ao a.length ca,.slice bo b.length cb] w fun e w'=>Chg Nob w w'∧∃ at' ct,e = .returned (.slice at' (joinI a b).length ct)∧TRow w' w.heap.size at' (joinI a b)∧(at'=none→ct=0):=by
 obtain ⟨X,hX,hcX,hbX,hsX⟩:=box_cells w #[.slice ao a.length ca,.slice bo b.length cb] 73
 have hpc:=concat_int (c:=2) (w:=X) hl (ha.nob hcX) (hb.nob hcX) hna hnb hbX
 have HcX:=Lib.hid hcX
 have HsX:=Lib.hid hsX
 obtain ⟨L,hL⟩:∃ L,L=a++b:=⟨_,rfl⟩
 have hLl:L.length=a.length+b.length:=by rw [hL,List.length_append]
 rw [← hL,← hLl] at hpc
 have hj:joinI a b=Lib.compact (L.mergeSort fun x y=>decide (x≤y)):=by rw [hL];rfl
 rw [hj]
 have hl10:L.length≤10000:=by omega
 obtain ⟨Z,hZ⟩:∃ Z,Z=L.mergeSort fun x y=>decide (x≤y):=⟨_,rfl⟩
 rw [← hZ]
 have HZ:=Lib.hid hZ
 clear ha hb hbX hcX hsX hna hnb hj hLl hL hZ
 go_enter Tryz.func61,Tryz.ntmps61
 go_wp2_with fail
 rw [← hX]
 clear hX
 (with_reducible refine hpc.mono ?_)
 clear hpc
 rintro e W ⟨hc1,v,rfl,hown⟩
 have Hc1:Hid (Chg Nob w W):=Lib.hid (HcX.out.trans1 hc1)
 clear hc1
 rcases Nat.eq_zero_or_pos L.length with h0 | hpos
 ·obtain rfl:L=[]:=List.length_eq_zero_iff.1 h0
  obtain ⟨av,cp,rfl⟩:=ownsRow_shape hown
  have hz:av=none→cp=0:=fun e=>by
   subst e
   rcases hown.2 with ⟨h,_⟩ | ⟨_,_,_,h,_⟩
   ·cases h;rfl
   ·cases h
  have HZ0:Hid (Lib.compact Z=[]):=(show Lib.compact Z=[] by rw [HZ.out];simp [Lib.compact,Lib.compactUpTo])
  clear hown h0
  go_wp2_with fail
  (with_reducible refine (Tryz.slices_Sort_int_none av cp W).mono ?_)
  rintro e w6 ⟨rfl,rfl⟩
  go_wp2_with fail
  (with_reducible refine (Tryz.slices_Compact_int_empty av cp _).mono ?_)
  rintro e w7 ⟨rfl,rfl⟩
  go_wp2_with fail
  go_ret
  exact ⟨Hc1.out,av,cp,by rw [HZ0.out];rfl,⟨fun j x h=>by rw [HZ0.out] at h;simp at h,fun h=>absurd HZ0.out h⟩,hz⟩
 ·obtain ⟨g,cap,rfl,_⟩:=ownsRow_some hown hpos
  have hcap:=ownsRow_cap hown
  have hg:=hown.lt g rfl
  obtain ⟨cs0,m0',hblk⟩:=ownsRow_block hown g rfl
  have hH:=holds_ints hown
  have hsort:=Tryz.slices_Sort_int g 0 cap L W hH hg.2 (by omega)
  rw [← HZ.out] at hsort
  have hml:Z.length=L.length:=by rw [HZ.out];exact List.length_mergeSort _
  have hcl:=Lib.compact_length_le Z
  have HH:=Lib.hid hH
  have Hg:Hid (w.heap.size≤g∧g < W.heap.size):=(show _∧_ by have:=HsX.out;omega)
  have Hblk:=Lib.hid hblk
  clear hown hH hg hblk
  go_wp2_with fail
  (with_reducible refine hsort.mono ?_)
  rintro e w6 ⟨rfl,q,os,hw6⟩
  have hc6:Chg (At1 g) W w6:=by
   rw [hw6]
   exact ((chg_ahead W q).any.trans1 (chg_putRowi _ g 0 _)).trans1 (chg_grow _ os).any
  have hH6:Holds (Value.int .i64) w6 g 0 Z.toArray:=by
   rw [hw6]
   exact holds_chgi (holds_putRow _ _ _ _ _ _ (holds_ahead _ _ _ _ _ _ HH.out) (by simp [hml])) (chg_grow _ os)
  have HT6:Hid (∃ cs,w6.heap[g]? = some (.cells cs 3 m0')):=(show ∃ cs,w6.heap[g]? = some (.cells cs 3 m0') by
   obtain ⟨cs1,h1⟩:=putRow_type ((chg_ahead W q).at Hblk.out (fun e=>e)) 0 Z.toArray
   rw [hw6]
   exact ⟨cs1,(chg_grow _ os).at h1 (fun e=>e)⟩)
  have hcomp:=Tryz.slices_Compact_int g 0 cap Z w6 hH6 (by omega) (by omega)
  rw [hml] at hcomp
  have Hml:=Lib.hid hml
  have Hcl:=Lib.hid hcl
  have Hc6:=Lib.hid hc6
  have HH6:=Lib.hid hH6
  clear hw6 hsort hml hcl hc6 hH6
  go_wp2_with fail
  (with_reducible refine hcomp.mono ?_)
  rintro e w7 ⟨rfl,q7,hw7⟩
  have hc7:Chg (At1 g) w6 w7:=by
   rw [hw7]
   exact (chg_ahead w6 q7).any.trans1 (chg_putRowi _ g 0 _)
  have Ht:Hid (∀ j x,(Lib.compact Z)[j]? = some x→w7.cell? ⟨g,0+j,none⟩=some (.int .i64 x)):=(show ∀ j x,(Lib.compact Z)[j]? = some x→w7.cell? ⟨g,0+j,none⟩=some (.int .i64 x) from fun j x hx=>by
   rw [hw7]
   have hjl:=(List.getElem?_eq_some_iff.1 hx).1
   have hsz:(Lib.compact Z++List.replicate (L.length - (Lib.compact Z).length) 0).toArray.size=Z.toArray.size:=by
    have:=Hml.out
    have:=Hcl.out
    simp;omega
   have:=cell?_putRow (Value.int .i64) (Sort.ahead w6 q7) g 0 Z.toArray (Lib.compact Z++List.replicate (L.length - (Lib.compact Z).length) 0).toArray (holds_ahead _ _ _ _ _ _ HH6.out) hsz j (by simp;omega)
   rw [this]
   congr 1
   rw [getElem!_pos _ j (by simp;omega)]
   have e2:(Lib.compact Z++List.replicate (L.length - (Lib.compact Z).length) 0)[j]? = some x:=by rw [List.getElem?_append_left hjl];exact hx
   obtain ⟨_,e3⟩:=List.getElem?_eq_some_iff.1 e2
   simp only [List.getElem_toArray]
   rw [e3])
  have Hc7:Hid (Chg Nob w w7):=Lib.hid ((Hc1.out.any (S:=At1 g)).trans1 (Hc6.out.trans1 hc7) |>.mono (fun i hi e=>by have e:i=g:=e;have:=Hg.out;omega))
  have HT7:Hid (∃ cs,w7.heap[g]? = some (.cells cs 3 m0')):=(show ∃ cs,w7.heap[g]? = some (.cells cs 3 m0') by
   obtain ⟨cs1,h1⟩:=HT6.out
   rw [hw7]
   exact putRow_type ((chg_ahead w6 q7).at h1 (fun e=>e)) 0 _)
  clear hw7 hcomp hc7
  go_wp2_with fail
  go_ret
  exact ⟨Hc7.out,some ⟨g,0,none⟩,cap,rfl,⟨fun j x hx=>⟨_,rfl,by rw [Go.WideShapes.add_plain];exact Ht.out j x hx⟩,fun _=>by obtain ⟨cs,h⟩:=HT7.out;exact ⟨g,cs,_,rfl,Hg.out.1,h⟩⟩,fun e=>by cases e⟩
end
end Go.Proofs.YtkgfdgfhpdhhaaaGreat
