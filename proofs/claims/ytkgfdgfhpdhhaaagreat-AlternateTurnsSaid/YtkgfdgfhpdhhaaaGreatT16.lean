/- Parts of the walks and of the plain theory, the first: A range over an iterator whose rounds may panic, inside a function that is known. Conditions: as each theorem states. -/
import Derived.Test.YtkgfdgfhpdhhaaaGreatT08
import Derived.Test.YtkgfdgfhpdhhaaaGreatT15
import Derived.Test.YtkgfdgfhpdhhaaaGreatT13
import Derived.Test.YtkgfdgfhpdhhaaaGreatT06
namespace Go.Proofs.YtkgfdgfhpdhhaaaGreat
open Go.ChangeShapes Go.WideShapes Go.RowKit Go.Shelf
set_option maxHeartbeats 1000000
def wpAt (f:FuncId) (P:Program) (c:Code) (Q:Exit→Act→World→Prop) (a:Act) (w:World):Prop :=
 ∀ (b:Frame) (k:List Item) (cs:List Frame),b.roundOf=none→b.fn=f →
   ∃ e a' w',Q e a' w'∧ArrivesIn (Machine.fenced P Fence.wide) P (lone (b.atR a (.code c::k)) cs w) b k cs e a' w'
section
variable {f : FuncId} {n : Nat} {P : Program} {Q : Exit → Act → World → Prop} {a : Act} {w : World}
theorem wpAt_of_wpIn {c:Code} (h:c.wpIn Fence.wide n P Q a w):wpAt f P c Q a w:=fun b k cs hro _=>h b k cs hro trivial (room_wide _)
theorem wpAt_of_wp {c:Code} (h:c.wp P Q a w):wpAt f P c Q a w:=wpAt_of_wpIn (n:=1) (wpIn_wide.2 h)
theorem calmW {fr:Frame} {cs:List Frame} {w:World}:(lone fr cs w).fenced P Fence.wide:=fenced_wide _ _
theorem wpAt_seq {x y:Code} (h:wpAt f P x (Exit.then (wpAt f P y Q) Q) a w):wpAt f P (Code.seq x y) Q a w:=by
 intro b k cs hro hb
 have h0:(lone (b.atR a (.code (.seq x y)::k)) cs w).fenced P Fence.wide:=calmW
 obtain ⟨e,a₁,w₁,hq,harr⟩:=h b (.code y::k) cs hro hb
 cases e with
 | normal =>
   obtain ⟨e₂,a₂,w₂,hq₂,harr₂⟩:=hq b k cs hro hb
   exact ⟨e₂,a₂,w₂,hq₂,.of_steps (.head h0 stepR_seq harr) harr₂⟩
 | exit id=>exact ⟨_,a₁,w₁,hq,.of_steps (.one h0 stepR_seq) (.pass (x:= .code y) rfl (fun _ _=> .inl (by simp)) harr)⟩
 | goto l=>exact ⟨_,a₁,w₁,hq,.of_steps (.one h0 stepR_seq) (.pass (x:= .code y) rfl (fun _ _=> .inl (by simp)) harr)⟩
 | ret=>exact ⟨_,a₁,w₁,hq,.of_steps (.one h0 stepR_seq) (.pass (x:= .code y) rfl (fun _ _=> .inl (by simp)) harr)⟩
 | panic ch=>exact ⟨_,a₁,w₁,hq,.of_steps (.one h0 stepR_seq) (.pass (x:= .code y) rfl (fun _ _=> .inl (by simp)) harr)⟩
 | outgrown=>exact ⟨_,a₁,w₁,hq,.of_steps (.one h0 stepR_seq) (.pass (x:= .code y) rfl (fun _ _=> .inl (by simp)) harr)⟩
theorem wpAt_cond {c:Operand} {x y:Code} {t:Bool} (hc:a.eval c = .bool t) (h:wpAt f P (if t then x else y) Q a w):wpAt f P (Code.cond c x y) Q a w :=
 fun b k cs hro hb=>let ⟨e,a',w',q,r⟩:=h b k cs hro hb;⟨e,a',w',q,.of_steps (.one calmW (stepR_cond hc)) r⟩
theorem wpAt_block {id:Nat} {c:Code} (h:wpAt f P c (Exit.inBlock id Q) a w):wpAt f P (Code.block id c) Q a w:=by
 intro b k cs hro hb
 have h0:(lone (b.atR a (.code (.block id c)::k)) cs w).fenced P Fence.wide:=calmW
 obtain ⟨e,a₁,w₁,hq,harr⟩:=h b (.inBlock id::k) cs hro hb
 cases e with
 | normal=>exact ⟨.normal,a₁,w₁,hq,.head h0 stepR_block (StepsIn.trans harr (.one calmW stepR_inBlock))⟩
 | exit id' =>
   by_cases hid:id'=id
   ·simp only [Exit.inBlock,hid,if_true] at hq
    exact ⟨.normal,a₁,w₁,hq,.head h0 stepR_block (harr.1 k (by simp [exitTo,hid]))⟩
   ·simp only [Exit.inBlock,hid,if_false] at hq
    have this:(id==id')=false:=by simp;exact fun h=>hid h.symm
    have hx:exitTo id' (.inBlock id::k)=exitTo id' k:=by simp [exitTo,this]
    exact ⟨.exit id',a₁,w₁,hq,fun k' hk=> .head h0 stepR_block (harr.1 k' (by rw [hx];exact hk)),
     fun hr' hk=>let ⟨k₁,h1,h2⟩:=harr.2 hr' (by rw [hx];exact hk);⟨k₁,h1,.head h0 stepR_block h2⟩⟩
 | goto l =>
   have hx:gotoIn l (.inBlock id::k)=gotoIn l k:=by simp [gotoIn]
   exact ⟨_,a₁,w₁,hq,fun k' hk=> .head h0 stepR_block (harr.1 k' (by rw [hx];exact hk)),
    fun hr' hk=>let ⟨k₁,h1,h2⟩:=harr.2 hr' (by rw [hx];exact hk);⟨k₁,h1,.head h0 stepR_block h2⟩⟩
 | ret=>exact ⟨_,a₁,w₁,hq,.of_steps (.one h0 stepR_block) harr⟩
 | panic ch=>exact ⟨_,a₁,w₁,hq,.of_steps (.one h0 stepR_block) harr⟩
 | outgrown=>exact ⟨_,a₁,w₁,hq,.of_steps (.one h0 stepR_block) harr⟩
theorem calls_of_wpAt {f:FuncId} {fn:Func} {c:Code} {args:Array Value} {w:World} {R:Ending→World→Prop}
 (hf:P.funcs[f]? = some fn) (hb:fn.body=some c)
 (h:wpAt f P c (bodyPostM Fence.wide n P fn R) { tmps:=args++Array.replicate (fn.ntmps - args.size) undef,defers:=[] } w):Calls P f args w R:=by
 refine (callsIn_wide (n:=n)).1 ⟨trivial,fun cs hr=>?_⟩
 let b:Frame:={ (default:Frame) with fn:=f,kind:= .normal,roundOf:=none }
 have henter:Frame.enter P f args .normal =
  b.atR { tmps:=args++Array.replicate (fn.ntmps - args.size) undef,defers:=[] } [.code c]:=by
  simp [Frame.enter,Frame.atR,hf,hb,b]
 obtain ⟨e,a',w',hq,harr⟩:=h b [] cs rfl rfl
 rw [← henter] at harr
 cases e with
 | normal =>
   obtain ⟨e',w'',fr',hR,hs,hfn,hl⟩:=leaves_stepsInM a'.defers .returning w' { b.atR a' [] with mode:= .returning } cs rfl rfl rfl hf rfl trivial hr hq
   exact ⟨e',w'',fr',hR,ComesIn.of_steps (StepsIn.trans harr (.one calmW (stepR_end rfl))) hs,hfn,hl⟩
 | ret =>
   obtain ⟨todo,hs₀⟩:=harr.1 rfl
   obtain ⟨e',w'',fr',hR,hs,hfn,hl⟩:=leaves_stepsInM a'.defers .returning w' { b.atR a' todo with mode:= .returning } cs rfl rfl rfl hf rfl trivial hr hq
   exact ⟨e',w'',fr',hR,ComesIn.of_steps hs₀ hs,hfn,hl⟩
 | panic chain =>
   obtain ⟨todo,hs₀⟩:=harr
   obtain ⟨e',w'',fr',hR,hs,hfn,hl⟩:=leaves_stepsInM a'.defers (.panicking chain) w' { b.atR a' todo with mode:= .panicking chain } cs rfl rfl rfl hf rfl trivial hr hq
   exact ⟨e',w'',fr',hR,ComesIn.of_steps hs₀ hs,hfn,hl⟩
 | exit id=>exact hq.elim
 | goto l=>exact hq.elim
 | outgrown=>exact ⟨.outgrown,w',b,hq,harr.resolve_left (by simp [b]),rfl,trivial⟩
theorem wpAt_rangeFunc {g:Operand} {ps:Array Tmp} {assign body:Code}
 (h:∃ (l:Nat) (mark:List Deferred) (w₁ : World) (d:Deferred) (w₁':World) (f':FuncId) (args:Array Value) (w₂ : World),
  (Instr.enterLoop f a.tmps ps assign body none).run P w = .ok (l,mark) w₁ ∧
  (resolve a.eval (rangeCall g l) 0).run P w₁ = .ok d w₁' ∧
  (invoke d.target d.args).run P w₁' = .ok (.enter f' args) w₂ ∧
  CallsIn Fence.wide n P f' args w₂ (rangePost Fence.wide n P l Q { a with defers:=mark++a.defers })) :
 wpAt f P (Code.rangeFunc g ps assign body) Q a w:=by
 intro b k cs hro hb
 obtain ⟨l,mark,w₁,d,w₁',f',args,w₂,he,hres,hinv,hF,hcall⟩:=h
 rw [← hro,← hb] at he
 have henter:=stepR_rangeFunc (P:=P) (b:=b) (a:=a) (k:=k) (cs:=cs) (w:=w) he hres hinv
 obtain ⟨e,w₃,fr,hR,hsteps,hfn,hleave⟩:=hcall (b.atR { a with defers:=mark++a.defers } (.inRangeFunc l::k)::cs) (room_wide _)
 cases e with
 | outgrown =>
   obtain ⟨a₀,w₀,hq⟩:=hR
   exact ⟨.outgrown,a₀,w₀,hq,.inr (Outgrown.of_steps (.one henter) hsteps)⟩
 | returned v =>
   obtain ⟨jump,w₄,hend,hj⟩:=hR
   have sback:StepsIn (Machine.fenced P Fence.wide) P (lone (b.atR a (.code (.rangeFunc g ps assign body)::k)) cs w) (lone (b.atR { a with defers:=mark++a.defers } ((jump.map Item.code).toList++k)) cs w₄):=by
    refine .head calmW henter (StepsIn.trans hsteps (.head calmW ?_ (.one calmW (stepR_endRangeFunc hend))))
    rw [← finish_atR_inRangeFunc l v];exact step_leave_returned hleave
   cases jump with
   | none=>exact ⟨.normal,_,w₄,hj,sback⟩
   | some c =>
     obtain ⟨e',a'',w₅,hq,harr⟩:=hj b k cs hro trivial (room_wide _)
     exact ⟨e',a'',w₅,hq,.of_steps sback harr⟩
 | panicked chain =>
   refine ⟨.panic chain,_,w₃,hR,.inRangeFunc l::k,.head calmW henter (StepsIn.trans hsteps (.one calmW ?_))⟩
   rw [← Frame.raise_atR];exact step_leave_panicked hleave
def roundPostP (P:Program) (l:Nat) (R:Ending→World→Prop):Exit→Act→World→Prop
 | .normal,_,w=>∃ v w',(Instr.endRound l none).run P w = .ok v w'∧R (.returned v) w'
 | .panic chain,a,w=>a.defers=[]∧R (.panicked chain) w
 | _,_,_=>False
theorem roundIn_of_wpInP {l:Nat} {f:FuncId} {fn:Func} (hfn:P.funcs[f]? = some fn) {tmps:Array Value} {assign body:Code} {w:World} {R:Ending→World→Prop}
 (h:assign.wpIn (Fence.wide.inRound l) n P (Exit.then (fun a₁ w₁=>∃ w₂,(Instr.beginRound l).run P w₁ = .ok () w₂∧body.wpIn (Fence.wide.inRound l) n P (roundPostP P l R) a₁ w₂) (fun _ _ _=>False))
  { tmps:=tmps,defers:=[] } w) :
 RoundIn Fence.wide n P l f tmps assign body w R:=by
 refine ⟨trivial,fun c cs hr=>?_⟩
 let b:Frame:={ (default:Frame) with fn:=f,kind:= .normal,roundOf:=some l }
 have hb0:Frame.round l f tmps assign body .normal=b.atR { tmps:=tmps,defers:=[] } [.code assign,.beginRound,.code body]:=by
  simp [Frame.round,Frame.atR,b]
 obtain ⟨e,a₁,w₁,hq,harr⟩:=h b [.beginRound,.code body] (c::cs) rfl trivial (room_wide _)
 rw [← hb0] at harr
 cases e with
 | normal =>
   obtain ⟨w₂,hbr,hbody⟩:=hq
   have s1:StepsIn (Machine.fenced P (Fence.wide.inRound l)) P (lone (b.atR a₁ [.beginRound,.code body]) (c::cs) w₁) (lone (b.atR a₁ [.code body]) (c::cs) w₂) :=
    .one calmW (stepR_beginRound rfl hbr)
   obtain ⟨e₂,a₂,w₃,hq₂,harr₂⟩:=hbody b [] (c::cs) rfl trivial (room_wide _)
   cases e₂ with
   | normal =>
     obtain ⟨v,w₄,hend,hR⟩:=hq₂
     exact ⟨.returned v,w₄,hR,(StepsIn.trans harr s1).trans (StepsIn.trans harr₂ (.one calmW (stepR_round_end rfl rfl hend)))⟩
   | panic chain =>
     obtain ⟨hd,hR⟩:=hq₂
     obtain ⟨todo,hs⟩:=harr₂
     exact ⟨.panicked chain,w₃,hR,(StepsIn.trans harr s1).trans (StepsIn.trans hs (.one calmW (step_leave_panicked ⟨rfl,hd,fn,hfn⟩)))⟩
   | ret=>exact hq₂.elim
   | exit id=>exact hq₂.elim
   | goto t=>exact hq₂.elim
   | outgrown=>exact hq₂.elim
 | exit id=>exact hq.elim
 | goto t=>exact hq.elim
 | ret=>exact hq.elim
 | panic chain=>exact hq.elim
 | outgrown=>exact hq.elim
end
structure KeepS (S:Nat→Prop) (W W':World):Prop where
 size:W.heap.size≤W'.heap.size
 same:∀ k o,W.heap[k]? = some o→¬ S k→W'.heap[k]? = some o
theorem KeepS.trans {S:Nat→Prop} {A B C:World} (h:KeepS S A B) (k:KeepS S B C):KeepS S A C:=⟨Nat.le_trans h.size k.size,fun i o ho hs=>k.same i o (h.same i o ho hs) hs⟩
theorem KeepS.of_chg {S:Nat→Prop} {A B:World} (h:Chg S A B):KeepS S A B:=⟨h.size,fun _ _ ho hv=>h.at ho hv⟩
theorem KeepS.mono {S S':Nat→Prop} {A B:World} (h:KeepS S A B) (hs:∀ k,S k→S' k):KeepS S' A B:=⟨h.size,fun i o ho hn=>h.same i o ho (fun e=>hn (hs i e))⟩
theorem KeepS.put {S:Nat→Prop} {l:Nat} {A:World} {o':Obj} (hv:S l):KeepS S A (A.putObj l o') :=
 ⟨by simp,fun k o ho hn=>(World.putObj_heap_other (fun e=>hn (by subst e;exact hv))).trans ho⟩
def Grows (D D':Nat→Prop) (n:Nat):Prop:=∀ k,D' k→D k∨n≤k
def IterD {α : Type} (n:Nat) (g:Nat) (lb:Array Value) (encs : α→Array Value) (V0:Nat→Prop) (xs:List α) (w:World):Prop :=
 ∀ (l:Nat) (J:List α→(Nat→Prop)→World→Prop) (Jp:List PanicEntry→World→Prop) (W:World),Chg Nob w W→w.heap.size≤l→l < W.heap.size →
   (∀ pre D A,J pre D A→∀ k,D k→k < A.heap.size) →
   (∀ pre D A B,J pre D A→Chg (fun k=>W.heap.size≤k∧¬ D k) A B→J pre D B) →
   (∀ pre x D W1,J pre D W1→(pre++[x]) <+: xs→YieldAt Fence.wide (n - 1) Tryz.prog l (encs x) W1 fun e W' =>
    (e = .returned (.bool true)∧KeepS (fun k=>k=l∨D k) W1 W'∧∃ D',J (pre++[x]) D' W'∧Grows D D' W1.heap.size)∨(∃ ch,e = .panicked ch∧Jp ch W')) →
   J [] V0 W →
   CallsIn Fence.wide n Tryz.prog g (#[.func (.yield l) #[] #[]]++lb) W fun e W'=>(∃ v,e = .returned v∧∃ D,J xs D W')∨(∃ ch,e = .panicked ch∧Jp ch W')
def rPostD {α : Type} (D:Nat→Prop) (I:List α→(Nat→Prop)→World→Prop) (Ip:List PanicEntry→World→Prop) (xs:List α) (W:World):Exit→Act→World→Prop
 | .normal,_,W'=>KeepS D W W'∧∃ D',I xs D' W'∧Grows D D' W.heap.size
 | .panic ch,a,W'=>a.defers=[]∧KeepS D W W'∧Ip ch W'
 | _,_,_=>False
theorem range_iterD {α : Type} {f:FuncId} {fn:Func} (hfn:Tryz.prog.funcs[f]? = some fn) {n:Nat} {g:Operand} {ps:Array Tmp} {assign body:Code} {Q:Exit→Act→World→Prop} {a:Act} {w:World}
 {gf:Nat} {lb:Array Value} (hg:a.eval g = .func (.func gf) #[] lb) (eg:∀ args w,(callFunc gf args).run Tryz.prog w = .ok (.enter gf args) w)
 {encs : α→Array Value} {V0:Nat→Prop} {xs:List α} (hit:IterD n gf lb encs V0 xs w) (hps:∀ x,(encs x).size=ps.size)
 (I:List α→(Nat→Prop)→World→Prop) (Ip:List PanicEntry→World→Prop) (hID:∀ pre D A,I pre D A→∀ k,D k→k < A.heap.size) (hI:∀ pre D A B,I pre D A→Chg (fun k=>w.heap.size≤k∧¬ D k) A B→I pre D B) (h0:I [] V0 w)
 (hround:∀ (l:Nat) (pre:List α) (x : α) (D:Nat→Prop) (W:World),I pre D W→(pre++[x]) <+: xs→w.heap.size+1 < W.heap.size→¬ D w.heap.size→¬ D (w.heap.size+1) →
  assign.wpIn (Fence.wide.inRound l) (n - 1) Tryz.prog (Exit.then (fun a₁ w₁=>Chg Nob W w₁∧∀ w₂,Chg (At1 (w.heap.size+1)) w₁ w₂→body.wpIn (Fence.wide.inRound l) (n - 1) Tryz.prog (rPostD D I Ip (pre++[x]) w₂) a₁ w₂) (fun _ _ _=>False))
   { tmps:=(ps.zip (encs x)).foldl (fun t (p,v)=>t.setIfInBounds p v) a.tmps,defers:=[] } W)
 (hdone:∀ (D:Nat→Prop) (W:World),I xs D W→W.heap[w.heap.size]? = some (.deferred (some []))→Q .normal { a with defers:={ target:= .collected w.heap.size,args:=#[] }::a.defers } W)
 (hpan:∀ (ch:List PanicEntry) (W:World),Ip ch W→W.heap[w.heap.size]? = some (.deferred (some []))→Q (.panic ch) { a with defers:={ target:= .collected w.heap.size,args:=#[] }::a.defers } W) :
 wpAt f Tryz.prog (Code.rangeFunc g ps assign body) Q a w:=by
 have hV:=hID [] V0 w h0
 refine wpAt_rangeFunc (n:=n) ?_
 let rec0:LoopState→Option Code→Loop:=fun st pe=>{ state:=st,pending:=pe,fn:=f,tmps:=a.tmps,params:=ps,assign,body,defers:=w.heap.size }
 obtain ⟨W1,hW1⟩:∃ W1,(w.alloc (.deferred (some []))).alloc (.loop (rec0 .ready none))=W1:=⟨_,rfl⟩
 have hsz:W1.heap.size=w.heap.size+2:=by rw [← hW1];simp
 have hcW:Chg Nob w W1:=by rw [← hW1];exact ((Chg.refl _ _).alloc _).alloc _
 have hL1:W1.heap[w.heap.size+1]? = some (.loop (rec0 .ready none)):=by
  rw [← hW1]
  have:=World.alloc_heap_new (w.alloc (.deferred (some []))) (.loop (rec0 .ready none))
  rwa [World.size_alloc] at this
 have hD1:W1.heap[w.heap.size]? = some (.deferred (some [])):=by
  rw [← hW1]
  exact ((Chg.refl Nob (w.alloc (.deferred (some [])))).alloc _).at (World.alloc_heap_new w _) (fun e=>e)
 refine ⟨w.heap.size+1,[{ target:= .collected w.heap.size,args:=#[] }],W1,{ target:= .fn (.func gf) lb,args:=#[.func (.yield (w.heap.size+1)) #[] #[]] },W1,gf,
  #[.func (.yield (w.heap.size+1)) #[] #[]]++lb,W1,?_,?_,?_,?_⟩
 ·rw [← hW1];exact run_enterLoop_outer _ _ _ _ _
 ·simp only [resolve,hg]
  simp [go_sem]
 ·simp [invoke,go_sem,eg]
 ·refine (hit (w.heap.size+1)
   (fun pre D W=>I pre D W∧W.heap[w.heap.size+1]? = some (.loop (rec0 .ready none))∧W.heap[w.heap.size]? = some (.deferred (some []))∧¬ D w.heap.size∧¬ D (w.heap.size+1))
   (fun ch W=>Ip ch W∧W.heap[w.heap.size]? = some (.deferred (some [])))
   W1 hcW (by omega) (by omega) (fun pre D A h=>hID pre D A h.1) ?_ ?_ ⟨hI [] V0 w W1 h0 (hcW.any),hL1,hD1,fun e=>by have:=hV _ e;omega,fun e=>by have:=hV _ e;omega⟩).mono ?_
  ·rintro pre D A B ⟨h1,h2,h3,h4,h5⟩ hs
   exact ⟨hI pre D A B h1 (hs.mono (fun k hk e=>⟨by have:=e.1;omega,e.2⟩)),Chg.at hs h2 (fun e=>by have:=e.1;omega),Chg.at hs h3 (fun e=>by have:=e.1;omega),h4,h5⟩
  ·rintro pre x D W ⟨hi,hl,hd,hn0,hn1⟩ hpre
   have hy:=run_yield (P:=Tryz.prog) (args:=encs x) hl (hps x)
   refine ⟨f,_,assign,body,hy,roundIn_of_wpInP hfn ?_⟩
   have hWs:w.heap.size+1 < W.heap.size:=(Array.getElem?_eq_some_iff.1 hl).1
   refine wpIn_mono (hround _ pre x D W hi hpre hWs hn0 hn1) ?_
   intro e a₁ w₁ hq
   cases e with
   | normal =>
     obtain ⟨hk1,hbody⟩:=hq
     have hl1:=hk1.at hl (fun e=>e)
     have hd1:=hk1.at hd (fun e=>e)
     refine ⟨_,run_beginRound hl1 rfl,?_⟩
     have hlt:w.heap.size+1 < w₁.heap.size:=(Array.getElem?_eq_some_iff.1 hl1).1
     have hc2:Chg (At1 (w.heap.size+1)) w₁ (w₁.putObj (w.heap.size+1) (.loop { rec0 .ready none with state:= .busy })) :=
      ⟨rfl,rfl,rfl,by simp,fun k _ hk=>World.putObj_heap_other hk⟩
     have hl2:(w₁.putObj (w.heap.size+1) (.loop { rec0 .ready none with state:= .busy })).heap[w.heap.size+1]? = some (.loop { rec0 .ready none with state:= .busy }):=World.putObj_heap_same hlt
     have hd2:=hc2.at hd1 (fun e=>by have e:w.heap.size=w.heap.size+1:=e;omega)
     refine wpIn_mono (hbody _ hc2) ?_
     intro e a3 W3 hp
     cases e with
     | normal =>
       obtain ⟨hk3,D',hi3,hg3⟩:=hp
       have hg3:Grows D D' w₁.heap.size:=fun k hk=>(hg3 k hk).imp id (fun e=>by simpa using e)
       have hl3:=hk3.same _ _ hl2 hn1
       have hd3:=hk3.same _ _ hd2 hn0
       refine ⟨_,_,run_endRound (P:=Tryz.prog) none hl3,.inl ⟨rfl,?_,D',⟨?_,World.putObj_heap_same (Array.getElem?_eq_some_iff.1 hl3).1,(World.putObj_heap_other (by omega)).trans hd3,?_,?_⟩,?_⟩⟩
       ·exact ((KeepS.of_chg hk1.any).trans (KeepS.put (.inl rfl))).trans ((hk3.mono (fun _ h=> .inr h)).trans (KeepS.put (.inl rfl)))
       ·have hn1':¬ D' (w.heap.size+1):=fun e=>by
         rcases hg3 _ e with e | e
         ·exact hn1 e
         ·omega
        exact hI _ _ _ _ hi3 ⟨rfl,rfl,rfl,by simp,fun k _ hk=>World.putObj_heap_other (fun e=>hk (by subst e;exact ⟨by omega,hn1'⟩))⟩
       ·intro e
        rcases hg3 _ e with e | e
        ·exact hn0 e
        ·omega
       ·intro e
        rcases hg3 _ e with e | e
        ·exact hn1 e
        ·omega
       ·intro k hk
        rcases hg3 k hk with e | e
        ·exact .inl e
        ·refine .inr ?_
         have:=hk1.size
         omega
     | panic ch =>
       obtain ⟨hd,hk3,hi3⟩:=hp
       exact ⟨hd,.inr ⟨ch,rfl,hi3,hk3.same _ _ hd2 hn0⟩⟩
     | ret=>exact hp.elim
     | exit id=>exact hp.elim
     | goto t=>exact hp.elim
     | outgrown=>exact hp.elim
   | ret=>exact hq
   | exit id=>exact hq
   | goto t=>exact hq
   | panic ch=>exact hq
   | outgrown=>exact hq
  ·rintro e W2 (⟨v,rfl,D,hi,hl,hd,hn0,hn1⟩ | ⟨ch,rfl,hi,hd⟩)
   ·refine ⟨none,_,run_endLoop (P:=Tryz.prog) hl (by simp [rec0]),hdone D _ (hI _ _ _ _ hi ⟨rfl,rfl,rfl,by simp,fun k _ hk=>World.putObj_heap_other (fun e=>hk (by subst e;exact ⟨by omega,hn1⟩))⟩) ((World.putObj_heap_other (by omega)).trans hd)⟩
   ·exact hpan ch W2 hi hd
theorem leaves_oneP {F:Fence} {n:Nat} {P:Program} {fn:Func} {tm:Array Value} {R:Ending→World→Prop} {D:Nat} {W:World} {ch:List PanicEntry} (hD:W.heap[D]? = some (.deferred (some [])))
 (h:∀ W',Chg (At1 D) W W'→R (.panicked ch) W'):LeavesInM F n P fn tm R [{ target:= .collected D,args:=#[] }] (.panicking ch) W :=
 ⟨by simp,.inl ⟨D,_,rfl,run_takeDeferred hD,h _ ⟨rfl,rfl,rfl,by simp,fun k _ hk=>World.putObj_heap_other hk⟩⟩⟩
end Go.Proofs.YtkgfdgfhpdhhaaaGreat
namespace Go.Proofs.YtkgfdgfhpdhhaaaGreat
open Go.ChangeShapes Go.WideShapes Go.RowKit Go.Shelf
attribute [local go_sem] Oper.semAt_some
set_option maxRecDepth 100000
set_option maxHeartbeats 4000000
theorem range_prefix {a b:Nat} (h:a≤b):List.range a <+: List.range b:=⟨(List.range (b - a)).map (a + ·),by rw [← List.range_add,Nat.add_sub_cancel' h]⟩
theorem mul_lt_pre {i j A B:Nat} (hi:i < A) (hj:j < B):i * B+j < A * B:=by
 have:(i+1) * B≤A * B:=Nat.mul_le_mul_right _ hi
 rw [Nat.succ_mul] at this
 omega
theorem KeepS.cell {S:Nat→Prop} {W W':World} (h:KeepS S W W') {a:Addr} {v:Value} (hc:W.cell? a=some v) (hn:¬ S a.block):W'.cell? a=some v:=by
 have hl:=World.block_lt_of_cell? W a hc
 rw [← hc]
 refine World.cell?_of_block ?_
 rw [h.same a.block _ (Array.getElem?_eq_getElem hl) hn,Array.getElem?_eq_getElem hl]
def OldB (w:World) (V0:Nat→Prop) (wr:World):Prop:=KeepS (fun k=>w.heap.size≤k∨V0 k) w wr
def OldD (w:World) (V0 D:Nat→Prop):Prop:=∀ k,k < w.heap.size→D k→V0 k
theorem OldB.nob {w:World} {V0:Nat→Prop} {A B:World} (h:OldB w V0 A) (hc:Chg Nob A B):OldB w V0 B:=h.trans ((KeepS.of_chg hc).mono (fun _ e=>e.elim))
theorem OldB.round {w:World} {V0 D:Nat→Prop} {A B:World} {l:Nat} (h:OldB w V0 A) (hl:w.heap.size≤l) (hD:OldD w V0 D) (hk:KeepS (fun k=>k=l∨D k) A B):OldB w V0 B :=
 h.trans (hk.mono (fun k e=>by
  rcases e with rfl | e
  ·exact .inl hl
  ·rcases Nat.lt_or_ge k w.heap.size with hlt | hge
   ·exact .inr (hD k hlt e)
   ·exact .inl hge))
theorem OldB.cell {w:World} {V0:Nat→Prop} {A:World} (h:OldB w V0 A) {a:Addr} {v:Value} (hc:w.cell? a=some v) (hn:¬ V0 a.block):A.cell? a=some v :=
 KeepS.cell h hc (fun e=>e.elim (fun e=>by have:=World.block_lt_of_cell? w a hc;omega) hn)
theorem OldD.grow {w:World} {V0 D D':Nat→Prop} {n:Nat} (h:OldD w V0 D) (hg:Grows D D' n) (hn:w.heap.size≤n):OldD w V0 D':=fun k hk hd=>by
 rcases hg k hd with e | e
 ·exact h k hk e
 ·omega
def mS0:MvS:=(m0,none,0)
def aggM (x:MvS):Value:= .agg (cellsM x).toArray
def encM (xs ys:List MvS) (p:Nat):Array Value:=#[aggM (xs.getD (p / ys.length) mS0),aggM (ys.getD (p % ys.length) mS0)]
def MCl (W:World) (ao:Option Addr) (xs:List MvS):Prop:=∀ j x,xs[j]? = some x→∃ b o,ao=some ⟨b,o,none⟩∧W.cell? ⟨b,o+j * 3,none⟩=some (.int .u64 x.1.yes)∧W.cell? ⟨b,o+j * 3+1,none⟩=some (.int .u64 x.1.no)∧W.cell? ⟨b,o+j * 3+2,none⟩=some (.slice x.2.1 x.1.to.length x.2.2)
theorem MIn.cl {W:World} {ao:Option Addr} {xs:List MvS} (h:MIn W ao xs):MCl W ao xs:=fun j x hj=>by
 obtain ⟨b,o,e,c0,c1,c2,_⟩:=h j x hj
 exact ⟨b,o,e,c0,c1,c2⟩
theorem MCl.old {w W:World} {V0:Nat→Prop} {ao:Option Addr} {xs:List MvS} (h:MCl w ao xs) (ho:OldB w V0 W) (hn:xs≠[]→∀ a,ao=some a→¬ V0 a.block):MCl W ao xs:=fun j x hj=>by
 obtain ⟨b,o,rfl,c0,c1,c2⟩:=h j x hj
 have:=hn (fun e=>by rw [e] at hj;simp at hj) _ rfl
 exact ⟨b,o,rfl,ho.cell c0 this,ho.cell c1 this,ho.cell c2 this⟩
theorem pairsM_any (v1 v2:Value) (h1:∃ a n c,v1 = .slice a n c) (h2:∃ a n c,v2 = .slice a n c) (w:World):Calls Tryz.prog 156 #[v1,v2] w fun e w'=>e = .returned (.func (.func 186) #[] #[.pointer (some ⟨w.heap.size,0,none⟩),.pointer (some ⟨w.heap.size+1,0,none⟩)])∧w'=(w.alloc (.cells #[v1] 67)).alloc (.cells #[v2] 67):=by
 have hmf:∀ (fn:Fn) (first cap:Array Value) (w:World),(Instr.makeFunc fn first cap).run Tryz.prog w = .ok (.func fn first cap) w:=fun _ _ _ _=>rfl
 obtain ⟨a1,n1,c1,rfl⟩:=h1
 obtain ⟨a2,n2,c2,rfl⟩:=h2
 go_enter Tryz.func156,Tryz.ntmps156
 go_wp2
 go_ret
 exact ⟨rfl,rfl⟩
theorem pairsM_iter (n:Nat) (hn:1≤n) (V0:Nat→Prop) (bx bz:Nat) {ax ay:Option Addr} {cx cy:Nat} {xs ys:List MvS} (w:World) (hbx:w.heap[bx]? = some (.cells #[.slice ax xs.length cx] 67 (0,0))) (hby:w.heap[bz]? = some (.cells #[.slice ay ys.length cy] 67 (0,0)))
 (hlx:xs.length≤1000000) (hly:ys.length≤1000000) (hx:MCl w ax xs) (hy:MCl w ay ys) (hvx:xs≠[]→∀ a,ax=some a→¬ V0 a.block) (hvy:ys≠[]→∀ a,ay=some a→¬ V0 a.block) (hvbx:¬ V0 bx) (hvby:¬ V0 bz) :
 IterD n 186 #[.pointer (some ⟨bx,0,none⟩),.pointer (some ⟨bz,0,none⟩)] (encM xs ys) V0 (List.range (xs.length * ys.length)) w:=by
 intro l J Jp W hcW hlo hlW hJlt hJ hY h0
 have c0:=cell_row hbx 0 (v:= .slice ax xs.length cx) rfl
 have d0:=cell_row hby 0 (v:= .slice ay ys.length cy) rfl
 have HC:=Lib.hid (show ∀ A,OldB w V0 A→A.cell? ⟨bx,0,none⟩=some (.slice ax xs.length cx)∧A.cell? ⟨bz,0,none⟩=some (.slice ay ys.length cy)∧MCl A ax xs∧MCl A ay ys from fun A h=>⟨h.cell c0 hvbx,h.cell d0 hvby,hx.old h hvx,hy.old h hvy⟩)
 have HO:Hid (OldB w V0 W):=Lib.hid ((KeepS.of_chg hcW).mono (fun _ e=>e.elim))
 have HY:=Lib.hid hY
 have HJ:=Lib.hid hJ
 have HJl:=Lib.hid hJlt
 have Hlo:=Lib.hid hlo
 have Hsz:=Lib.hid hcW.size
 have HD0:Hid (OldD w V0 V0):=Lib.hid (fun _ _ h=>h)
 have h0':=Lib.hid h0
 obtain ⟨c0,-⟩:=HC.out W HO.out
 clear hY hJ hJlt hx hy hbx hby d0 h0 hvx hvy hvbx hvby hlo
 refine callsIn_of_wp Tryz.func186 rfl trivial ?_ rfl
 simp only [Tryz.ntmps186,List.size_toArray,List.length_cons,List.length_nil,Nat.reduceAdd,Nat.reduceSub,Array.replicate_succ,Array.replicate_zero,List.push_toArray,List.append_toArray,List.nil_append,List.cons_append]
 gi_wp2
 clear c0
 gi_loopw [10] (fun iv wr=>∃ (i:Nat) (D:Nat→Prop),iv = .int .i64 (i:Int)∧i≤xs.length∧Hid (J (List.range (i * ys.length)) D wr)∧Hid (OldB w V0 wr)∧Hid (OldD w V0 D)∧Hid (W.heap.size≤wr.heap.size)) (fun iv _=>xs.length - (intOf iv).toNat)
 case atStart=>exact ⟨0,V0,rfl,Nat.zero_le _,(by show J (List.range (0 * ys.length)) V0 W;rw [Nat.zero_mul];exact h0'.out),HO,HD0,(show W.heap.size≤W.heap.size from Nat.le_refl _)⟩
 case round =>
  obtain ⟨i,D,rfl,hi,Hj,Ho,HD,Hw⟩:=hrel
  by_cases hlt:i < xs.length
  ·obtain ⟨x,hxi⟩:∃ x,xs[i]? = some x:=⟨_,List.getElem?_eq_getElem hlt⟩
   obtain ⟨-,hdb,hX,-⟩:=HC.out wr Ho.out
   obtain ⟨b,o,rfl,x0,x1,x2⟩:=hX i x hxi
   have Hxd:Hid (xs.getD i mS0=x):=(show xs.getD i mS0=x by rw [List.getD_eq_getElem?_getD,hxi];rfl)
   have hii:(i:Int) < (xs.length:Int):=by omega
   have hi0:(0:Int)≤(i:Int):=by omega
   obtain ⟨Q,hQ,hcQ,hbQ,hsQ⟩:=box_cells wr #[.int .u64 x.1.yes,.int .u64 x.1.no,.slice x.2.1 x.1.to.length x.2.2] 75
   have HjQ:Hid (J (List.range (i * ys.length)) D Q):=Lib.hid (HJ.out _ _ _ _ Hj.out hcQ.any)
   have HoQ:Hid (OldB w V0 Q):=Lib.hid (Ho.out.nob hcQ)
   have hnq:Hid (¬ D wr.heap.size):=Lib.hid (fun e=>by have:=HJl.out _ _ _ Hj.out _ e;omega)
   have Hqs:Hid (wr.heap.size < Q.heap.size∧W.heap.size≤wr.heap.size):=Lib.hid (⟨by omega,Hw.out⟩)
   have HbQ:Hid (Q.heap[wr.heap.size]? = some (.cells #[.int .u64 x.1.yes,.int .u64 x.1.no,.slice x.2.1 x.1.to.length x.2.2] 75 (0,0))):=Lib.hid hbQ
   obtain ⟨-,hdbQ,-,-⟩:=HC.out Q HoQ.out
   clear hX hxi hbQ hcQ hsQ hdb
   rw [hQ] at hdbQ
   gi_wp2
   rw [← hQ]
   clear hQ x0 x1 x2 hdbQ
   generalize hqb:wr.heap.size=qb at *
   clear hqb
   gi_loopw [16] (fun jv W2=>∃ (j:Nat) (D2:Nat→Prop),jv = .int .i64 (j:Int)∧j≤ys.length∧Hid (J (List.range (i * ys.length+j)) D2 W2)∧Hid (OldB w V0 W2)∧Hid (OldD w V0 D2)∧Hid (¬ D2 qb)∧Hid (W2.heap[qb]? = some (.cells #[.int .u64 x.1.yes,.int .u64 x.1.no,.slice x.2.1 x.1.to.length x.2.2] 75 (0,0)))) (fun jv _=>ys.length - (intOf jv).toNat)
   case atStart=>exact ⟨0,D,rfl,Nat.zero_le _,HjQ,HoQ,HD,hnq,HbQ⟩
   case round =>
    obtain ⟨j,D2,rfl,hj,Hj2,Ho2,HD2,Hnq2,Hb2⟩:=hrel
    by_cases hjt:j < ys.length
    ·obtain ⟨y,hyj⟩:∃ y,ys[j]? = some y:=⟨_,List.getElem?_eq_getElem hjt⟩
     obtain ⟨-,-,-,hY2⟩:=HC.out wr Ho2.out
     obtain ⟨b',o',rfl,y0,y1,y2⟩:=hY2 j y hyj
     have hjj:(j:Int) < (ys.length:Int):=by omega
     have hj0:(0:Int)≤(j:Int):=by omega
     obtain ⟨E,hE,hcE,hbE,hsE⟩:=box_cells wr #[.int .u64 y.1.yes,.int .u64 y.1.no,.slice y.2.1 y.1.to.length y.2.2] 75
     have hqlt:qb < wr.heap.size:=(Array.getElem?_eq_some_iff.1 Hb2.out).1
     obtain ⟨q0,q1,q2,_⟩:=cells_three (hcE.at Hb2.out (fun e=>e))
     obtain ⟨e0,e1,e2,_⟩:=cells_three hbE
     have HbE:Hid (E.heap[qb]? = some (.cells #[.int .u64 x.1.yes,.int .u64 x.1.no,.slice x.2.1 x.1.to.length x.2.2] 75 (0,0))):=Lib.hid (hcE.at Hb2.out (fun e=>e))
     have HoE:Hid (OldB w V0 E):=Lib.hid (Ho2.out.nob hcE)
     have hyd:ys.getD j mS0=y:=by rw [List.getD_eq_getElem?_getD,hyj];rfl
     have hy:=HY.out (List.range (i * ys.length+j)) (i * ys.length+j) D2 E (HJ.out _ _ _ _ Hj2.out hcE.any) (by rw [← List.range_succ];exact range_prefix (mul_lt_pre hlt hjt))
     have henc:encM xs ys (i * ys.length+j)=#[.agg #[.int .u64 x.1.yes,.int .u64 x.1.no,.slice x.2.1 x.1.to.length x.2.2],.agg #[.int .u64 y.1.yes,.int .u64 y.1.no,.slice y.2.1 y.1.to.length y.2.2]]:=by
      unfold encM
      rw [show (i * ys.length+j) / ys.length=i by rw [Nat.mul_comm,Nat.mul_add_div (by omega),Nat.div_eq_of_lt hjt,Nat.add_zero],show (i * ys.length+j) % ys.length=j by rw [Nat.mul_comm,Nat.mul_add_mod,Nat.mod_eq_of_lt hjt],Hxd.out,hyd]
      rfl
     rw [henc] at hy
     have HsE:Hid (qb < E.heap.size∧l < qb):=Lib.hid (⟨by omega,by have:=Hqs.out.2;omega⟩)
     obtain ⟨fn,tmps,assign,body,hyr,hR3⟩:=hy
     clear hY2 hyj hyd henc hbE hcE hsE hqlt
     rw [hE] at q0 q1 q2 e0 e1 e2 hyr
     gi_wp2
     rw [← hE]
     clear hE y0 y1 y2
     refine hR3.mono ?_
     clear hR3 hyr q0 q1 q2 e0 e1 e2
     rintro e W3 (⟨rfl,hk3,D3,hj3,hg3⟩ | ⟨ch,rfl,hp⟩)
     ·have Hj3:Hid (J (List.range (i * ys.length+(j+1))) D3 W3):=(show J (List.range (i * ys.length+(j+1))) D3 W3 by rw [← Nat.add_assoc,List.range_succ];exact hj3)
      have Ho3:Hid (OldB w V0 W3):=Lib.hid (HoE.out.round Hlo.out HD2.out hk3)
      have HD3:Hid (OldD w V0 D3):=Lib.hid (HD2.out.grow hg3 HoE.out.size)
      have Hnq3:Hid (¬ D3 qb):=(show ¬ D3 qb from fun e=>by
       rcases hg3 _ e with e | e
       ·exact Hnq2.out e
       ·have:=HsE.out.1;omega)
      have Hb3:Hid (W3.heap[qb]? = some (.cells #[.int .u64 x.1.yes,.int .u64 x.1.no,.slice x.2.1 x.1.to.length x.2.2] 75 (0,0))):=Lib.hid (hk3.same _ _ HbE.out (fun e=>by
       rcases e with e | e
       ·have:=HsE.out.2;omega
       ·exact Hnq2.out e))
      clear hk3 hj3 hg3
      gi_wp2
      go_roundw
      case rel=>exact ⟨j+1,D3,by go_num,hjt,Hj3,Ho3,HD3,Hnq3,Hb3⟩
      case measure=>simp [intOf];omega
     ·gi_wp2
      exact ⟨rfl,.inr ⟨ch,rfl,hp⟩⟩
    ·obtain rfl:j=ys.length:=by omega
     have Hj3:Hid (J (List.range ((i+1) * ys.length)) D2 wr):=(show J (List.range ((i+1) * ys.length)) D2 wr by rw [Nat.succ_mul];exact Hj2.out)
     have Hw3:Hid (W.heap.size≤wr.heap.size):=(show W.heap.size≤wr.heap.size by have:=(Array.getElem?_eq_some_iff.1 Hb2.out).1;have:=Hqs.out.2;omega)
     clear Hj2 Hb2 Hnq2
     gi_wp2
     go_roundw
     case rel=>exact ⟨i+1,D2,by go_num,hlt,Hj3,Ho2,HD2,Hw3⟩
     case measure=>simp [intOf];omega
  ·obtain rfl:i=xs.length:=by omega
   gi_wp2
   go_end0
   exact .inl ⟨_,rfl,D,Hj.out⟩
def ltr (M:List Int) (j:Nat):Int:=M[j]?.getD 0
theorem letters_any (v:Value) (a b:Value) (hv:v = .agg #[a,b]) (w:World):Calls Tryz.prog 100 #[v] w fun e w'=>e = .returned (.func (.func 150) #[] #[.pointer (some ⟨w.heap.size,0,none⟩)])∧w'=w.alloc (.cells #[a,b] 28):=by
 have hmf:∀ (fn:Fn) (first cap:Array Value) (w:World),(Instr.makeFunc fn first cap).run Tryz.prog w = .ok (.func fn first cap) w:=fun _ _ _ _=>rfl
 subst hv
 go_enter Tryz.func100,Tryz.ntmps100
 go_wp2
 go_ret
 exact ⟨rfl,rfl⟩
theorem range_pre {a b:Nat} (h:a≤b):List.range a <+: List.range b:=⟨(List.range (b - a)).map (a + ·),by rw [← List.range_add,Nat.add_sub_cancel' h]⟩
theorem add_zero_off (g k:Nat):(⟨g,0,none⟩:Addr).add k=⟨g,k,none⟩:=by
 unfold Addr.add
 split
 ·subst_vars;rfl
 ·rw [Nat.zero_add]
theorem letters_iter (E:Nat→Prop) (n0 n:Nat) (hn:1≤n) (V0:Nat→Prop) (bx:Nat) {ap al:Option Addr} {cp cl:Nat} {P L:List Int} (w:World) (hb:w.heap[bx]? = some (.cells #[.slice ap P.length cp,.slice al L.length cl] 28 (0,0)))
 (hl:P.length+L.length≤10000) (h0L:0 < L.length) (hP:URow w ap P) (hL:URow w al L) (hnp:ap=none→cp=0) (hnl:al=none→cl=0) (hV:∀ k,V0 k→k < w.heap.size) (hE:¬ E 53) :
 Iter E n0 n 150 #[.pointer (some ⟨bx,0,none⟩)] (fun (j:Nat)=>#[.int .i64 (j:Int),.int .u64 (ltr (P++L) j)]) V0 (List.range (P.length+L.length)) w:=by
 intro l J Jx W hcW hlo hlW hJ hJx hY h0
 obtain ⟨c0,c1,_⟩:=cell_two (hcW.at hb (fun e=>e))
 obtain ⟨X,hX,hcX,hbX⟩:∃ X,X=W.alloc (.cells #[.slice ap P.length cp,.slice al L.length cl] 26)∧Chg Nob W X∧X.heap[W.heap.size]? = some (.cells #[.slice ap P.length cp,.slice al L.length cl] 26 (0,0)):=⟨_,rfl,(Chg.refl _ _).alloc _,heap_alloc_new _ _⟩
 have hcat:=concat_any (w:=X) (rb:=W.heap.size) (c:=2) hl h0L (hP.nob (hcW.trans1 hcX)) (hL.nob (hcW.trans1 hcX)) hnp hnl hbX
 have hsX:=hcX.size
 have HcX:=Lib.hid hcX
 obtain ⟨M,hM⟩:∃ M,M=P++L:=⟨_,rfl⟩
 obtain ⟨m,hm⟩:∃ m,m=P.length+L.length:=⟨_,rfl⟩
 have hMl:M.length=m:=by rw [hM,List.length_append,hm]
 rw [← hM] at hcat hY
 rw [← hm] at hcat hY ⊢
 have HMl:=Lib.hid hMl
 have hm4:m≤10000:=by omega
 have HY:=Lib.hid hY
 have HJ:=Lib.hid hJ
 clear hY hJ hJx hP hL hnp hnl hb hcX hbX hM hMl hl hm
 refine callsIn_of_wp Tryz.func150 rfl trivial ?_ rfl
 simp only [Tryz.ntmps150,List.size_toArray,List.length_cons,List.length_nil,Nat.reduceAdd,Nat.reduceSub,Array.replicate_succ,Array.replicate_zero,List.push_toArray,List.append_toArray,List.nil_append,List.cons_append]
 gi_wp2
 rw [← hX]
 clear hX c0 c1
 refine ⟨trivial,(callsIn_wide.2 hcat).mono ?_⟩
 clear hcat
 rintro e w2 ⟨hc2,v,rfl,hrow⟩
 have hsh:=ownsRow_shape hrow
 obtain ⟨ao,hsh⟩:=hsh
 obtain ⟨cc,hsh⟩:=hsh
 subst hsh
 have hJ2:=HJ.out [] W w2 h0 (Steps.nob (HcX.out.trans1 hc2))
 have Hrow:=Lib.hid hrow
 have hmi:(m:Int)≤10000:=by omega
 have hs2:=hc2.size
 clear h0 hrow hc2 HJ
 gi_wp2
 gi_loopw [3,4,12] (fun _ _ i wr=>∃ k:Nat,i = .int .i64 (k:Int)∧k≤m∧Hid (wr.ownsRow X.heap.size 53 1 (.slice ao m cc) m (uvs M))∧J (List.range k) wr) (fun _ _ i _=>m - (intOf i).toNat)
 case atStart=>exact ⟨0,rfl,Nat.zero_le _,Hrow.out,hJ2⟩
 case round =>
  obtain ⟨k,rfl,hk,hrow,hj⟩:=hrel
  by_cases hlt:k < m
  ·have hki:(k:Int) < (m:Int):=by omega
   have hk0:(0:Int)≤(k:Int):=by omega
   obtain ⟨x,hx⟩:∃ x,M[k]? = some x:=⟨_,List.getElem?_eq_getElem (by rw [HMl.out];exact hlt)⟩
   have hlx:ltr M k=x:=by unfold ltr;rw [hx];rfl
   obtain ⟨g,cap,hv,hc⟩:=ownsRow_some hrow.out (by omega)
   simp only [Value.slice.injEq] at hv
   obtain ⟨rfl,-,-⟩:=hv
   have ck:=hc k (.int .u64 x) (by unfold uvs;rw [List.getElem?_map,hx];rfl)
   rw [add_zero_off] at ck
   have hgb:=(hrow.out.lt g rfl).1
   have hy:=HY.out (List.range k) k wr hj (by rw [← List.range_succ];exact range_pre hlt)
   obtain ⟨fn,tmps,assign,body,hyr,hR3⟩:=hy
   rw [hlx] at hyr
   have Hrow':=hrow
   clear hrow hc hx hlx
   gi_wp2
   refine hR3.mono ?_
   rintro e W3 (⟨rfl,hJ3,hks⟩ | ⟨rfl,hJx3,_⟩)
   ·have Hrow3:Hid (W3.ownsRow X.heap.size 53 1 (.slice (some ⟨g,0,none⟩) m cc) m (uvs M)):=(show W3.ownsRow X.heap.size 53 1 (.slice (some ⟨g,0,none⟩) m cc) m (uvs M) by
     refine ⟨Hrow'.out.1,?_⟩
     rcases Hrow'.out.2 with ⟨h,_⟩ | ⟨g',cap',cur,he,hbg,hg,rest⟩
     ·cases h
     ·refine .inr ⟨g',cap',cur,he,hbg,hks.same _ _ hg (fun e=>e.elim (fun e=>by omega) (fun e=>by have:=hV _ e;have:=hcW.size;omega)) ?_,rest⟩
      rintro ⟨_,cs,t,mm,e1,e2⟩
      cases e1
      exact hE e2)
    have hJ4:J (List.range (k+1)) W3:=by rw [List.range_succ];exact hJ3
    gi_wp2
    go_roundw
    case rel=>exact ⟨k+1,by go_num,hlt,Hrow3,hJ4⟩
    case measure=>simp [intOf];omega
   ·gi_wp2
    refine bodyPost_ret (results_none rfl _ _ _) rfl ?_
    exact ⟨⟨_,rfl⟩,.inr ⟨_,by rw [← List.range_succ];exact range_pre hlt,hJx3⟩⟩
  ·obtain rfl:k=m:=by omega
   gi_wp2
   go_end0
   exact ⟨⟨_,rfl⟩,.inl hj⟩
end Go.Proofs.YtkgfdgfhpdhhaaaGreat
