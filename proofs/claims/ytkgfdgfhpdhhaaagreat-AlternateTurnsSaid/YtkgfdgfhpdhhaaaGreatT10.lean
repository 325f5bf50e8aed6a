/- Parts of the walks and of the plain theory, the first: The library's contracts of Sort, Compact, Index, Contains at this program's numbers (printed by the kit's lay-plain.mjs). Conditions: as each theorem states. -/
import Derived.Shelf.Small.Strs
import Derived.Shelf.Strings.Search1
import Derived.Shelf.Sort.Plain
import Derived.Shelf.Slices.Turned
import Derived.Ground.Names2Prog
import Derived.Shelf.Slices.CompactI
import Derived.Shelf.Slices.CompactS
import Derived.Shelf.Slices.Cells
import Derived.Shelf.Slices.In.SortNone
import Derived.Test.YtkgfdgfhpdhhaaaGreatT01
import Derived.Test.YtkgfdgfhpdhhaaaGreatT09
import Derived.Test.YtkgfdgfhpdhhaaaGreatT02
import Derived.Defers
import Derived.Recover
import Derived.Laws.Pointers
import Derived.WideLaws
import Derived.BigRegion
import Derived.Test.YtkgfdgfhpdhhaaaGreatT08
import Derived.ShutString
namespace Go.Proofs
open Go.Shelf
open Go.RowKit in
open Go.RowKit Go.Lib in
def Tryz.lays189_ren:Go.Shelf.Ren:=⟨fun | 189=>112 | 125=>136 | 257=>153 | 128=>174 | 129=>175 | 294=>177 | 295=>178 | 296=>179 | 297=>180 | 298=>181 | 299=>182 | 216=>183 | 300=>184 | 301=>185 | 328=>198 | 329=>193 | 330=>194 | 331=>199 | 332=>200 | 215=>201 | 343=>204 | n=>n,fun | 28=>73 | 3=>3 | 46=>188 | 0=>0 | 51=>210 | 53=>53 | 4=>4 | 183=>204 | 182=>203 | 131=>162 | 5=>5 | 9=>9 | 218=>222 | 222=>226 | 228=>230 | 229=>89 | n=>n,fun | n=>n⟩
theorem Tryz.lays189:Go.Proofs.Lays.n189 Tryz.prog Tryz.lays189_ren:={
 mixed:=by kernel_rfl
 f125:=Tryz.func136.trans (congrArg some (by kernel_rfl))
 f128:=Tryz.func174.trans (congrArg some (by kernel_rfl))
 f129:=Tryz.func175.trans (congrArg some (by kernel_rfl))
 f189:=Tryz.func112.trans (congrArg some (by kernel_rfl))
 f215:=Tryz.func201.trans (congrArg some (by kernel_rfl))
 f216:=Tryz.func183.trans (congrArg some (by kernel_rfl))
 f257:=Tryz.func153.trans (congrArg some (by kernel_rfl))
 f294:=Tryz.func177.trans (congrArg some (by kernel_rfl))
 f295:=Tryz.func178.trans (congrArg some (by kernel_rfl))
 f296:=Tryz.func179.trans (congrArg some (by kernel_rfl))
 f297:=Tryz.func180.trans (congrArg some (by kernel_rfl))
 f298:=Tryz.func181.trans (congrArg some (by kernel_rfl))
 f299:=Tryz.func182.trans (congrArg some (by kernel_rfl))
 f300:=Tryz.func184.trans (congrArg some (by kernel_rfl))
 f301:=Tryz.func185.trans (congrArg some (by kernel_rfl))
 f328:=Tryz.func198.trans (congrArg some (by kernel_rfl))
 f329:=Tryz.func193.trans (congrArg some (by kernel_rfl))
 f330:=Tryz.func194.trans (congrArg some (by kernel_rfl))
 f331:=Tryz.func199.trans (congrArg some (by kernel_rfl))
 f332:=Tryz.func200.trans (congrArg some (by kernel_rfl))
 f343:=Tryz.func204.trans (congrArg some (by kernel_rfl))
 t0:=Tryz.underlying0
 a0:=Tryz.isAgg0
 z0:=Tryz.sizeOf0
 v0:=Tryz.zeroValue0
 t3:=Tryz.underlying3
 a3:=Tryz.isAgg3
 z3:=Tryz.sizeOf3
 v3:=Tryz.zeroValue3
 t4:=Tryz.underlying4
 a4:=Tryz.isAgg4
 z4:=Tryz.sizeOf4
 v4:=Tryz.zeroValue4
 t5:=Tryz.underlying5
 a5:=Tryz.isAgg5
 z5:=Tryz.sizeOf5
 v5:=Tryz.zeroValue5
 t9:=Tryz.underlying9
 a9:=Tryz.isAgg9
 z9:=Tryz.sizeOf9
 v9:=Tryz.zeroValue9
 t28:=Tryz.underlying73
 a28:=Tryz.isAgg73
 z28:=Tryz.sizeOf73
 v28:=Tryz.zeroValue73
 t46:=Tryz.underlying188
 a46:=Tryz.isAgg188
 z46:=Tryz.sizeOf188
 v46:=Tryz.zeroValue188
 t51:=Tryz.underlying210
 a51:=Tryz.isAgg210
 z51:=Tryz.sizeOf210
 v51:=Tryz.zeroValue210
 t53:=Tryz.underlying53
 a53:=Tryz.isAgg53
 z53:=Tryz.sizeOf53
 v53:=Tryz.zeroValue53
 t131:=Tryz.underlying162
 a131:=Tryz.isAgg162
 z131:=Tryz.sizeOf162
 v131:=Tryz.zeroValue162
 t182:=Tryz.underlying203
 a182:=Tryz.isAgg203
 z182:=Tryz.sizeOf203
 v182:=Tryz.zeroValue203
 t183:=Tryz.underlying204
 a183:=Tryz.isAgg204
 z183:=Tryz.sizeOf204
 v183:=Tryz.zeroValue204
 t218:=Tryz.underlying222
 a218:=Tryz.isAgg222
 z218:=Tryz.sizeOf222
 v218:=Tryz.zeroValue222
 t222:=Tryz.underlying226
 a222:=Tryz.isAgg226
 z222:=Tryz.sizeOf226
 v222:=Tryz.zeroValue226
 t228:=Tryz.underlying230
 a228:=Tryz.isAgg230
 z228:=Tryz.sizeOf230
 v228:=Tryz.zeroValue230
 t229:=Tryz.underlying89
 a229:=Tryz.isAgg89
 z229:=Tryz.sizeOf89
 v229:=Tryz.zeroValue89 }
open Go.Sort Go.RowKit in
theorem Tryz.slices_Sort_int (blk off cap:Nat) (zs:List Int) (w:World) (hH:Holds (Value.int .i64) w blk off zs.toArray) (hblk:blk < w.heap.size) (hsz:zs.length < 4611686018427387904) :
 Calls Tryz.prog 112 #[.slice (some ⟨blk,off,none⟩) zs.length cap] w fun e w' =>
  e = .returned (.tuple #[])∧∃ n os,w'=grow (putRow (Value.int .i64) (Sort.ahead w n) blk off (zs.mergeSort fun x y=>decide (x≤y)).toArray) os:=Any.slices_Sort_int Tryz.lays189 blk off cap zs w hH hblk hsz
def Tryz.lays190_ren:Go.Shelf.Ren:=⟨fun | 190=>80 | 125=>136 | 258=>135 | 128=>174 | 129=>175 | 302=>165 | 303=>166 | 304=>167 | 305=>168 | 306=>169 | 307=>170 | 308=>171 | 309=>172 | 310=>173 | 333=>192 | 329=>193 | 330=>194 | 334=>195 | 335=>196 | 336=>197 | 344=>203 | n=>n,fun | 31=>25 | 9=>9 | 3=>3 | 46=>188 | 0=>0 | 51=>210 | 53=>53 | 4=>4 | 183=>204 | 182=>203 | 131=>162 | 5=>5 | 218=>222 | 222=>226 | 228=>230 | 229=>89 | n=>n,fun | n=>n⟩
theorem Tryz.lays190:Go.Proofs.Lays.n190 Tryz.prog Tryz.lays190_ren:={
 mixed:=by kernel_rfl
 f125:=Tryz.func136.trans (congrArg some (by kernel_rfl))
 f128:=Tryz.func174.trans (congrArg some (by kernel_rfl))
 f129:=Tryz.func175.trans (congrArg some (by kernel_rfl))
 f190:=Tryz.func80.trans (congrArg some (by kernel_rfl))
 f258:=Tryz.func135.trans (congrArg some (by kernel_rfl))
 f302:=Tryz.func165.trans (congrArg some (by kernel_rfl))
 f303:=Tryz.func166.trans (congrArg some (by kernel_rfl))
 f304:=Tryz.func167.trans (congrArg some (by kernel_rfl))
 f305:=Tryz.func168.trans (congrArg some (by kernel_rfl))
 f306:=Tryz.func169.trans (congrArg some (by kernel_rfl))
 f307:=Tryz.func170.trans (congrArg some (by kernel_rfl))
 f308:=Tryz.func171.trans (congrArg some (by kernel_rfl))
 f309:=Tryz.func172.trans (congrArg some (by kernel_rfl))
 f310:=Tryz.func173.trans (congrArg some (by kernel_rfl))
 f329:=Tryz.func193.trans (congrArg some (by kernel_rfl))
 f330:=Tryz.func194.trans (congrArg some (by kernel_rfl))
 f333:=Tryz.func192.trans (congrArg some (by kernel_rfl))
 f334:=Tryz.func195.trans (congrArg some (by kernel_rfl))
 f335:=Tryz.func196.trans (congrArg some (by kernel_rfl))
 f336:=Tryz.func197.trans (congrArg some (by kernel_rfl))
 f344:=Tryz.func203.trans (congrArg some (by kernel_rfl))
 t0:=Tryz.underlying0
 a0:=Tryz.isAgg0
 z0:=Tryz.sizeOf0
 v0:=Tryz.zeroValue0
 t3:=Tryz.underlying3
 a3:=Tryz.isAgg3
 z3:=Tryz.sizeOf3
 v3:=Tryz.zeroValue3
 t4:=Tryz.underlying4
 a4:=Tryz.isAgg4
 z4:=Tryz.sizeOf4
 v4:=Tryz.zeroValue4
 t5:=Tryz.underlying5
 a5:=Tryz.isAgg5
 z5:=Tryz.sizeOf5
 v5:=Tryz.zeroValue5
 t9:=Tryz.underlying9
 a9:=Tryz.isAgg9
 z9:=Tryz.sizeOf9
 v9:=Tryz.zeroValue9
 t31:=Tryz.underlying25
 a31:=Tryz.isAgg25
 z31:=Tryz.sizeOf25
 v31:=Tryz.zeroValue25
 t46:=Tryz.underlying188
 a46:=Tryz.isAgg188
 z46:=Tryz.sizeOf188
 v46:=Tryz.zeroValue188
 t51:=Tryz.underlying210
 a51:=Tryz.isAgg210
 z51:=Tryz.sizeOf210
 v51:=Tryz.zeroValue210
 t53:=Tryz.underlying53
 a53:=Tryz.isAgg53
 z53:=Tryz.sizeOf53
 v53:=Tryz.zeroValue53
 t131:=Tryz.underlying162
 a131:=Tryz.isAgg162
 z131:=Tryz.sizeOf162
 v131:=Tryz.zeroValue162
 t182:=Tryz.underlying203
 a182:=Tryz.isAgg203
 z182:=Tryz.sizeOf203
 v182:=Tryz.zeroValue203
 t183:=Tryz.underlying204
 a183:=Tryz.isAgg204
 z183:=Tryz.sizeOf204
 v183:=Tryz.zeroValue204
 t218:=Tryz.underlying222
 a218:=Tryz.isAgg222
 z218:=Tryz.sizeOf222
 v218:=Tryz.zeroValue222
 t222:=Tryz.underlying226
 a222:=Tryz.isAgg226
 z222:=Tryz.sizeOf226
 v222:=Tryz.zeroValue226
 t228:=Tryz.underlying230
 a228:=Tryz.isAgg230
 z228:=Tryz.sizeOf230
 v228:=Tryz.zeroValue230
 t229:=Tryz.underlying89
 a229:=Tryz.isAgg89
 z229:=Tryz.sizeOf89
 v229:=Tryz.zeroValue89 }
open Go.Sort Go.RowKit in
theorem Tryz.slices_Sort_string (blk off cap:Nat) (ss:List (List UInt8)) (w:World) (hH:Holds encStr w blk off ss.toArray) (hblk:blk < w.heap.size) (hsz:ss.length < 4611686018427387904) :
 Calls Tryz.prog 80 #[.slice (some ⟨blk,off,none⟩) ss.length cap] w fun e w' =>
  e = .returned (.tuple #[])∧∃ n os,w'=grow (putRow encStr (Sort.ahead w n) blk off (ss.mergeSort fun x y=>decide (x≤y)).toArray) os:=Any.slices_Sort_string Tryz.lays190 blk off cap ss w hH hblk hsz
open Go.Lib in
open Go.Lib in
open Go.Lib in
open Go.Lib in
open Go.Lib in
open Go.Lib in
open Go.Lib in
open Go.Lib in
def Tryz.laysNm220_ren:Go.Shelf.Ren:=⟨fun | 20=>113 | n=>n,fun | 22=>73 | 3=>3 | 4=>4 | 0=>0 | n=>n,fun | n=>n⟩
theorem Tryz.laysNm220:Go.Proofs.Lays2.n20 Tryz.prog Tryz.laysNm220_ren:={
 mixed:=by kernel_rfl
 f20:=Tryz.func113.trans (congrArg some (by kernel_rfl))
 t0:=Tryz.underlying0
 a0:=Tryz.isAgg0
 z0:=Tryz.sizeOf0
 v0:=Tryz.zeroValue0
 t3:=Tryz.underlying3
 a3:=Tryz.isAgg3
 z3:=Tryz.sizeOf3
 v3:=Tryz.zeroValue3
 t4:=Tryz.underlying4
 a4:=Tryz.isAgg4
 z4:=Tryz.sizeOf4
 v4:=Tryz.zeroValue4
 t22:=Tryz.underlying73
 a22:=Tryz.isAgg73
 z22:=Tryz.sizeOf73
 v22:=Tryz.zeroValue73
 i3:=by kernel_rfl }
open Go.RowKit Go.Lib Go.Sort in
open Go.RowKit Go.Lib Go.Sort in
theorem Tryz.slices_Compact_int (blk off cap:Nat) (zs:List Int) (w:World) (hH:Holds (Value.int .i64) w blk off zs.toArray) (hsz:zs.length≤9223372036854775807) (hcap:zs.length≤cap) :
 Calls Tryz.prog 113 #[.slice (some ⟨blk,off,none⟩) zs.length cap] w fun e w'=>e = .returned (.slice (some ⟨blk,off,none⟩) (Lib.compact zs).length cap)∧∃ q,w'=putRow (Value.int .i64) (Sort.ahead w q) blk off (Lib.compact zs++List.replicate (zs.length - (Lib.compact zs).length) 0).toArray:=Any.slices_Compact_int Tryz.laysNm220 blk off cap zs w hH hsz hcap
open Go.RowKit Go.Lib Go.Sort in
theorem Tryz.slices_Compact_int_empty (a:Option Addr) (cap:Nat) (w:World) :
 Calls Tryz.prog 113 #[.slice a 0 cap] w fun e w'=>e = .returned (.slice a 0 cap)∧w'=w:=Any.slices_Compact_int_empty Tryz.laysNm220 a cap w
def Tryz.lays194_ren:Go.Shelf.Ren:=⟨fun | 194=>81 | n=>n,fun | 31=>25 | 9=>9 | 3=>3 | 4=>4 | 0=>0 | n=>n,fun | n=>n⟩
theorem Tryz.lays194:Go.Proofs.Lays.n194 Tryz.prog Tryz.lays194_ren:={
 mixed:=by kernel_rfl
 f194:=Tryz.func81.trans (congrArg some (by kernel_rfl))
 t0:=Tryz.underlying0
 a0:=Tryz.isAgg0
 z0:=Tryz.sizeOf0
 v0:=Tryz.zeroValue0
 t3:=Tryz.underlying3
 a3:=Tryz.isAgg3
 z3:=Tryz.sizeOf3
 v3:=Tryz.zeroValue3
 t4:=Tryz.underlying4
 a4:=Tryz.isAgg4
 z4:=Tryz.sizeOf4
 v4:=Tryz.zeroValue4
 t9:=Tryz.underlying9
 a9:=Tryz.isAgg9
 z9:=Tryz.sizeOf9
 v9:=Tryz.zeroValue9
 t31:=Tryz.underlying25
 a31:=Tryz.isAgg25
 z31:=Tryz.sizeOf25
 v31:=Tryz.zeroValue25 }
open Go.RowKit Go.Lib Go.Sort in
open Go.RowKit Go.Lib Go.Sort in
theorem Tryz.slices_Compact_string (blk off cap:Nat) (zs:List (List UInt8)) (w:World) (hH:Holds encStr w blk off zs.toArray) (hsz:zs.length≤9223372036854775807) (hcap:zs.length≤cap) :
 Calls Tryz.prog 81 #[.slice (some ⟨blk,off,none⟩) zs.length cap] w fun e w'=>e = .returned (.slice (some ⟨blk,off,none⟩) (Lib.compact zs).length cap)∧∃ q,w'=putRow encStr (Sort.ahead w q) blk off (Lib.compact zs++List.replicate (zs.length - (Lib.compact zs).length) []).toArray:=Any.slices_Compact_string Tryz.lays194 blk off cap zs w hH hsz hcap
open Go.RowKit Go.Lib Go.Sort in
theorem Tryz.slices_Compact_string_empty (a:Option Addr) (cap:Nat) (w:World) :
 Calls Tryz.prog 81 #[.slice a 0 cap] w fun e w'=>e = .returned (.slice a 0 cap)∧w'=w:=Any.slices_Compact_string_empty Tryz.lays194 a cap w
open Go.RowKit Go.Lib Go.Sort in
open Go.RowKit Go.Lib Go.Sort in
open Go.RowKit Go.Sort in
theorem Tryz.slices_Sort_string_none (p:Option Addr) (cap:Nat) (w:World) :
 Calls Tryz.prog 80 #[.slice p 0 cap] w fun e w'=>e = .returned (.tuple #[])∧w'=w:=Any.slices_Sort_string_none Tryz.lays190 p cap w
open Go.RowKit Go.Sort in
theorem Tryz.slices_Sort_int_none (p:Option Addr) (cap:Nat) (w:World) :
 Calls Tryz.prog 112 #[.slice p 0 cap] w fun e w'=>e = .returned (.tuple #[])∧w'=w:=Any.slices_Sort_int_none Tryz.lays189 p cap w
end Go.Proofs
namespace Go.Proofs.YtkgfdgfhpdhhaaaGreat
open Go.ChangeShapes Go.WideShapes Go.RowKit Go.Shelf Go.Sort
attribute [local go_sem] Oper.semAt_some
set_option maxRecDepth 100000
set_option maxHeartbeats 4000000
def strV (x:List UInt8):Value:= .string ⟨x.toArray⟩
def pnames (l:List T):List (List UInt8):=(l.filter (fun t=>t.kind==3)).map T.name
def namesT (t:T):List (List UInt8):=Lib.compact ((pnames (allT t)).mergeSort fun x y=>decide (x≤y))
theorem wpListIn_append_known {F:Fence} {n:Nat} {P:Program} {w:World} {ops:Array Oper} {rest:List Oper} {o:Oper} {a:Act} {Q:Exit→Act→World→Prop} (hgd:o.guard=none) (sl x:Operand) (t u:TypeId)
 (ho:o.op = .call { callee:= .builtin .append,args:=#[sl,x],argTypes:=#[t,u] }) (v xv:Value) (hs:a.eval sl=v) (hx:a.eval x=xv) (v':Value) (w':World)
 (hr:(Builtin.append_ #[t,u] o.type #[v,xv]).run P w = .ok v' w') (h:wpListIn F n P ops Q rest (a.put o.dst v') w'):wpListIn F n P ops Q (o::rest) a w:=by
 refine wpListIn_plain hgd fun K hK=>?_
 unfold Oper.wpIn
 refine ⟨?_,?_⟩
 ·simp [Oper.about,ho,resolve,Target.leads,Sem.run_pure]
 ·rw [Oper.semAt_plain F _ _ (by rw [ho];intro c hc';cases hc')]
  simp [execOp,ho,resolve,invoke,builtin,hs,hx,hr,Result.andThen]
  exact hK _ _ h
theorem Tryz.info9:(Tryz.prog.info? 9).map (fun i=>(i.zero,i.size,i.bytes))=some (some (.string ⟨#[]⟩),1,16):=by kernel_rfl
theorem info9_parts:∃ i,Tryz.prog.info? 9=some i∧i.zero=some (.string ⟨#[]⟩)∧i.size=1∧i.bytes=16:=by
 have h:=Tryz.info9
 cases hi:Tryz.prog.info? 9 with
 | none=>rw [hi] at h;simp at h
 | some i=>rw [hi] at h;simp at h;exact ⟨i,rfl,h.1,h.2.1,h.2.2⟩
theorem append9 {B:Nat} {w:World} {v:Value} {n:Nat} {xs:List Value} {g c:Nat} {y:ByteArray} (h:w.ownsRow B 9 1 v n xs) (hB:B≤w.heap.size) (hn:n≤100000000) (hg:w.heap[g]? = some (.cells #[.string y] c (0,0))) :
 ∃ g' cap w',(Builtin.append_ #[25,25] 25 #[v,.slice (some ⟨g,0,none⟩) 1 1]).run Tryz.prog w = .ok (.slice (some ⟨g',0,none⟩) (n+1) cap) w'∧w'.ownsRow B 9 1 (.slice (some ⟨g',0,none⟩) (n+1) cap) (n+1) (xs++[.string y])∧w.grownBy w' v.ownBlock∧(v.ownBlock=some g'∨g'=w.heap.size)∧g' < w'.heap.size:=by
 obtain ⟨i,hi,hz,hs,hb⟩:=info9_parts
 exact run_append_lies (P:=Tryz.prog) w 25 25 B 9 i _ 1 16 Tryz.underlying25 hi hz hs hb rfl (by decide) v n _ h ⟨g,0,none⟩ 1 1 [.string y] rfl
  (fun j u hj=>by rw [Go.WideShapes.add_plain,Nat.zero_add];exact cell_row hg j (by simpa using hj)) (by intro u hu;simp at hu;subst hu;rfl) (by decide) (by unfold maxLen;omega) (by omega) hB _ rfl
theorem holds_row {W:World} {B g n cap:Nat} {L:List (List UInt8)} (h:W.ownsRow B 9 1 (.slice (some ⟨g,0,none⟩) n cap) n (L.map strV)):Holds encStr W g 0 L.toArray:=by
 intro j hj
 have hj':j < L.length:=by simpa using hj
 refine ⟨?_,?_⟩
 ·rw [Nat.zero_add]
  have e:L.toArray[j]! = L[j]:=by rw [getElem!_pos _ j hj];simp
  rw [e]
  exact ownsRow_at h (by rw [List.getElem?_map,List.getElem?_eq_getElem hj'];rfl)
 ·rw [Nat.zero_add]
  exact ownsRow_frozen h j
theorem holds_chg {W W':World} {g:Nat} {d:Array (List UInt8)} (h:Holds encStr W g 0 d) (hc:Chg Nob W W'):Holds encStr W' g 0 d:=by
 intro j hj
 obtain ⟨h1,h2⟩:=h j hj
 refine ⟨hc.cell' h1 (fun e=>e),?_⟩
 have hb:=hc.block g (World.block_lt_of_cell? _ _ h1) (fun e=>e)
 unfold World.frozen? at h2 ⊢
 show (match W'.heap[g]? with | _=>_)=false
 rw [hb]
 exact h2
theorem chg_putRow (w:World) (g off:Nat) (d:Array (List UInt8)):Chg (At1 g) w (putRow encStr w g off d):=by
 refine ⟨rfl,rfl,rfl,by simp,fun k _ hn=>?_⟩
 unfold putRow mapBlock
 rw [Array.getElem?_modify,if_neg (fun e=>hn e.symm)]
theorem chg_ahead (w:World) (n:Nat):Chg Nob w (Sort.ahead w n):=⟨rfl,rfl,rfl,Nat.le_refl _,fun _ _ _=>rfl⟩
theorem chg_grow (w:World) (os:Array Obj):Chg Nob w (grow w os):=by
 have:=below_regrown w w.drawn os
 exact Chg.of_below this
theorem pnames_snoc (l:List T) (x:T):pnames (l++[x])=pnames l++(if x.kind==3 then [x.name] else []):=by
 unfold pnames
 rw [List.filter_append,List.map_append]
 congr 1
 cases h:(x.kind==3) <;> simp [h]
theorem pnames_length (l:List T):(pnames l).length≤l.length:=by
 unfold pnames
 rw [List.length_map]
 exact List.length_filter_le _ _
def NmRow (B:Nat) (l:List T) (sl:Value) (W:World):Prop:=W.ownsRow B 9 1 sl (pnames l).length ((pnames l).map strV)
def NmI (w:World) (pre:List (T × Value)) (W:World):Prop:=∃ sl,W.heap[w.heap.size+1]? = some (.cells #[sl] 25 (0,0))∧NmRow w.heap.size (pre.map (·.1)) sl W∧Chg Nob w W
def NmX (_:Code) (_:List (T × Value)) (_:World):Prop:=False
def NamesPost (t:T) (w:World) (e:Ending) (w':World):Prop:=Chg Nob w w'∧∃ sl,e = .returned sl∧Texts w' sl (namesT t)
theorem nm_steps {w A B:World} {pre:List (T × Value)} {m:Nat} (h:NmI w pre A) (hs:Steps E9 w.heap.size m A B) (hm:w.heap.size+2≤m):NmI w pre B:=by
 obtain ⟨sl,h1,h2,h3⟩:=h
 refine ⟨sl,Chg.at hs h1 (fun e=>by have:=e.1;omega),?_,chg_steps h3 hs (by omega)⟩
 refine ownsRow_chg h2 hs (fun k hk e=>?_)
 obtain ⟨cs,m',hb⟩:=ownsRow_block h2 k hk
 exact e.2 ⟨_,hb,(h2.lt k hk).1,_,_,_,rfl,rfl⟩
theorem names_any (R:Nat→Prop) (t:T) (v:Value) (w:World) (ht:IsTree R w t v) (hN:sizeT t≤1000000) (hR:∀ b,R b→b < w.heap.size) :
 Calls Tryz.prog 45 #[v] w (NamesPost t w):=by
 obtain ⟨a,b,c,hv⟩:=ht.agg
 have Ht:=Lib.hid ht
 clear ht
 subst hv
 refine (callsIn_wide (n:=5)).1 (callsIn_of_wp_marks Tryz.func45 rfl trivial ?_ rfl)
 simp only [Tryz.ntmps45,List.size_toArray,List.length_cons,List.length_nil,Nat.reduceAdd,Nat.reduceSub,Array.replicate_succ,Array.replicate_zero,List.push_toArray,List.append_toArray,List.nil_append,List.cons_append]
 gi_wp2
 refine ⟨trivial,(callsIn_wide.2 (parts_any (.agg #[a,b,c]) a b c rfl _)).mono ?_⟩
 rintro e w1 ⟨rfl,rfl⟩
 gi_wp2
 have hw2:Chg Nob w ((w.alloc (.cells #[a,b,c] 24)).alloc (.cells #[.slice none 0 0] 25)):=((Chg.refl _ _).alloc _).alloc _
 have hs2:((w.alloc (.cells #[a,b,c] 24)).alloc (.cells #[.slice none 0 0] 25)).heap.size=w.heap.size+1+1:=by simp
 have hit:=parts_of (n:=4) (by omega) (V0:=fun k=>k=w.heap.size+1) (rfl:Value.agg #[a,b,c]=_) Ht.out hN hR hw2 hs2 (by rintro k rfl;omega)
 have hcnt:=heap_alloc_new (w.alloc (.cells #[a,b,c] 24)) (.cells #[.slice none 0 0] 25)
 rw [World.size_alloc] at hcnt
 have hcnt3:=((Chg.refl Nob _).alloc (.cells #[a,b,c] 24)).at hcnt (fun e=>e)
 have hw3:Chg Nob w (((w.alloc (.cells #[a,b,c] 24)).alloc (.cells #[.slice none 0 0] 25)).alloc (.cells #[a,b,c] 24)):=hw2.alloc _
 have hs3:(((w.alloc (.cells #[a,b,c] 24)).alloc (.cells #[.slice none 0 0] 25)).alloc (.cells #[a,b,c] 24)).heap.size=w.heap.size+3:=by simp
 have htr:=preT_tree t (.agg #[a,b,c]) (Ht.out.nob hw3)
 have hall:=preT_all (((w.alloc (.cells #[a,b,c] 24)).alloc (.cells #[.slice none 0 0] 25)).alloc (.cells #[a,b,c] 24)) t (.agg #[a,b,c])
 clear hcnt
 generalize (((w.alloc (.cells #[a,b,c] 24)).alloc (.cells #[.slice none 0 0] 25)).alloc (.cells #[a,b,c] 24))=W3 at *
 have Htr:=Lib.hid htr
 have Hall:=Lib.hid hall
 clear htr hall
 have hI0:NmI w [] W3:=⟨_,hcnt3,⟨rfl,.inl ⟨rfl,rfl⟩⟩,hw3⟩
 refine range_iter (E:=E9) (n0:=w.heap.size) (gf:=133) (by omega) rfl (enters_of Tryz.func133 (by kernel_rfl) rfl) hit (by rintro k rfl;omega) (fun _=>rfl)
  (NmI w) NmX ?_ ?_ hI0 ?_ ?_ ?_
 ·intro pre A B h hs
  exact nm_steps h hs (by omega)
 ·intro c pre A B h hs
  exact h.elim
 ·rintro l pre ⟨x,xv⟩ W hI hpre hsz
  have hxm:(x,xv)∈preT W3 t (.agg #[a,b,c]):=hpre.subset (by simp)
  have htx:IsTree R W3 x xv:=Htr.out _ hxm
  have hpl:pre.length≤1000000:=by
   have h1:=hpre.length_le
   rw [pre_length,List.length_append] at h1
   omega
  obtain ⟨ao,cap,rfl,hxl,_⟩:=htx.parts
  clear htx hxm
  simp only [zip1,List.setIfInBounds_toArray,List.set_cons_succ,List.set_cons_zero]
  gi_wp2
  refine ⟨Keeps.of_chg ((Chg.refl _ _).alloc _),fun w₂ hc2 hst2=>?_⟩
  have hI1:NmI w pre (W.alloc (.cells #[.int .i64 x.kind,.string ⟨x.name.toArray⟩,.slice ao x.kids.length cap] 24)):=nm_steps hI (Steps.nob ((Chg.refl _ _).alloc _):Steps E9 w.heap.size (W3.heap.size+1) W _) (by omega)
  have hI2:NmI w pre w₂:=nm_steps hI1 hst2 (by omega)
  obtain ⟨sl,hl1,hl2,hl3⟩:=hI2
  have hbx:=Chg.at hc2 (heap_alloc_new W _) (fun e=>by have e:W.heap.size=W3.heap.size+1:=e;omega)
  obtain ⟨c0,c1,c2,_⟩:=cells_three hbx
  have r0:=cell_row hl1 0 (v:=sl) rfl
  have r1:w₂.frozen? ⟨w.heap.size+1,0,none⟩=false:=by simp [World.frozen?,hl1]
  have hmap:(pre++[(x,Value.agg #[.int .i64 x.kind,.string ⟨x.name.toArray⟩,.slice ao x.kids.length cap])]).map (·.1)=pre.map (·.1)++[x]:=by simp
  have hsn:=pnames_snoc (pre.map (·.1)) x
  clear hI hI1 hc2 hst2 hit hpre hbx hw2 hs2 hcnt3 hw3 hI0
  cases h3:(x.kind==3) with
  | false =>
    have Hfin:Hid (Keeps E9 w.heap.size (fun k=>k=w.heap.size+1) w₂ w₂∧NmI w (pre++[(x,Value.agg #[.int .i64 x.kind,.string ⟨x.name.toArray⟩,.slice ao x.kids.length cap])]) w₂):=by
     refine ⟨Keeps.of_chg (Chg.refl _ _),sl,hl1,?_,hl3⟩
     unfold NmRow
     rw [hmap,hsn,h3]
     unfold NmRow at hl2
     simpa using hl2
    clear hsn hmap hl1 hl2 hl3
    gi_wp2
    exact Hfin.out
  | true =>
    have hpn:(pnames (pre.map (·.1))).length≤1000000:=by have:=pnames_length (pre.map (·.1));rw [List.length_map] at this;omega
    have hA:Chg Nob w₂ (w₂.alloc (.cells #[.string ⟨x.name.toArray⟩] 9)):=(Chg.refl _ _).alloc _
    obtain ⟨g',cap',w6,hrun,hrow6,hgr,hlies,hg6⟩:=append9 (ownsRow_chg hl2 hA (fun _ _ e=>e)) (by rw [World.size_alloc];have:=hl3.size;omega) (by omega) (heap_alloc_new w₂ (.cells #[.string ⟨x.name.toArray⟩] 9))
    have hown:∀ k,sl.ownBlock=some k→w.heap.size≤k∧k < w₂.heap.size:=fun k hk=>hl2.lt k hk
    have hc26:Chg (fun k=>sl.ownBlock=some k) w₂ w6:=(hA.any (S:=fun k=>sl.ownBlock=some k)).trans1 ((Chg.refl _ _).grown hgr (fun q hq _=>hq))
    have hne:sl.ownBlock≠some (w.heap.size+1):=fun e=>by
     obtain ⟨cs,m',hb⟩:=ownsRow_block hl2 _ e
     rw [hl1] at hb;simp at hb
    have hl6:=hc26.at hl1 hne
    have hset:Chg (At1 (w.heap.size+1)) w6 (w6.setCell ⟨w.heap.size+1,0,none⟩ (.slice (some ⟨g',0,none⟩) ((pnames (pre.map (·.1))).length+1) cap')):=(Chg.refl (At1 (w.heap.size+1)) _).setCell (p:=⟨w.heap.size+1,0,none⟩) (fun _=>rfl) _
    have hg'lo:=hrow6.lt g' rfl
    have hg'ne:g'≠w.heap.size+1:=fun e=>by
     rcases hlies with h | h
     ·exact hne (by rw [h,e])
     ·rw [World.size_alloc] at h;have:=(Array.getElem?_eq_some_iff.1 hl1).1;omega
    have Hfin:Hid (Keeps E9 w.heap.size (fun k=>k=w.heap.size+1) w₂ (w6.setCell ⟨w.heap.size+1,0,none⟩ (.slice (some ⟨g',0,none⟩) ((pnames (pre.map (·.1))).length+1) cap')) ∧
     NmI w (pre++[(x,Value.agg #[.int .i64 x.kind,.string ⟨x.name.toArray⟩,.slice ao x.kids.length cap])]) (w6.setCell ⟨w.heap.size+1,0,none⟩ (.slice (some ⟨g',0,none⟩) ((pnames (pre.map (·.1))).length+1) cap'))):=by
     refine ⟨⟨Nat.le_trans hc26.size hset.size,fun k o ho hv hs=>?_⟩,_,block_one_set hl6,?_,?_⟩
     ·refine hset.at (hc26.at ho (fun e=>?_)) hv
      obtain ⟨cs,m',hb⟩:=ownsRow_block hl2 k e
      rw [hb] at ho
      cases ho
      exact hs ⟨(hown k e).1,_,_,_,rfl,rfl⟩
     ·unfold NmRow
      rw [hmap,hsn,h3,if_pos rfl,List.length_append,List.map_append]
      refine ownsRow_chg hrow6 hset (fun k hk e=>?_)
      have hk:g'=k:=by simpa [Value.ownBlock] using hk
      have e:k=w.heap.size+1:=e
      omega
     ·refine ((hl3.any (S:=fun k=>sl.ownBlock=some k)).trans1 hc26 |>.mono (S':=Nob) (fun i hi e=>by have:=(hown i e).1;omega)).trans hset (fun i hi e=>by have e:i=w.heap.size+1:=e;omega)
    obtain ⟨y0,y1⟩:w6.cell? ⟨w.heap.size+1,0,none⟩=some sl∧w6.frozen? ⟨w.heap.size+1,0,none⟩=false:=⟨cell_row hl6 0 rfl,by simp [World.frozen?,hl6]⟩
    have Hrun:=Lib.hid hrun
    clear hsn hmap hl1 hl2 hl3 hrun hrow6 hgr hlies hown hc26 hset hA hl6 hg'lo hg'ne
    gi_wp2_with (refine wpListIn_append_known rfl _ _ 25 25 rfl _ _ rfl rfl _ w6 Hrun.out ?_)
    exact Hfin.out
 ·rintro W ⟨sl,h1,h2,h3⟩ hd
  rw [Hall.out] at h2
  have hL:(pnames (allT t)).length≤1000000:=by have:=pnames_length (allT t);rw [allT_length] at this;omega
  obtain ⟨L,hLe⟩:∃ L,L=pnames (allT t):=⟨_,rfl⟩
  have hNm:namesT t=Lib.compact (L.mergeSort fun x y=>decide (x≤y)):=by rw [hLe];rfl
  unfold NmRow at h2
  rw [← hLe] at h2 hL
  have HNm:=Lib.hid hNm
  have HS3:=Lib.hid hs3
  clear hLe hNm hit hw2 hs2 hcnt3 hI0 hs3
  have r0:=cell_row h1 0 (v:=sl) rfl
  rcases Nat.eq_zero_or_pos L.length with h0 | hpos
  ·obtain rfl:L=[]:=List.length_eq_zero_iff.1 h0
   obtain ⟨ao,cp,rfl⟩:=ownsRow_shape h2
   have Hd:=Lib.hid hd
   have H3:=Lib.hid h3
   clear h0 h1 h2 h3 hd
   gi_wp2_with fail
   refine ⟨trivial,(callsIn_wide.2 (Tryz.slices_Sort_string_none ao cp W)).mono ?_⟩
   rintro e w6 ⟨rfl,rfl⟩
   gi_wp2_with fail
   refine ⟨trivial,(callsIn_wide.2 (Tryz.slices_Compact_string_empty ao cp _)).mono ?_⟩
   rintro e w7 ⟨rfl,rfl⟩
   gi_wp2
   refine leaves_one Hd.out (fun W' hc'=>⟨_,results_tmp rfl _ _ _,H3.out.trans hc' (fun i hi e=>by have e:i=W3.heap.size:=e;have:=HS3.out;omega),_,rfl,?_⟩)
   have hnil:namesT t=[]:=by rw [HNm.out];simp [Lib.compact,Lib.compactUpTo]
   rw [hnil]
   exact ⟨ao,cp,rfl,by simp,fun j x hx=>by simp at hx⟩
  ·obtain ⟨g,cap,rfl,_⟩:=ownsRow_some h2 hpos
   have hcap:=ownsRow_cap h2
   have hg:=h2.lt g rfl
   have hgne:g≠w.heap.size+1:=fun e=>by
    obtain ⟨cs,m',hb⟩:=ownsRow_block h2 g rfl
    rw [e,h1] at hb;simp at hb
   have hgd:g≠W3.heap.size:=fun e=>by
    obtain ⟨cs,m',hb⟩:=ownsRow_block h2 g rfl
    rw [e,hd] at hb;simp at hb
   have hH:=holds_row h2
   have hsort:=Tryz.slices_Sort_string g 0 cap L W hH hg.2 (by omega)
   have hml:(L.mergeSort fun x y=>decide (x≤y)).length=L.length:=List.length_mergeSort _
   have hcl:=Lib.compact_length_le (L.mergeSort fun x y=>decide (x≤y))
   have Hd:=Lib.hid hd
   have H3:=Lib.hid h3
   have H1:=Lib.hid h1
   have HH:=Lib.hid hH
   clear h1 h2 h3 hd hH
   gi_wp2_with fail
   refine ⟨trivial,(callsIn_wide.2 hsort).mono ?_⟩
   rintro e w6 ⟨rfl,q,os,hw6⟩
   have hc6:Chg (At1 g) W w6:=by
    rw [hw6]
    exact ((chg_ahead W q).any.trans1 (chg_putRow _ g 0 _)).trans1 (chg_grow _ os).any
   have hH6:Holds encStr w6 g 0 (L.mergeSort fun x y=>decide (x≤y)).toArray:=by
    rw [hw6]
    exact holds_chg (holds_putRow _ _ _ _ _ _ (holds_ahead _ _ _ _ _ _ HH.out) (by simp [hml])) (chg_grow _ os)
   have hl6:=hc6.at H1.out (fun e=>hgne e.symm)
   have hd6:=hc6.at Hd.out (fun e=>hgd e.symm)
   have y0:=cell_row hl6 0 (v:= .slice (some ⟨g,0,none⟩) L.length cap) rfl
   obtain ⟨Z,hZ⟩:∃ Z,Z=L.mergeSort fun x y=>decide (x≤y):=⟨_,rfl⟩
   rw [← hZ] at hH6 hml hcl HNm
   have hcomp:=Tryz.slices_Compact_string g 0 cap Z w6 hH6 (by omega) (by omega)
   rw [hml] at hcomp
   have Hml:=Lib.hid hml
   have Hcl:=Lib.hid hcl
   clear hw6 hsort hZ hl6 hml
   gi_wp2_with fail
   refine ⟨trivial,(callsIn_wide.2 hcomp).mono ?_⟩
   rintro e w7 ⟨rfl,q7,hw7⟩
   have hc7:Chg (At1 g) w6 w7:=by
    rw [hw7]
    exact (chg_ahead w6 q7).any.trans1 (chg_putRow _ g 0 _)
   have Hd7:=Lib.hid (hc7.at hd6 (fun e=>hgd e.symm))
   have Ht:Hid (∀ j x,(Lib.compact Z)[j]? = some x→w7.cell? ⟨g,0+j,none⟩=some (.string ⟨x.toArray⟩)):=fun j x hx=>by
    rw [hw7]
    have hjl:=(List.getElem?_eq_some_iff.1 hx).1
    have hsz:(Lib.compact Z++List.replicate (L.length - (Lib.compact Z).length) []).toArray.size=Z.toArray.size:=by
     have:=Hml.out
     simp;omega
    have:=cell?_putRow encStr (Sort.ahead w6 q7) g 0 Z.toArray (Lib.compact Z++List.replicate (L.length - (Lib.compact Z).length) []).toArray (holds_ahead _ _ _ _ _ _ hH6) hsz j (by simp;omega)
    rw [this]
    congr 1
    rw [getElem!_pos _ j (by simp;omega)]
    have e2:(Lib.compact Z++List.replicate (L.length - (Lib.compact Z).length) [])[j]? = some x:=by rw [List.getElem?_append_left hjl];exact hx
    obtain ⟨_,e3⟩:=List.getElem?_eq_some_iff.1 e2
    simp only [List.getElem_toArray]
    rw [e3]
   have Hc7:Hid (Chg Nob w w7):=(H3.out.any (S:=At1 g)).trans1 (hc6.trans1 hc7) |>.mono (fun i hi e=>by have e:i=g:=e;omega)
   clear hw7 hcomp hc6 hc7 hd6 hH6
   gi_wp2
   refine leaves_one Hd7.out (fun W' hc'=>⟨_,results_tmp rfl _ _ _,Hc7.out.trans hc' (fun i hi e=>by have e:i=W3.heap.size:=e;have:=HS3.out;omega),_,rfl,?_⟩)
   rw [HNm.out]
   refine ⟨some ⟨g,0,none⟩,cap,rfl,by have:=Hcl.out;have:=Hml.out;omega,fun j x hx=>⟨g,0,rfl,hc'.cell' (Ht.out j x hx) (fun e=>hgd e)⟩⟩
 ·intro c pre W hpre h hd
  exact h.elim
end Go.Proofs.YtkgfdgfhpdhhaaaGreat
namespace Go.Proofs.YtkgfdgfhpdhhaaaGreat
open Go.ChangeShapes Go.WideShapes Go.RowKit
set_option maxRecDepth 100000
set_option maxHeartbeats 2000000
mutual
def sameT:T→T→Bool
 | .node k nm kids,.node k2 nm2 kids2=>(k==k2)&&(nm==nm2)&&sameL kids kids2
def sameL:List T→List T→Bool
 | [],[]=>true
 | t::ts,u::us=>sameT t u&&sameL ts us
 | _,_=>false
end
theorem sameT_eq (t u:T):sameT t u=((t.kind==u.kind)&&(t.name==u.name)&&sameL t.kids u.kids):=by
 cases t;cases u;rw [sameT];rfl
mutual
theorem sameT_iff:∀ t u:T,sameT t u=true↔t=u
 | .node k nm kids,.node k2 nm2 kids2=>by
   rw [sameT,Bool.and_eq_true,Bool.and_eq_true,beq_iff_eq,beq_iff_eq,sameL_iff kids kids2]
   constructor
   ·rintro ⟨⟨rfl,rfl⟩,rfl⟩;rfl
   ·intro h;cases h;exact ⟨⟨rfl,rfl⟩,rfl⟩
theorem sameL_iff:∀ l m:List T,sameL l m=true↔l=m
 | [],[]=>by rw [sameL];simp
 | t::ts,u::us=>by
   rw [sameL,Bool.and_eq_true,sameT_iff t u,sameL_iff ts us]
   constructor
   ·rintro ⟨rfl,rfl⟩;rfl
   ·intro h;cases h;exact ⟨rfl,rfl⟩
 | [],_::_=>by rw [sameL] <;> simp
 | _::_,[]=>by rw [sameL] <;> simp
end
theorem sameT_refl (t:T):sameT t t=true:=(sameT_iff t t).2 rfl
theorem sameL_len {l m:List T} (h:l.length≠m.length):sameL l m=false:=by
 rw [Bool.eq_false_iff]
 intro e
 exact h (by rw [(sameL_iff l m).1 e])
theorem sameL_at {l m:List T} {j:Nat} {t u:T} (ht:l[j]? = some t) (hu:m[j]? = some u) (h:sameT t u=false):sameL l m=false:=by
 rw [Bool.eq_false_iff]
 intro e
 have:=(sameL_iff l m).1 e
 subst this
 rw [ht] at hu
 cases hu
 rw [sameT_refl] at h
 cases h
theorem sameL_all {l m:List T} (hl:l.length=m.length) (h:∀ j t u,j < l.length→l[j]? = some t→m[j]? = some u→sameT t u=true):sameL l m=true:=by
 rw [sameL_iff]
 apply List.ext_getElem? 
 intro j
 rcases Nat.lt_or_ge j l.length with hj | hj
 ·have h1:=List.getElem?_eq_getElem hj
  have h2:=List.getElem?_eq_getElem (l:=m) (i:=j) (by omega)
  rw [h1,h2,(sameT_iff _ _).1 (h j _ _ hj h1 h2)]
 ·rw [List.getElem?_eq_none hj,List.getElem?_eq_none (by omega)]
def SameC (f:Nat) (t:T):Prop:=∀ (R1 R2:Nat→Prop) (u:T) (v1 v2:Value) (w:World),IsTree R1 w t v1→IsTree R2 w u v2→Calls Tryz.prog f #[v1,v2] w fun e w'=>e = .returned (.bool (sameT t u))∧Chg Nob w w'
theorem equal_any (ts us:List T) (h:∀ t∈ts,SameC 138 t) (R1 R2:Nat→Prop) (a1 a2:Option Addr) (c1 c2:Nat) (w:World) (hk1:IsKids R1 w a1 0 ts) (hk2:IsKids R2 w a2 0 us) (hl1:ts.length≤9223372036854775807) (_hl2:us.length≤9223372036854775807) :
 Calls Tryz.prog 176 #[.slice a1 ts.length c1,.slice a2 us.length c2,.func (.func 138) #[] #[]] w fun e w'=>e = .returned (.bool (sameL ts us))∧Chg Nob w w':=by
 have Hk1:=Lib.hid hk1
 have Hk2:=Lib.hid hk2
 have Hh:=Lib.hid h
 clear hk1 hk2 h
 by_cases hlen:ts.length=us.length
 ·have hle:((ts.length:Int) != (us.length:Int))=false:=by rw [hlen];simp
  have hle2:((ts.length:Int)==(us.length:Int))=true:=by rw [hlen];simp
  have Hlen:=Lib.hid hlen
  clear hlen
  go_enter Tryz.func176,Tryz.ntmps176
  go_wp2_with fail
  go_loopw [17] (fun i wr=>∃ j:Nat,i = .int .i64 j∧j≤ts.length∧Hid (∀ q t u,q < j→ts[q]? = some t→us[q]? = some u→sameT t u=true)∧Chg Nob w wr) (fun i _=>ts.length - (intOf i).toNat)
  case atStart=>exact ⟨0,rfl,Nat.zero_le _,fun q t u h=>absurd h (Nat.not_lt_zero q),Chg.refl _ _⟩
  case round =>
   obtain ⟨j,rfl,hj,hall,hc⟩:=hrel
   by_cases hlt:j < ts.length
   ·obtain ⟨t,ht⟩:∃ t,ts[j]? = some t:=⟨_,List.getElem?_eq_getElem hlt⟩
    have hltu:j < us.length:=by have:=Hlen.out;omega
    obtain ⟨u,hu⟩:∃ u,us[j]? = some u:=⟨_,List.getElem?_eq_getElem hltu⟩
    obtain ⟨b1,o1,ak1,cap1,hao1,_,p0,p1,p2,_,_,htr1⟩:=Hk1.out.kid ht
    obtain ⟨b2,o2,ak2,cap2,hao2,_,q0,q1,q2,_,_,htr2⟩:=Hk2.out.kid hu
    have p0':=hc.cell' p0 (fun e=>e)
    have p1':=hc.cell' p1 (fun e=>e)
    have p2':=hc.cell' p2 (fun e=>e)
    have hA:Chg Nob wr (wr.alloc (.cells #[.int .i64 t.kind,.string ⟨t.name.toArray⟩,.slice ak1 t.kids.length cap1] 24)):=(Chg.refl _ _).alloc _
    have hA2:Chg Nob wr ((wr.alloc (.cells #[.int .i64 t.kind,.string ⟨t.name.toArray⟩,.slice ak1 t.kids.length cap1] 24)).alloc (.cells #[.int .i64 u.kind,.string ⟨u.name.toArray⟩,.slice ak2 u.kids.length cap2] 24)):=hA.alloc _
    have q0':=(hc.trans1 hA).cell' q0 (fun e=>e)
    have q1':=(hc.trans1 hA).cell' q1 (fun e=>e)
    have q2':=(hc.trans1 hA).cell' q2 (fun e=>e)
    have hcall:=Hh.out t (List.mem_of_getElem? ht) R1 R2 u _ _ _ (htr1.nob (hc.trans1 hA2)) (htr2.nob (hc.trans1 hA2))
    have hki:(j:Int) < (ts.length:Int):=by omega
    have hku:(j:Int) < (us.length:Int):=by omega
    have hk0:(0:Int)≤(j:Int):=by omega
    have Ht:=Lib.hid ht
    have Hu:=Lib.hid hu
    clear p0 p1 p2 q0 q1 q2 htr1 htr2 ht hu
    subst hao1 hao2
    go_wp2_with fail
    (with_reducible refine hcall.mono ?_)
    clear hcall
    rintro e w3 ⟨rfl,hc3⟩
    have hcw:=(hc.trans1 hA2).trans1 hc3
    cases hs:sameT t u with
    | true =>
      clear p0' p1' p2' q0' q1' q2'
      go_wp2_with fail
      go_roundw
      case rel=>first | exact ⟨j+1,by go_num,by omega,(show ∀ q t u,q < j+1→ts[q]? = some t→us[q]? = some u→sameT t u=true from fun q t' u' hq h1 h2=>by
       by_cases e:q=j
       ·subst e
        rw [Ht.out] at h1;cases h1
        rw [Hu.out] at h2;cases h2
        exact hs
       ·exact hall.out q t' u' (by omega) h1 h2),hcw⟩ | ((repeat apply Exists.intro);exact ⟨⟨j+1,by go_num,by omega,(show ∀ q t u,q < j+1→ts[q]? = some t→us[q]? = some u→sameT t u=true from fun q t' u' hq h1 h2=>by
       by_cases e:q=j
       ·subst e
        rw [Ht.out] at h1;cases h1
        rw [Hu.out] at h2;cases h2
        exact hs
       ·exact hall.out q t' u' (by omega) h1 h2),hcw⟩,rfl⟩)
      case measure=>simp [intOf];omega
    | false =>
      have Hr:=Lib.hid (sameL_at Ht.out Hu.out hs)
      clear p0' p1' p2' q0' q1' q2'
      go_wp2
      go_ret
      exact ⟨by rw [Hr.out];rfl,hcw⟩
   ·obtain rfl:j=ts.length:=by omega
    have Hr:=Lib.hid (sameL_all Hlen.out (fun q t u hq h1 h2=>hall.out q t u hq h1 h2))
    go_wp2
    go_ret
    exact ⟨by rw [Hr.out];rfl,hc⟩
 ·have hle:((ts.length:Int) != (us.length:Int))=true:=by simp;omega
  have hle2:((ts.length:Int)==(us.length:Int))=false:=by simp;omega
  have Hr:=Lib.hid (sameL_len hlen)
  clear hlen
  go_enter Tryz.func176,Tryz.ntmps176
  go_wp2
  go_ret
  exact ⟨by rw [Hr.out];rfl,Chg.refl _ _⟩
theorem same_any:∀ t:T,SameC 138 t:=by
 refine kid_induct ?_
 intro t ih R1 R2 u v1 v2 w ht hu
 obtain ⟨a1,c1,rfl,hl1,hk1⟩:=ht.parts
 obtain ⟨a2,c2,rfl,hl2,hk2⟩:=hu.parts
 have hA2:Chg Nob w ((w.alloc (.cells #[.int .i64 t.kind,.string ⟨t.name.toArray⟩,.slice a1 t.kids.length c1] 24)).alloc (.cells #[.int .i64 u.kind,.string ⟨u.name.toArray⟩,.slice a2 u.kids.length c2] 24)):=((Chg.refl _ _).alloc _).alloc _
 have hcall:=equal_any t.kids u.kids ih R1 R2 a1 a2 c1 c2 _ (IsKids.mono (fun _a _ _ hv=>hA2.cell' hv (fun e=>e)) (fun _ e=>e) _ _ _ hk1) (IsKids.mono (fun _a _ _ hv=>hA2.cell' hv (fun e=>e)) (fun _ e=>e) _ _ _ hk2) hl1 hl2
 have Heq:=Lib.hid (sameT_eq t u)
 clear ih ht hu hk1 hk2
 cases hk:(t.kind==u.kind) with
 | false =>
   have Hr:Hid (sameT t u=false):=by show _=_;rw [Heq.out,hk];rfl
   go_enter Tryz.func138,Tryz.ntmps138
   go_wp2
   go_ret
   exact ⟨by rw [Hr.out];rfl,hA2⟩
 | true =>
   cases hn:(t.name==u.name) with
   | false =>
     have Hr:Hid (sameT t u=false):=by show _=_;rw [Heq.out,hk,hn];rfl
     go_enter Tryz.func138,Tryz.ntmps138
     go_wp2
     go_ret
     exact ⟨by rw [Hr.out];rfl,hA2⟩
   | true =>
     have Hr:Hid (sameT t u=sameL t.kids u.kids):=by show _=_;rw [Heq.out,hk,hn];rfl
     go_enter Tryz.func138,Tryz.ntmps138
     go_wp2_with fail
     (with_reducible refine hcall.mono ?_)
     clear hcall
     rintro e w3 ⟨rfl,hc3⟩
     go_wp2
     go_ret
     exact ⟨by rw [Hr.out];rfl,hA2.trans1 hc3⟩
set_option maxRecDepth 512
theorem norm_post {t:T} {w w':World} {e:Ending} (h:NormPost t w e w'):Chg Nob w w'∧∃ ao cap,Fresh (Ge w.heap.size) w' (normT t) (.agg #[.int .i64 (normT t).kind,.string ⟨(normT t).name.toArray⟩,.slice ao (normT t).kids.length cap])∧e = .returned (.tuple #[.agg #[.int .i64 (normT t).kind,.string ⟨(normT t).name.toArray⟩,.slice ao (normT t).kids.length cap],.int .i64 (normN t)]):=by
 obtain ⟨hc,v,hF,rfl⟩:=h
 obtain ⟨ao,cap,rfl⟩:=hF.agg
 exact ⟨hc,ao,cap,hF,rfl⟩
theorem own:ownKnob Tryz.prog.godebug=none:=by kernel_rfl
theorem laidOut:laidOutB Tryz.prog=true:=by kernel_rfl
theorem tree_zero {R:Nat→Prop} {w:World}:IsTree R w (.node 0 [] []) (.agg #[.int .i64 0,.string ⟨#[]⟩,.slice none 0 0]):=by
 rw [IsTree]
 exact ⟨none,0,rfl,by simp,by rw [IsKids];trivial⟩
theorem great_size {t:T} (h:¬ greatT t 100000≤0):sizeT t≤100000:=by
 have:=greatT_pos t 100000 (by omega) (by omega)
 have:=greatT_le t 100000 (by omega)
 omega
end Go.Proofs.YtkgfdgfhpdhhaaaGreat
namespace Go.Proofs.YtkgfdgfhpdhhaaaGreat
theorem allT_one (k:Int) (a:T):allT (.node k [] [a]) = .node k [] [a]::allT a:=by
 rw [allT,allL,allL,List.append_nil]
theorem allT_two (k:Int) (a b:T):allT (.node k [] [a,b]) = .node k [] [a,b]::(allT a++allT b):=by
 rw [allT,allL,allL,allL,List.append_nil]
theorem allT_leaf (k:Int) (n:List UInt8):allT (.node k n [])=[.node k n []]:=by
 rw [allT,allL]
theorem flip_1 (no:Bool):flipK 1 no=1∨flipK 1 no=2:=by cases no <;> simp [flipK]
theorem flip_2 (no:Bool):flipK 2 no=1∨flipK 2 no=2:=by cases no <;> simp [flipK]
theorem flip_two {k:Int} (h:k=8∨k=9∨k=12∨k=13) (no:Bool):flipK k no=8∨flipK k no=9∨flipK k no=12∨flipK k no=13:=by
 rcases h with rfl | rfl | rfl | rfl <;> cases no <;> simp [flipK]
end Go.Proofs.YtkgfdgfhpdhhaaaGreat
namespace Go.Proofs.YtkgfdgfhpdhhaaaGreat
open Go.ChangeShapes Go.WideShapes Go.RowKit
def TI (w:World) (t:T) (v:Value):Prop:=IsTree (fun b=>b < w.heap.size) w t v
theorem TI.nob {w w':World} {t:T} {v:Value} (h:TI w t v) (hc:Chg Nob w w'):TI w' t v:=IsTree.mono (fun _ _ _ hv=>hc.cell' hv (fun e=>e)) (fun _ hb=>Nat.lt_of_lt_of_le hb hc.size) t v h
theorem TI.zero (w:World):TI w (.node 0 [] []) (.agg #[.int .i64 0,.string ⟨#[]⟩,.slice none 0 0]):=tree_zero
theorem TI.agg {w:World} {t:T} {v:Value} (h:TI w t v):∃ ao cap,v = .agg #[.int .i64 t.kind,.string ⟨t.name.toArray⟩,.slice ao t.kids.length cap]:=by
 obtain ⟨ao,cap,e,_,_⟩:=h.parts
 exact ⟨ao,cap,e⟩
theorem same_ti {t u:T} {v1 v2:Value} {w:World} (h1:TI w t v1) (h2:TI w u v2):Calls Tryz.prog 138 #[v1,v2] w fun e w'=>e = .returned (.bool (sameT t u))∧Chg Nob w w':=same_any t _ _ u v1 v2 w h1 h2
theorem box_one (w:World) (a0 a1 a2:Value):∃ X,X=w.alloc (.cells #[a0,a1,a2] 24)∧Chg Nob w X∧X.heap.size=w.heap.size+1∧X.heap[w.heap.size]? = some (.cells #[a0,a1,a2] 24 (0,0)):=⟨_,rfl,(Chg.refl _ _).alloc _,World.size_alloc _ _,heap_alloc_new _ _⟩
theorem box_kid (w:World) (a0 a1 a2 b0 b1 b2:Value):∃ X,X=(w.alloc (.cells #[a0,a1,a2] 24)).alloc (.cells #[b0,b1,b2] 24)∧Chg Nob w X∧X.heap.size=w.heap.size+2∧X.heap[w.heap.size]? = some (.cells #[a0,a1,a2] 24 (0,0))∧X.heap[w.heap.size+1]? = some (.cells #[b0,b1,b2] 24 (0,0)):=by
 have h1:=heap_alloc_new (w.alloc (.cells #[a0,a1,a2] 24)) (.cells #[b0,b1,b2] 24)
 rw [World.size_alloc] at h1
 exact ⟨_,rfl,((Chg.refl _ _).alloc _).alloc _,by rw [World.size_alloc,World.size_alloc],((Chg.refl Nob _).alloc _).at (heap_alloc_new w _) (fun e=>e),h1⟩
end Go.Proofs.YtkgfdgfhpdhhaaaGreat
