/- The walk. -/
import Derived.Test.YtkkimgjinbaemaaGreatKaj
noncomputable section
namespace Go.Proofs.YtkkimgjinbaemaaGreat
open Go.RowKit
set_option linter.unusedVariables false
set_option linter.unusedSimpArgs false
set_option linter.defProp false
set_option linter.unusedSectionVars false
set_option maxRecDepth 100000
set_option maxHeartbeats 4000000
section
def Wt (cur:Array Value) (n i:Nat):Array Value:=(cur.toList.take ((i+1)*5)++(cur.toList.drop (i*5)).take ((n - i)*5)++cur.toList.drop ((i+1)*5+((cur.toList.drop (i*5)).take ((n - i)*5)).length)).toArray
def Ma (cur vs:Array Value) (i:Nat):Array Value:=(cur.toList.take (i*5)++vs.toList.take 5++cur.toList.drop (i*5+(vs.toList.take 5).length)).toArray
variable {cur:Array Value}
theorem Abt {n i c:Nat} (hs:cur.size=c*5) (hi:i<n) (hn:n+1<=c):(Wt cur n i).size=c*5:=by
 simp[Wt];omega
variable {w:World} {ty:TypeId}
theorem Al8 {b:Nat} {f:Nat×Nat} (h:w.heap[b]? = some (.cells cur ty f)):w.shape? b=some (ty,cur.size):=by simp[World.shape?,h]
theorem Aiq {b o:Nat} (h:w.heap[b]? = some (.cells cur ty (0,0))):w.frozen? ⟨b,o,none⟩=false:=by simp[World.frozen?,h]
theorem Axe (w:World) (b vb vc off la cb:Nat) (cur vcur:Array Value) (hb:w.heap[b]? = some (.cells cur 164 (0,0))) (hvb:w.heap[vb]? = some (.cells vcur 164 (0,0))) (hne:vb≠b) (h0:cur.size≠0) :
 (callFunc 280 #[.slice (some ⟨vb,0,none⟩) 1 vc,.slice (some ⟨b,off,none⟩) la cb]).run Tryz.prog w=.ok (.value (.bool false)) w:=by
 rw[run_callFunc_extern Tryz.func280 (by kernel_rfl) (by kernel_rfl) (by kernel_rfl) (e:=Extern.SlicesOverlaps.overlaps #[67,67] #[4]) (by kernel_rfl),
  Lib.run_overlaps_apart w 67 4 164 (by kernel_rfl) 5 (fun w=>Lx (P:=Tryz.prog) (t:=164) (by kernel_rfl) w) ⟨vb,0,none⟩ ⟨b,off,none⟩ 1 vc la cb hne 164 164 vcur.size cur.size (Al8 hvb) (Al8 hb) h0 (Aiq hvb) (Aiq hvb)]
 rfl
theorem Ar6 (b n c i vb vc:Nat) (cur vcur:Array Value) (w:World) (hi:i<n) (hroom:n+1<=c) (hc:c<=9223372036854775807) (hb:w.heap[b]? = some (.cells cur 164 (0,0))) (hcs:cur.size=c*5) (hvb:w.heap[vb]? = some (.cells vcur 164 (0,0))) (hvs:5<=vcur.size) (hne:vb≠b)
 (h1:∀j,j<n*5->∀v,cur[j]? = some v->v.oneCell'=true) (h1v:∀j,j<5->∀v,vcur[j]? = some v->v.oneCell'=true) :
  Calls Tryz.prog 266 #[.slice (some ⟨b,0,none⟩) n c,.int .i64 i,.slice (some ⟨vb,0,none⟩) 1 vc] w fun e w' =>
   e=.returned (.slice (some ⟨b,0,none⟩) (n+1) c)/\w'=(w.drew.setRow b (Wt cur n i)).setRow b (Ma (Wt cur n i) vcur i):=by
 have hu:Tryz.prog.underlying 67=some (.slice 164):=by kernel_rfl
 have hsz:(Tryz.prog.info? 164).map (·.size)=some 5:=by kernel_rfl
 have hz2:¬((i:Int)=(n:Int)):=by omega
 have hov:∀la cb,(callFunc 280 #[.slice (some ⟨vb,0,none⟩) 1 vc,.slice (some ⟨b,(i+1)*5,none⟩) la cb]).run Tryz.prog w=.ok (.value (.bool false)) w:=fun la cb=>Axe w b vb vc _ la cb cur vcur hb hvb hne (by omega)
 have hw1:IntKind.i64.wrap ((i:Int)+1)=(i:Int)+1:=by rw[IntKind.wrap_i64];omega
 have hl1:((cur.toList.drop (i*5)).take ((n - i)*5)).length=(n - i)*5:=by simp;omega
 have hcp1:∀ty dc sc,(Builtin.copy_ #[67,67] ty #[.slice (some ⟨b,(i+1)*5,none⟩) (n - i) dc,.slice (some ⟨b,i*5,none⟩) (n+1 - i) sc]).run Tryz.prog w.drew=.ok (goInt ((n - i:Nat):Int)) (w.drew.setRow b (Wt cur n i)):=fun ty dc sc=>by
  have hm:Nat.min (n+1 - i) (n - i)=n - i:=by show min _ _=_;omega
  have h:=Ln (P:=Tryz.prog) w.drew 67 67 ty 164 5 b ((i+1)*5) (n - i) dc ⟨b,i*5,none⟩ (n+1 - i) sc cur 164 ((cur.toList.drop (i*5)).take ((n - i)*5)) hu hsz hb (by rw[hl1,hm]) (fun j v hj=>by
   have hj':j<(n - i)*5:=by rw[<- hl1];exact (Ab.1 hj).1
   rw[Ag hj',Bd] at hj
   rw[Addr.add_lit,cell_of_row w.drew b _ cur 164 (0,0) hb]
   simpa using hj) (by rw[hl1];omega) (fun v hv=>by
   obtain⟨j,hj⟩:=A3.1 hv
   have hj':j<(n - i)*5:=by rw[<- hl1];exact (Ab.1 hj).1
   rw[Ag hj',Bd] at hj
   exact h1 (i*5+j) (by omega) v (by simpa using hj))
  rw[hm] at h
  exact h
 have hcp2:∀(W:World),W.heap[b]? = some (.cells (Wt cur n i) 164 (0,0))->W.heap[vb]? = some (.cells vcur 164 (0,0))->∀ty dc,(Builtin.copy_ #[67,67] ty #[.slice (some ⟨b,i*5,none⟩) (n+1 - i) dc,.slice (some ⟨vb,0,none⟩) 1 vc]).run Tryz.prog W=.ok (goInt 1) (W.setRow b (Ma (Wt cur n i) vcur i)):=fun W hWb hWv ty dc=>by
  have hm:Nat.min 1 (n+1 - i)=1:=by show min _ _=_;omega
  have hl2:(vcur.toList.take 5).length=5:=by simp;omega
  have h:=Ln (P:=Tryz.prog) W 67 67 ty 164 5 b (i*5) (n+1 - i) dc ⟨vb,0,none⟩ 1 vc (Wt cur n i) 164 (vcur.toList.take 5) hu hsz hWb (by rw[hl2,hm]) (fun j v hj=>by
   have hj':j<5:=by rw[<- hl2];exact (Ab.1 hj).1
   rw[Ag hj'] at hj
   rw[Addr.add_lit,cell_of_row W vb _ vcur 164 (0,0) hWv]
   simpa using hj) (by rw[hl2,Abt hcs hi hroom];omega) (fun v hv=>by
   obtain⟨j,hj⟩:=A3.1 hv
   have hj':j<5:=by rw[<- hl2];exact (Ab.1 hj).1
   rw[Ag hj'] at hj
   exact h1v j hj' v (by simpa using hj))
  rw[hm] at h
  exact h
 have hW1:(w.drew.setRow b (Wt cur n i)).heap[b]? = some (.cells (Wt cur n i) 164 (0,0)):=setRow_heap w.drew b cur _ _ (0,0) hb
 have hW2:(w.drew.setRow b (Wt cur n i)).heap[vb]? = some (.cells vcur 164 (0,0)):=(setRow_other w.drew b vb _ hne).trans hvb
 have hin:i<=n:=by omega
 have hb1:(0:Int)<=(i:Int)+1:=by omega
 have htn:((i:Int)+1).toNat=i+1:=by omega
 have hb2:¬(c=i+1):=by omega
 have hb3:(i:Int)<=(n:Int)+1:=by omega
 have hb4:¬(c=i):=by omega
 have mixed:Tryz.prog.follows Departure.mixedOrders=true:=by kernel_rfl
 go_enter Tryz.func266,Tryz.ntmps266
 go_wp2_with (simp only[hov])
 go_region_law_o (refine step_copy_runI rfl _ _ 67 67 rfl _ _ (by simp[Act.eval,Act.put]) (by simp[Act.eval,Act.put]) (hcp1 _ _ _) ?_)
 go_wp2_with (at_builtin;refine wpList_copy_runI _ rfl _ _ 67 67 rfl _ _ rfl rfl (hcp2 _ hW1 hW2 _ _) ?_)
 go_ret
 exact⟨rfl,rfl⟩
def Adw (row cur:Array Value) (n i:Nat):Array Value:=(row.toList.take ((i+1)*5)++(cur.toList.drop (i*5)).take ((n - i)*5)++row.toList.drop ((i+1)*5+((cur.toList.drop (i*5)).take ((n - i)*5)).length)).toArray
theorem Aan (w:World) (R Y:Array Value) (e:TypeId):(w.alloc (.cells R e)).setRow w.heap.size Y=w.alloc (.cells Y e):=by
 unfold World.alloc World.setRow
 congr 1
 apply Array.ext_getElem?
 intro j
 rw[Array.getElem?_modify,Array.getElem?_push,Array.getElem?_push]
 by_cases hj:w.heap.size=j
 ·subst hj;simp
 rw[if_neg hj,if_neg (fun e=>hj e.symm),if_neg (fun e=>hj e.symm)]
theorem Anl (w:World) (o:Obj):(w.alloc o).heap[w.heap.size]? = some o:=by show (w.heap.push o)[w.heap.size]? = some o;simp
theorem Acy (w:World) (o:Obj) {b:Nat} {x:Obj} (h:w.heap[b]? = some x):(w.alloc o).heap[b]? = some x:=by
 have hb:=(Aw.1 h).1
 rw[show (w.alloc o).heap=w.heap.push o from rfl,Array.getElem?_push,if_neg (by omega),h]
theorem Aux (b n c i vb vc:Nat) (cur vcur:Array Value) (w:World) (hi:i<n) (hnc:n<=c) (hroom:c<n+1) (hbig:n<=1000) (hb:w.heap[b]? = some (.cells cur 164 (0,0))) (hcs:cur.size=c*5) (hvb:w.heap[vb]? = some (.cells vcur 164 (0,0))) (hvs:5<=vcur.size)
 (h1:∀j,j<n*5->∀v,cur[j]? = some v->v.oneCell'=true) (h1v:∀j,j<5->∀v,vcur[j]? = some v->v.oneCell'=true) :
  Calls Tryz.prog 266 #[.slice (some ⟨b,0,none⟩) n c,.int .i64 i,.slice (some ⟨vb,0,none⟩) 1 vc] w fun e w' =>
   ∃(ROW:Array Value) (G k:Nat),ROW.size=G*5/\n+1<=G/\G<=maxLen/\(∀j,j<i*5->ROW[j]? = cur[j]?)/\e=.returned (.slice (some ⟨w.heap.size,0,none⟩) (n+1) G)/\w'={ w.alloc (.cells (Adw (Ma ROW vcur i) cur n i) 164) with drawn:=k }:=by
 have hu:Tryz.prog.underlying 67=some (.slice 164):=by kernel_rfl
 have hu3:Tryz.prog.underlying 3=some (.int .i64):=by kernel_rfl
 have hsz:(Tryz.prog.info? 164).map (·.size)=some 5:=by kernel_rfl
 have hbt:(Tryz.prog.info? 164).map (fun i=>decide (i.bytes<=1000))=some true:=by kernel_rfl
 obtain⟨i0,z,hi0,hz0,hzs,hzc,_,_⟩:=P7 (P:=Tryz.prog) (t:=164) (by kernel_rfl)
 have hzs:i0.size=5:=by rw[hi0] at hsz;simpa using hsz
 have hzc:z.cells.size=5:=by rw[hzc,<- hzs];simp[Ge,hi0]
 have hby:i0.bytes<=1000:=by rw[hi0] at hbt;simpa using hbt
 have hz2:¬((i:Int)=(n:Int)):=by omega
 have hz3:(c:Int)<(n:Int)+1:=by omega
 have hkk:(n:Int)+1 - (i:Int)=((n+1 - i:Nat):Int):=by omega
 have hik:i+(n+1 - i)=n+1:=by omega
 have hbw:b<w.heap.size:=(Aw.1 hb).1
 have hvw:vb<w.heap.size:=(Aw.1 hvb).1
 have htk:(cur.toList.take (i*5)).length=i*5:=by simp;omega
 have hold:(Builtin.firstCells i0.size i (.slice (some ⟨b,0,none⟩) i c)).run Tryz.prog w.drew=.ok (cur.toList.take (i*5)).toArray w.drew:=by
  rw[hzs]
  exact run_firstCells_some w.drew 5 i ⟨b,0,none⟩ i c (cur.toList.take (i*5)) htk (fun j v hj=>by
   have hj':j<i*5:=by rw[<- htk];exact (Ab.1 hj).1
   rw[Ag hj'] at hj
   rw[Addr.add_lit,cell_of_row w.drew b _ cur 164 (0,0) hb]
   simpa using hj)
 obtain⟨G,hG⟩:∃G,G=grownCap w (n+1) c 164:=⟨_,rfl⟩
 obtain⟨ROW,hROW⟩:∃ROW:Array Value,ROW=(cur.toList.take (i*5)).toArray++Builtin.zeroCells z.cells (n+1 - i)++Builtin.zeroCells z.cells (G - (n+1)):=⟨_,rfl⟩
 have hGn:n+1<=G:=by rw[hG];exact grownCap_ge w _ _ _
 have hGm:G<=maxLen:=by rw[hG];exact grownCap_le_maxLen w (n+1) c 164 (by unfold maxLen;omega)
 have hG63:G<=9223372036854775807:=by unfold maxLen at hGm;omega
 have hbn:(n+1)*i0.bytes<=140737488355328:=Ak (Nat.mul_le_mul (show n+1<=1001 by omega) hby) (by decide)
 have hRs:ROW.size=G*5:=by
  rw[hROW]
  simp[size_zeroCells,hzc,Nat.min_eq_left (show i*5<=cur.size by omega)]
  omega
 have hRc:∀j,j<i*5->ROW[j]? = cur[j]?:=fun j hj=>by
  rw[hROW,Array.append_assoc,Bk (by simp;omega)]
  simp[Ag hj]
 have hrz:∀ty,(Builtin.append_ #[67,3] ty #[.slice (some ⟨b,0,none⟩) i c,.int .i64 ((n:Int)+1 - (i:Int))]).run Tryz.prog w=.ok (.slice (some ⟨w.heap.size,0,none⟩) (n+1) G) (w.drew.alloc (.cells ROW 164)):=fun ty=>by
  have h:=Lib.run_append_grow_zeros w 67 3 ty 164 i0 z .i64 .i64 hu hu3 hi0 hz0 (some ⟨b,0,none⟩) i c (cur.toList.take (i*5)) hold (n+1 - i) (by omega) (by omega) (by omega) (by omega) (Ak (Nat.mul_le_mul (show n+1 - i<=1001 by omega) hby) (by decide)) (by rw[hik];exact growslice_fits hroom hbn)
  rw[hik,<- hG,<- hROW] at h
  rw[hkk]
  exact h
 have hl2:(vcur.toList.take 5).length=5:=by simp;omega
 have hl1:((cur.toList.drop (i*5)).take ((n - i)*5)).length=(n - i)*5:=by simp;omega
 have hBs:(Ma ROW vcur i).size=G*5:=by simp[Ma];omega
 have hcpA:∀(W:World),W.heap[w.heap.size]? = some (.cells ROW 164 (0,0))->W.heap[vb]? = some (.cells vcur 164 (0,0))->∀ty dc,(Builtin.copy_ #[67,67] ty #[.slice (some ⟨w.heap.size,i*5,none⟩) (n+1 - i) dc,.slice (some ⟨vb,0,none⟩) 1 vc]).run Tryz.prog W=.ok (goInt ((1:Nat):Int)) (W.setRow w.heap.size (Ma ROW vcur i)):=fun W hWb hWv ty dc=>by
  have hm:Nat.min 1 (n+1 - i)=1:=by show min _ _=_;omega
  have h:=Ln (P:=Tryz.prog) W 67 67 ty 164 5 w.heap.size (i*5) (n+1 - i) dc ⟨vb,0,none⟩ 1 vc ROW 164 (vcur.toList.take 5) hu hsz hWb (by rw[hl2,hm]) (fun j v hj=>by
   have hj':j<5:=by rw[<- hl2];exact (Ab.1 hj).1
   rw[Ag hj'] at hj
   rw[Addr.add_lit,cell_of_row W vb _ vcur 164 (0,0) hWv]
   simpa using hj) (by rw[hl2,hRs];omega) (fun v hv=>by
   obtain⟨j,hj⟩:=A3.1 hv
   have hj':j<5:=by rw[<- hl2];exact (Ab.1 hj).1
   rw[Ag hj'] at hj
   exact h1v j hj' v (by simpa using hj))
  rw[hm] at h
  exact h
 have hcpB:∀(W:World),W.heap[w.heap.size]? = some (.cells (Ma ROW vcur i) 164 (0,0))->W.heap[b]? = some (.cells cur 164 (0,0))->∀ty dc sc,(Builtin.copy_ #[67,67] ty #[.slice (some ⟨w.heap.size,(i+1)*5,none⟩) (n - i) dc,.slice (some ⟨b,i*5,none⟩) (n - i) sc]).run Tryz.prog W=.ok (goInt ((n - i:Nat):Int)) (W.setRow w.heap.size (Adw (Ma ROW vcur i) cur n i)):=fun W hWn hWb ty dc sc=>by
  have hm:Nat.min (n - i) (n - i)=n - i:=by show min _ _=_;omega
  have h:=Ln (P:=Tryz.prog) W 67 67 ty 164 5 w.heap.size ((i+1)*5) (n - i) dc ⟨b,i*5,none⟩ (n - i) sc (Ma ROW vcur i) 164 ((cur.toList.drop (i*5)).take ((n - i)*5)) hu hsz hWn (by rw[hl1,hm]) (fun j v hj=>by
   have hj':j<(n - i)*5:=by rw[<- hl1];exact (Ab.1 hj).1
   rw[Ag hj',Bd] at hj
   rw[Addr.add_lit,cell_of_row W b _ cur 164 (0,0) hWb]
   simpa using hj) (by rw[hl1,hBs];omega) (fun v hv=>by
   obtain⟨j,hj⟩:=A3.1 hv
   have hj':j<(n - i)*5:=by rw[<- hl1];exact (Ab.1 hj).1
   rw[Ag hj',Bd] at hj
   exact h1 (i*5+j) (by omega) v (by simpa using hj))
  rw[hm] at h
  exact h
 have hbN:b≠w.heap.size:=by omega
 have hE1:((w.alloc (.cells ROW 164)).drew).heap[w.heap.size]? = some (.cells ROW 164 (0,0)):=Anl w.drew _
 have hE2:((w.alloc (.cells ROW 164)).drew).heap[vb]? = some (.cells vcur 164 (0,0)):=Acy w.drew _ hvb
 have hE3:((w.alloc (.cells ROW 164)).drew).heap[b]? = some (.cells cur 164 (0,0)):=Acy w.drew _ hb
 have hF1:(((w.alloc (.cells ROW 164)).drew.setRow w.heap.size (Ma ROW vcur i)).drew).heap[w.heap.size]? = some (.cells (Ma ROW vcur i) 164 (0,0)):=setRow_heap _ _ _ (Ma ROW vcur i) _ _ hE1
 have hF2:(((w.alloc (.cells ROW 164)).drew.setRow w.heap.size (Ma ROW vcur i)).drew).heap[b]? = some (.cells cur 164 (0,0)):=(setRow_other _ w.heap.size b (Ma ROW vcur i) hbN).trans hE3
 have hfin:∀(d:Nat),((({ w.drew.alloc (.cells ROW 164) with drawn:=d }:World).setRow w.heap.size (Ma ROW vcur i)).setRow w.heap.size (Adw (Ma ROW vcur i) cur n i))={ w.alloc (.cells (Adw (Ma ROW vcur i) cur n i) 164) with drawn:=d }:=fun d=>by
  have e1:=Aan { w with drawn:=d } ROW (Ma ROW vcur i) 164
  have e2:=Aan { w with drawn:=d } (Ma ROW vcur i) (Adw (Ma ROW vcur i) cur n i) 164
  show ((({ w with drawn:=d }:World).alloc (.cells ROW 164)).setRow w.heap.size (Ma ROW vcur i)).setRow w.heap.size _=({ w with drawn:=d }:World).alloc _
  rw[show (w.heap.size)=({ w with drawn:=d }:World).heap.size from rfl,e1,e2]
 have hw1:IntKind.i64.wrap ((i:Int)+1)=(i:Int)+1:=by rw[IntKind.wrap_i64];omega
 have hb1:(0:Int)<=(i:Int)+1:=by omega
 have hin:i<=n:=by omega
 have htn:((i:Int)+1).toNat=i+1:=by omega
 have hb3:(i:Int)<=(n:Int):=by omega
 have hGi:¬(G=i):=by omega
 have hGim:¬(G=i+1):=by omega
 have hci:¬(c=i):=by omega
 have mixed:Tryz.prog.follows Departure.mixedOrders=true:=by kernel_rfl
 clear hkk hik hold hROW hG hBs hl1 hl2
 go_enter Tryz.func266,Tryz.ntmps266
 have h9:=hcpA _ hE1 hE2 3 (G - i)
 go_wp2_with (first
  | (at_builtin;refine Lib.wpList_append_run _ rfl _ _ _ _ rfl _ _ rfl rfl _ _ (hrz _) ?_)
  | simp only[h9])
 go_region_law_o (refine step_copy_runI rfl _ _ 67 67 rfl (.slice (some ⟨w.heap.size,(i+1)*5,none⟩) (n - i) (G - (i+1))) (.slice (some ⟨b,i*5,none⟩) (n - i) (c - i)) (by simp[Act.eval,Act.put]) (by simp[Act.eval,Act.put]) (hcpB _ hF1 hF2 3 (G - (i+1)) (c - i)) ?_)
 go_wp2
 go_ret
 refine⟨ROW,G,w.drawn+1+1,hRs,hGn,hGm,hRc,rfl,?_⟩
 exact hfin (w.drawn+1+1)
end
section
structure Ax0 (cur vcur cur':Array Value) (n i:Nat):Prop where
  lo:∀j,j<i*5->cur'[j]? = cur[j]?
  at':∀j,j<5->cur'[i*5+j]? = vcur[j]?
  hi:∀j,i*5<=j->j<n*5->cur'[j+5]? = cur[j]?
variable {i:Nat}
theorem Am7 {row vs:Array Value} (h5:5<=vs.size) (hr:i*5+5<=row.size) (p:Nat):(Ma row vs i)[p]? = if i*5<=p/\p<i*5+5 then vs[p - i*5]? else row[p]?:=by
 have hl:(vs.toList.take 5).length=5:=by simp;omega
 unfold Ma
 rw[Od row (i*5) (vs.toList.take 5) (by rw[hl];exact hr),hl]
 split
 ·next h=>rw[Ag (by omega)];simp
 rfl
variable {row cur:Array Value}
theorem Am6 {n i:Nat} (hi:i<n) (hc:n*5<=cur.size) (hr:(n+1)*5<=row.size) (p:Nat):(Adw row cur n i)[p]? = if (i+1)*5<=p/\p<(n+1)*5 then cur[p - 5]? else row[p]?:=by
 have hl:((cur.toList.drop (i*5)).take ((n - i)*5)).length=(n - i)*5:=by simp;omega
 unfold Adw
 rw[Od row ((i+1)*5) _ (by rw[hl];omega),hl]
 by_cases h:(i+1)*5<=p/\p<(n+1)*5
 ·rw[if_pos ⟨h.1,by omega⟩,if_pos h,Ag (by omega),Bd,show i*5+(p - (i+1)*5)=p - 5 by omega]
  simp
 rw[if_neg (by omega),if_neg h]
theorem Aql (cur:Array Value) (n i:Nat):Wt cur n i=Adw cur cur n i:=rfl
theorem Ao7 {cur vcur:Array Value} {n i c:Nat} (hi:i<n) (hc:n+1<=c) (hs:cur.size=c*5) (hv:5<=vcur.size):Ax0 cur vcur (Ma (Wt cur n i) vcur i) n i:=by
 have h1:=Abt hs hi hc
 have hB:=Am7 (row:=Wt cur n i) (i:=i) hv (by rw[h1];omega)
 have hD:=Am6 (row:=cur) (cur:=cur) hi (by omega) (by omega)
 refine⟨fun j hj=>?_,fun j hj=>?_,fun j h2 h3=>?_⟩
 ·rw[hB,if_neg (by omega),Aql,hD,if_neg (by omega)]
 ·rw[hB,if_pos (by omega),show i*5+j - i*5=j by omega]
 rw[hB,if_neg (by omega),Aql,hD,if_pos (by omega),show j+5 - 5=j by omega]
theorem Ar9 {n i:Nat} (hi:i<n) (hc:n*5<=cur.size) (hr:(n+1)*5<=row.size):(Adw row cur n i).size=row.size:=by
 have hl:((cur.toList.drop (i*5)).take ((n - i)*5)).length=(n - i)*5:=by simp;omega
 exact G7 row ((i+1)*5) _ (by rw[hl];omega)
theorem Abs {row vs:Array Value} (h5:5<=vs.size) (hr:i*5+5<=row.size):(Ma row vs i).size=row.size:=by
 have hl:(vs.toList.take 5).length=5:=by simp;omega
 exact G7 row (i*5) _ (by rw[hl];exact hr)
theorem Ar8 {cur vcur ROW:Array Value} {n i G c:Nat} (hi:i<n) (hG:n+1<=G) (hR:ROW.size=G*5) (hs:cur.size=c*5) (hc:n<=c) (hv:5<=vcur.size) (hRc:∀j,j<i*5->ROW[j]? = cur[j]?):Ax0 cur vcur (Adw (Ma ROW vcur i) cur n i) n i:=by
 have h1:=Abs (row:=ROW) (i:=i) hv (by omega)
 have hB:=Am7 (row:=ROW) (i:=i) hv (by omega)
 have hD:=Am6 (row:=Ma ROW vcur i) (cur:=cur) hi (by omega) (by rw[h1];omega)
 refine⟨fun j hj=>?_,fun j hj=>?_,fun j h2 h3=>?_⟩
 ·rw[hD,if_neg (by omega),hB,if_neg (by omega),hRc j hj]
 ·rw[hD,if_neg (by omega),hB,if_pos (by omega),show i*5+j - i*5=j by omega]
 rw[hD,if_pos (by omega),show j+5 - 5=j by omega]
variable {l:List Ew}
theorem Al7 {q:Nat} {e:List T} (h:(G6 l)[q]? = some e):e.length=5:=by
 obtain⟨r,_,rfl⟩:=Qk h
 rfl
theorem Ar7 {R:T->Value->Prop} {cur vcur cur':Array Value} {x:Ew} (hi:i<l.length) (hP:Ax0 cur vcur cur' l.length i) (h0:∀(q:Nat) (e:List T) (s:Nat) (y:T),(G6 l)[q]? = some e->e[s]? = some y->∃u,cur[q*5+s]? = some u/\R y u) (h1:∀(q:Nat) (e:List T) (s:Nat) (y:T),(G6 [x])[q]? = some e->e[s]? = some y->∃u,vcur[q*5+s]? = some u/\R y u) :
  ∀(q:Nat) (e:List T) (s:Nat) (y:T),(G6 (l.take i++x::l.drop i))[q]? = some e->e[s]? = some y->∃u,cur'[q*5+s]? = some u/\R y u:=by
 intro q e s y he hy
 have hs:s<5:=by rw[<- Al7 he];exact (Ab.1 hy).1
 obtain⟨r,hr,rfl⟩:=Qk he
 have htl:(l.take i).length=i:=by simp;omega
 by_cases hq:q<i
 ·rw[Au (by omega),Ag hq] at hr
  obtain⟨u,h2,h3⟩:=h0 q r.t s y (by rw[Ap,hr];rfl) hy
  exact⟨u,by rw[hP.lo _ (by omega)];exact h2,h3⟩
 rw[Ao (by omega),htl] at hr
 by_cases hqi:q=i
 ·subst hqi
  rw[Nat.sub_self] at hr
  simp at hr
  subst hr
  obtain⟨u,h2,h3⟩:=h1 0 x.t s y rfl hy
  exact⟨u,by rw[hP.at' s hs];simpa using h2,h3⟩
 obtain⟨p,rfl⟩:∃p,q=p+1:=⟨q - 1,by omega⟩
 rw[show p+1 - i=(p - i)+1 by omega,Bb,Bd,show i+(p - i)=p by omega] at hr
 have hp:p<l.length:=(Ab.1 hr).1
 obtain⟨u,h2,h3⟩:=h0 p r.t s y (by rw[Ap,hr];rfl) hy
 exact⟨u,by rw[show (p+1)*5+s=(p*5+s)+5 by omega,hP.hi _ (by omega) (by omega)];exact h2,h3⟩
theorem Eo.slots {E:Gi} {β:Nat->Option Nat} {st:St} {a:Act} {w:World} (r:Eo E β st a w) {m:Nat} {sl:List (Nat×AV)} {us:Array Value} (hm:us.size=m) (hsl:∀t,Ea (E.C β st w) (Ez sl t) (us.getD t undef)):Eo { E with n:=m } β ⟨sl,st.ob⟩ ⟨us,a.defers⟩ w :=
 ⟨hm,hsl,r.df,r.ob,r.inj,r.rng,r.kp,r.ct,r.kb,r.dk⟩
theorem Agl.of {C:VC} {id n ty k:Nat} {fr fz:Bool} {es:List (List T)} {b c:Nat} {cur:Array Value} (ho:C.ob id=.row ty k fr fz es) (hn:n=es.length) (hb:C.β id=some b) (hc:C.h[b]? = some (.cells cur ty (0,0))) (hs:cur.size=c*k):Agl C id n (.slice (some ⟨b,0,none⟩) n c) :=
 ⟨rfl,ty,k,fr,fz,es,ho,by omega,fun _=>by rw[hb];exact⟨c,cur,hc,hs,rfl⟩⟩
theorem Ajm (l:List Ew) (x:Ew) (i:Nat) (hi:i<l.length) (hl:l.length<=1000) (f1 f2:Bool):PP 266 [.row 164 5 f1 false (G6 l),.row 164 5 f2 false (G6 [x])] [.own 0 l.length,.li i,.own 1 1] [.row 164 5 false false (G6 (l.take i++x::l.drop i)),.row 164 5 f2 false (G6 [x])] (.own 0 (l.length+1)):=by
 refine⟨⟨_,Tryz.func266,rfl,rfl⟩,fun E β us hn ho hβ r=>?_⟩
 have hsz:us.size=3:=r.sz.trans hn
 have ho0:(St.mk (Hr 0 [AV.own 0 l.length,.li i,.own 1 1]) [.row 164 5 f1 false (G6 l),.row 164 5 f2 false (G6 [x])]).o 0=.row 164 5 f1 false (G6 l):=rfl
 have ho1:(St.mk (Hr 0 [AV.own 0 l.length,.li i,.own 1 1]) [.row 164 5 f1 false (G6 l),.row 164 5 f2 false (G6 [x])]).o 1=.row 164 5 f2 false (G6 [x]):=rfl
 have hlen:l.length=(G6 l).length:=(A2 _).symm
 obtain⟨u0,hu0⟩:∃u,us[0]? = some u:=⟨us[0],Al (by omega)⟩
 obtain⟨u1,hu1⟩:∃u,us[1]? = some u:=⟨us[1],Al (by omega)⟩
 obtain⟨u2,hu2⟩:∃u,us[2]? = some u:=⟨us[2],Al (by omega)⟩
 have hus:us = #[u0,u1,u2]:=by
  apply Array.ext_getElem?
  intro j
  match j with
  | 0=>rw[hu0];rfl
  | 1=>rw[hu1];rfl
  | 2=>rw[hu2];rfl
  | j+3=>rw[Array.getElem?_eq_none (by omega)];rfl
 have g0:=r.sl 0
 have g1:=r.sl 1
 have g2:=r.sl 2
 simp only[Av,hu0,hu1,hu2,Bh] at g0 g1 g2
 simp[Hr,Ez] at g0 g1 g2
 cases g0 with
 | own _ _ _ g0 =>
 cases g1 with
 | lit _ =>
 cases g2 with
 | own _ _ _ g2 =>
 rcases r.own_val ho0 g0 hlen with⟨_,he,_⟩ | ⟨b,cur,c,hb,q1,q2,q3,q4,hv0,q5⟩
 ·have:l=[]:=by simpa using he
  rw[this] at hi;simp at hi
 rcases r.own_val ho1 g2 rfl with⟨_,he,_⟩ | ⟨vb,vcur,vc,hvb,p1,p2,p3,p4,hv2,p5⟩
 ·simp at he
 have hne:vb≠b:=fun e=>by
  have:=r.inj 1 0 vb (by rw[ho1];simp) (by rw[ho0];simp) hvb (by rw[e];exact hb)
  omega
 have p3:1<=vc:=by simpa using p3
 rw[<- hlen] at q3
 have hone:∀(cc:Array Value) (es:List Ew) (fr:Bool),(∀(p:Nat) (e:List T) (j:Nat) (y:T),(G6 es)[p]? = some e->e[j]? = some y->∃u,cc[p*5+j]? = some u/\Gh E.w0.heap ((E.C β ⟨Hr 0 [AV.own 0 l.length,.li i,.own 1 1],[.row 164 5 f1 false (G6 l),.row 164 5 f2 false (G6 [x])]⟩ E.w0).S fr) y u)->∀j,j<es.length*5->∀v,cc[j]? = some v->v.oneCell'=true:=fun cc es fr h j hj v hv=>by
  have hq:j / 5<es.length:=by omega
  have he:(G6 es)[j / 5]? = some es[j / 5].t:=by rw[Ap,Aa hq];rfl
  have hj5:j % 5<(es[j / 5].t).length:=by rw[show (es[j / 5].t).length=5 from rfl];omega
  obtain⟨u,h1,h2⟩:=h _ _ (j % 5) _ he (Aa hj5)
  rw[show j / 5*5+j % 5=j by omega,hv] at h1
  injection h1 with h1
  rw[h1]
  exact h2.one
 have hc0:=hone cur l f1 q5
 have hc1:=hone vcur [x] f2 p5
 have hlx:(l.take i++x::l.drop i).length=l.length+1:=by simp;omega
 have hORel:∀(g:Nat) (cur':Array Value) (c':Nat),cur'.size=c'*5->l.length+1<=c'->c'<=maxLen->Ax0 cur vcur cur' l.length i->∀C:VC,Nu (E.C β ⟨Hr 0 [AV.own 0 l.length,.li i,.own 1 1],[.row 164 5 f1 false (G6 l),.row 164 5 f2 false (G6 [x])]⟩ E.w0) C->C.β 0=some g->C.h[g]? = some (.cells cur' 164 (0,0))->J8 C 0 (.row 164 5 false false (G6 (l.take i++x::l.drop i))):=fun g cur' c' h1 h2 h3 hP C s hCβ hCh=>by
  refine⟨⟨by decide,fun q e he=>Al7 he⟩,?_⟩
  rw[hCβ]
  refine⟨cur',c',hCh,h1,by rw[A2,hlx];exact h2,h3,?_⟩
  exact Ar7 hi hP (fun q e s' y he hy=>by
   obtain⟨u,m1,m2⟩:=q5 q e s' y he hy
   exact⟨u,m1,VC.T_weak (s.T m2) fun e=>by cases e⟩) (fun q e s' y he hy=>by
   obtain⟨u,m1,m2⟩:=p5 q e s' y he hy
   exact⟨u,m1,VC.T_weak (s.T m2) fun e=>by cases e⟩)
 rw[hus,hv0,hv2,A2]
 have hv1:5<=vcur.size:=by omega
 by_cases hroom:l.length+1<=c
 ·have hcm:c<=9223372036854775807:=by unfold maxLen at q4;omega
  refine (Ar6 b l.length c i vb vc cur vcur E.w0 hi hroom hcm q1 q2 p1 hv1 hne hc0 (fun j hj v hv=>hc1 j (by simpa using hj) v hv)).mono ?_
  rintro e w' ⟨rfl,rfl⟩
  have hA:=Abt q2 hi hroom
  have hP:=Ao7 hi hroom q2 hv1
  have hB:(Ma (Wt cur l.length i) vcur i).size=c*5:=by rw[Abs hv1 (by rw[hA];omega),hA]
  have k1:=setRow_heap E.w0.drew b cur (Wt cur l.length i) 164 (0,0) q1
  have k2:=setRow_heap _ b _ (Ma (Wt cur l.length i) vcur i) 164 (0,0) k1
  have r1:=(r.drew (E.w0.drawn+1)).change (id:=0) (g:=b) (o:=.row 164 5 false false (G6 (l.take i++x::l.drop i))) (by rw[ho0];rfl) hb q1 k2 (by rw[hB,q2]) (by simp) (fun b' hb'=>(setRow_other _ b b' _ hb').trans (setRow_other _ b b' _ hb')) rfl rfl rfl
   (fun ty cs e=>by rw[ho0] at e;cases e) (fun ty k fr fz es e=>by
    rw[ho0] at e
    injection e with e1 e2 e3 e4 e5
    subst e1 e2 e5
    exact⟨_,_,_,rfl,by rw[A2,A2,hlx];omega⟩) (hORel b _ c hB hroom q4 hP) (.inr trivial)
  refine⟨_,_,rfl,r1.slots (m:=1) (sl:=[(0,.own 0 (l.length+1))]) rfl fun t=>?_⟩
  simp only[Ez]
  by_cases ht:t=0
  ·subst ht
   exact .own _ _ _ (Agl.of rfl (by rw[A2,hlx]) hb k2 hB)
  have:(0 == t)=false:=by simpa using fun e=>ht e.symm
  rw[this]
  exact .any _
 refine (Aux b l.length c i vb vc cur vcur E.w0 hi q3 (by omega) hl q1 q2 p1 hv1 hc0 (fun j hj v hv=>hc1 j (by simpa using hj) v hv)).mono ?_
 rintro e w' ⟨ROW,G,k,n1,n2,n3,n4,rfl,rfl⟩
 have hP:=Ar8 hi n2 n1 q2 q3 hv1 n4
 have hB1:=Abs (row:=ROW) (i:=i) hv1 (by omega)
 have hB:(Adw (Ma ROW vcur i) cur l.length i).size=G*5:=by rw[Ar9 hi (by omega) (by rw[hB1];omega),hB1,n1]
 have r1:=(r.bind (id:=0) (o:=.row 164 5 false false (G6 (l.take i++x::l.drop i))) (.inr ⟨_,_,_,_,_,_,_,_,ho0,rfl,by rw[A2,A2,hlx];omega⟩) (by simp) (Adw (Ma ROW vcur i) cur l.length i) 164 (hORel _ _ G hB n2 n3 hP)).drew k
 refine⟨_,_,rfl,r1.slots (m:=1) (sl:=[(0,.own 0 (l.length+1))]) rfl fun t=>?_⟩
 simp only[Ez]
 by_cases ht:t=0
 ·subst ht
  exact .own _ _ _ (Agl.of rfl (by rw[A2,hlx]) (show upd β 0 E.w0.heap.size 0=some E.w0.heap.size by simp[upd]) (Anl E.w0 _) hB)
 have:(0 == t)=false:=by simpa using fun e=>ht e.symm
 rw[this]
 exact .any _
theorem Ajn (l:List Ew) (x:Ew) (hl:l.length<=1000) (f1 f2:Bool):PP 266 [.row 164 5 f1 false (G6 l),.row 164 5 f2 false (G6 [x])] [.own 0 l.length,.li l.length,.own 1 1] [.row 164 5 false false (G6 (l++[x])),.row 164 5 f2 false (G6 [x])] (.own 0 (l.length+1)):=by
 obtain⟨d,h,_⟩:=Aec (P:=Tryz.prog) (f:=266) (args:=[.own 0 l.length,.li l.length,.own 1 1]) (σa:=[.row 164 5 f1 false (G6 l),.row 164 5 f2 false (G6 [x])]) (D:=Unit) (F:=fun _=>.own 0 (l.length+1)) (S:=fun _=>[.row 164 5 false false (G6 (l++[x])),.row 164 5 f2 false (G6 [x])]) (Q:=fun _=>True) Tryz.func266 rfl rfl rfl (by simp[Tryz.ntmps266]) (by
  refine Bq ?_
  refine Bu Dy ?_
  refine Bq<|.seq ?_
  refine Bq ?_
  refine Cl (fun h16=>?_) (fun h16=>?_)
  ·simp[go_sem] at h16
  refine Bp<|.R<|.seq ?_
  refine Bq ?_
  refine Cl (fun h22=>?_) (fun h22=>?_)
  rotate_left
  ·simp[go_sem] at h22
  refine Bu Dy ?_
  refine Cv 0 rfl ?_
  simp[go_sem]
  refine Bz ⟨(),Tb [0,1] (by simp[go_sem]) (by decide) (fun id h=>by
   match id,h with
   | 0,_=>rfl
   | 1,_=>rfl
   | id+2,h=>exact absurd h (by simp)) (by simp[go_sem]) ?_,trivial⟩
  repeat' (first | exact .nil | refine .cons (by simp[go_sem]) ?_))
 exact h
theorem Alt (l:List Ew) (x:Ew) (i:Nat) (hi:i<=l.length) (hl:l.length<=1000) (f1 f2:Bool):PP 266 [.row 164 5 f1 false (G6 l),.row 164 5 f2 false (G6 [x])] [.own 0 l.length,.li i,.own 1 1] [.row 164 5 false false (G6 (l.take i++x::l.drop i)),.row 164 5 f2 false (G6 [x])] (.own 0 (l.length+1)):=by
 by_cases h:i<l.length
 ·exact Ajm l x i h hl f1 f2
 obtain rfl:i=l.length:=by omega
 rw[List.take_length,List.drop_length]
 exact Ajn l x hl f1 f2
end
theorem Aa5 (l:List Ew) (fid:FuncId) (caps:List AV) (p:Ew->Bool) (hl:l.length<=1000000) (hg:∀r∈l,r.legs.length<=1000000) (hc:Aaq caps) (hp:∀t,PP fid [] (t.g::caps) [] (.lb (p t))):PP 168 [] [.mReq l,.fn fid caps] [.row 164 5 false false (G6 (l.filter p))] (.own 0 (l.filter p).length):=by
 refine Ei Tryz.func168 ?_
 refine Cc (fun K kk=>by simp[go_sem,hc.pass,hc.passC,hc.bor,hc.low];exact kk) ?_
 refine Cc (fun K kk=>by simp[go_sem,hc.pass,hc.passC,hc.bor,hc.low];exact kk)<|.seq ?_
 refine Cc (fun K kk=>by simp[go_sem,hc.pass,hc.passC,hc.bor,hc.low];exact kk)<|.block ?_
 refine Cn 5 164 5 (by decide) (k':=5) (by simp[go_sem]) ?_
 simp[go_sem]
 refine Cb l.length (fun i1=>⟨[(1,.fn fid caps),(5,.own 0 ((l.take i1).filter p).length),(8,.mReq l),(9,.li l.length),(10,.li i1)],[.row 164 5 false false (G6 ((l.take i1).filter p))]⟩) (wQ [0] ?_ ?_) fun i1 hi1=>?_
 ·simp[go_sem,hc.ren]
 ·simp[go_sem,hc.ren]
 refine Cc (fun K kk=>by simp[go_sem,hc.pass,hc.passC,hc.bor,hc.low];exact kk)<|.seq ?_
 refine B7 ?_ ?_<;>intro h11
 ·have hx:l[i1]? = some l[i1]:=Aa (by omega)
  generalize l[i1]=e at hx
  have hf:((l.take i1).filter p).length<=i1:=Ak (Az _ _) (by simp;omega)
  have ht:List.take (i1+1) l=List.take i1 l++[e]:=by rw[List.take_add_one,hx];rfl
  refine Bv<|.seq<|.block<|.H hx ?_
  refine Cc (fun K kk=>by simp[go_sem,hc.pass,hc.passC,hc.bor,hc.low];refine .lo (hp e) (by simp[go_sem,hc.low]) (by simp[AV.cln,Fb]) ?_;simp[go_sem,hc.pass,hc.passC,hc.bor,hc.low];exact kk) ?_
  refine B7 ?_ ?_<;>intro h16
  ·refine VW.S1 (fun K kk=>by simp[go_sem,hc.pass,hc.passC,hc.bor,hc.low];refine .l (U5 e (hg e (Ac hx))) ?_;simp[go_sem,hc.pass,hc.passC,hc.bor,hc.low];(repeat first | exact kk | refine aK ?_)) ?_
   refine VW.S1 (fun K kk=>by simp[go_sem,hc.pass,hc.passC,hc.bor,hc.low];exact kk) ?_
   refine⟨by omega,wQ [0] ?_ ?_⟩
   ·simp[go_sem,Dw ((i1:Int)+1),hc.ren,ht,List.filter_append,h11,h16]
   simp[go_sem,hc.ren,ht,List.filter_append,h11,h16]
  refine Bv<|.S1 (fun K kk=>by simp[go_sem,hc.pass,hc.passC,hc.bor,hc.low];exact kk) ?_
  refine⟨by omega,wQ [0] ?_ ?_⟩
  ·simp[go_sem,Dw ((i1:Int)+1),hc.ren,ht,List.filter_append,h11,h16]
  simp[go_sem,hc.ren,ht,List.filter_append,h11,h16]
 refine B5<|.S (fun K kk=>by simp[go_sem,hc.pass,hc.passC,hc.bor,hc.low];exact kk) ?_
 have he:l.take i1=l:=Bf (by omega)
 simp only[he]
 exact .ret (rW Dy [0])
section
variable (l:List Ew) (hl:l.length<=1000000) (hg:∀r∈l,r.legs.length<=1000000)
include hl hg
theorem Ao5:PP 168 [] [.mReq l,.fn 193 []] [.row 164 5 false false (G6 l)] (.own 0 l.length):=by
 have h:=Aa5 l _ [] (fun _=>true) hl hg Ta (Km)
 rwa[show l.filter (fun _=>true)=l by simp] at h
theorem O4:PP 171 [] [.mReq l] [.row 164 5 false false (G6 l)] (.own 0 l.length):=by
 refine Ei Tryz.func171 ?_
 refine Bw ?_
 refine Cc (fun K kk=>by simp[go_sem];refine .lo (Ao5 l hl hg) (by simp[go_sem]) (by simp[AV.cln,Fb]) ?_;simp[go_sem];exact kk) ?_
 exact .ret (rW Dy [0])
end
theorem Ax6 {l:List Ew} {x:Ew} {n:Nat} (hn:n<=l.length) (h4:l.length<3) (hg:∀r∈l,r.legs.length<=1000000) (hx:x.legs.length<=1000000):(l.take n++x::l.drop n).length<=l.length+1/\(l.take n++x::l.drop n).length<=3/\∀r∈l.take n++x::l.drop n,r.legs.length<=1000000:=by
 refine⟨by simp;omega,by simp;omega,fun r hr=>?_⟩
 rcases A0.1 hr with h | h
 ·exact hg r (Aq h)
 rcases List.mem_cons.1 h with rfl | h
 ·exact hx
 exact hg r (Ay h)
section
variable (l:List Ew) (q:Int) (id:Int) (v:He) (life:Int) (legs:List G0) (now:Int) (hl:l.length<=3) (hg:∀r∈l,r.legs.length<=1000000) (hgl:legs.length<=1000000) (hq3:q<=3)
include id v life now hl hg hgl hq3
theorem N6:Ct 241 [.mReq l,.li q,.li id,v.g,.li life,.mLeg legs,.li now] (fun d:List Ew×Int=>.tup [.mReq d.1,.li d.2]) (fun d=>d.1.length<=l.length+1/\d.1.length<=3/\∀r∈d.1,r.legs.length<=1000000):=by
 refine Er Tryz.func241 ?_
 have hlM:l.length<=1000000:=by omega
 refine Bq<|.seq ?_
 refine B4 (by rfl) fun K1 hK1=>?_
 simp[go_sem]
 obtain⟨Y1,cY1,qY1⟩:=Em (Pd l q (by assumption) (by assumption))
 refine .l cY1 ?_
 simp[go_sem]
 refine P3 ?_
 simp[go_sem]
 refine .lo (Kz v.id) rfl (by simp[AV.cln,Fb]) ?_
 simp[go_sem]
 refine P3 ?_
 simp[go_sem]
 refine .lo (U6 v.cls) rfl (by simp[AV.cln,Fb]) ?_
 simp[go_sem]
 refine P3 ?_
 simp[go_sem]
 refine .lo (V0 now) rfl (by simp[AV.cln,Fb]) ?_
 simp[go_sem]
 refine hK1 _ ?_;clear hK1
 refine Br ?_ ?_<;>intro h38
 ·refine Bq ?_
  exact .ret (Ep Dy ([],1) (by exact⟨Ae _,Ae _,fun r h=>by cases h⟩))
 refine Bp<|.seq ?_
 refine B4 (by rfl) fun K1 hK1=>?_
 simp[go_sem]
 refine .l (Kz id) ?_
 simp[go_sem]
 refine P3 ?_
 simp[go_sem]
 obtain⟨Y2,cY2,qY2⟩:=Em (P4 legs (by assumption))
 refine .lo cY2 rfl (by simp[AV.cln,Fb]) ?_
 simp[go_sem]
 refine hK1 _ ?_;clear hK1
 refine Br ?_ ?_<;>intro h54
 ·refine Bq ?_
  exact .ret (Ep Dy ([],8) (by exact⟨Ae _,Ae _,fun r h=>by cases h⟩))
 refine Bp<|.seq<|.L Dy (Pq l id (by assumption)) ?_
 refine Br ?_ ?_<;>intro h58
 ·refine Bq ?_
  exact .ret (Ep Dy ([],11) (by exact⟨Ae _,Ae _,fun r h=>by cases h⟩))
 refine Bp<|.seq<|.R ?_
 refine Br ?_ ?_<;>intro h67
 ·refine Bq ?_
  exact .ret (Ep Dy ([],14) (by exact⟨Ae _,Ae _,fun r h=>by cases h⟩))
 refine Bp<|.R<|.seq<|.block ?_
 refine Cj (fun (y1:Int)=>⟨[(0,.mReq l),(2,.li id),(4,.li life),(5,.mLeg legs),(6,.li now),(10,.ptr 0 0),(16,.li y1)],[.box 216 [.li v.id,.li v.cls]]⟩) (fun y1=>0<=y1/\y1<=l.length) (fun y1=>(l.length - y1).toNat) (0) (wk Dy [0]) (⟨by omega,by omega⟩) fun y1 hy1=>?_
 refine Ca ?_
 by_cases hc10:y1<l.length
 ·obtain⟨e1,H1⟩:=gx l y1.toNat
  refine Bu (Fa hc10 H1) ?_
  refine Br ?_ ?_<;>intro h80
  ·refine Bp<|.block ?_
   have hw2:=Dw (y1+1:Int)
   refine B0 (Jb hc10 H1 hw2) ?_
   refine⟨((y1+1)),?_,?_,wQ [0] ?_ ?_⟩
   ·omega
   ·exact⟨by omega,by omega⟩
   all_goals simp[go_sem,hc10,H1,hw2]
  refine Bt ?_
  obtain⟨ix,hix⟩:∃ix:Nat,y1=ix:=⟨y1.toNat,by omega⟩
  subst hix
  have hln:(l.length+1=min ix l.length+(l.length - ix+1))=True:=eq_true (by omega)
  refine Cw (fun K kk=>by simp[go_sem,hc10,H1,hln];refine .lo (Ey.froz (Mc _ (by (simp;omega)) (by (simp[T.plain,G0.t];done)))) rfl (by simp[AV.cln,Fb]) ?_;simp[go_sem,hc10,H1,hln];exact kk) ?_
  refine Cw (fun K kk=>by simp[go_sem,hc10,H1,hln];refine .l (O4 l (by assumption) (by assumption)) ?_;simp[go_sem,hc10,H1,hln];refine .o [2,3] (Alt l ⟨id,v.id,v.cls,IntKind.i64.wrap (now+life),legs⟩ ix (by omega) (by omega) false true) ?_;simp[go_sem,hc10,H1,hln];exact kk) ?_
  refine B2 Dy 2 ?_
  exact .ret (Ep (Jb hc10 H1 hln) ((l.take ix++⟨id,v.id,v.cls,IntKind.i64.wrap (now+life),legs⟩::l.drop ix),0) (by first | exact⟨Ae _,Ae _,fun r h=>by cases h⟩ | exact Ax6 (by omega) (by omega) hg hgl))
 refine Bu hc10 ?_
 refine Cl ?_ ?_<;>intro h80<;>simp[go_sem] at h80
 refine Bt ?_
 obtain⟨ix,hix⟩:∃ix:Nat,y1=ix:=⟨y1.toNat,by omega⟩
 subst hix
 have hln:(l.length+1=min ix l.length+(l.length - ix+1))=True:=eq_true (by omega)
 refine Cw (fun K kk=>by simp[go_sem,hc10,hln];refine .lo (Ey.froz (Mc _ (by (simp;omega)) (by (simp[T.plain,G0.t];done)))) rfl (by simp[AV.cln,Fb]) ?_;simp[go_sem,hc10,hln];exact kk) ?_
 refine Cw (fun K kk=>by simp[go_sem,hc10,hln];refine .l (O4 l (by assumption) (by assumption)) ?_;simp[go_sem,hc10,hln];refine .o [2,3] (Alt l ⟨id,v.id,v.cls,IntKind.i64.wrap (now+life),legs⟩ ix (by omega) (by omega) false true) ?_;simp[go_sem,hc10,hln];exact kk) ?_
 refine B2 Dy 2 ?_
 exact .ret (Ep (Fa hc10 hln) ((l.take ix++⟨id,v.id,v.cls,IntKind.i64.wrap (now+life),legs⟩::l.drop ix),0) (by first | exact⟨Ae _,Ae _,fun r h=>by cases h⟩ | exact Ax6 (by omega) (by omega) hg hgl))
def Hq:List Ew×Int:=(Em (N6 l q id v life legs now hl hg hgl hq3)).choose
theorem Aa7:PP 241 [] [.mReq l,.li q,.li id,v.g,.li life,.mLeg legs,.li now] [] (.tup [.imm false 5 (G6 (Hq l q id v life legs now hl hg hgl hq3).1),.lit (.int .i64 (Hq l q id v life legs now hl hg hgl hq3).2)]):=(Em (N6 l q id v life legs now hl hg hgl hq3)).choose_spec.1
theorem Abg:(Hq l q id v life legs now hl hg hgl hq3).1.length<=l.length+1/\(Hq l q id v life legs now hl hg hgl hq3).1.length<=3/\∀r∈(Hq l q id v life legs now hl hg hgl hq3).1,r.legs.length<=1000000:=(Em (N6 l q id v life legs now hl hg hgl hq3)).choose_spec.2
end
section
structure F8 (x:Dx):Prop where
  b:Vh x
  vehs:x.reg.vehs.length<=9
  reqs:x.reqs.length<=3
  dr:∀s∈x.draws,s.length<=1000/\By s
  rq:x.reg.ag.rq<=3
variable {α:Type}
theorem Aak {l:List α} {n:Nat} {p:α->Prop} (h:∀x∈l,p x):∀x∈l.drop n,p x:=fun x hx=>h x (Ay hx)
theorem Aai {l:List α} {f:α->Bool} {p:α->Prop} (h:∀x∈l,p x):∀x∈l.filter f,p x:=fun x hx=>h x (Bn.1 hx).1
theorem Ahm:Hy ⟨0,[],[],[]⟩:=by simp[Hy]
theorem Rz {x:Dx} {sec:List Int} (hd:F8 x) {d:Jq×D0×Bool×Int} (hQ:P2 d.1/\d.1.vehs.length<=9/\(d.2.2.2=0->d.1.num=x.reg.num/\d.1.ag=x.reg.ag/\Axs x.reg.bk d.1.bk sec d.2.1)/\Hy d.2.1) (hB:By sec) (h0:d.2.2.2=0) {rq:List Ew} {dr:List (List Int)} (h1:rq.length<=3) (h2:∀r∈rq,r.legs.length<=1000000) (h3:dr.length<=1000000) (h4:∀s∈dr,s.length<=1000/\By s) :
 F8 ⟨d.1,rq,dr,x.aud⟩/\(⟨d.1,rq,dr,x.aud⟩:Dx).aud=x.aud/\(⟨d.1,rq,dr,x.aud⟩:Dx).reg.num=x.reg.num/\(⟨d.1,rq,dr,x.aud⟩:Dx).reg.ag=x.reg.ag/\Hy d.2.1/\(⟨d.1,rq,dr,x.aud⟩:Dx).reg.bk=x.reg.bk/\((0:Int)=0->(d.2.1.kind=14\/d.2.1.kind=16)/\By d.2.1.data):=by
 have hE:=hQ.2.2.1 h0
 exact⟨⟨⟨hQ.1,Ak h1 (by decide),h2,h3,fun s h=>Ak (h4 s h).1 (by decide),hd.b.aud⟩,hQ.2.1,h1,h4,by rw[show (⟨d.1,rq,dr,x.aud⟩:Dx).reg.ag=x.reg.ag from hE.2.1];exact hd.rq⟩,rfl,hE.1,hE.2.1,hQ.2.2.2,hE.2.2.1,fun _=>⟨hE.2.2.2.1,hE.2.2.2.2 hB⟩⟩
section
variable (x:Dx) (m:D0) (slot:Int) (now:Int) (hd:F8 x) (h1:m.tok.length<=2000) (h2:m.args.length<=2000) (h3:m.data.length<=2000) (a2:m.kind=2->3<=m.args.length) (a1:m.kind=3\/m.kind=4\/m.kind=5->1<=m.args.length) (a4:m.kind=4->2<=m.args.length)
include slot now hd h1 h2 h3 a2 a1 a4
theorem Pi:Ct 189 [x.g,m.g,.li slot,.li now] (fun d:Dx×D0×Int=>.tup [d.1.g,d.2.1.g,.li d.2.2]) (fun d=>F8 d.1/\d.1.aud=x.aud/\d.1.reg.num=x.reg.num/\d.1.reg.ag=x.reg.ag/\Hy d.2.1/\d.1.reg.bk=x.reg.bk/\(d.2.2=0->(d.2.1.kind=14\/d.2.1.kind=16)/\By d.2.1.data)):=by
 refine Er Tryz.func189 ?_
 have h2M:m.args.length<=1000000:=by omega
 have hdb:=hd.b
 refine Bq ?_
 refine Bq<|.seq ?_
 refine Bq ?_
 refine Br ?_ ?_<;>intro h19
 ·obtain⟨e1,H1⟩:=gx x.draws 0
  refine B0 H1 ?_
  refine B8 H1 (Xy x.reg m slot now e1 hd.b.reg hd.vehs h1 h2 h3 a2 a1 a4 (hd.dr e1 (Ac H1)).1)<|.seq ?_
  refine Bu H1 ?_
  refine Br ?_ ?_<;>intro h37
  ·refine Bu H1 ?_
   exact .ret (Ep H1 (x,⟨0,[],[],[]⟩,(Ej x.reg m slot now e1 hd.b.reg hd.vehs h1 h2 h3 a2 a1 a4 (hd.dr e1 (Ac H1)).1).2.2.2) ⟨hd,rfl,rfl,rfl,Ahm,rfl,fun h=>absurd h h37⟩)
  refine Bp<|.H H1<|.seq ?_
  refine Bu H1 ?_
  refine Br ?_ ?_<;>intro h49
  ·refine B0 H1<|.seq ?_
   refine Bu H1 ?_
   refine Br ?_ ?_<;>intro h56
   ·have ha:=a1 (.inr (.inr h56))
    obtain⟨e2,H2⟩:=gx m.args 0
    refine Cp (Fa H1 H2) (Ki x.reqs e2 hd.b.reqs hd.b.legs) ?_
    refine C9 (Fa H1 H2) ?_
    exact .ret (Ep (Fa H1 H2) (⟨(Ej x.reg m slot now e1 hd.b.reg hd.vehs h1 h2 h3 a2 a1 a4 (hd.dr e1 (Ac H1)).1).1,(List.filter (fun r:Ew=>r.veh != e2) x.reqs),x.draws.drop 1,x.aud⟩,(Ej x.reg m slot now e1 hd.b.reg hd.vehs h1 h2 h3 a2 a1 a4 (hd.dr e1 (Ac H1)).1).2.1,0) (Rz hd (Ir x.reg m slot now e1 hd.b.reg hd.vehs h1 h2 h3 a2 a1 a4 (hd.dr e1 (Ac H1)).1) (by first | exact .nil | exact (hd.dr e1 (Ac H1)).2) (by exact h37) (by first | exact hd.reqs | exact Ak (Az _ _) hd.reqs) (by first | exact hd.b.legs | exact Aai hd.b.legs) (by first | exact hd.b.draws | (have:=hd.b.draws;simp only[Bc];omega)) (by first | exact hd.dr | exact Aak hd.dr)))
   refine Bp<|.G H1 ?_
   exact .ret (Ep H1 (⟨(Ej x.reg m slot now e1 hd.b.reg hd.vehs h1 h2 h3 a2 a1 a4 (hd.dr e1 (Ac H1)).1).1,x.reqs,x.draws.drop 1,x.aud⟩,(Ej x.reg m slot now e1 hd.b.reg hd.vehs h1 h2 h3 a2 a1 a4 (hd.dr e1 (Ac H1)).1).2.1,0) (Rz hd (Ir x.reg m slot now e1 hd.b.reg hd.vehs h1 h2 h3 a2 a1 a4 (hd.dr e1 (Ac H1)).1) (by first | exact .nil | exact (hd.dr e1 (Ac H1)).2) (by exact h37) (by exact hd.reqs) (by exact hd.b.legs) (by first | exact hd.b.draws | (have:=hd.b.draws;simp only[Bc];omega)) (by first | exact hd.dr | exact Aak hd.dr)))
  refine Bp<|.seq<|.H H1 ?_
  refine Br ?_ ?_<;>intro h56
  ·have ha:=a1 (.inr (.inr h56))
   obtain⟨e3,H3⟩:=gx m.args 0
   refine Cp (Fa H1 H3) (Ki x.reqs e3 hd.b.reqs hd.b.legs) ?_
   refine C9 (Fa H1 H3) ?_
   exact .ret (Ep (Fa H1 H3) (⟨(Ej x.reg m slot now e1 hd.b.reg hd.vehs h1 h2 h3 a2 a1 a4 (hd.dr e1 (Ac H1)).1).1,(List.filter (fun r:Ew=>r.veh != e3) x.reqs),x.draws,x.aud⟩,(Ej x.reg m slot now e1 hd.b.reg hd.vehs h1 h2 h3 a2 a1 a4 (hd.dr e1 (Ac H1)).1).2.1,0) (Rz hd (Ir x.reg m slot now e1 hd.b.reg hd.vehs h1 h2 h3 a2 a1 a4 (hd.dr e1 (Ac H1)).1) (by first | exact .nil | exact (hd.dr e1 (Ac H1)).2) (by exact h37) (by first | exact hd.reqs | exact Ak (Az _ _) hd.reqs) (by first | exact hd.b.legs | exact Aai hd.b.legs) (by exact hd.b.draws) (by exact hd.dr)))
  refine Bp<|.G H1 ?_
  exact .ret (Ep H1 (⟨(Ej x.reg m slot now e1 hd.b.reg hd.vehs h1 h2 h3 a2 a1 a4 (hd.dr e1 (Ac H1)).1).1,x.reqs,x.draws,x.aud⟩,(Ej x.reg m slot now e1 hd.b.reg hd.vehs h1 h2 h3 a2 a1 a4 (hd.dr e1 (Ac H1)).1).2.1,0) (Rz hd (Ir x.reg m slot now e1 hd.b.reg hd.vehs h1 h2 h3 a2 a1 a4 (hd.dr e1 (Ac H1)).1) (by first | exact .nil | exact (hd.dr e1 (Ac H1)).2) (by exact h37) (by exact hd.reqs) (by exact hd.b.legs) (by exact hd.b.draws) (by exact hd.dr)))
 refine Bp<|.L Dy (Xy x.reg m slot now [] hd.b.reg hd.vehs h1 h2 h3 a2 a1 a4 (by simp))<|.seq ?_
 refine Bq ?_
 refine Br ?_ ?_<;>intro h37
 ·refine Bq ?_
  exact .ret (Ep Dy (x,⟨0,[],[],[]⟩,(Ej x.reg m slot now [] hd.b.reg hd.vehs h1 h2 h3 a2 a1 a4 (by simp)).2.2.2) ⟨hd,rfl,rfl,rfl,Ahm,rfl,fun h=>absurd h h37⟩)
 refine Bp<|.R<|.seq ?_
 refine Bq ?_
 refine Br ?_ ?_<;>intro h49
 ·refine B0 Dy<|.seq ?_
  refine Bq ?_
  refine Br ?_ ?_<;>intro h56
  ·have ha:=a1 (.inr (.inr h56))
   obtain⟨e4,H4⟩:=gx m.args 0
   refine Cp H4 (Ki x.reqs e4 hd.b.reqs hd.b.legs) ?_
   refine C9 H4 ?_
   exact .ret (Ep H4 (⟨(Ej x.reg m slot now [] hd.b.reg hd.vehs h1 h2 h3 a2 a1 a4 (by simp)).1,(List.filter (fun r:Ew=>r.veh != e4) x.reqs),x.draws.drop 1,x.aud⟩,(Ej x.reg m slot now [] hd.b.reg hd.vehs h1 h2 h3 a2 a1 a4 (by simp)).2.1,0) (Rz hd (Ir x.reg m slot now [] hd.b.reg hd.vehs h1 h2 h3 a2 a1 a4 (by simp)) (by exact .nil) (by exact h37) (by first | exact hd.reqs | exact Ak (Az _ _) hd.reqs) (by first | exact hd.b.legs | exact Aai hd.b.legs) (by first | exact hd.b.draws | (have:=hd.b.draws;simp only[Bc];omega)) (by first | exact hd.dr | exact Aak hd.dr)))
  refine Bp<|.D ?_
  exact .ret (Ep Dy (⟨(Ej x.reg m slot now [] hd.b.reg hd.vehs h1 h2 h3 a2 a1 a4 (by simp)).1,x.reqs,x.draws.drop 1,x.aud⟩,(Ej x.reg m slot now [] hd.b.reg hd.vehs h1 h2 h3 a2 a1 a4 (by simp)).2.1,0) (Rz hd (Ir x.reg m slot now [] hd.b.reg hd.vehs h1 h2 h3 a2 a1 a4 (by simp)) (by exact .nil) (by exact h37) (by exact hd.reqs) (by exact hd.b.legs) (by first | exact hd.b.draws | (have:=hd.b.draws;simp only[Bc];omega)) (by first | exact hd.dr | exact Aak hd.dr)))
 refine Bp<|.seq<|.R ?_
 refine Br ?_ ?_<;>intro h56
 ·have ha:=a1 (.inr (.inr h56))
  obtain⟨e5,H5⟩:=gx m.args 0
  refine Cp H5 (Ki x.reqs e5 hd.b.reqs hd.b.legs) ?_
  refine C9 H5 ?_
  exact .ret (Ep H5 (⟨(Ej x.reg m slot now [] hd.b.reg hd.vehs h1 h2 h3 a2 a1 a4 (by simp)).1,(List.filter (fun r:Ew=>r.veh != e5) x.reqs),x.draws,x.aud⟩,(Ej x.reg m slot now [] hd.b.reg hd.vehs h1 h2 h3 a2 a1 a4 (by simp)).2.1,0) (Rz hd (Ir x.reg m slot now [] hd.b.reg hd.vehs h1 h2 h3 a2 a1 a4 (by simp)) (by exact .nil) (by exact h37) (by first | exact hd.reqs | exact Ak (Az _ _) hd.reqs) (by first | exact hd.b.legs | exact Aai hd.b.legs) (by exact hd.b.draws) (by exact hd.dr)))
 refine Bp<|.D ?_
 exact .ret (Ep Dy (⟨(Ej x.reg m slot now [] hd.b.reg hd.vehs h1 h2 h3 a2 a1 a4 (by simp)).1,x.reqs,x.draws,x.aud⟩,(Ej x.reg m slot now [] hd.b.reg hd.vehs h1 h2 h3 a2 a1 a4 (by simp)).2.1,0) (Rz hd (Ir x.reg m slot now [] hd.b.reg hd.vehs h1 h2 h3 a2 a1 a4 (by simp)) (by exact .nil) (by exact h37) (by exact hd.reqs) (by exact hd.b.legs) (by exact hd.b.draws) (by exact hd.dr)))
def E4:Dx×D0×Int:=(Em (Pi x m slot now hd h1 h2 h3 a2 a1 a4)).choose
theorem Adl:PP 189 [] [x.g,m.g,.li slot,.li now] [] (.tup [.agg ((E4 x m slot now hd h1 h2 h3 a2 a1 a4).1.a false),.agg ((E4 x m slot now hd h1 h2 h3 a2 a1 a4).2.1.a false),.lit (.int .i64 (E4 x m slot now hd h1 h2 h3 a2 a1 a4).2.2)]):=(Em (Pi x m slot now hd h1 h2 h3 a2 a1 a4)).choose_spec.1
theorem Py:F8 (E4 x m slot now hd h1 h2 h3 a2 a1 a4).1/\(E4 x m slot now hd h1 h2 h3 a2 a1 a4).1.aud=x.aud/\(E4 x m slot now hd h1 h2 h3 a2 a1 a4).1.reg.num=x.reg.num/\(E4 x m slot now hd h1 h2 h3 a2 a1 a4).1.reg.ag=x.reg.ag/\Hy (E4 x m slot now hd h1 h2 h3 a2 a1 a4).2.1/\(E4 x m slot now hd h1 h2 h3 a2 a1 a4).1.reg.bk=x.reg.bk/\((E4 x m slot now hd h1 h2 h3 a2 a1 a4).2.2=0->((E4 x m slot now hd h1 h2 h3 a2 a1 a4).2.1.kind=14\/(E4 x m slot now hd h1 h2 h3 a2 a1 a4).2.1.kind=16)/\By (E4 x m slot now hd h1 h2 h3 a2 a1 a4).2.1.data):=(Em (Pi x m slot now hd h1 h2 h3 a2 a1 a4)).choose_spec.2
end
section
variable (cfg:Fc) (x:Dx) (l:List Int) (slot:Int) (now:Int) (hd:F8 x) (hl:3<=l.length) (hl2:l.length<=1000) (hn:∀a∈l,0<=a) (s0:0<=slot) (s1:slot<x.reg.toks.length)
include cfg now hd hl hl2 hn s0 s1
theorem Sd:Ct 212 [cfg.g,x.g,.mI l,.li slot,.li now] (fun d:List Ew×Int=>.tup [.mReq d.1,.li d.2]) (fun d=>d.1.length<=3/\∀r∈d.1,r.legs.length<=1000000):=by
 refine Er Tryz.func212 ?_
 have hv:x.reg.vehs.length<=1000000:=hd.b.reg.vehs
 have hs1:¬slot<0:=by omega
 have hs2:¬(x.reg.toks.length:Int)<=slot:=by omega
 obtain⟨tk,htk⟩:∃e,x.reg.toks[slot.toNat]? = some e:=⟨_,Aa (by omega)⟩
 refine Bq ?_
 obtain⟨e1,H1⟩:=gx l 1
 refine Dd H1 (Aer x.reg.vehs e1 hv)<|.seq ?_
 refine Bu H1 ?_
 refine Br ?_ ?_<;>intro h32
 ·refine Bu H1 ?_
  exact .ret (Ep H1 ([],12) (by exact⟨Ae _,fun r h=>by cases h⟩))
 refine Bp<|.H H1<|.seq ?_
 refine C9 (P6 H1 hs1 hs2 htk) ?_
 refine Br ?_ ?_<;>intro h53
 ·refine Bu H1 ?_
  exact .ret (Ep H1 ([],17) (by exact⟨Ae _,fun r h=>by cases h⟩))
 refine Bp<|.H H1<|.seq ?_
 refine Bu H1<|.block ?_
 refine Cf 15 166 5 (by decide) (k':=5) (by simp[go_sem]) ?_
 simp[go_sem,-Prod.exists]
 refine Cj (fun (y1:(List G0)×Int)=>⟨[(2,.mI l),(4,.li now),(5,.ptr 0 0),(6,.ptr 1 0),(12,.ptr 2 0),(15,.own 3 y1.1.length),(16,.li y1.2)],[.box 30 (cfg.a false),.box 70 (x.a false),.box 216 [.li ((Ht x.reg.vehs e1 hv).1.id),.li ((Ht x.reg.vehs e1 hv).1.cls)],.row 166 5 false false (Hs y1.1)]⟩) (fun y1=>3<=y1.2/\y1.1.length<=y1.2/\y1.2<=2000) (fun y1=>(l.length - y1.2).toNat) ([],3) (wk H1 [0,1,2,3]) (⟨by omega,by simp,by dsimp only;omega⟩) fun y1 hy1=>?_
 refine Ca ?_
 have hw2:=Dw (y1.2+3:Int)
 refine Bu (Fa H1 hw2) ?_
 refine Br ?_ ?_<;>intro h58
 ·refine Bp<|.seq<|.block ?_
  obtain⟨e3,H3⟩:=gx l y1.2.toNat
  have hw4:=Dw (y1.2+1:Int)
  obtain⟨e5,H5⟩:=gx l ((y1.2+1).toNat)
  refine C9 (Zd H1 hw2 H3 hw4 H5)<|.seq ?_
  by_cases hc12:e3<cfg.juns.length
  ·have hnj:¬(cfg.juns.length:Int)<=e3:=by omega
   have h0e:=hn e3 (Ac H3)
   have h0f:=hn e5 (Ac H5)
   obtain⟨e6,H6⟩:=gx cfg.juns e3.toNat
   refine B3 (fun K kk=>by simp[go_sem,H1,hw2,H3,hw4,H5,hc12,hnj,H6];repeat first | exact kk | refine aK ?_) ?_
   refine Br ?_ ?_<;>intro h85
   ·refine B3 (fun K kk=>by simp[go_sem,H1,hw2,H3,hw4,H5,hc12,hnj,H6];exact kk) ?_
    refine Bz (Fk ?_);simp[go_sem,H1,hw2,H3,hw4,H5,hc12,hnj,H6]
    exact⟨([],8),by rfl,(by exact⟨Ae _,fun r h=>by cases h⟩)⟩
   refine Bp ?_
   have hw7:=Dw (y1.2+2:Int)
   obtain⟨e8,H8⟩:=gx l ((y1.2+2).toNat)
   obtain⟨e9,H9⟩:=gx l ((y1.2+3).toNat)
   refine Cw (fun K kk=>by simp[go_sem,H1,hw2,H3,hw4,H5,hc12,hnj,H6,hw7,H8,H9];(repeat refine aK ?_);refine .l (Xv e3 e5 e8 e9 now) ?_;simp[go_sem,H1,hw2,H3,hw4,H5,hc12,hnj,H6,hw7,H8,H9];exact kk)<|.seq ?_
   refine B3 (fun K kk=>by simp[go_sem,H1,hw2,H3,hw4,H5,hc12,hnj,H6,hw7,H8,H9];exact kk) ?_
   refine Br ?_ ?_<;>intro h104
   ·refine B3 (fun K kk=>by simp[go_sem,H1,hw2,H3,hw4,H5,hc12,hnj,H6,hw7,H8,H9];exact kk) ?_
    refine Bz (Fk ?_);simp[go_sem,H1,hw2,H3,hw4,H5,hc12,hnj,H6,hw7,H8,H9]
    exact⟨([],8),by rfl,(by exact⟨Ae _,fun r h=>by cases h⟩)⟩
   refine Bp<|.S1 (fun K kk=>by simp[go_sem,H1,hw2,H3,hw4,H5,hc12,hnj,H6,hw7,H8,H9];repeat first | exact kk | refine aK ?_) ?_
   have hw10:=Dw (y1.2+4:Int)
   refine Cg (fun K kk=>by simp[go_sem,H1,hw2,H3,hw4,H5,hc12,hnj,H6,hw7,H8,H9,hw10];exact kk) ?_
   refine⟨(y1.1++([(Mx e3 e5 e8 e9 now).1]),(y1.2+4)),?_,?_,wQ [0,1,2,3] ?_ ?_⟩
   ·omega
   ·exact⟨by dsimp only;omega,by simp;omega,by dsimp only;omega⟩
   all_goals simp[go_sem,H1,hw2,H3,hw4,H5,hc12,hnj,H6,hw7,H8,H9,hw10]
  have hnj:(cfg.juns.length:Int)<=e3:=by omega
  have h0e:=hn e3 (Ac H3)
  have h0f:=hn e5 (Ac H5)
  refine B3 (fun K kk=>by simp[go_sem,H1,hw2,H3,hw4,H5,hc12,hnj];repeat first | exact kk | refine aK ?_) ?_
  refine Cl ?_ ?_<;>intro h85<;>simp[go_sem] at h85
  refine B3 (fun K kk=>by simp[go_sem,H1,hw2,H3,hw4,H5,hc12,hnj];exact kk) ?_
  refine Bz (Fk ?_);simp[go_sem,H1,hw2,H3,hw4,H5,hc12,hnj]
  exact⟨([],8),by rfl,(by exact⟨Ae _,fun r h=>by cases h⟩)⟩
 refine Bt<|.Z (Fa H1 hw2) 3 ?_
 obtain⟨e11,H11⟩:=gx l 0
 obtain⟨e12,H12⟩:=gx l 2
 refine Dd (P6 H1 hw2 H11 H12) (Aa7 x.reqs x.reg.ag.rq e11 ((Ht x.reg.vehs e1 hv).1) e12 y1.1 now hd.reqs hd.b.legs (by omega) hd.rq) ?_
 exact .ret (Ep (P6 H1 hw2 H11 H12) ((Hq x.reqs x.reg.ag.rq e11 ((Ht x.reg.vehs e1 hv).1) e12 y1.1 now hd.reqs hd.b.legs (by omega) hd.rq).1,(Hq x.reqs x.reg.ag.rq e11 ((Ht x.reg.vehs e1 hv).1) e12 y1.1 now hd.reqs hd.b.legs (by omega) hd.rq).2) (by first | exact⟨Ae _,fun r h=>by cases h⟩ | exact (Abg x.reqs x.reg.ag.rq e11 (Ht x.reg.vehs e1 hv).1 e12 y1.1 now hd.reqs hd.b.legs (by omega) hd.rq).2))
def Kc:List Ew×Int:=(Em (Sd cfg x l slot now hd hl hl2 hn s0 s1)).choose
theorem Ahc:PP 212 [] [cfg.g,x.g,.mI l,.li slot,.li now] [] (.tup [.imm false 5 (G6 (Kc cfg x l slot now hd hl hl2 hn s0 s1).1),.lit (.int .i64 (Kc cfg x l slot now hd hl hl2 hn s0 s1).2)]):=(Em (Sd cfg x l slot now hd hl hl2 hn s0 s1)).choose_spec.1
theorem Ahi:(Kc cfg x l slot now hd hl hl2 hn s0 s1).1.length<=3/\∀r∈(Kc cfg x l slot now hd hl hl2 hn s0 s1).1,r.legs.length<=1000000:=(Em (Sd cfg x l slot now hd hl hl2 hn s0 s1)).choose_spec.2
end
section
variable (cfg:Fc) (x:Dx) (m:D0) (slot:Int) (now:Int) (hd:F8 x) (h1:1<=m.args.length) (k6:m.kind=6->3<=m.args.length) (hl2:m.args.length<=1000) (hn:∀a∈m.args,0<=a) (s0:0<=slot) (s1:slot<x.reg.toks.length)
include cfg now hd h1 k6 hl2 hn s0 s1
theorem Yh:Ct 190 [cfg.g,x.g,m.g,.li slot,.li now] (fun d:List Ew×Int=>.tup [.mReq d.1,.li d.2]) (fun d=>d.1.length<=3/\∀r∈d.1,r.legs.length<=1000000):=by
 refine Er Tryz.func190 ?_
 refine Bq ?_
 obtain⟨e1,H1⟩:=gx m.args 0
 refine Bu H1<|.seq ?_
 refine Bu H1<|.block ?_
 refine Bu H1 ?_
 refine Br ?_ ?_<;>intro h21
 ·refine B8 H1 (Ahc cfg x m.args slot now hd (k6 h21) hl2 hn s0 s1) ?_
  exact .ret (Ep H1 ((Kc cfg x m.args slot now hd (k6 h21) hl2 hn s0 s1).1,(Kc cfg x m.args slot now hd (k6 h21) hl2 hn s0 s1).2) (Ahi cfg x m.args slot now hd (k6 h21) hl2 hn s0 s1))
 refine Bu H1 ?_
 refine Br ?_ ?_<;>intro h32
 ·refine Bu H1<|.seq ?_
  refine Bu H1<|.block ?_
  refine Cf 13 122 2 (by decide) (k':=2) (by simp[go_sem]) ?_
  simp[go_sem,-Prod.exists]
  refine Cj (fun (y1:(List (Int×Int))×Int)=>⟨[(4,.li now),(6,.ptr 0 0),(7,.ptr 1 0),(12,.li e1),(13,.own 2 y1.1.length),(14,.li y1.2)],[.box 70 (x.a false),.box 56 (m.a false),.row 122 2 false false (Ach y1.1)]⟩) (fun y1=>1<=y1.2/\y1.1.length<=y1.2/\y1.2<=2000) (fun y1=>(m.args.length - y1.2).toNat) ([],1) (wk H1 [1,2,3]) (⟨by omega,by simp,by dsimp only;omega⟩) fun y1 hy1=>?_
  refine Ca ?_
  have hw2:=Dw (y1.2+1:Int)
  refine Bu (Fa H1 hw2) ?_
  refine Br ?_ ?_<;>intro h39
  ·refine Bp<|.seq<|.block ?_
   obtain⟨e3,H3⟩:=gx m.args y1.2.toNat
   obtain⟨e4,H4⟩:=gx m.args ((y1.2+1).toNat)
   refine VX.G1 (P6 H1 hw2 H3 H4) ?_
   have hw5:=Dw (y1.2+2:Int)
   refine B0 (Zd H1 hw2 H3 H4 hw5) ?_
   refine⟨(y1.1++([(e3,e4)]),(y1.2+2)),?_,?_,wQ [0,1,2] ?_ ?_⟩
   ·omega
   ·exact⟨by dsimp only;omega,by simp;omega,by dsimp only;omega⟩
   all_goals simp[go_sem,H1,hw2,H3,H4,hw5]
  refine Bt<|.Z (Fa H1 hw2) 2 ?_
  refine B8 (Fa H1 hw2) (Aa6 x.reqs e1 y1.1 now hd.reqs hd.b.legs (by omega)) ?_
  exact .ret (Ep (Fa H1 hw2) ((Iv x.reqs e1 y1.1 now hd.reqs hd.b.legs (by omega)).1,(Iv x.reqs e1 y1.1 now hd.reqs hd.b.legs (by omega)).2) (Abf x.reqs e1 y1.1 now hd.reqs hd.b.legs (by omega)))
 refine Bp<|.L H1 (Aa9 x.reqs e1 hd.b.reqs hd.b.legs) ?_
 exact .ret (Ep H1 ((Iw x.reqs e1 hd.b.reqs hd.b.legs).1,(Iw x.reqs e1 hd.b.reqs hd.b.legs).2) (by have hq:=Abh x.reqs e1 hd.b.reqs hd.b.legs;exact⟨Ak hq.1 hd.reqs,hq.2⟩))
def Ku:List Ew×Int:=(Em (Yh cfg x m slot now hd h1 k6 hl2 hn s0 s1)).choose
theorem Aoh:PP 190 [] [cfg.g,x.g,m.g,.li slot,.li now] [] (.tup [.imm false 5 (G6 (Ku cfg x m slot now hd h1 k6 hl2 hn s0 s1).1),.lit (.int .i64 (Ku cfg x m slot now hd h1 k6 hl2 hn s0 s1).2)]):=(Em (Yh cfg x m slot now hd h1 k6 hl2 hn s0 s1)).choose_spec.1
theorem Aoy:(Ku cfg x m slot now hd h1 k6 hl2 hn s0 s1).1.length<=3/\∀r∈(Ku cfg x m slot now hd h1 k6 hl2 hn s0 s1).1,r.legs.length<=1000000:=(Em (Yh cfg x m slot now hd h1 k6 hl2 hn s0 s1)).choose_spec.2
end
end
section
variable {x:Dx}
theorem A01 {k:Int} (hd:F8 x) {ro:Jq×Int×Int} (h:ro.2.2=0->(∃bk,ro.1={ x.reg with bk:=bk }/\LvR k x.reg.bk bk)/\Im x.reg.toks ro.2.1=true) (h0:ro.2.2=0) :
 F8 ⟨ro.1,x.reqs,x.draws,x.aud⟩/\0<=ro.2.1/\ro.2.1<ro.1.toks.length/\ro.1.num=x.reg.num/\ro.1.ag=x.reg.ag:=by
 obtain⟨⟨bk,e,_⟩,hu⟩:=h h0
 have hr:=Ae3 hu
 obtain⟨r,s,c⟩:=ro
 dsimp only at e hr ⊢
 subst e
 exact⟨⟨⟨⟨hd.b.reg.sec,hd.b.reg.lims,hd.b.reg.toks,hd.b.reg.tsec,hd.b.reg.vehs⟩,hd.b.reqs,hd.b.legs,hd.b.draws,hd.b.draw,hd.b.aud⟩,hd.vehs,hd.reqs,hd.dr,hd.rq⟩,hr.1,hr.2,rfl,rfl⟩
theorem Apv (k v:Int):Hy (Jd k v):=by
 have h:=Uk k v
 rw[h]
 simp[Hy]
theorem A0r {k now:Int} (h1:x.reqs.length<=1000) (h2:x.reg.toks.length<=1000000):Hy (Ip x k now h1 h2):=by
 have h:=Acp x k now h1 h2
 unfold Hy
 rw[h.1,h.2.1]
 exact⟨Ae _,h.2.2.1,Ae _⟩
structure OkR (x:Dx) (it:Ff) (now:Int) (m:D0) (y:Dx) (sl:Int):Prop where
  code:it.code=0
  srv:1<=it.kind/\it.kind<=12
  dec:∃h,E6 it.kind it.pay h=(m,0)
  kind:m.kind=it.kind
  op:∃h1 h2 r,Hl x.reg m now h1 h2=(r,sl,0)/\y=⟨r,x.reqs,x.draws,x.aud⟩
inductive Ab2 (cfg:Fc) (x:Dx) (ses:Int) (it:Ff) (now:Int):Dx×D0×Int×Int->Prop
  | bad {c:Int}:c≠0->Ab2 cfg x ses it now (x,⟨0,[],[],[]⟩,-1,c)
  | reg {m:D0} {y:Dx} {sl:Int} {R:Dx×D0×Int}:OkR x it now m y sl->(m.kind=2\/m.kind=3\/m.kind=4\/m.kind=5)->(∃h1 h2 h3 h4 h5 h6 h7,E4 y m sl now h1 h2 h3 h4 h5 h6 h7=R)->Ab2 cfg x ses it now (R.1,R.2.1,-1,R.2.2)
  | ask {m:D0} {y:Dx} {sl c:Int} {l:List Ew}:OkR x it now m y sl->(m.kind=6\/m.kind=7\/m.kind=8)->c≠0->(∃h1 h2 h3 h4 h5 h6 h7,Ku cfg y m sl now h1 h2 h3 h4 h5 h6 h7=(l,c))->Ab2 cfg x ses it now (y,⟨0,[],[],[]⟩,-1,c)
  | asked {m:D0} {y:Dx} {sl v:Int} {l:List Ew}:OkR x it now m y sl->(m.kind=6\/m.kind=7\/m.kind=8)->(∃h1 h2 h3 h4 h5 h6 h7,Ku cfg y m sl now h1 h2 h3 h4 h5 h6 h7=(l,0))->m.args[0]? = some v->Ab2 cfg x ses it now (⟨y.reg,l,y.draws,y.aud⟩,Jd m.kind v,-1,0)
  | no {m:D0} {y:Dx} {sl:Int}:OkR x it now m y sl->(m.kind=10\/m.kind=11)->Ab2 cfg x ses it now (y,⟨0,[],[],[]⟩,-1,8)
  | aud {m:D0} {y:Dx} {sl v:Int} {l:List Bool}:OkR x it now m y sl->m.kind=10->m.args[0]? = some v->(l=y.aud\/0<=ses/\l=y.aud.set ses.toNat (v == 1))->Ab2 cfg x ses it now (⟨y.reg,y.reqs,y.draws,l⟩,Jd m.kind v,-1,0)
  | reset {m:D0} {y:Dx} {sl v:Int}:OkR x it now m y sl->m.kind=11->m.args[0]? = some v->Ab2 cfg x ses it now (y,Jd m.kind v,v,0)
  | tell {m:D0} {y:Dx} {sl:Int}:OkR x it now m y sl->(m.kind=1\/m.kind=9\/m.kind=12)->(h1:y.reqs.length<=1000)->(h2:y.reg.toks.length<=1000000)->Ab2 cfg x ses it now (y,Ip y m.kind now h1 h2,-1,0)
def Ax2 (cfg:Fc) (x:Dx) (ses:Int) (it:Ff) (now:Int) (d:Dx×D0×Gk×Int):Prop:=∃e,Ab2 cfg x ses it now e/\d.1=e.1/\d.2.2.1=⟨e.1.reg.num,it.kind,e.2.2.2⟩/\(e.2.2.2=0->d.2.1=e.2.1/\d.2.2.2=e.2.2.1)/\(e.2.2.2≠0->d.2.1=⟨15,[],[it.kind,e.2.2.2],[]⟩/\d.2.2.2 = -1)
def Awb (x:Dx) (y:Dx) (m:D0):Prop:=F8 y/\y.aud.length=x.aud.length/\y.reg.num=x.reg.num/\y.reg.ag=x.reg.ag/\Hy m
theorem F8.reqsI (h:F8 x) {l:List Ew} (hl:l.length<=3/\∀r∈l,r.legs.length<=1000000):F8 ⟨x.reg,l,x.draws,x.aud⟩:=⟨⟨h.b.reg,Ak hl.1 (by decide),hl.2,h.b.draws,h.b.draw,h.b.aud⟩,h.vehs,hl.1,h.dr,h.rq⟩
theorem F8.audI (h:F8 x) {l:List Bool} (hl:l.length=x.aud.length):F8 ⟨x.reg,x.reqs,x.draws,l⟩:=⟨⟨h.b.reg,h.b.reqs,h.b.legs,h.b.draws,h.b.draw,by have:=h.b.aud;dsimp only;omega⟩,h.vehs,h.reqs,h.dr,h.rq⟩
theorem Ey.dull {P:Program} {f:FuncId} {σa:List Ob} {args:List AV} {ty k:Nat} {fr fz:Bool} {es:List (List T)} {res:AV} (h:Ey P f σa args [.row ty k fr fz es] res):Ey P f σa args [.row ty k false fz es] res :=
 ⟨h.1,fun E β us hn ho hβ r=>(h.2 E β us hn ho hβ r).mono fun e w' ⟨v,β',he,r'⟩=>⟨v,β',he,(r'.flag (id:=0) rfl (fun h=>Bool.noConfusion h) (fun h=>h)).1⟩⟩
section
variable (cfg:Fc) (x:Dx) (ses:Int) (it:Ff) (now:Int) (hd:F8 x) (hp:it.pay.length<=1000)
include cfg ses now hd hp
theorem Pj:Cx 170 [.row 4 1 false false (tB x.aud)] [cfg.g,.agg [.li x.reg.num,.mY x.reg.ag.sec,.li x.reg.ag.ri,.li x.reg.ag.cls,.mI x.reg.ag.lims,.li x.reg.ag.rq,.li x.reg.ag.se,.li x.reg.ag.ra,.li x.reg.ag.bu,.mTok x.reg.toks,.mVeh x.reg.vehs,.li x.reg.bk.lv,.li x.reg.bk.ra,.li x.reg.bk.bu,.mReq x.reqs,.mYs x.draws,.own 0 x.aud.length],.li ses,it.g,.li now] (fun d:Dx×D0×Int×Int=>[.row 4 1 false true (tB d.1.aud)]) (fun d=>.tup [d.1.g,d.2.1.g,.li d.2.2.1,.li d.2.2.2]) (fun d=>Awb x d.1 d.2.1/\Ab2 cfg x ses it now d):=by
 refine Tj Tryz.func170 ?_
 have hpM:it.pay.length<=1000000:=by omega
 have hv41:=S6 it.kind it.pay hpM
 have hqd:=(Td it.kind it.pay hpM).1
 have hsh:=(Ic it.kind).2.2.2.2.2.2.2.2
 generalize hme:E6 it.kind it.pay hpM=mr at hv41 hqd
 refine Bq<|.seq ?_
 refine Bq ?_
 refine Br ?_ ?_<;>intro h25
 ·refine VX.D ?_
  refine B2 Dy 0 ?_
  exact .ret ⟨(x,⟨0,[],[],[]⟩,(-1),it.code),rW Dy [0],⟨⟨hd,rfl,rfl,rfl,Ahm⟩,.bad (by first | decide | omega)⟩⟩
 refine Bp<|.seq<|.L Dy (Xq it.kind) ?_
 refine Br ?_ ?_<;>intro h33
 ·refine Bq ?_
  refine B2 Dy 0 ?_
  exact .ret ⟨(x,⟨0,[],[],[]⟩,(-1),5),rW Dy [0],⟨⟨hd,rfl,rfl,rfl,Ahm⟩,.bad (by decide)⟩⟩
 refine Bp<|.L Dy (hv41)<|.seq ?_
 refine Bq ?_
 refine Br ?_ ?_<;>intro h45
 ·refine Bq ?_
  refine B2 Dy 0 ?_
  exact .ret ⟨(x,⟨0,[],[],[]⟩,(-1),6),rW Dy [0],⟨⟨hd,rfl,rfl,rfl,Ahm⟩,.bad (by decide)⟩⟩
 refine Bp ?_
 obtain⟨hk,hf1,hfl0,hft,hfd,hnn⟩:=hqd h45
 have ht:mr.1.tok.length<=1000000:=by omega
 have hfl:mr.1.args.length<=1000:=hfl0
 have hvo:=Add x.reg mr.1 now hd.b.reg ht
 have hqo:=Vc x.reg mr.1 now hd.b.reg ht
 generalize hro:Hl x.reg mr.1 now hd.b.reg ht=ro at hvo hqo
 refine B8 Dy (hvo)<|.seq ?_
 refine Bq ?_
 refine Br ?_ ?_<;>intro h58
 ·refine Bq ?_
  refine B2 Dy 0 ?_
  exact .ret ⟨(x,⟨0,[],[],[]⟩,(-1),ro.2.2),rW Dy [0],⟨⟨hd,rfl,rfl,rfl,Ahm⟩,.bad (by first | decide | omega)⟩⟩
 refine Bp ?_
 obtain⟨hI,hs0,hs1,hnum,hag⟩:=A01 hd hqo h58
 rw[<- hk] at hsh hf1
 have m1:mr.1.tok.length<=2000:=by omega
 have m2:mr.1.args.length<=2000:=by omega
 have m3:mr.1.data.length<=2000:=by omega
 have a2:mr.1.kind=2->3<=mr.1.args.length:=fun h=>by have:=hsh.1 h;omega
 have a3:mr.1.kind=3\/mr.1.kind=4\/mr.1.kind=5->1<=mr.1.args.length:=fun h=>by rcases h with h | h | h;(have:=hsh.2.2.2 (.inl h);omega);(have:=hsh.2.1 h;omega);(have:=hsh.2.2.2 (.inr (.inl h));omega)
 have a4:mr.1.kind=4->2<=mr.1.args.length:=fun h=>by have:=hsh.2.1 h;omega
 have k6:mr.1.kind=6->3<=mr.1.args.length:=fun h=>by have:=hsh.2.2.1 h;omega
 have hOk:OkR x it now mr.1 ⟨ro.1,x.reqs,x.draws,x.aud⟩ ro.2.1:=⟨by omega,by simp[Ws] at h33;omega,⟨hpM,by rw[hme];exact Prod.ext rfl h45⟩,hk,⟨_,_,ro.1,by rw[hro];exact Prod.ext rfl (Prod.ext rfl h58),rfl⟩⟩
 refine Bq<|.seq ?_
 refine Bq<|.block ?_
 refine Ce (by rfl) fun K1 hK1=>?_
 simp[go_sem]
 refine hK1 _ ⟨_,_,_,_,_,_,_,_,rfl,.more (by decide) rfl rfl (.more (by decide) rfl rfl (.one (by decide) rfl rfl)),by decide,rfl,by simp[go_sem];rfl,by simp[go_sem];rfl,by simp[go_sem],?_⟩;clear hK1
 refine Br ?_ ?_<;>intro h66
 ·refine B2 Dy 0 ?_
  refine B8 Dy (Adl ⟨ro.1,x.reqs,x.draws,x.aud⟩ mr.1 ro.2.1 now hI m1 m2 m3 a2 a3 a4) ?_
  have hau:=(Py ⟨ro.1,x.reqs,x.draws,x.aud⟩ mr.1 ro.2.1 now hI m1 m2 m3 a2 a3 a4).2.1
  refine C9 hau ?_
  exact .ret ⟨((E4 ⟨ro.1,x.reqs,x.draws,x.aud⟩ mr.1 ro.2.1 now hI m1 m2 m3 a2 a3 a4).1,(E4 ⟨ro.1,x.reqs,x.draws,x.aud⟩ mr.1 ro.2.1 now hI m1 m2 m3 a2 a3 a4).2.1,(-1),(E4 ⟨ro.1,x.reqs,x.draws,x.aud⟩ mr.1 ro.2.1 now hI m1 m2 m3 a2 a3 a4).2.2),rW hau [0],(by have hq:=Py ⟨ro.1,x.reqs,x.draws,x.aud⟩ mr.1 ro.2.1 now hI m1 m2 m3 a2 a3 a4;exact⟨⟨hq.1,congrArg List.length hq.2.1,hq.2.2.1.trans hnum,hq.2.2.2.1.trans hag,hq.2.2.2.2.1⟩,.reg hOk (by omega) ⟨hI,m1,m2,m3,a2,a3,a4,rfl⟩⟩)⟩
 refine Ce (by rfl) fun K1 hK1=>?_
 simp[go_sem]
 refine hK1 _ ⟨_,_,_,_,_,_,_,_,rfl,.more (by decide) rfl rfl (.one (by decide) rfl rfl),by decide,rfl,by simp[go_sem];rfl,by simp[go_sem];rfl,by simp[go_sem],?_⟩;clear hK1
 refine Br ?_ ?_<;>intro h83
 ·have hk83:mr.1.kind=6\/mr.1.kind=7\/mr.1.kind=8:=by omega
  have ha1:1<=mr.1.args.length:=by rcases hk83 with h | h | h;(have:=k6 h;omega);(have:=hsh.2.2.2 (.inr (.inr (.inl h)));omega);(have:=hsh.2.2.2 (.inr (.inr (.inr (.inl h))));omega)
  refine B2 Dy 0 ?_
  refine B8 Dy (Aoh cfg ⟨ro.1,x.reqs,x.draws,x.aud⟩ mr.1 ro.2.1 now hI ha1 k6 hfl hnn hs0 hs1)<|.seq ?_
  refine Bq ?_
  refine Br ?_ ?_<;>intro h97
  ·refine Bq ?_
   exact .ret ⟨(⟨ro.1,x.reqs,x.draws,x.aud⟩,⟨0,[],[],[]⟩,(-1),(Ku cfg ⟨ro.1,x.reqs,x.draws,x.aud⟩ mr.1 ro.2.1 now hI ha1 k6 hfl hnn hs0 hs1).2),rW Dy [0],⟨⟨hI,rfl,hnum,hag,Ahm⟩,.ask hOk hk83 (by omega) ⟨hI,ha1,k6,hfl,hnn,hs0,hs1,rfl⟩⟩⟩
  refine Bp<|.R ?_
  obtain⟨e1,H1⟩:=gx mr.1.args 0
  refine Dd H1 (Ub mr.1.kind e1) ?_
  exact .ret ⟨(⟨ro.1,(Ku cfg ⟨ro.1,x.reqs,x.draws,x.aud⟩ mr.1 ro.2.1 now hI ha1 k6 hfl hnn hs0 hs1).1,x.draws,x.aud⟩,(Jd mr.1.kind e1),(-1),0),rW H1 [0],⟨⟨hI.reqsI (Aoy cfg ⟨ro.1,x.reqs,x.draws,x.aud⟩ mr.1 ro.2.1 now hI ha1 k6 hfl hnn hs0 hs1),rfl,hnum,hag,Apv _ _⟩,.asked hOk hk83 ⟨hI,ha1,k6,hfl,hnn,hs0,hs1,Prod.ext rfl h97⟩ H1⟩⟩
 refine Bq ?_
 refine Br ?_ ?_<;>intro h111
 ·refine Ca ?_
  have ha1:1<=mr.1.args.length:=by have:=hsh.2.2.2 (.inr (.inr (.inr (.inr (.inl h111)))));omega
  obtain⟨e2,H2⟩:=gx mr.1.args 0
  refine Bu H2 ?_
  refine Br ?_ ?_<;>intro h117
  ·refine Bu H2 ?_
   refine B2 H2 0 ?_
   exact .ret ⟨(⟨ro.1,x.reqs,x.draws,x.aud⟩,⟨0,[],[],[]⟩,(-1),8),rW H2 [0],(by first | exact⟨⟨hI,rfl,hnum,hag,Apv _ _⟩,.reset hOk h146 (by assumption)⟩ | exact⟨⟨hI,rfl,hnum,hag,Ahm⟩,.no hOk (by omega)⟩)⟩
  refine Bp<|.seq<|.H H2 ?_
  refine Br ?_ ?_<;>intro h128
  ·obtain⟨e3,H3⟩:=gx x.aud ses.toNat
   refine VX.G1 (Fa H2 H3) ?_
   refine Dd (Fa H2 H3) (Ub mr.1.kind e2) ?_
   refine B2 (Fa H2 H3) 0 ?_
   exact .ret ⟨(⟨ro.1,x.reqs,x.draws,(x.aud).set ses.toNat ((e2:Int) == 1)⟩,(Jd mr.1.kind e2),(-1),0),rW (Fa H2 H3) [0],⟨⟨hI.audI (by simp),by simp,hnum,hag,Apv _ _⟩,.aud hOk h111 H2 (.inr ⟨by omega,rfl⟩)⟩⟩
  refine Bp<|.M H2 (Ub mr.1.kind e2) ?_
  refine B2 H2 0 ?_
  exact .ret ⟨(⟨ro.1,x.reqs,x.draws,x.aud⟩,(Jd mr.1.kind e2),(-1),0),rW H2 [0],⟨⟨hI,rfl,hnum,hag,Apv _ _⟩,.aud hOk h111 H2 (.inl rfl)⟩⟩
 refine Bq ?_
 refine Br ?_ ?_<;>intro h146
 ·refine Ca ?_
  have ha1:1<=mr.1.args.length:=by have:=hsh.2.2.2 (.inr (.inr (.inr (.inr (.inr h146)))));omega
  obtain⟨e4,H4⟩:=gx mr.1.args 0
  refine C9 H4 ?_
  refine Br ?_ ?_<;>intro h155
  ·refine Bu H4 ?_
   refine B2 H4 0 ?_
   exact .ret ⟨(⟨ro.1,x.reqs,x.draws,x.aud⟩,⟨0,[],[],[]⟩,(-1),8),rW H4 [0],(by first | exact⟨⟨hI,rfl,hnum,hag,Apv _ _⟩,.reset hOk h146 (by assumption)⟩ | exact⟨⟨hI,rfl,hnum,hag,Ahm⟩,.no hOk (by omega)⟩)⟩
  refine Bp<|.M H4 (Ub mr.1.kind e4) ?_
  refine B2 H4 0 ?_
  exact .ret ⟨(⟨ro.1,x.reqs,x.draws,x.aud⟩,(Jd mr.1.kind e4),e4,0),rW H4 [0],(by exact⟨⟨hI,rfl,hnum,hag,Apv _ _⟩,.reset hOk h146 (by assumption)⟩)⟩
 refine Bp<|.Z Dy 0 ?_
 refine Dd Dy (Alx ⟨ro.1,x.reqs,x.draws,x.aud⟩ mr.1.kind now (Ak hI.reqs (by decide)) hI.b.reg.toks) ?_
 exact .ret ⟨(⟨ro.1,x.reqs,x.draws,x.aud⟩,(Ip ⟨ro.1,x.reqs,x.draws,x.aud⟩ mr.1.kind now (Ak hI.reqs (by decide)) hI.b.reg.toks),(-1),0),rW Dy [0],(by first | exact⟨⟨hI,rfl,hnum,hag,Apv _ _⟩,.reset hOk h146 (by assumption)⟩ | exact⟨⟨hI,rfl,hnum,hag,Ahm⟩,.no hOk (by omega)⟩ | exact⟨⟨hI,rfl,hnum,hag,A0r (Ak hI.reqs (by decide)) hI.b.reg.toks⟩,.tell hOk (by have:=hOk.srv;have:=hOk.kind;omega) (Ak hI.reqs (by decide)) hI.b.reg.toks⟩)⟩
def Fm:Dx×D0×Int×Int:=(Pj cfg x ses it now hd hp).choose
theorem Adm:PP 170 [.row 4 1 false false (tB x.aud)] [cfg.g,.agg [.li x.reg.num,.mY x.reg.ag.sec,.li x.reg.ag.ri,.li x.reg.ag.cls,.mI x.reg.ag.lims,.li x.reg.ag.rq,.li x.reg.ag.se,.li x.reg.ag.ra,.li x.reg.ag.bu,.mTok x.reg.toks,.mVeh x.reg.vehs,.li x.reg.bk.lv,.li x.reg.bk.ra,.li x.reg.bk.bu,.mReq x.reqs,.mYs x.draws,.own 0 x.aud.length],.li ses,it.g,.li now] [.row 4 1 false true (tB ((Fm cfg x ses it now hd hp).1.aud))] (.tup [.agg ((Fm cfg x ses it now hd hp).1.a false),.agg ((Fm cfg x ses it now hd hp).2.1.a false),.lit (.int .i64 (Fm cfg x ses it now hd hp).2.2.1),.lit (.int .i64 (Fm cfg x ses it now hd hp).2.2.2)]):=(Pj cfg x ses it now hd hp).choose_spec.1
theorem Ahj:Awb x (Fm cfg x ses it now hd hp).1 (Fm cfg x ses it now hd hp).2.1/\Ab2 cfg x ses it now (Fm cfg x ses it now hd hp):=(Pj cfg x ses it now hd hp).choose_spec.2
end
theorem Pt (x:Dx) (hb:Vh x):PP 86 [] [x.g] [.row 4 1 false false (tB x.aud)] (.agg [.li x.reg.num,.mY x.reg.ag.sec,.li x.reg.ag.ri,.li x.reg.ag.cls,.mI x.reg.ag.lims,.li x.reg.ag.rq,.li x.reg.ag.se,.li x.reg.ag.ra,.li x.reg.ag.bu,.mTok x.reg.toks,.mVeh x.reg.vehs,.li x.reg.bk.lv,.li x.reg.bk.ra,.li x.reg.bk.bu,.mReq x.reqs,.mYs x.draws,.own 0 x.aud.length]):=(X1 x hb).dull
section
variable (cfg:Fc) (x:Dx) (ses:Int) (it:Ff) (now:Int) (hd:F8 x) (hp:it.pay.length<=1000)
include cfg ses now hd hp
theorem Sf:Ct 149 [cfg.g,x.g,.li ses,it.g,.li now] (fun d:Dx×D0×Gk×Int=>.tup [d.1.g,d.2.1.g,d.2.2.1.g,.li d.2.2.2]) (fun d=>Awb x d.1 d.2.1/\Ax2 cfg x ses it now d):=by
 refine Er Tryz.func149 ?_
 have hQx:=Ahj cfg x ses it now hd hp
 have hQ:=hQx.1
 refine Bq ?_
 refine Cw (fun K kk=>by simp[go_sem];refine .l (Pt x hd.b) ?_;simp[go_sem];refine .o [6] (Adm cfg x ses it now hd hp) ?_;simp[go_sem];exact kk)<|.seq ?_
 refine Bq ?_
 refine Br ?_ ?_<;>intro h31
 ·refine Bq ?_
  refine Ci ?_
  refine Bq ?_
  refine VX.D ?_
  refine B2 Dy 8 ?_
  exact .ret (Ep Dy ((Fm cfg x ses it now hd hp).1,⟨15,[],[it.kind,(Fm cfg x ses it now hd hp).2.2.2],[]⟩,⟨(Fm cfg x ses it now hd hp).1.reg.num,it.kind,(Fm cfg x ses it now hd hp).2.2.2⟩,(-1)) (by first | exact⟨hQ,_,hQx.2,rfl,rfl,fun _=>⟨rfl,rfl⟩,fun h=>absurd (by omega) h⟩ | exact⟨⟨hQ.1,hQ.2.1,hQ.2.2.1,hQ.2.2.2.1,by simp[Hy]⟩,_,hQx.2,rfl,rfl,fun h=>absurd h (by omega),fun _=>⟨rfl,rfl⟩⟩))
 refine Bp<|.R ?_
 refine VX.D ?_
 exact .ret (Ep Dy ((Fm cfg x ses it now hd hp).1,(Fm cfg x ses it now hd hp).2.1,⟨(Fm cfg x ses it now hd hp).1.reg.num,it.kind,(Fm cfg x ses it now hd hp).2.2.2⟩,(Fm cfg x ses it now hd hp).2.2.1) (by exact⟨hQ,_,hQx.2,rfl,rfl,fun _=>⟨rfl,rfl⟩,fun h=>absurd (by omega) h⟩))
def F7:Dx×D0×Gk×Int:=(Em (Sf cfg x ses it now hd hp)).choose
theorem Si:PP 149 [] [cfg.g,x.g,.li ses,it.g,.li now] [] (.tup [.agg ((F7 cfg x ses it now hd hp).1.a false),.agg ((F7 cfg x ses it now hd hp).2.1.a false),.agg ((F7 cfg x ses it now hd hp).2.2.1.a false),.lit (.int .i64 (F7 cfg x ses it now hd hp).2.2.2)]):=(Em (Sf cfg x ses it now hd hp)).choose_spec.1
theorem Ox:Awb x (F7 cfg x ses it now hd hp).1 (F7 cfg x ses it now hd hp).2.1/\Ax2 cfg x ses it now (F7 cfg x ses it now hd hp):=(Em (Sf cfg x ses it now hd hp)).choose_spec.2
end
end
section
theorem Vq (a:H0):Ct 130 [a.g] (fun d:Int=>.li d) (fun d=>0<=d/\d<=2/\(1<=a.se/\a.se<=2->d=a.se)):=by
 refine Er Tryz.func130 ?_
 iterate 2 refine Bq ?_
 refine Bz (Fk ?_);simp[go_sem]
 exact⟨(if 2<(if a.se<0 then 0 else a.se) then 2 else (if a.se<0 then 0 else a.se)),by rfl,(by dsimp only;(repeat' split)<;>omega)⟩
def Ek (a:H0):Int:=(Em (Vq a)).choose
theorem Acc (a:H0):PP 130 [] [a.g] [] (.li (Ek a)):=(Em (Vq a)).choose_spec.1
theorem Gw (a:H0):0<=(Ek a)/\(Ek a)<=2/\(1<=a.se/\a.se<=2->(Ek a)=a.se):=(Em (Vq a)).choose_spec.2
def En (l:List H0):Nat->Int
 | 0=>0
 | k+1=>En l k+match l[k]? with
  | some a=>Ek a
  | none=>0
theorem Kb (l:List H0):∀k,0<=En l k/\En l k<=2*(k:Int)
 | 0=>by simp[En]
 | k+1=>by
  have ih:=Kb l k
  rw[En]
  cases h:l[k]? with
  | none=>simp only;omega
  | some a=>have:=Gw a;simp only;omega
variable {l:List H0}
theorem Mf {k:Nat} {a:H0} (h:l[k]? = some a):En l (k+1)=En l k+Ek a:=by rw[En,h]
def X5 (l:List H0) (k:Nat) (a:H0):List (Int×Int×Int):=(List.range (Ek a).toNat).map fun (n:Nat)=>((k:Int),(n:Int),En l k+(n:Int))
theorem Xe (l:List H0) (k:Nat) (a:H0):((X5 l k a).length:Int)=Ek a:=by
 have:=Gw a
 simp[X5]
 omega
theorem Arf {k:Nat} {a:H0} {n:Nat} (h:(n:Int)<Ek a):(X5 l k a)[n]? = some ((k:Int),(n:Int),En l k+n):=by
 have hn:n<(Ek a).toNat:=by omega
 unfold X5
 rw[Ap,List.getElem?_range hn]
 rfl
abbrev cfT (c:Fc):List T:=[.sl 3 (Yx c.juns),.sl 8 (tAg c.ags),.li c.per,.li c.cap,.li c.hold,.li c.lock]
abbrev plA (x:Int×Int×Int):AV:=.agg [.li x.1,.li x.2.1,.li x.2.2]
theorem X0 (c:Fc) (k:Nat) (ag:H0) (hk:c.ags[k]? = some ag) (h:c.ags.length<=1000000):Yd Tryz.prog 129 [.iptr false (cfT c) 0,.iptr false [.li (k:Int)] 0] ((X5 c.ags k ag).map fun a=>[plA a]):=by
 have hkl:=(Ab.1 hk).1
 refine Aeb Tryz.func129 rfl rfl rfl (by simp[Tryz.ntmps129]) rfl fun yl=>?_
 refine B9 (by rfl) fun K1 hK1=>?_
 simp[go_sem]
 refine hK1 _ ?_;clear hK1
 refine C3 ?_
 refine B9 (by rfl) fun K1 hK1=>?_
 simp[go_sem]
 repeat' with_reducible refine Ax ?_ ?_
 all_goals try (intros;(repeat' refine Ax ?_ ?_)<;>omega)
 refine hK1 _ ?_;clear hK1
 refine Cy ?_
 refine Dp k (fun j=>⟨[(0,.lit (.func (.yield yl) #[] #[])),(1,.iptr false (cfT c) 0),(2,.iptr false [.li (k:Int)] 0),(4,.li (En c.ags j)),(11,.imm false 8 ((tAg c.ags).take k)),(12,.li (k:Int)),(13,.li (j:Int))],[]⟩) (fun j=>0)
  (fun j=>True) (wQ [] ?_ ?_) ⟨rfl,rfl,trivial⟩ fun j hj _=>?_
 ·simp[go_sem,En,Nat.min_eq_left (Nat.le_of_lt hkl)]
 ·simp[go_sem]
 refine B9 (by rfl) fun K1 hK1=>?_
 simp[go_sem]
 refine hK1 _ ?_;clear hK1
 refine C3 ?_
 refine VI.Q ?_ ?_<;>intro h14
 ·
  refine De ?_
  refine C3 ?_
  refine Cy ?_
  obtain⟨e1,hx⟩:∃e,c.ags[j]? = some e:=⟨_,Aa (by omega)⟩
  have hb:=Kb c.ags j
  have hq:=Gw e1
  have hxt:((tAg c.ags).take k)[j]? = some e1.t:=by rw[Ag (by omega),Ap,hx];rfl
  refine B9 (by rfl) fun K1 hK1=>?_
  simp[go_sem,hx,hxt]
  repeat' with_reducible refine Ax ?_ ?_
  all_goals try (intros;(repeat' refine Ax ?_ ?_)<;>omega)
  refine hK1 _ ?_;clear hK1
  refine Cs (by rfl) fun K1 hK1=>?_
  simp[go_sem,hx]
  refine .l (Acc e1) ?_
  simp[go_sem]
  refine hK1 _ ?_;clear hK1
  refine Cs (by rfl) fun K1 hK1=>?_
  simp[go_sem]
  refine hK1 _ ?_;clear hK1
  refine⟨by omega,rfl,rfl,trivial,wQ [] ?_ ?_⟩
  ·simp[go_sem,Dw ((j:Int)+1),Mf hx,Dw (En c.ags j+Ek e1)]
  simp[go_sem]
 -- the agency itself
 obtain rfl:j=k:=by omega
 refine VI.exit ?_
 have hb:=Kb c.ags j
 have hq:=Gw ag
 refine B9 (by rfl) fun K1 hK1=>?_
 simp[go_sem,hk]
 repeat' with_reducible refine Ax ?_ ?_
 all_goals try (intros;(repeat' refine Ax ?_ ?_)<;>omega)
 refine .l (Acc ag) ?_
 simp[go_sem,hk]
 refine hK1 _ ?_;clear hK1
 refine Cy ?_
 refine Dp (Ek ag).toNat (fun n=>⟨[(0,.lit (.func (.yield yl) #[] #[])),(2,.iptr false [.li (j:Int)] 0),(4,.li (En c.ags j)),(27,.li (Ek ag)),(28,.li (n:Int))],[]⟩) (fun n=>n)
  (fun n=>True) (wQ [] ?_ ?_) ⟨rfl,rfl,trivial⟩ fun n hn _=>?_
 ·simp[go_sem]
 ·simp[go_sem]
 refine B9 (by rfl) fun K1 hK1=>?_
 simp[go_sem]
 refine hK1 _ ?_;clear hK1
 refine C3 ?_
 refine VI.Q ?_ ?_<;>intro h29
 ·refine De ?_
  refine C3 ?_
  refine Cy ?_
  refine B9 (by rfl) fun K1 hK1=>?_
  simp[go_sem]
  refine hK1 _ ?_;clear hK1
  refine C3 (Dt ?_)
  refine Ut.first 7 (by rfl) fun K1 hK1=>?_
  simp[go_sem,Dw (En c.ags j+n)]
  refine hK1 _ ?_;clear hK1
  refine Ut.yield (vs:=[plA ((j:Int),(n:Int),En c.ags j+n)]) (by simp[go_sem]) (by simp[go_sem]) (by decide) (by simp[go_sem]) (by simp[go_sem]) (by simp[go_sem]) (by simp[Arf (l:=c.ags) (k:=j) (a:=ag) (n:=n) (by omega)]) (by simp[go_sem]) rfl fun b=>?_
  refine Ut.rest (by rfl) fun K1 hK1=>?_
  cases b with
  | true =>
   simp[go_sem]
   refine hK1 _ ?_;clear hK1
   refine C5 (by simp[go_sem]) (by simp[go_sem]) (fun h39=>?_) (fun h39=>?_)<;>simp[go_sem] at h39
   exact VI.ret ⟨.inr rfl,fun h=>by cases h⟩
  | false =>
   simp[go_sem]
   refine hK1 _ ?_;clear hK1
   refine C5 (by simp[go_sem]) (by simp[go_sem]) (fun h39=>?_) (fun h39=>?_)<;>simp[go_sem] at h39
   refine De ?_
   refine Cs (by rfl) fun K1 hK1=>?_
   simp[go_sem]
   refine hK1 _ ?_;clear hK1
   refine⟨by omega,rfl,rfl,trivial,wQ [] ?_ ?_⟩
   ·simp[go_sem,Dw ((n:Int)+1)]
   simp[go_sem]
 refine VI.exit ?_
 exact⟨.inl rfl,fun _=>by have:=Xe c.ags j ag;simp only[A2];omega⟩
theorem S4 (c:Fc) (k:Int):PP 98 [] [c.g,.li k] [] (.fn 129 [.iptr false (cfT c) 0,.iptr false [.li k] 0]):=by
 refine Ey.boxes (σr:=[.box 30 (c.a false),.box 3 [.li k]]) (res:=.fn 129 [.ptr 0 0,.ptr 1 0]) ?_ (by simp[go_sem,St.o])
 refine Ei Tryz.func98 ?_
 iterate 2 refine Bw ?_
 exact .ret (rW Dy [0,1])
end
section
theorem Agv (c:Fs) (jn:Int) (ph:Int) (hb:Anx c) (hs:c.stuck.length=c.cfg.juns.length):Ct 43 [c.g,.li jn,.li ph] (fun d:Fs=>d.g) (fun d=>d.cfg=c.cfg/\d.ref=c.ref/\d.now=c.now/\d.desks=c.desks/\d.sigs=c.sigs/\d.svcs=c.svcs/\d.views=c.views/\d.stuck.length=c.stuck.length):=by
 refine Er Tryz.func43 ?_
 refine Bq ?_
 refine B8 Dy (Ov c hb)<|.seq ?_
 refine Bq ?_
 refine Br ?_ ?_<;>intro h26
 ·refine Bq ?_
  refine B2 Dy 2 ?_
  refine B2 Dy 3 ?_
  refine B2 Dy 4 ?_
  refine B2 Dy 5 ?_
  exact .ret (Ep Dy ⟨c.cfg,c.ref,c.now,c.desks,c.sigs,c.svcs,c.stuck,c.views⟩ ⟨rfl,rfl,rfl,rfl,rfl,rfl,rfl,by rfl⟩)
 refine Bp<|.seq ?_
 have hj:0<=jn/\jn<c.cfg.juns.length:=by omega
 obtain⟨j1,hj1⟩:∃e,c.cfg.juns[jn.toNat]? = some e:=⟨_,Aa (by omega)⟩
 refine B3 (fun K kk=>by simp +contextual[go_sem,hj1];(repeat first | exact kk | refine aK ?_)) ?_
 refine Br ?_ ?_<;>intro h41
 ·have hjs:jn<c.stuck.length:=by omega
  obtain⟨e1,H1⟩:=gx c.stuck jn.toNat
  refine B0 H1 ?_
  refine Bu H1 ?_
  refine B2 Dy 2 ?_
  refine B2 Dy 3 ?_
  refine B2 Dy 4 ?_
  refine B2 Dy 5 ?_
  exact .ret (Ep H1 ⟨c.cfg,c.ref,c.now,c.desks,c.sigs,c.svcs,(c.stuck).set jn.toNat ph,c.views⟩ ⟨rfl,rfl,rfl,rfl,rfl,rfl,rfl,by first | rfl | simp⟩)
 refine Bp<|.R ?_
 refine B2 Dy 2 ?_
 refine B2 Dy 3 ?_
 refine B2 Dy 4 ?_
 refine B2 Dy 5 ?_
 exact .ret (Ep Dy ⟨c.cfg,c.ref,c.now,c.desks,c.sigs,c.svcs,c.stuck,c.views⟩ ⟨rfl,rfl,rfl,rfl,rfl,rfl,rfl,by rfl⟩)
theorem Ey.frozB {P:Program} {f:FuncId} {args:List AV} {ty k ty2 k2:Nat} {fr fz fr2 fz2:Bool} {es es2:List (List T)} {res res':AV} (h:Ey P f [] args [.row ty k fr fz es,.row ty2 k2 fr2 fz2 es2] res) (hr:((res.melt fun i=>[Ob.row ty k fr true es,Ob.row ty2 k2 fr2 true es2].getD i .gone).ren fun _=>none).low=res'):Ey P f [] args [] res':=by
 refine⟨h.1,fun E β us hn ho hβ r=>(h.2 E β us hn ho hβ r).mono ?_⟩
 rintro e w' ⟨v,β',rfl,r1⟩
 have r2:=((r1.freeze (id:=0) (ty:=ty) (k:=k) (fr:=fr) (fz:=fz) (es:=es) rfl).1.freeze (id:=1) (ty:=ty2) (k:=k2) (fr:=fr2) (fz:=fz2) (es:=es2) rfl).1.melt
 obtain⟨β2,r3⟩:=r2.weak (sel:=[]) (st':=⟨[(0,res')],[]⟩) ⟨.cons (by rw[<- hr];exact Le.low _) .nil,fun j hj=>by simp at hj,rfl,List.nodup_nil⟩ fun id hid=>absurd (by show E.o0 id=_;rw[ho];simp[St.o]) hid
 exact⟨v,β2,rfl,r3⟩
theorem Ai9 (n:Int) (hn:n<=1000):Ct 57 [.li n] (fun d:F3=>d.g) (fun d=>d.ended.length<=1000):=by
 refine Er Tryz.func57 ?_
 refine Bq ?_
 refine Bq<|.seq ?_
 refine Bq ?_
 refine Br ?_ ?_<;>intro h11
 ·refine B0 Dy<|.seq ?_
  refine Bq<|.block ?_
  refine Bs n.toNat (fun i1 (y1:(List Int))=>⟨[(2,.ptr 0 0),(3,.ptr 1 0),(17,.li n.toNat),(18,.li i1)],[.box 138 [.li 0,.li 0,.nil 1],.box 138 [.li (-1),.li 0,.own 2 y1.length],.row 3 1 false false (tI y1)]⟩) (fun i1 y1=>y1.length=n.toNat) (List.replicate n.toNat 0) (wk Dy [0,1,2]) (by simp) fun i1 y1 hi1 hy1=>?_
  refine Bq<|.seq ?_
  refine Br ?_ ?_<;>intro h19
  ·refine Bp<|.seq<|.block<|.R ?_
   obtain⟨e1,H1⟩:=gx y1 i1
   refine B0 H1 ?_
   refine B0 H1 ?_
   refine⟨by omega,((y1).set i1 (-1)),?_,wk (Fa (Dw ((i1:Int)+1)) H1) [0,1,2]⟩
   simpa using hy1
  refine Bt<|.R ?_
  refine B2 Dy 2 ?_
  exact .ret (Ep Dy ⟨(-1),0,y1⟩ (by first | (simp;done) | (simp only[List.length_replicate];omega)))
 refine Bp<|.seq<|.R<|.block ?_
 refine Bs 0 (fun i2 (y2:Unit)=>⟨[(2,.ptr 0 0),(3,.ptr 1 0),(17,.li 0),(18,.li i2)],[.box 138 [.li 0,.li 0,.nil 1],.box 138 [.li (-1),.li 0,.nil 1]]⟩) (fun i2 y2=>True) () (wk Dy [0,1]) (trivial) fun i2 y2 hi2 hy2=>?_
 refine Bq<|.seq ?_
 refine Cl ?_ ?_<;>intro h19<;>simp[go_sem] at h19
 ·exfalso;omega
 refine Bt<|.R ?_
 exact .ret (Ep Dy ⟨(-1),0,[]⟩ (by (simp;done)))
section
variable (j:Ga) (s:Hz) (v:F3) (h1:j.phs.length<=8) (h2:s.ctl.lights.length<=8)
include v h1 h2
theorem Sa:∃d:Gp,PP 58 [] [j.g,s.g,v.g] [.row 3 1 false false (tI d.col),.row 3 1 false false (tI d.cnt)] (.agg [.lb d.fl,.lb d.ov,.own 0 d.col.length,.own 1 d.cnt.length])/\(d.col.length=j.phs.length/\d.cnt.length=j.phs.length):=by
 refine Nk (D:=Gp) (F:=fun d=>.agg [.lb d.fl,.lb d.ov,.own 0 d.col.length,.own 1 d.cnt.length]) (S:=fun d=>[.row 3 1 false false (tI d.col),.row 3 1 false false (tI d.cnt)]) (Q:=fun d=>d.col.length=j.phs.length/\d.cnt.length=j.phs.length) Tryz.func58 rfl rfl rfl (by simp[Tryz.ntmps58]) ?_
 have hf:=Z8 j (by omega)
 refine Bq ?_
 refine B8 Dy (Xp j (by first | assumption | omega))<|.seq ?_
 refine Bq ?_
 refine Br ?_ ?_<;>intro h14
 ·refine Bq ?_
  exact .ret ⟨⟨(E5 j (by first | assumption | omega)).fl,(E5 j (by first | assumption | omega)).ov,(E5 j (by first | assumption | omega)).col,(E5 j (by first | assumption | omega)).cnt⟩,rW Dy [4,5],(by dsimp only;omega)⟩
 refine Bp<|.R ?_
 refine Bq<|.seq ?_
 refine Bq<|.block ?_
 refine Bs j.phs.length (fun i1 (y1:(List Int)×(List Int))=>⟨[(4,.ptr 0 0),(6,.ptr 1 0),(7,.ptr 4 0),(22,.mPhase j.phs),(23,.li j.phs.length),(24,.li i1)],[.box 135 (s.a false),.box 128 [.lb false,.lb false,.nil 1,.nil 1],.row 3 1 false false (tI y1.1),.row 3 1 false false (tI y1.2),.box 128 [.lb false,.lb ((v.ph:Int) != (-1)),.own 2 y1.1.length,.own 3 y1.2.length]]⟩) (fun i1 y1=>y1.1.length=j.phs.length/\y1.2.length=j.phs.length) ((E5 j (by first | assumption | omega)).col,(E5 j (by first | assumption | omega)).cnt) (wk Dy [1,3,4,5,6]) (hf) fun i1 y1 hi1 hy1=>?_
 refine Bq<|.seq ?_
 refine Br ?_ ?_<;>intro h25
 ·refine Bp<|.seq<|.block ?_
  obtain⟨e1,H1⟩:=gx j.phs i1
  refine Bu H1<|.seq ?_
  refine Bu H1 ?_
  refine Br ?_ ?_<;>intro h34
  ·refine Bt<|.H H1 ?_
   exact .ret ⟨⟨false,((v.ph:Int) != (-1)),y1.1,y1.2⟩,rW H1 [2,3],(by dsimp only;omega)⟩
  refine Bp ?_
  obtain⟨e2,H2⟩:=gx s.ctl.lights i1
  refine Bu (Fa H1 H2) ?_
  obtain⟨e3,H3⟩:=gx y1.1 i1
  refine Bu (Jb H1 H2 H3) ?_
  refine Ds 2 rfl (by simp) (fun x:Int=>[T.lit (Value.int IntKind.i64 x)]) j.phs.length ?_ fun R hR=>?_
  ·apply Ks
   ·repeat' first | exact Mi | exact Mh | exact Mg (x:=0) rfl | apply Ko | apply Kr | apply Kq | apply Qi | apply (fun h=>Qh (x:=_) h rfl)
   first | rfl | omega
  simp[go_sem,-Prod.exists]
  refine Ca<|.H (P6 H1 H2 H3 hR) ?_
  refine Br ?_ ?_<;>intro h52
  ·obtain⟨e4,H4⟩:=gx R i1
   refine B0 (Zd H1 H2 H3 hR H4) ?_
   obtain⟨e5,H5⟩:=gx y1.2 i1
   obtain⟨Y1,cY1,qY1⟩:=Em (Zj e1 e2)
   refine Cp (cj6 H1 H2 H3 hR H4 H5) cY1 ?_
   refine B0 (cj6 H1 H2 H3 hR H4 H5) ?_
   refine⟨by omega,((R).set i1 e2.l,(y1.2).set i1 Y1),?_,wQ [0,1,2,3,4] ?_ ?_⟩
   ·first | omega | (simp;omega)
   all_goals simp[go_sem,Dw ((i1:Int)+1),H1,H2,H3,hR,H4,H5,hy1.1,hy1.2]
  refine Bp ?_
  obtain⟨e6,H6⟩:=gx y1.2 i1
  obtain⟨Y2,cY2,qY2⟩:=Em (Zj e1 e2)
  refine Cp (Zd H1 H2 H3 hR H6) cY2 ?_
  refine B0 (Zd H1 H2 H3 hR H6) ?_
  refine⟨by omega,(R,(y1.2).set i1 Y2),?_,wQ [0,1,2,3,4] ?_ ?_⟩
  ·first | omega | (simp;omega)
  all_goals simp[go_sem,Dw ((i1:Int)+1),H1,H2,H3,hR,H6,hy1.1,hy1.2]
 refine Bt<|.R ?_
 exact .ret ⟨⟨false,((v.ph:Int) != (-1)),y1.1,y1.2⟩,rW Dy [2,3],(by dsimp only;omega)⟩
def G9:Gp:=(Sa j s v h1 h2).choose
theorem Ag5:PP 58 [] [j.g,s.g,v.g] [.row 3 1 false false (tI (G9 j s v h1 h2).col),.row 3 1 false false (tI (G9 j s v h1 h2).cnt)] (.agg [.lit (.bool (G9 j s v h1 h2).fl),.lit (.bool (G9 j s v h1 h2).ov),.own 0 ((G9 j s v h1 h2).col).length,.own 1 ((G9 j s v h1 h2).cnt).length]):=(Sa j s v h1 h2).choose_spec.1
theorem Sm:(G9 j s v h1 h2).col.length=j.phs.length/\(G9 j s v h1 h2).cnt.length=j.phs.length:=(Sa j s v h1 h2).choose_spec.2
theorem Acn:(G9 j s v h1 h2).col.length<=8/\(G9 j s v h1 h2).cnt.length<=8:=by have:=Sm j s v h1 h2;omega
theorem Ab9:PP 58 [] [j.g,s.g,v.g] [] (.agg ((G9 j s v h1 h2).a false)):=(Ag5 j s v h1 h2).frozB (by simp[go_sem])
end
structure J9 (x:Fs):Prop where
  ref:x.ref=false
  jun:∀j∈x.cfg.juns,Nv j/\j.phs.length<=8
  nj:x.cfg.juns.length<=4
  na:x.cfg.ags.length<=4
  desks:x.desks.length=x.cfg.ags.length
  desk:∀d∈x.desks,F8 d/\1<=d.aud.length/\d.aud.length<=2
  sigs:x.sigs.length=x.cfg.juns.length
  sig:∀g∈x.sigs,g.ctl.lights.length<=8/\g.ctl.nxt.length<=2
  svcs:x.svcs.length=x.cfg.juns.length
  svc:∀g∈x.svcs,g.ended.length<=1000
  stuck:x.stuck.length=x.cfg.juns.length
  views:x.views.length=x.cfg.juns.length
  view:∀v∈x.views,v.col.length<=8/\v.cnt.length<=8
  vw:x.views.map (fun v=>v.cnt.length)=x.cfg.juns.map fun j=>j.phs.length
  dl:∀(k:Nat) (d:Dx) (a:H0),x.desks[k]? = some d->x.cfg.ags[k]? = some a->(d.aud.length:Int)=Ek a
def W5 (c d:Fs):Prop:=d.now=c.now/\∀(k:Nat) (x:Dx),c.desks[k]? = some x->∃l,d.desks[k]? = some ⟨x.reg,x.reqs,l,x.aud⟩
theorem W5.same {c d:Fs} (h1:d.now=c.now) (h2:d.desks=c.desks):W5 c d:=⟨h1,fun k x h=>⟨x.draws,by rw[h2];exact h⟩⟩
theorem W5.refl (c:Fs):W5 c c:=.same rfl rfl
theorem J9.b {x:Fs} (h:J9 x):Anx x:=⟨by have:=h.desks;have:=h.na;omega,fun d hd=>(h.desk d hd).1.b,by have:=h.sigs;have:=h.nj;omega,fun g hg=>⟨Ak (h.sig g hg).1 (by decide),Ak (h.sig g hg).2 (by decide)⟩,
 by have:=h.svcs;have:=h.nj;omega,fun g hg=>Ak (h.svc g hg) (by decide),by have:=h.stuck;have:=h.nj;omega,by have:=h.views;have:=h.nj;omega,fun v hv=>⟨Ak (h.view v hv).1 (by decide),Ak (h.view v hv).2 (by decide)⟩⟩
theorem Lc {α:Type} {p:α->Prop} {l:List α} {x:α} (h:∀y∈l,p y) (hx:p x):∀y∈l++[x],p y:=fun y hy=>by
 rcases A0.1 hy with h1 | h1
 ·exact h y h1
 rw[An.1 h1];exact hx
theorem Aqx {α β:Type} {l:List α} {r:List β} {x:α} {y:β} {i:Nat} {f:β->Nat} {g:α->Nat} (h:r.map f=(l.take i).map g) (hx:l[i]? = some x) (hy:f y=g x):(r++[y]).map f=(l.take (i+1)).map g:=by
 rw[List.take_add_one,hx,List.map_append,List.map_append,h]
 simp[hy]
theorem Aul {n:Int} {a:H0} {h1:a.sec.length<=1000000} {h2:a.lims.length<=1000000} (hs:1<=a.se/\a.se<=2):((Fw n a h1 h2).aud.length:Int)=a.se:=by
 rw[(Y8 n a h1 h2).2.2.2.2.2,List.length_replicate,if_neg (show ¬a.se<0 by omega),if_neg (by omega)]
 omega
theorem Avd {n:Int} {a:H0} {h1:a.sec.length<=1000000} {h2:a.lims.length<=1000000} (hr:a.rq<=3) (hs:1<=a.se/\a.se<=2):F8 (Fw n a h1 h2)/\1<=(Fw n a h1 h2).aud.length/\(Fw n a h1 h2).aud.length<=2:=by
 have h:=Y8 n a h1 h2
 have hg:=Wm n a h1 h2
 have ht:=Amm a h1
 have hv:(Fw n a h1 h2).reg=Gz n a h1 h2:=h.1
 refine⟨⟨⟨⟨?_,?_,?_,?_,?_⟩,?_,?_,?_,?_,?_⟩,?_,?_,?_,?_⟩,by have:=Aul (n:=n) (h1:=h1) (h2:=h2) hs;omega,h.2.2.2.1⟩
 ·rw[hv,hg.2.1];exact h1
 ·rw[hv,hg.2.1];exact h2
 ·rw[hv,hg.2.2.1];omega
 ·rw[hv,hg.2.2.1];exact ht.2
 ·rw[hv,hg.2.2.2.1];exact Ae _
 ·rw[h.2.1];exact Ae _
 ·rw[h.2.1];intro r hr;cases hr
 ·rw[h.2.2.1];exact Ae _
 ·rw[h.2.2.1];intro r hr;cases hr
 ·have:=h.2.2.2.1;omega
 ·rw[hv,hg.2.2.2.1];exact Ae _
 ·rw[h.2.1];exact Ae _
 ·rw[h.2.2.1];intro r hr;cases hr
 rw[hv,hg.2.1];exact hr
variable {l:List H0} {y:List Dx}
theorem Aw7 {e:H0} {i:Nat} {g1:e.sec.length<=1000000} {g2:e.lims.length<=1000000} (hl:y.length=i) (he:l[i]? = some e) (h:∀(k:Nat) (a:H0),k<i->l[k]? = some a->∃h1 h2,y[k]? = some (Fw k a h1 h2)):∀(k:Nat) (a:H0),k<i+1->l[k]? = some a->∃h1 h2,(y++[Fw i e g1 g2])[k]? = some (Fw k a h1 h2):=fun k a hk ha=>by
 by_cases hi:k<i
 ·obtain⟨p,q,h⟩:=h k a hi ha
  exact⟨p,q,by rw[Au (by omega)];exact h⟩
 have:k=i:=by omega
 subst this
 rw[he] at ha
 injection ha with ha
 subst ha
 exact⟨g1,g2,by rw[<- hl];simp⟩
theorem A03 (hS:∀x∈l,1<=x.se/\x.se<=2) (h:∀(k:Nat) (a:H0),l[k]? = some a->∃h1 h2,y[k]? = some (Fw k a h1 h2)):∀(k:Nat) (d:Dx) (a:H0),y[k]? = some d->l[k]? = some a->(d.aud.length:Int)=Ek a:=fun k d a hd ha=>by
 obtain⟨h1,h2,e⟩:=h k a ha
 rw[hd] at e
 injection e with e
 have hs:=hS a (Ac ha)
 rw[e,Aul hs,(Gw a).2.2 hs]
theorem Alc (c:Fc) (hb:Ab4 c) (hp:Mo c=true) (hJ:∀j∈c.juns,Nv j/\j.phs.length<=8) (hA:∀a∈c.ags,a.sec.length<=1000000/\a.lims.length<=1000000/\a.rq<=3) (hl1:c.juns.length<=4) (hl2:c.ags.length<=4) (hS:∀x∈c.ags,1<=x.se/\x.se<=2):Ct 29 [c.g] (fun d:Fs=>d.g) (fun d=>J9 d/\d.cfg=c/\d.now=0/\∀(k:Nat) (a:H0),c.ags[k]? = some a->∃h1 h2,d.desks[k]? = some (Fw k a h1 h2)):=by
 refine Er Tryz.func29 ?_
 refine Bu hp ?_
 refine Bu hp<|.seq ?_
 refine B8 hp (Ag7 c hb) ?_
 refine Cl ?_ ?_<;>intro h16<;>simp[go_sem] at h16
 refine Bp<|.seq ?_
 refine Ck 2 8 70 17 (by decide) rfl rfl ?_
 simp[go_sem,-Prod.exists]
 refine Bu hp<|.block ?_
 refine Bs c.ags.length (fun i1 (y1:(List Dx))=>⟨[(1,.ptr 0 0),(2,.ptr 1 0),(3,.ptr 2 0),(35,.mAg c.ags),(36,.li c.ags.length),(37,.li i1)],[.box 30 (c.a false),.box 37 [.nil 3,.nil 8,.li 0,.li 0,.li 0,.li 0,.lb false,.li 0,.nil 17,.nil 5,.nil 3,.nil 1,.nil 4],.box 37 [.mJun c.juns,.mAg c.ags,.li c.per,.li c.cap,.li c.hold,.li c.lock,.lb false,.li 0,.own 3 y1.length,.nil 5,.nil 3,.nil 1,.nil 4],.row 70 17 false false (I6 y1)]⟩) (fun i1 y1=>y1.length=i1/\(∀d∈y1,F8 d/\1<=d.aud.length/\d.aud.length<=2)/\∀(k:Nat) (a:H0),k<i1->c.ags[k]? = some a->∃h1 h2,y1[k]? = some (Fw k a h1 h2)) ([]) (wk Dy [0,1,2,3]) (⟨rfl,fun d h=>(by cases h),fun k a hk=>absurd hk (Nat.not_lt_zero _)⟩) fun i1 y1 hi1 hy1=>?_
 refine Bu hp<|.seq ?_
 refine Br ?_ ?_<;>intro h38
 ·refine Bp<|.seq<|.block ?_
  obtain⟨e1,H1⟩:=gx c.ags i1
  refine Bu (Fa hp H1) ?_
  have ha:=hA e1 (Ac H1)
  refine Cp (Fa hp H1) (Aoi i1 e1 ha.1 ha.2.1) ?_
  refine B0 (Fa hp H1) ?_
  exact⟨by omega,(y1++([(Fw i1 e1 ha.1 ha.2.1)])),⟨by simp;omega,Lc hy1.2.1 (Avd ha.2.2 (hS e1 (Ac H1))),Aw7 hy1.1 H1 hy1.2.2⟩,wk (Fa (Dw ((i1:Int)+1)) H1) [0,1,2,3]⟩
 refine Bt<|.seq ?_
 refine Ck 2 12 128 4 (by decide) rfl rfl ?_
 simp[go_sem,-Prod.exists]
 refine Ck 2 9 135 5 (by decide) rfl rfl ?_
 simp[go_sem,-Prod.exists]
 refine Ck 2 10 138 3 (by decide) rfl rfl ?_
 simp[go_sem,-Prod.exists]
 refine Ck 2 11 3 1 (by decide) rfl rfl ?_
 simp[go_sem,-Prod.exists]
 refine Bu hp<|.block ?_
 refine Bs c.juns.length (fun i2 (y2:(List Dx)×(List Gp)×(List Hz)×(List F3)×(List Int))=>⟨[(2,.ptr 0 0),(3,.ptr 1 0),(52,.mJun c.juns),(53,.li c.juns.length),(54,.li i2)],[.box 37 [.nil 3,.nil 8,.li 0,.li 0,.li 0,.li 0,.lb false,.li 0,.nil 17,.nil 5,.nil 3,.nil 1,.nil 4],.box 37 [.mJun c.juns,.mAg c.ags,.li c.per,.li c.cap,.li c.hold,.li c.lock,.lb false,.li 0,.own 2 y2.1.length,.own 4 y2.2.2.1.length,.own 5 y2.2.2.2.1.length,.own 6 y2.2.2.2.2.length,.own 3 y2.2.1.length],.row 70 17 false false (I6 y2.1),.row 128 4 false false (Rv y2.2.1),.row 135 5 false false (O6 y2.2.2.1),.row 138 3 false false (Pu y2.2.2.2.1),.row 3 1 false false (tI y2.2.2.2.2)]⟩) (fun i2 y2=>(y2.1=y1/\y2.2.1.length=i2/\y2.2.2.1.length=i2/\y2.2.2.2.1.length=i2/\y2.2.2.2.2.length=i2)/\((∀v∈y2.2.1,v.col.length<=8/\v.cnt.length<=8)/\y2.2.1.map (fun v=>v.cnt.length)=(c.juns.take i2).map fun j=>j.phs.length)/\(∀g∈y2.2.2.1,g.ctl.lights.length<=8/\g.ctl.nxt.length<=2)/\∀g∈y2.2.2.2.1,g.ended.length<=1000) (y1,[],[],[],[]) (wk Dy [1,2,3,4,5,6,7]) (⟨⟨rfl,rfl,rfl,rfl,rfl⟩,⟨fun d h=>(by cases h),rfl⟩,fun d h=>(by cases h),fun d h=>(by cases h)⟩) fun i2 y2 hi2 hy2=>?_
 refine Bu hp<|.seq ?_
 refine Br ?_ ?_<;>intro h55
 ·refine Bp<|.seq<|.block ?_
  obtain⟨e2,H2⟩:=gx c.juns i2
  refine Bu (Fa hp H2) ?_
  have hj:=hJ e2 (Ac H2)
  obtain⟨Y1,cY1,qY1⟩:=Em (Vs e2 hj.1)
  have hqj:=qY1
  refine B8 (Fa hp H2) cY1 ?_
  obtain⟨Y2,cY2,qY2⟩:=Em (Ai9 e2.phs.length (by omega))
  refine B8 (Fa hp H2) cY2 ?_
  refine Dd (Fa hp H2) (Ab9 e2 Y1 Y2 hj.2 (by omega)) ?_
  refine Bu (Fa hp H2) ?_
  refine Bu (Fa hp H2) ?_
  refine B0 (Fa hp H2) ?_
  refine B0 (Fa hp H2) ?_
  exact⟨by omega,(y2.1,y2.2.1++([(G9 e2 Y1 Y2 hj.2 (by omega))]),y2.2.2.1++([Y1]),y2.2.2.2.1++([Y2]),y2.2.2.2.2++([(-1)])),⟨⟨hy2.1.1,by simp;omega,by simp;omega,by simp;omega,by simp;omega⟩,⟨Lc hy2.2.1.1 (Acn e2 Y1 Y2 hj.2 (by omega)),Aqx hy2.2.1.2 H2 (Sm e2 Y1 Y2 hj.2 (by omega)).2⟩,Lc hy2.2.2.1 ⟨by rw[hqj.2.1];exact hj.2,by rw[hqj.2.2];exact Aj _⟩,Lc hy2.2.2.2 qY2⟩,wk (Fa (Dw ((i2:Int)+1)) H2) [0,1,2,3,4,5,6]⟩
 refine Bt<|.H hp ?_
 refine B2 Dy 2 ?_
 refine B2 Dy 4 ?_
 refine B2 Dy 5 ?_
 refine B2 Dy 6 ?_
 refine B2 Dy 3 ?_
 exact .ret (Ep hp ⟨c,false,0,y2.1,y2.2.2.1,y2.2.2.2.1,y2.2.2.2.2,y2.2.1⟩ ⟨⟨rfl,hJ,hl1,hl2,by dsimp only;rw[hy2.1.1];omega,by dsimp only;rw[hy2.1.1];exact hy1.2.1,by dsimp only;omega,hy2.2.2.1,by dsimp only;omega,hy2.2.2.2,by dsimp only;omega,by dsimp only;omega,hy2.2.1.1,by have h:=hy2.2.1.2;rwa[Bf (by omega)] at h,A03 (l:=c.ags) (y:=y2.1) hS fun k a hk=>by rw[hy2.1.1];exact hy1.2.2 k a (by have:=(Ab.1 hk).1;omega) hk⟩,rfl,rfl,fun k a hk=>by have h:=hy1.2.2 k a (by have:=(Ab.1 hk).1;omega) hk;rw[hy2.1.1];exact h⟩)
end
section
theorem Aea {m:D0} (h:m.tok.length<=2000) (h2:m.args.length<=2000) (h3:m.data.length<=2000):Hy m:=⟨h,h2,h3⟩
variable {n:Int}
theorem Ayu {m:D0} (h:Hy m) (hP:P17 m n):(!Ra m)=true:=by
 have hv:=Vd m h.v.1 h.v.2.1 h.v.2.2
 have he:=(Ok m h.v.1 h.v.2.1 h.v.2.2).2 n hP
 unfold Ra
 rw[dif_pos h,hv,he]
 rfl
def Ahr (e:Gk):List Int:=[e.ag,e.kind,e.code]
theorem Au9 (l:List Gk):(l.flatMap Ahr).length=3*l.length:=by
 induction l with
 | nil=>rfl
 | cons e l ih=>rw[List.flatMap_cons,Bo,ih];simp[Ahr];omega
theorem Axi {l:List Gk} {i:Nat} {e:Gk} {y:List Int} (h:y=n::(l.take i).flatMap Ahr) (he:l[i]? = some e):y++[e.ag,e.kind,e.code]=n::(l.take (i+1)).flatMap Ahr:=by
 rw[h,List.take_add_one,he]
 simp[Ahr]
def V9 (n:Int) (pl:Kx) (rep:List (List D0)) (ents:List Gk) (a:List Bool) (S:D0):List D0:=(rep[pl.num.toNat]?).getD []++[S]++(if a[pl.num.toNat]? = some true then [⟨18,[],n::(ents.take 16).flatMap Ahr,[]⟩] else [])
variable {pl:Kx} {rep:List (List D0)} {a:List Bool} {S:D0} {r:List D0}
theorem Aqb {ents et:List Gk} {y:List D0×List Int} {i:Nat} (h1:(rep[pl.num.toNat]?).getD []=r) (h2:a[pl.num.toNat]? = some true) (hq:y.1=r++[S]/\y.2=n::(et.take i).flatMap Ahr) (he:et=ents.take (min ents.length 16)) (hi:et.length<=i):y.1++[⟨18,[],y.2,[]⟩]=V9 n pl rep ents a S:=by
 have h:et=ents.take 16:=by rw[he,List.take_eq_take_iff];omega
 unfold V9
 rw[h1,if_pos h2,hq.1,hq.2,Bf hi,h]
variable {ents:List Gk}
theorem Awn (h1:(rep[pl.num.toNat]?).getD []=r) (h2:¬a[pl.num.toNat]? = some true):r++[S]=V9 n pl rep ents a S:=by
 unfold V9
 rw[h1,if_neg h2,List.append_nil]
theorem Al6 (hrep:∀l∈rep,l.length<=900/\∀m∈l,Hy m) (hs:Hy S):(V9 n pl rep ents a S).length<=910/\∀m∈V9 n pl rep ents a S,Hy m:=by
 have hr:((rep[pl.num.toNat]?).getD []).length<=900/\∀m∈(rep[pl.num.toNat]?).getD [],Hy m:=by
  cases h:rep[pl.num.toNat]? with
  | none=>exact⟨Ae _,fun m hm=>by cases hm⟩
  | some l=>exact hrep l (Ac h)
 have he:=Au9 (ents.take 16)
 have hl:(ents.take 16).length<=16:=by rw[A5];omega
 unfold V9
 refine⟨?_,fun m hm=>?_⟩
 ·split<;>simp<;>omega
 rcases A0.1 hm with hm | hm
 ·rcases A0.1 hm with hm | hm
  ·exact hr.2 m hm
  rw[An.1 hm];exact hs
 split at hm
 ·rw[An.1 hm];exact Aea (by simp) (by rw[A6];omega) (by simp)
 cases hm
def StS (c:Fs) (e:Dx) (S:D0):Prop:=S.kind=17/\S.args=[c.now]/\S.tok=[]/\S.data.length=vwl c.views+(e.reg.ag.rq*3).toNat/\By S.data
def A1f (c:Fs) (pl:Kx) (rep:List (List D0)) (ents:List Gk) (d:List D0):Prop:=∃e S,c.desks[pl.ag.toNat]? = some e/\StS c e S/\d=(V9 c.now pl rep ents e.aud S).filter fun m=>!Ra m
theorem Ai4 (c:Fs) (pl:Kx) (rep:List (List D0)) (ents:List Gk) (hc:J9 c) (h0:0<=pl.ag) (h1:pl.ag<c.desks.length) (hn:0<=pl.num) (hrep:∀l∈rep,l.length<=900/\∀m∈l,Hy m) (hr2:rep.length<=1000) (hen:ents.length<=100000) (hn1:pl.num<rep.length) (hn2:∀d,c.desks[pl.ag.toNat]? = some d->pl.num<d.aud.length):Ct 99 [c.g,pl.g,.imm false 1 (Rw rep),.mEnt ents] (fun d:List D0=>.mMsg d) (fun d=>d.length<=910/\(∀m∈d,Hy m)/\A1f c pl rep ents d):=by
 refine Er Tryz.func99 ?_
 obtain⟨et,het⟩:∃et,et=ents.take (min ents.length 16):=⟨_,rfl⟩
 have hT:List.take (if (16:Int)<(ents.length:Int) then (16:Int) else (ents.length:Int)).toNat (List.map Gk.t ents)=List.map Gk.t et:=by rw[het,List.map_take];congr 1;split<;>omega
 have hel:et.length<=16:=by rw[het,A5];omega
 have hv4:c.views.length<=4:=by have:=hc.views;have:=hc.nj;omega
 refine Bq ?_
 obtain⟨e1,H1⟩:=gx c.desks pl.ag.toNat
 refine Bu H1 ?_
 refine Bu H1<|.seq ?_
 refine Bu H1 ?_
 refine Br ?_ ?_<;>intro h24
 ·obtain⟨e2,H2⟩:=gx rep pl.num.toNat
  refine C4 (by rfl) fun K1 hK1=>?_
  simp[go_sem,H1,H2]
  repeat' with_reducible refine Ax ?_ ?_
  all_goals try (intros;(repeat' refine Ax ?_ ?_)<;>omega)
  all_goals try (have he2:=(hrep e2 (Ac H2)).1;omega)
  refine hK1 _ ?_;clear hK1
  have hd:=hc.desk e1 (Ac H1)
  have hst:Hy (Fd e1 c.views c.now hd.1.b.reqs hd.1.rq hv4 hc.view):=by have hq:=Ahk e1 c.views c.now hd.1.b.reqs hd.1.rq hv4 hc.view;exact Aea (by rw[hq.2.2.1];simp) (by rw[hq.2.1];simp) (by omega)
  refine B4 (by rfl) fun K1 hK1=>?_
  simp[go_sem,H1,H2]
  refine .l (Ahd e1 c.views c.now hd.1.b.reqs hd.1.rq hv4 hc.view) ?_
  simp[go_sem,H1,H2]
  repeat' with_reducible refine Ax ?_ ?_
  all_goals try (intros;(repeat' refine Ax ?_ ?_)<;>omega)
  all_goals try (have he2:=(hrep e2 (Ac H2)).1;omega)
  refine hK1 _ ?_;clear hK1
  refine Ca ?_
  have hc6:=hn2 e1 H1
  obtain⟨e3,H3⟩:=gx e1.aud pl.num.toNat
  refine Bu (P6 H1 H2 H3 hc6) ?_
  refine Br ?_ ?_<;>intro h54
  ·refine Bu (Jb H1 H2 H3)<|.seq ?_
   refine Bu (P6 H1 H2 H3 hT)<|.block ?_
   refine Bs (et.length) (fun i1 (y1:(List D0)×(List Int))=>⟨[(10,.own 0 y1.1.length),(11,.ptr 2 0),(63,.mEnt et),(64,.li (et.length)),(65,.li i1)],[.row 56 4 false false (Q4 y1.1),.row 3 1 false false (tI y1.2),.box 56 [.li 18,.nil 1,.own 1 y1.2.length,.nil 1]]⟩) (fun i1 y1=>(y1.1=e2++[(Fd e1 c.views c.now hd.1.b.reqs hd.1.rq hv4 hc.view)]/\y1.2=c.now::(et.take i1).flatMap Ahr)/\y1.1.length<=901/\y1.2.length<=1+3*i1) (e2++([(Fd e1 c.views c.now hd.1.b.reqs hd.1.rq hv4 hc.view)]),[c.now]) (wk (Jb H1 H2 H3) [3,5,6]) (⟨⟨rfl,rfl⟩,by have:=(hrep e2 (Ac H2)).1;simp;omega,by simp⟩) fun i1 y1 hi1 hy1=>?_
   refine Bu (Jb H1 H2 H3)<|.seq ?_
   refine Br ?_ ?_<;>intro h66
   ·refine Bp<|.seq<|.block ?_
    obtain⟨e4,H4⟩:=gx et i1
    refine Bu (P6 H1 H2 H3 H4) ?_
    refine B0 (P6 H1 H2 H3 H4) ?_
    refine B0 (P6 H1 H2 H3 H4) ?_
    exact⟨by omega,(y1.1,y1.2++([e4.ag,e4.kind,e4.code])),⟨⟨hy1.1.1,Axi hy1.1.2 H4⟩,hy1.2.1,by simp;omega⟩,wk (Zd (Dw ((i1:Int)+1)) H1 H2 H3 H4) [0,1,2]⟩
   refine Bt<|.Z (Jb H1 H2 H3) 1 ?_
   refine B0 (Jb H1 H2 H3) ?_
   have hE:(((y1.1++([⟨18,[],y1.2,[]⟩])):List D0))=V9 c.now pl rep ents e1.aud (Fd e1 c.views c.now hd.1.b.reqs hd.1.rq hv4 hc.view):=by exact Aqb (r:=e2) (by rw[H2]<;>rfl) (by rw[H3,h54]) hy1.1 het (by omega)
   have hpk:=Al6 (n:=c.now) (pl:=pl) (ents:=ents) (a:=e1.aud) hrep hst
   rw[<- hE] at hpk
   obtain⟨R,hR,_⟩:=Sb (((y1.1++([⟨18,[],y1.2,[]⟩])):List D0)) (by have:=hpk.1;omega) hpk.2
   generalize hV:List.filter (fun t=>!Ra t) (((y1.1++([⟨18,[],y1.2,[]⟩])):List D0))=V at hR
   refine Da (Jb H1 H2 H3) [0] hR ?_
   exact .ret (Ep (Jb H1 H2 H3) V ⟨by rw[<- hV];exact Ak (Az _ _) hpk.1,(fun m hm=>by rw[<- hV] at hm;exact hpk.2 m (Bn.1 hm).1),e1,_,H1,Pz e1 c.views c.now hd.1.b.reqs hd.1.rq hv4 hc.view,by rw[<- hE];exact hV.symm⟩)
  refine Bp ?_
  have hE:(((e2++([(Fd e1 c.views c.now hd.1.b.reqs hd.1.rq hv4 hc.view)])):List D0))=V9 c.now pl rep ents e1.aud (Fd e1 c.views c.now hd.1.b.reqs hd.1.rq hv4 hc.view):=by first | exact Aqb (r:=e2) (by rw[H2]<;>rfl) (by rw[H3,h54]) hy1.1 het (by omega) | exact Awn (r:=e2) (by rw[H2]<;>rfl) (by rw[H3,h54]<;>decide)
  have hpk:=Al6 (n:=c.now) (pl:=pl) (ents:=ents) (a:=e1.aud) hrep hst
  rw[<- hE] at hpk
  obtain⟨R,hR,_⟩:=Sb (((e2++([(Fd e1 c.views c.now hd.1.b.reqs hd.1.rq hv4 hc.view)])):List D0)) (by have:=hpk.1;omega) hpk.2
  generalize hV:List.filter (fun t=>!Ra t) (((e2++([(Fd e1 c.views c.now hd.1.b.reqs hd.1.rq hv4 hc.view)])):List D0))=V at hR
  refine Da (Jb H1 H2 H3) [3] hR ?_
  exact .ret (Ep (Jb H1 H2 H3) V ⟨by rw[<- hV];exact Ak (Az _ _) hpk.1,(fun m hm=>by rw[<- hV] at hm;exact hpk.2 m (Bn.1 hm).1),e1,_,H1,Pz e1 c.views c.now hd.1.b.reqs hd.1.rq hv4 hc.view,by rw[<- hE];exact hV.symm⟩)
 exfalso;omega
end
section
section
variable (c:Fs) (k:Int) (hd:c.desks.length<=1000) (hr:∀d∈c.desks,d.reqs.length<=1000/\∀r∈d.reqs,r.legs.length<=1000000)
include k hd hr
theorem Sc:∃d:List E7,PP 128 [] [c.g,.li k] [.row 287 5 false false (Wb d)] (.own 0 d.length)/\(d.length<=1000000):=by
 refine Nk (D:=List E7) (F:=fun d=>.own 0 d.length) (S:=fun d=>[.row 287 5 false false (Wb d)]) (Q:=fun d=>d.length<=1000000) Tryz.func128 rfl rfl rfl (by simp[Tryz.ntmps128]) ?_
 refine Bq ?_
 refine Bq<|.seq ?_
 refine Bq<|.block ?_
 refine Cf 5 287 5 (by decide) (k':=5) (by simp[go_sem]) ?_
 simp[go_sem,-Prod.exists]
 refine Bs c.desks.length (fun i1 (y1:(List E7))=>⟨[(1,.li k),(5,.own 0 y1.length),(9,.mDesk c.desks),(10,.li c.desks.length),(11,.li i1)],[.row 287 5 false false (Wb y1)]⟩) (fun i1 y1=>y1.length<=1000*i1) ([]) (wk Dy [1]) (by simp) fun i1 y1 hi1 hy1=>?_
 refine Bq<|.seq ?_
 refine Br ?_ ?_<;>intro h12
 ·refine Bp<|.seq<|.block ?_
  obtain⟨e1,H1⟩:=gx c.desks i1
  refine Bu H1 ?_
  have hr1:=hr e1 (Ac H1)
  have hr2:e1.reqs.length<=1000000:=by omega
  obtain⟨Y1,cY1,qY1⟩:=Em (Aay e1.reqs e1.reg.num k hr2 hr1.2)
  have hq1:=qY1
  refine Dr H1 cY1 ?_
  refine B0 H1 ?_
  refine⟨by omega,(y1++Y1),?_,wk (Fa (Dw ((i1:Int)+1)) H1) [0]⟩
  simp;omega
 refine Bt<|.R ?_
 exact .ret ⟨y1,rW Dy [0],(by omega)⟩
def Mk:List E7:=(Sc c k hd hr).choose
theorem Ag9:PP 128 [] [c.g,.li k] [.row 287 5 false false (Wb (Mk c k hd hr))] (.own 0 (Mk c k hd hr).length):=(Sc c k hd hr).choose_spec.1
theorem Amn:(Mk c k hd hr).length<=1000000:=(Sc c k hd hr).choose_spec.2
theorem Ag8:PP 128 [] [c.g,.li k] [] (.imm true 5 (Wb (Mk c k hd hr))):=by
 have h:=(Ag9 c k hd hr).fresh (by simp[T.plain,E7.t])
 refine Ey.froz (es:=Wb (Mk c k hd hr)) (fz:=false) (ty:=287) ?_
 simpa using h
end
variable {α:Type}
theorem Ati {l:List α} {i:Nat} (x:α) (h:i<l.length):(l.set i x).take (i+1)=l.take i++[x]:=by
 rw[List.take_add_one,Bg h,List.take_set_of_le (Aj _)]
 rfl
structure A23 (c:Fs) (i:Nat) (y:List Hz×List F3×List Int×List Gp):Prop where
  sigs:y.1.length=c.cfg.juns.length
  sig:∀g∈y.1,g.ctl.lights.length<=8/\g.ctl.nxt.length<=2
  svcs:y.2.1.length=c.cfg.juns.length
  svc:∀g∈y.2.1,g.ended.length<=1000
  stuck:y.2.2.1.length=c.cfg.juns.length
  views:y.2.2.2.length=c.cfg.juns.length
  view:∀v∈y.2.2.2,v.col.length<=8/\v.cnt.length<=8
  vw:(y.2.2.2.take i).map (fun v=>v.cnt.length)=(c.cfg.juns.take i).map fun j=>j.phs.length
theorem Akm {p:α->Prop} {l:List α} {i:Nat} {x:α} (h:∀y∈l,p y) (hx:p x):∀y∈l.set i x,p y:=fun y hy=>by
 rcases Bi hy with h1 | h1
 ·exact h y h1
 rw[h1];exact hx
theorem Ac2 (c:Fs) (hc:J9 c):Cx 97 [.box 37 [.mJun c.cfg.juns,.mAg c.cfg.ags,.li c.cfg.per,.li c.cfg.cap,.li c.cfg.hold,.li c.cfg.lock,.lb c.ref,.li c.now,.mDesk c.desks,.own 1 c.sigs.length,.own 2 c.svcs.length,.own 3 c.stuck.length,.mView c.views],.row 135 5 false false (O6 c.sigs),.row 138 3 false false (Pu c.svcs),.row 3 1 false false (tI c.stuck)] [.ptr 0 0] (fun d:Fs=>[.box 37 [.mJun d.cfg.juns,.mAg d.cfg.ags,.li d.cfg.per,.li d.cfg.cap,.li d.cfg.hold,.li d.cfg.lock,.lb d.ref,.li d.now,.mDesk d.desks,.own 1 d.sigs.length,.own 2 d.svcs.length,.own 3 d.stuck.length,.own 4 d.views.length],.row 135 5 false false (O6 d.sigs),.row 138 3 false false (Pu d.svcs),.row 3 1 false false (tI d.stuck),.row 128 4 false false (Rv d.views)]) (fun d=>.tup []) (fun d=>J9 d/\d.cfg=c.cfg/\d.now=c.now/\d.desks=c.desks):=by
 refine Tj Tryz.func97 ?_
 have hj4:=hc.nj
 have hsg:=hc.sigs
 have hsv:=hc.svcs
 have hst:=hc.stuck
 have hdl:c.desks.length<=1000:=by have:=hc.desks;have:=hc.na;omega
 have hdr:∀d∈c.desks,d.reqs.length<=1000/\∀r∈d.reqs,r.legs.length<=1000000:=fun d hd=>⟨Ak (hc.desk d hd).1.reqs (by decide),(hc.desk d hd).1.b.legs⟩
 refine Cw (fun K kk=>by simp[go_sem,hsg,hsv];exact kk) ?_
 refine B3 (fun K kk=>by simp[go_sem,hsg,hsv];repeat first | exact kk | refine aK ?_) ?_
 refine Bq<|.block ?_
 refine Bs c.cfg.juns.length (fun i1 (y1:(List Hz)×(List F3)×(List Int)×(List Gp))=>⟨[(0,.ptr 0 0),(28,.li c.cfg.juns.length),(29,.li i1)],[.box 37 [.mJun c.cfg.juns,.mAg c.cfg.ags,.li c.cfg.per,.li c.cfg.cap,.li c.cfg.hold,.li c.cfg.lock,.lb c.ref,.li c.now,.mDesk c.desks,.own 1 y1.1.length,.own 2 y1.2.1.length,.own 3 y1.2.2.1.length,.own 4 y1.2.2.2.length],.row 135 5 false false (O6 y1.1),.row 138 3 false false (Pu y1.2.1),.row 3 1 false false (tI y1.2.2.1),.row 128 4 false false (Rv y1.2.2.2)]⟩) (fun i1 y1=>A23 c i1 y1) (c.sigs,c.svcs,c.stuck,List.replicate c.cfg.juns.length ⟨false,false,[],[]⟩) ⟨[0,1,2,3,4],El (by decide) ?_ ?_,Fv rfl⟩ (⟨hc.sigs,hc.sig,hc.svcs,hc.svc,hc.stuck,by simp,(fun v hv=>by have:=List.eq_of_mem_replicate hv;subst this;exact⟨Ae _,Ae _⟩),rfl⟩) fun i1 y1 hi1 hy1=>?_
 ·repeat' (first | exact .nil | refine .cons (by simp[go_sem,hsg,hsv]) ?_)
 ·repeat' (first | exact .nil | refine .cons (by simp[go_sem,hsg,hsv]) ?_)
 refine Bq<|.seq ?_
 refine Br ?_ ?_<;>intro h30
 ·refine Bp<|.seq<|.block ?_
  have hl1:=hy1.sigs
  have hl2:=hy1.svcs
  have hl3:=hy1.stuck
  have hl4:=hy1.views
  refine Bq ?_
  obtain⟨e1,H1⟩:=gx c.cfg.juns i1
  refine B3 (fun K kk=>by simp[go_sem,H1];repeat first | exact kk | refine aK ?_) ?_
  refine B3 (fun K kk=>by simp[go_sem,H1];exact kk)<|.seq ?_
  refine B3 (fun K kk=>by simp[go_sem,H1];exact kk) ?_
  refine Cl ?_ ?_<;>intro h46<;>simp[go_sem] at h46
  obtain⟨e2,H2⟩:=gx y1.2.2.1 i1
  refine B3 (fun K kk=>by simp[go_sem,H1,H2];repeat first | exact kk | refine aK ?_) ?_
  refine Cg (fun K kk=>by simp[go_sem,H1,H2];repeat first | exact kk | refine aK ?_) ?_
  obtain⟨gk,hgk⟩:∃e,y1.1[i1]? = some e:=⟨_,Aa (by omega)⟩
  obtain⟨vk,hvk⟩:∃e,y1.2.1[i1]? = some e:=⟨_,Aa (by omega)⟩
  have hjb:=hc.jun e1 (Ac H1)
  have hsb:=hy1.sig gk (Ac hgk)
  have hvb:vk.ended.length<=1000000:=Ak (hy1.svc vk (Ac hvk)) (by decide)
  have hCv:=Ag8 ⟨c.cfg,c.ref,c.now,c.desks,y1.1,y1.2.1,(y1.2.2.1).set i1 (-1),y1.2.2.2⟩ i1 hdl hdr
  have hCl:=Amn ⟨c.cfg,c.ref,c.now,c.desks,y1.1,y1.2.1,(y1.2.2.1).set i1 (-1),y1.2.2.2⟩ i1 hdl hdr
  generalize Mk ⟨c.cfg,c.ref,c.now,c.desks,y1.1,y1.2.1,(y1.2.2.1).set i1 (-1),y1.2.2.2⟩ i1 hdl hdr=CL at hCv hCl
  have hQ:=Aka c.cfg e1 gk vk CL e2 c.now hjb.2 hjb.1.con hsb.1 hsb.2 hvb hCl
  have hDv:=Ajp c.cfg e1 gk vk CL e2 c.now hjb.2 hjb.1.con hsb.1 hsb.2 hvb hCl
  generalize K6 c.cfg e1 gk vk CL e2 c.now hjb.2 hjb.1.con hsb.1 hsb.2 hvb hCl=D at hQ hDv
  refine Dc (by kernel_rfl) (by rfl) (by kernel_rfl) fun K1 hK1=>?_
  simp[go_sem,H1,H2,hgk,hvk]
  repeat' with_reducible refine Ax ?_ ?_
  all_goals try (intros;(repeat' refine Ax ?_ ?_)<;>omega)
  refine .lo (hCv) (by simp[go_sem,AV.low,J6,List.map_set]) (by simp[AV.cln,Fb]) ?_
  simp[go_sem,H1,H2,hgk,hvk]
  refine .l (hDv) ?_
  simp[go_sem,H1,H2,hgk,hvk]
  repeat' with_reducible refine Ax ?_ ?_
  all_goals try (intros;(repeat' refine Ax ?_ ?_)<;>omega)
  refine hK1 _ _ (by kernel_rfl) ?_;clear hK1
  have hs1:∀v,((O6 y1.1).set i1 v)[i1]? = some v:=fun v=>Bg (by simp;omega)
  have hs2:∀v,((Pu y1.2.1).set i1 v)[i1]? = some v:=fun v=>Bg (by simp;omega)
  have hWv:=Ab9 e1 D.1 D.2 hjb.2 hQ.1
  have hW:=Acn e1 D.1 D.2 hjb.2 hQ.1
  have hWn:=(Sm e1 D.1 D.2 hjb.2 hQ.1).2
  generalize G9 e1 D.1 D.2 hjb.2 hQ.1=W at hWv hW hWn
  obtain⟨e3,H3⟩:=gx ((y1.1).set i1 D.1) i1
  obtain⟨e4,H4⟩:=gx ((y1.2.1).set i1 D.2) i1
  obtain⟨e5,H5⟩:=gx y1.2.2.2 i1
  refine VX.draw1 (by kernel_rfl) (by rfl) (by kernel_rfl) fun K1 hK1=>?_
  simp[go_sem,H1,H2,H3,H4,H5,hs1,hs2]
  repeat' with_reducible refine Ax ?_ ?_
  all_goals try (intros;(repeat' refine Ax ?_ ?_)<;>omega)
  refine .l (hWv) ?_
  simp[go_sem,H1,H2,H3,H4,H5,hs1,hs2]
  repeat' with_reducible refine Ax ?_ ?_
  all_goals try (intros;(repeat' refine Ax ?_ ?_)<;>omega)
  refine hK1 _ _ (by kernel_rfl) ?_;clear hK1
  refine Cg (fun K kk=>by simp[go_sem,H1,H2,H3,H4,H5];exact kk) ?_
  refine⟨by omega,((y1.1).set i1 D.1,(y1.2.1).set i1 D.2,(y1.2.2.1).set i1 (-1),(y1.2.2.2).set i1 W),?_,[0,1,2,3,4],El (by decide) ?_ ?_,Fv rfl⟩
  ·exact⟨by simpa using hl1,Akm hy1.sig ⟨hQ.1,hQ.2.1⟩,by simpa using hl2,Akm hy1.svc (by rw[hQ.2.2];exact hy1.svc vk (Ac hvk)),by simpa using hl3,by simpa using hl4,Akm hy1.view hW,by rw[Ati _ (by omega)];exact Aqx hy1.vw H1 hWn⟩
  all_goals repeat' (first | exact .nil | refine .cons (by simp[go_sem,Dw ((i1:Int)+1),H1,H2,H3,H4,H5]) ?_)
 refine Bt ?_
 refine⟨⟨c.cfg,c.ref,c.now,c.desks,y1.1,y1.2.1,y1.2.2.1,y1.2.2.2⟩,Aj2 [0,1,2,3,4] (by simp[go_sem]) (by decide) (Fv rfl) (by simp[go_sem]) ?_,⟨⟨hc.ref,hc.jun,hc.nj,hc.na,hc.desks,hc.desk,hy1.sigs,hy1.sig,hy1.svcs,hy1.svc,hy1.stuck,hy1.views,hy1.view,by have h:=hy1.vw;have h4:=hy1.views;rwa[Bf (by omega),Bf (by omega)] at h,hc.dl⟩,rfl,rfl,rfl⟩⟩
 repeat' (first | exact .nil | refine .cons (by simp[go_sem]) ?_)
end
end Go.Proofs.YtkkimgjinbaemaaGreat
