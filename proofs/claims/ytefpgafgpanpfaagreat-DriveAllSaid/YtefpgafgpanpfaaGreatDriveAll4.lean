/- The law DriveAll of package magnetolaw22 returns true for every input, and its arguments read as before. -/
import Derived.Test.YtefpgafgpanpfaaGreatDriveAll3
import Derived.WalkKit
import Derived.Shelf.Spec.SlicesInsertGrow
import Derived.ProofKit
set_option linter.unusedVariables false
set_option linter.unusedSimpArgs false
set_option maxHeartbeats 16000000
open List (range_succ mem_of_mem_take mem_of_mem_drop mem_cons mem_append map_cons map_append)
open Go Go.AM
namespace Go.AM.R1
theorem chkAs_ok {n:Int}:∀ {l:List Ac},chkAs n l=0->∀ x∈l,0<=x.tick/\0<=x.node/\x.node<n/\(x.fault=false->checkP x.f=0)
 | [],_,x,hx=>by cases hx
 | a :: r,h,x,hx=>by
  rw [chkAs] at h
  by_cases q:chkA n a=0
  ·rw [if_neg (by simp [q])] at h
   rcases mem_cons.1 hx with e | e
   ·subst e
    unfold chkA at q
    by_cases q1:x.tick<0∨x.node<0∨n<=x.node
    ·rw [if_pos q1] at q;cases q
    ·rw [if_neg q1] at q
     refine ⟨by omega,by omega,by omega,fun e=>?_⟩
     rw [if_pos e] at q;exact q
   ·exact chkAs_ok h x e
  ·rw [if_pos q] at h;exact absurd h q
def plH (lke fue:Bool) (R:List Run) (ES:List Bev):Heap:=(if R=[] then [] else [.arr true false false 3 (R.map encRun)])++(if ES=[] then [] else [.arr true lke fue 15 (ES.map encBev)])
def plV (R:List Run) (ES:List Bev):AVal:=.tup [bruV 0 R.length,bouV 1 ES.length,.lit (.int .i64 0)]
theorem playE_nil {l:List Ac} {T:Nat} {ns:List Nd} (h:playR l T 0 ns []=[]):playE l T 0 ns []=[]:=by
 cases T with
 | zero=>simp [playE,playT]
 | succ d =>
  rw [playR_joined] at h
  have:=(play_ok l 1 0 ns (by omega)).exp
  exfalso
  rw [playT,map_cons,joined,if_neg (by simp [runOf])] at h
  have hm:=playT_mem l d (0+1) (forceN (tickS l 0 ns).1 0#32 0#32 (tickS l 0 ns).2)
  rw [<- foldl_push _ _ (fun r hr=>(hm r hr).2.1)] at h
  have key:∀ (rs out:List Run),out≠[]->rs.foldl push out≠[]:=by
   intro rs
   induction rs with
   | nil=>intro out h;exact h
   | cons r rs ih=>intro out _;rw [List.foldl_cons];exact ih _ (push_ne _ _)
  exact key _ _ (push_ne _ _) h
theorem play_fin {l:List Ac} {K:List (Int × Nat)} {im a na T:Nat} {lb fb:Bool} {L:List NdL} {R:List Run} {ES:List Bev} {br be:Nat} {lke fue:Bool} {H:Heap} (h:BP H a na L T lb fb (mapS im l K++(bruS br R++bouS be lke fue (ES.map encBev)))) (hRE:R=[]->ES=[]) :
  gcRet 0 (.tup [bruV br R.length,bouV be ES.length,.lit (.int .i64 0)]) H=some (plV R ES,plH lke fue R ES):=by
 unfold gcRet
 rw [show rootsOf H 0=[] from rfl,List.nil_append,show List.range 0=[] from rfl]
 by_cases h1:R=[]
 ·have h2:=hRE h1
  subst h1;subst h2
  simp [bruV,bouV,nilS,refsV,refsL,reach_nil,plV,plH,renV,renL]
 ·have hb:bruS br R=[(br,.arr true false false 3 (R.map encRun))]:=by unfold bruS;rw [if_neg h1]
  have g1:=h.get (br,.arr true false false 3 (R.map encRun)) (by rw [hb];simp)
  simp only [] at g1
  have hv1:bruV br R.length=.own br R.length 3 0 R.length:=by unfold bruV;rw [if_neg (fun q=>h1 (List.length_eq_zero_iff.1 q))]
  have hv2:bruV 0 R.length=.own 0 R.length 3 0 R.length:=by unfold bruV;rw [if_neg (fun q=>h1 (List.length_eq_zero_iff.1 q))]
  by_cases h2:ES=[]
  ·subst h2
   have hre:=row_one g1 rfl
   simp [hv1,hv2,bouV,nilS,refsV,refsL,hre,plV,plH,renV,renL,h1,g1,renE]
  ·have hb2:bouS be lke fue (ES.map encBev)=[(be,.arr true lke fue 15 (ES.map encBev))]:=by unfold bouS;simp [h2]
   have g2:=h.get (be,.arr true lke fue 15 (ES.map encBev)) (by rw [hb2];simp)
   simp only [] at g2
   have hv3:bouV be ES.length=.own be ES.length 15 0 ES.length:=by unfold bouV;rw [if_neg (fun q=>h2 (List.length_eq_zero_iff.1 q))]
   have hv4:bouV 1 ES.length=.own 1 ES.length 15 0 ES.length:=by unfold bouV;rw [if_neg (fun q=>h2 (List.length_eq_zero_iff.1 q))]
   have hne:br≠be:=by
    have:=h.nd
    rw [hb,hb2,map_append,List.nodup_append] at this
    have:=this.2.1
    simp at this
    exact this
   have hre:reach H purse [br,be] []=some [br,be]:=by
    rw [p9q,reach_step (by simp) g1,show refsE (Entry.arr true false false 3 (R.map encRun))=[] from rfl,List.nil_append,reach_step (by simp;exact fun e=>hne e.symm) g2,show refsE (Entry.arr true lke fue 15 (ES.map encBev))=[] from rfl,List.nil_append,reach_nil]
    rfl
   have hbq:(br == be)=false:=by simp [hne]
   have hix:[br,be].idxOf be=1:=by simp [List.idxOf_cons,hbq]
   simp [hv1,hv2,hv3,hv4,refsV,refsL,hre,plV,plH,renV,renL,h1,h2,g1,g2,renE,hix,hne]
theorem bplay_spec (l:List Ac) (hl:l.length<=60) (hf:∀ x∈l,x.f.Ok) (n1 f1:Bool) (N T:Nat) (hT:T<=1048576) (hc:chkAll (N:Int) l=0) :
  ∃ lke fue,call E (.func (.func 17) [] []) [.lit (.int .i64 N),.lit (.int .i64 T),.imm n1 f1 true (l.map encAc)] []=some (plV (playR l T 0 (List.replicate N nd0) []) (playE l T 0 (List.replicate N nd0) []),plH lke fue (playR l T 0 (List.replicate N nd0) []) (playE l T 0 (List.replicate N nd0) [])):=by
 have hch:=bChk_spec (N:Int) l (by omega) n1 f1
 rw [hc] at hch
 have hNr:1<=N/\N<=32:=by
  unfold chkAll at hc
  split at hc
  ·cases hc
  ·omega
 have hcs:chkAs (N:Int) l=0:=by
  unfold chkAll at hc
  split at hc
  ·cases hc
  ·exact hc
 have hok:∀ x∈l,0<=x.node/\x.node<N/\x.f.Ok:=fun x hx=>⟨(chkAs_ok hcs x hx).2.1,(chkAs_ok hcs x hx).2.2.1,hf x hx⟩
 obtain ⟨X,Lf,e1,e2,e3,-⟩:=bnew_at [] N hNr.1 hNr.2
 simp only [List.nil_append,List.length_nil] at e1 e3
 have hLl:Lf.length=N:=by have:=congrArg List.length e2;simpa using this
 obtain ⟨RUNS,hRU⟩:∃ r,r=playR l T 0 (List.replicate N nd0) []:=⟨_,rfl⟩
 obtain ⟨EVS,hEV⟩:∃ r,r=playE l T 0 (List.replicate N nd0) []:=⟨_,rfl⟩
 rw [<- hRU,<- hEV]
 have hRE:RUNS=[]->EVS=[]:=fun h=>by rw [hEV];exact playE_nil (by rw [<- hRU];exact h)
 have key:∀ P:Option (AVal × Heap)->Prop,(∀ lke fue,P (some (plV RUNS EVS,plH lke fue RUNS EVS)))->P (call E (.func (.func 17) [] []) [.lit (.int .i64 N),.lit (.int .i64 T),.imm n1 f1 true (l.map encAc)] []):=by
  intro P hP
  rw [c9f E E17]
  have hT0:((T:Int)<0)=False:=eq_false (by omega)
  have hT1:((1048576:Int)<(T:Int))=False:=eq_false (by omega)
  have hT1n:¬ 1048576<T:=by omega
  have hB0:BP (X++[.map []]) 0 1 Lf 0 false false (mapS X.length (l.take 0) []):=by
   have h0:BP X 0 1 Lf 0 false false []:=⟨e3,by omega,(by intro q hq;cases hq),(by intro q hq;cases hq),List.nodup_nil,(by intro q hq;cases hq)⟩
   exact h0.app (e:=.map []) (by intro j hj;cases hj)
  have hml:(l.map encAc).length=l.length:=by simp
  have hl0:=fun (rs:List IRes) (k:List Item) hk H hB=>play_loop0 l hl n1 f1 0 1 Lf false false X.length (T:Int) rs k P hk l.length 0 (by omega) H [] ⟨List.nodup_nil,(by intro x hx;cases hx),Nat.zero_le _⟩ hB
  have hl1:=fun (rs:List IRes) (k:List Item) K im hK hk H hB=>play_loop1 (rs:=rs) (k:=k) (P:=P) (K:=K) (im:=im) (a:=0) (na:=1) (lb:=false) (fb:=false) hl hK hNr.2 hok hT (RUNS:=RUNS) (EVS:=EVS) hk T 0 (by omega) H Lf [] [] 0 0 false false hLl (by rw [e2];intro n hn;rw [List.eq_of_mem_replicate hn];exact ⟨nd0_inv,Nat.le_refl _⟩) ⟨Nat.le_refl _,by intro r hr;cases hr⟩ (by simp) (by rw [e2];exact hRU.symm) (by rw [e2];exact hEV.symm) hB
  simp only [Int.natCast_zero,List.take_zero,List.length_nil,show bruV 0 0=nilS from rfl,show bouV 0 0=nilS from rfl,show bruS 0 []=[] from rfl,show bouS 0 false false (([]:List Bev).map encBev)=[] from rfl,List.append_nil,nilS] at hl0 hl1
  have hbeg:=fun (k2:List Item) (b:ICode) (τ:Tmps) hws hk2=>BP.next (S2:=mapS X.length [] []) (rs:=[.tmp 6,.tmp 7,.tmp 8]) (P:=P) (b:=b) (k:=k2) (τ:=τ) (live:=[1,10,12,45,46,47]) hB0 (by rw [sizeS_mapS];simp) rfl (ws:=[0,X.length]) hws (by simp) (by simp) (by simp [mapS]) (fun q hq=>hq) (mapS_led (by simp)) hB0.nd (mapS_cl _ _ _) hk2
  simp [go_sem] at e1
  simp [go_sem,ir17,hch,e1,hT0,hT1,hT1n,nilS,hml]
  refine hbeg _ _ _ ?_ ?_
  ·simp [keep,liveT,lk,refsT,refsV,refsL]
  intro H2 hB2
  refine hl0 _ _ ?_ H2 hB2
  intro H3 K τ hK hB3 t1 t10 t12
  have hent:=fun (k2:List Item) (b:ICode) (τ:Tmps) hws hk2=>mapR_next (R:=[]) (R2:=[]) (rs:=[.tmp 6,.tmp 7,.tmp 8]) (P:=P) (b:=b) (k:=k2) (τ:=τ) (live:=[10,12,15,16,62,63]) (by rw [List.append_nil];exact hB3) (Nat.le_trans hK.len hl) (by intro q hq;cases hq) rfl (ws:=[0,X.length]) hws (by simp) (by simp) (by simp) (fun q hq=>hq) List.nodup_nil (by intro q hq;cases hq) (by simp [mapS]) hk2
  simp only [List.append_nil] at hent
  simp [go_sem,t1,t10,t12,nilS]
  refine hent _ _ _ ?_ ?_
  ·simp [keep,liveT,lk,refsT,refsV,refsL,t10,t12]
  intro H4 hB4
  rw [show liveT [10,12,15,16,62,63]=[10,12,15,16,62,63] from rfl]
  simp only [keep,go_sem,t10,t12]
  refine hl1 _ _ K X.length hK ?_ H4 hB4
  intro H5 L5 br be lke fue τ5 hB5 t15 t16
  have hg:=play_fin hB5 hRE
  generalize hKK:finK 0 [.tmp 6,.tmp 7,.tmp 8]=KK
  simp [go_sem,t15,t16]
  rw [<- hKK,finK_to (vs:=[bruV br RUNS.length,bouV be EVS.length,.lit (.int .i64 0)]) (by simp [go_sem,aresults]) hg]
  exact hP lke fue
 generalize call E (.func (.func 17) [] []) [.lit (.int .i64 N),.lit (.int .i64 T),.imm n1 f1 true (l.map encAc)] []=r at key ⊢
 exact key (fun r=>∃ lke fue,r=some (plV RUNS EVS,plH lke fue RUNS EVS)) fun lke fue=>⟨lke,fue,rfl⟩
end Go.AM.R1
open Go Go.AM Go.Proofs
namespace Go.AM.R1
theorem awake22:call E (.func (.func 36) [] []) [] []=some (.lit (.bool true),[]) :=
 (call_iff E).2 ⟨3000,by kernel_rfl⟩
theorem dra_outer (R TR:List Run) (T N:Nat) (hD:DOk R T N TR) (hT:0<T) (from_:Int) (hf:-9223372036854775808<=from_/\from_<=9223372036854775807) (K:List Item) (P:Option (AVal × Heap)->Prop)
  (hk:∀ τ l7 f7 l10 f10,lk 2 τ=.lit (.int .i64 from_)->lk 4 τ=.ptr 0 0->lk 7 τ=.own 1 R.length 3 0 R.length->lk 10 τ=.own 2 N 3 0 N ->
   P (finK 0 [.tmp 6] (run E 0 K τ [.box [.lit (.int .i64 N),.lit (.int .i64 T)],.arr true l7 f7 3 (R.map encRun),.arr true l10 f10 3 (encL R N)]))) :
  ∀ (d n:Nat),n+d=N->0<n->∀ (l7 f7 l10 f10:Bool),
  P (finK 0 [.tmp 6] (run E 0 (.code L8_0::.inLoop [1000000,2,4,7,10,11] L8_0::.inBlock 0::K) [(2,.lit (.int .i64 from_)),(4,.ptr 0 0),(7,.own 1 R.length 3 0 R.length),(10,.own 2 n 3 0 n),(11,.lit (.int .i64 n))]
   [.box [.lit (.int .i64 N),.lit (.int .i64 T)],.arr true l7 f7 3 (R.map encRun),.arr true l10 f10 3 (encL R n)])):=by
 intro d
 induction d with
 | zero =>
  intro n hn hn0 l7 f7 l10 f10
  have:n=N:=by omega
  subst this
  simp [go_sem,r9c E L8_0.eq_1]
  refine hk _ _ _ _ _ ?_ ?_ ?_ ?_<;>simp [lk]
 | succ d ih =>
  intro n hn hn0 l7 f7 l10 f10
  refine dra_turn R TR T N hD hT n (by omega) from_ hf l7 f7 l10 f10 _ P hn0 ?_
  intro τ a7 b7 a10 b10 H t2 t4 t7 t10 t11
  have ih2:=ih (n+1) (by omega) (by omega) a7 b7 a10 b10
  have hLn:=encL_len R (n+1)
  have hm0:(R.map encRun).length=R.length:=by simp
  generalize R.map encRun=r1 at *
  generalize encL R (n+1)=r2 at *
  rw [r9l]
  simp [go_sem,p9q,range_succ,t2,t4,t7,t10,t11]
  exact ih2
theorem dra_zero (N:Nat) (hN:N<=6) (from_:Int) (K:List Item) (P:Option (AVal × Heap)->Prop)
  (hO:∀ n:Nat,n<N->∀ nl fu,call E (.func (.func 37) [] []) [.imm nl fu true [],.lit (.int .i64 n),.lit (.int .i64 0)] []=some (.tup [.agg [.lit (.int .i64 n),.lit (.int .i64 0),nilS],.lit (.int .i64 0)],[]))
  (hS:∀ n:Nat,n<N->∀ nl fu,call E (.func (.func 38) [] []) [.agg [.lit (.int .i64 n),.lit (.int .i64 0),.imm nl fu true []]] []=some (.lit (.int .i64 0),[]))
  (hk:∀ τ H,lk 4 τ=.ptr 0 0->lk 7 τ=nilS->lk 10 τ=.own 1 N 3 0 N->∀ l10 f10 A,A.length=N ->
   H=[.box [.lit (.int .i64 N),.lit (.int .i64 0)],.arr true l10 f10 3 A]->P (finK 0 [.tmp 6] (run E 0 K τ H))) :
  ∀ (d n:Nat),n+d=N->0<n->∀ (l10 f10:Bool) (A:List (List AVal)),A.length=n ->
  P (finK 0 [.tmp 6] (run E 0 (.code L8_0::.inLoop [1000000,2,4,7,10,11] L8_0::.inBlock 0::K) [(2,.lit (.int .i64 from_)),(4,.ptr 0 0),(7,nilS),(10,.own 1 n 3 0 n),(11,.lit (.int .i64 n))]
   [.box [.lit (.int .i64 N),.lit (.int .i64 0)],.arr true l10 f10 3 A])):=by
 intro d
 induction d with
 | zero =>
  intro n hn hn0 l10 f10 A hA
  have:n=N:=by omega
  subst this
  simp [go_sem,r9c E L8_0.eq_1]
  refine hk _ _ ?_ ?_ ?_ _ _ A hA rfl<;>simp [lk,nilS]
 | succ d ih =>
  intro n hn hn0 l10 f10 A hA
  have hnN:((n:Int)<N)=True:=eq_true (by omega)
  have w:IntKind.wrap .i64 ((n:Int)+1)=(n:Int)+1:=by rw [wrapIdx (by omega)];simp
  have hO:=hO n (by omega)
  have hS:=hS n (by omega)
  have hcA:=cutE_whole hA
  have hsz:(70368744177664<(n+1) * 40)=False:=eq_false (by omega)
  simp only [nilS] at hO
  by_cases ha:from_<0
  ·simp [go_sem,r9c E L8_0.eq_1,nilS,hnN,hcA,hA,hO,hS,w,ha,hsz,p9q,range_succ]
   rw [r9l]
   simp [go_sem,p9q,range_succ,hA,hsz]
   exact ih (n+1) (by omega) (by omega) _ _ _ (by simp [hA])
  by_cases hb:0<from_
  ·simp [go_sem,r9c E L8_0.eq_1,nilS,hnN,hcA,hA,hO,hS,w,ha,hb,hsz,p9q,range_succ]
   rw [r9l]
   simp [go_sem,p9q,range_succ,hA,hsz]
   exact ih (n+1) (by omega) (by omega) _ _ _ (by simp [hA])
  have hc:from_=0:=by omega
  subst hc
  simp [go_sem,r9c E L8_0.eq_1,nilS,hnN,hcA,hA,hO,hS,w,hsz,p9q,range_succ]
  rw [r9l]
  simp [go_sem,p9q,range_succ,hA,r9c E L8_1.eq_1,w]
  rw [r9l]
  simp [go_sem,p9q,range_succ,hA,hsz]
  exact ih (n+1) (by omega) (by omega) _ _ _ (by simp [hA])
theorem driveAll_spec (l:List Ac) (hf:∀ x∈l,x.f.Ok) (n1 f1:Bool) (nodes ticks from_:Int) (hfr:-9223372036854775808<=from_/\from_<=9223372036854775807) :
  call E (.func (.func 8) [] []) [.imm n1 f1 true (l.map encAc),.agg [.lit (.int .i64 nodes),.lit (.int .i64 ticks)],.lit (.int .i64 from_)] []=some (.lit (.bool true),[]):=by
 rw [c9f E E8]
 have haw:=awake22
 have hml:(l.map encAc).length=l.length:=by simp
 by_cases h1:(30:Int)<l.length
 ·have h1n:30<l.length:=by omega
  generalize l.map encAc=rows at *
  simp [go_sem,ir8,haw,hml,h1,h1n]
 have hl40:l.length<=30:=by omega
 have hch:=bChk_spec nodes l (by omega) n1 f1
 have h1n:¬ 30<l.length:=by omega
 by_cases h3:6<nodes
 ·generalize l.map encAc=rows at *
  simp [go_sem,ir8,haw,hml,h1,h1n,h3]
 by_cases h4:ticks<0
 ·generalize l.map encAc=rows at *
  simp [go_sem,ir8,haw,hml,h1,h1n,h3,h4]
 by_cases h5:200<ticks
 ·generalize l.map encAc=rows at *
  simp [go_sem,ir8,haw,hml,h1,h1n,h3,h4,h5]
 by_cases h6:chkAll nodes l≠0
 ·generalize l.map encAc=rows at *
  simp [go_sem,ir8,haw,hml,h1,h1n,h3,h4,h5,hch,h6]
 have h6:chkAll nodes l=0:=Decidable.not_not.1 h6
 rw [h6] at hch
 have hNr:1<=nodes:=by
  unfold chkAll at h6
  split at h6
  ·cases h6
  ·omega
 obtain ⟨N,rfl⟩:∃ N:Nat,nodes=N:=⟨nodes.toNat,by omega⟩
 obtain ⟨T,rfl⟩:∃ T:Nat,ticks=T:=⟨ticks.toNat,by omega⟩
 have hD:=dra_ok l T N (by omega) (by omega)
 obtain ⟨lke,fue,hP⟩:=bplay_spec l (by omega) hf n1 f1 N T (by omega) h6
 generalize hR:playR l T 0 (List.replicate N nd0) []=R at *
 generalize (playT l T 0 (List.replicate N nd0)).map Prod.fst=TR at *
 have hES:T=0->playE l T 0 (List.replicate N nd0) []=[]:=fun h=>by subst h;simp [playE,playT]
 generalize hE:playE l T 0 (List.replicate N nd0) []=ES at *
 by_cases hT:0<T
 ·have hR0:R≠[]:=by intro e;have:=hD.ok.sum;rw [e] at this;simp [sumN] at this;omega
  have hRl:R.length≠0:=by simp [hR0]
  have hm0:(R.map encRun).length=R.length:=by simp
  simp only [plV,plH,bruV,bouV,if_neg hR0,if_neg hRl] at hP
  generalize l.map encAc=rows at *
  by_cases hE0:ES=[]
  ·subst hE0
   simp at hP
   simp [go_sem,ir8,haw,hml,h1,h1n,h3,h4,h5,hch,hP]
   rw [r9l]
   simp [go_sem,p9q,range_succ,hm0]
   refine dra_first R TR T N hD hT 0 rfl (by omega) from_ hfr _ _ _ (fun o=>o=some (.lit (.bool true),[])) ?_
   intro a7 b7 a10 b10
   refine dra_outer R TR T N hD hT from_ hfr _ (fun o=>o=some (.lit (.bool true),[])) ?_ (N - 1) 1 (by omega) (by omega) _ _ _ _
   intro τ a7 b7 a10 b10 t2 t4 t7 t10
   have hLn:=encL_len R N
   have hl2:=dra_last R TR T N hD (by omega) (by omega) [.code (.seq (.reg [⟨none,some 177,.call 36 []⟩,⟨none,some 6,.copy (.t 177)⟩] [] []) .ret)] (fun o=>o=some (.lit (.bool true),[])) (by
    intro τ H
    simp [go_sem,haw])
   have hl2:=hl2 T 0 (by omega) a7 b7 a10 b10
   generalize R.map encRun=r1 at *
   generalize encL R N=r2 at *
   simp [go_sem]
   rw [r9l]
   simp [go_sem,p9q,range_succ,t4,t7,t10,hLn,hm0]
   exact hl2
  ·have hEl:ES.length≠0:=by simp [hE0]
   simp only [if_neg hE0,if_neg hEl] at hP
   simp [go_sem,ir8,haw,hml,h1,h1n,h3,h4,h5,hch,hP]
   rw [r9l]
   simp [go_sem,p9q,range_succ,hm0]
   refine dra_first R TR T N hD hT 0 rfl (by omega) from_ hfr _ _ _ (fun o=>o=some (.lit (.bool true),[])) ?_
   intro a7 b7 a10 b10
   refine dra_outer R TR T N hD hT from_ hfr _ (fun o=>o=some (.lit (.bool true),[])) ?_ (N - 1) 1 (by omega) (by omega) _ _ _ _
   intro τ a7 b7 a10 b10 t2 t4 t7 t10
   have hLn:=encL_len R N
   have hl2:=dra_last R TR T N hD (by omega) (by omega) [.code (.seq (.reg [⟨none,some 177,.call 36 []⟩,⟨none,some 6,.copy (.t 177)⟩] [] []) .ret)] (fun o=>o=some (.lit (.bool true),[])) (by
    intro τ H
    simp [go_sem,haw])
   have hl2:=hl2 T 0 (by omega) a7 b7 a10 b10
   generalize R.map encRun=r1 at *
   generalize encL R N=r2 at *
   simp [go_sem]
   rw [r9l]
   simp [go_sem,p9q,range_succ,t4,t7,t10,hLn,hm0]
   exact hl2
 ·have hT0:T=0:=by omega
  subst hT0
  have hR0:R=[]:=List.length_eq_zero_iff.1 (by have:=hD.ok.len;omega)
  have hES0:=hES rfl
  subst hR0 hES0
  simp [plV,plH,bruV,bouV,nilS] at hP
  have hO:∀ n:Nat,n<N->∀ nl fu,_:=fun n hn nl fu=>dof_spec [] hD.ok.dr (by simp) hD.ok.ok nl fu n (0:Nat) (hD.dofE hn (Nat.le_refl 0))
  have hd0:∀ n:Nat,dofR [] n 0=[]:=fun n=>(hD.nil n 0 (Nat.le_refl 0)).2 rfl
  have hS:∀ n:Nat,n<N->∀ nl fu,_:=fun n hn nl fu=>sends_spec n (0:Nat) [] (by simp) nl fu
  have hE:∀ n:Nat,n<N->endsS n 0 []=(0:Nat):=fun n hn=>by have:=hD.ends hn (Nat.le_refl 0);rwa [show dofR [] (n:Int) ((0:Nat):Int)=[] from hd0 n] at this
  have hcs:N=1∨N=2∨N=3∨N=4∨N=5∨N=6:=by omega
  have hO2:∀ n:Nat,n<N->∀ nl fu,call E (.func (.func 37) [] []) [.imm nl fu true [],.lit (.int .i64 n),.lit (.int .i64 0)] []=some (.tup [.agg [.lit (.int .i64 n),.lit (.int .i64 0),nilS],.lit (.int .i64 0)],[]):=by
   intro n hn nl fu
   have:=hO n hn nl fu
   rw [show dofR [] (n:Int) ((0:Nat):Int)=[] from hd0 n] at this
   exact this
  have hS2:∀ n:Nat,n<N->∀ nl fu,call E (.func (.func 38) [] []) [.agg [.lit (.int .i64 n),.lit (.int .i64 0),.imm nl fu true []]] []=some (.lit (.int .i64 0),[]):=by
   intro n hn nl fu
   have:=hS n hn nl fu
   rw [show endsS (n:Int) ((0:Nat):Int) []=(0:Nat) from hE n hn] at this
   exact this
  generalize l.map encAc=rows at *
  have hN0:(0<N)=True:=eq_true (by omega)
  have hO0:=hO2 0 (by omega)
  have hS0:=hS2 0 (by omega)
  simp [nilS] at hO0 hS0
  have key:∀ (τ:Tmps) (H:Heap),lk 4 τ=.ptr 0 0->lk 7 τ=nilS->lk 10 τ=.own 1 N 3 0 N->∀ (l10 f10:Bool) (A:List (List AVal)),A.length=N ->
   H=[.box [.lit (.int .i64 N),.lit (.int .i64 0)],.arr true l10 f10 3 A] ->
   finK 0 [.tmp 6] (run E 0 [.code (.seq (.seq (.reg [⟨none,some 17,.copy (.c (.lit (.int .i64 0)))⟩] [] []) (.block 4 (.loop [1000000,4,7,10,17] L8_2))) (.seq (.reg [⟨none,some 177,.call 36 []⟩,⟨none,some 6,.copy (.t 177)⟩] [] []) .ret))] τ H)=some (.lit (.bool true),[]):=by
   intro τ H t4 t7 t10 l10 f10 A hA hH
   subst hH
   simp [go_sem]
   rw [r9l]
   simp [go_sem,p9q,range_succ,t4,t7,t10,hA,nilS,r9c E L8_2.eq_1,haw]
  have hZ:=dra_zero N (by omega) from_ _ (fun o=>o=some (.lit (.bool true),[])) hO2 hS2 key (N - 1) 1 (by omega) (by omega)
  simp only [nilS,Int.natCast_one] at hZ
  by_cases ha:from_<0
  ·simp [go_sem,ir8,haw,hml,h1,h1n,h3,hch,hP]
   rw [r9l]
   simp [go_sem,p9q,range_succ,r9c E L8_0.eq_1,nilS,hN0,show IntKind.i64.wrap 1=1 from rfl,hO0,hS0,ha]
   rw [r9l]
   simp [go_sem,p9q,range_succ]
   exact hZ _ _ _ (by rfl)
  by_cases hb:0<from_
  ·simp [go_sem,ir8,haw,hml,h1,h1n,h3,hch,hP]
   rw [r9l]
   simp [go_sem,p9q,range_succ,r9c E L8_0.eq_1,nilS,hN0,show IntKind.i64.wrap 1=1 from rfl,hO0,hS0,ha,hb]
   rw [r9l]
   simp [go_sem,p9q,range_succ]
   exact hZ _ _ _ (by rfl)
  have hc:from_=0:=by omega
  subst hc
  simp [go_sem,ir8,haw,hml,h1,h1n,h3,hch,hP]
  rw [r9l]
  simp [go_sem,p9q,range_succ,r9c E L8_0.eq_1,nilS,hN0,show IntKind.i64.wrap 1=1 from rfl,hO0,hS0]
  rw [r9l]
  simp [go_sem,p9q,range_succ,r9c E L8_1.eq_1]
  rw [r9l]
  simp [go_sem,p9q,range_succ]
  exact hZ _ _ _ (by rfl)
end Go.AM.R1
open Go Go.AM Go.Proofs
namespace Go.AM.R1
section
variable {H:Type} {P:Program}
end
end Go.AM.R1
open Go Go.AM Go.Proofs
namespace Go.AM.R1
section
variable {H:Type} {P:Program}
end
end Go.AM.R1
open Go Go.AM Go.Proofs
namespace Go.AM.R1
section
variable {H:Type} {P:Program}
structure IsFr (P:Program) (t:TypeId) (f1 f2 f3 f4 f5:Field) (e:TypeId):Prop where
 hs:P.underlying t=some (.struct #[f1,f2,f3,f4,f5])
 h1:P.underlying f1.type=some (.int .i64)
 h2:P.underlying f2.type=some .bool
 h3:P.underlying f3.type=some .bool
 h4:P.underlying f4.type=some (.int .i64)
 h5:P.underlying f5.type=some (.array 8 e)
 he:P.underlying e=some (.int .u8)
theorem wfu8 {v:Int} (h:(Lit.int .u8 v).wf=true):0<=v/\v<=255:=by
 simpa [Lit.wf,IntKind.min,IntKind.max,IntKind.signed,IntKind.bits] using h
theorem dec_frame {n:Nat} {t e:TypeId} {f1 f2 f3 f4 f5:Field} (i:IsFr P t f1 f2 f3 f4 f5 e) {d:DataW H} {cs:List AVal} (h:Dec P (n+3) t d cs):∃ f:Fr,cs=encFr f/\f.Ok:=by
 rw [Dec,i.hs] at h
 obtain ⟨parts,ass,-,rfl,hf⟩:=h
 obtain ⟨p1,ps1,a1,as1,rfl,rfl,r1,hf⟩:=fieldsR_cons hf
 obtain ⟨p2,ps2,a2,as2,rfl,rfl,r2,hf⟩:=fieldsR_cons hf
 obtain ⟨p3,ps3,a3,as3,rfl,rfl,r3,hf⟩:=fieldsR_cons hf
 obtain ⟨p4,ps4,a4,as4,rfl,rfl,r4,hf⟩:=fieldsR_cons hf
 obtain ⟨p5,ps5,a5,as5,rfl,rfl,r5,hf⟩:=fieldsR_cons hf
 obtain ⟨rfl,rfl⟩:=fieldsR_nil hf
 simp only [Dec,i.h1] at r1
 simp only [Dec,i.h2] at r2
 simp only [Dec,i.h3] at r3
 simp only [Dec,i.h4] at r4
 rw [Dec,i.h5] at r5
 obtain ⟨v1,-,w1,rfl⟩:=r1
 obtain ⟨b2,-,rfl⟩:=r2
 obtain ⟨b3,-,rfl⟩:=r3
 obtain ⟨v4,-,w4,rfl⟩:=r4
 obtain ⟨pp,aa,-,rfl,hm,h2⟩:=r5
 obtain ⟨l,hl,rfl,hw⟩:=all2_flat (fun v=>[AVal.lit (.int .u8 v)]) (fun v=>(Lit.int .u8 v).wf=true) (fun d a hda=>by
  simp only [Dec,i.he] at hda
  obtain ⟨v,-,hw,rfl⟩:=hda
  exact ⟨v,rfl,hw⟩) h2
 rw [hm] at hl
 match l,hl,hw with
 | [x0,x1,x2,x3,x4,x5,x6,x7],_,hw =>
  have y0:=wfu8 (hw x0 (by simp))
  have y1:=wfu8 (hw x1 (by simp))
  have y2:=wfu8 (hw x2 (by simp))
  have y3:=wfu8 (hw x3 (by simp))
  have y4:=wfu8 (hw x4 (by simp))
  have y5:=wfu8 (hw x5 (by simp))
  have y6:=wfu8 (hw x6 (by simp))
  have y7:=wfu8 (hw x7 (by simp))
  refine ⟨⟨v1,b2,b3,v4,x0.toNat,x1.toNat,x2.toNat,x3.toNat,x4.toNat,x5.toNat,x6.toNat,x7.toNat⟩,?_,⟨(wf64 w1).1,(wf64 w1).2,(wf64 w4).1,(wf64 w4).2,?_⟩⟩
  ·have e:∀ v:Int,0<=v/\v<=255->u8v v.toNat=.lit (.int .u8 v):=fun v hv=>by unfold u8v;rw [show ((v.toNat:Nat):Int)=v from by omega]
   simp only [encFr,e x0 y0,e x1 y1,e x2 y2,e x3 y3,e x4 y4,e x5 y5,e x6 y6,e x7 y7]
   rfl
  ·intro c hc
   simp only [Fr.bytes,mem_cons,List.not_mem_nil,or_false] at hc
   omega
end
end Go.AM.R1
set_option linter.unusedVariables false
set_option linter.unusedSimpArgs false
namespace Go.AM.R1
open Go Go.AM Go.Proofs Go.Lib

def lay (c:Array Value) (o:Nat) (xs:List Value):Array Value:=(c.toList.take o++xs++c.toList.drop (o+xs.length)).toArray

theorem lay_size {c:Array Value} {o:Nat} {xs:List Value} (h:o+xs.length<=c.size):(lay c o xs).size=c.size:=by
 simp [lay];omega

theorem run_copyK {P:Program} (w:World) {dT sT ty e:TypeId} {sz:Nat} (hu:P.underlying dT=some (.slice e)) (hsz:∀ w,(sizeOf e).run P w=.ok sz w) (b:Nat) (c:Array Value) (t:TypeId) (hb:w.heap[b]?=some (.cells c t (0,0)))
  (o dLen dCap:Nat) (sa:Addr) (sLen sCap:Nat) (xs:List Value) (hxl:xs.length=min sLen dLen * sz) (hx1:∀ v∈xs,v.oneCell'=true) (hxc:∀ j v,xs[j]?=some v->w.cell? (sa.add j)=some v) (hfit:o+xs.length<=c.size) :
  (Builtin.copy_ #[dT,sT] ty #[.slice (some ⟨b,o,none⟩) dLen dCap,.slice (some sa) sLen sCap]).run P w=.ok (goInt ((min sLen dLen:Nat):Int)) (w.setRow b (lay c o xs)):=by
 have hf:(Builtin.firstCells sz (Nat.min sLen dLen) (.slice (some sa) sLen sCap)).run P w=.ok xs.toArray w:=by
  simp only [Builtin.firstCells]
  have:Nat.min sLen dLen * sz=xs.length:=hxl.symm
  rw [this]
  exact run_loadCells_list w sa xs hxc
 have hst:=run_storeCells_at (P:=P) b o t xs 0 c w hb (by omega) hx1
 have hst':(storeCells ⟨b,o,none⟩ xs).run P w=.ok () (w.setRow b (lay c o xs)):=by simpa [lay] using hst
 simp only [Builtin.copy_,List.getElem?_toArray,List.getElem?_cons_zero,List.getElem?_cons_succ,Sem.run_bind,run_underlying hu,Result.andThen_ok,Builtin.lenOf,Sem.run_pure,hsz,hf,hst',goInt]


set_option maxRecDepth 100000 in
theorem ins_shift (w:World) (b vb n cap vcap p:Nat) (c vc:Array Value) (t vt:TypeId) (hb:w.heap[b]?=some (.cells c t (0,0))) (hvb:w.heap[vb]?=some (.cells vc vt (0,0))) (hne:vb≠b)
  (hroom:n+1<=cap) (hcs:cap * 12<=c.size) (hvs:12<=vc.size) (h1c:∀ v∈c.toList,v.oneCell'=true) (h1v:∀ v∈vc.toList,v.oneCell'=true) (hp:p<n) (h46:(n+1) * 32<=70368744177664) (h1:1<=vcap) :
  Calls Tryz.prog 135 #[.slice (some ⟨b,0,none⟩) n cap,.int .i64 p,.slice (some ⟨vb,0,none⟩) 1 vcap] w fun r w' =>
   r=.returned (.slice (some ⟨b,0,none⟩) (n+1) cap)/\w'=(w.drew.setRow b (lay c ((p+1) * 12) ((c.toList.take (n * 12)).drop (p * 12)))).setRow b (lay (lay c ((p+1) * 12) ((c.toList.take (n * 12)).drop (p * 12))) (p * 12) (vc.toList.take 12)):=by
 have hz2:¬ ((p:Int)=(n:Int)):=by omega
 have hw0:IntKind.i64.wrap ((n:Int)+1)=(n:Int)+1:=by rw [IntKind.wrap_i64];omega
 have hw1:IntKind.i64.wrap ((p:Int)+1)=(p:Int)+1:=by rw [IntKind.wrap_i64];omega
 have hb1:(0:Int)<=(p:Int)+1:=by omega
 have hin:p<=n:=by omega
 have hpc:p<=cap:=by omega
 have htn:((p:Int)+1).toNat=p+1:=by omega
 have hb2:¬ (cap=p+1):=by omega
 have hb3:(p:Int)<=(n:Int):=by omega
 have hb4:¬ (cap=p):=by omega
 have hb5:¬ ((cap:Int)<(n:Int)+1):=by omega
 have hb6:(p:Int)+1<=(n:Int)+1:=by omega
 have hsa:w.shape? vb=some (vt,vc.size):=by simp [World.shape?,hvb]
 have hsb:w.shape? b=some (t,c.size):=by simp [World.shape?,hb]
 have hfr:∀ o,w.frozen? ⟨vb,o,none⟩=false:=fun o=>by simp [World.frozen?,hvb]
 have hov:∀ off lb cb,(callFunc 154 #[.slice (some ⟨vb,0,none⟩) 1 vcap,.slice (some ⟨b,off,none⟩) lb cb]).run Tryz.prog w=.ok (.value (.bool false)) w:=fun off lb cb=>by
  rw [run_callFunc_extern Tryz.func154 (by kernel_rfl) (by kernel_rfl) (by kernel_rfl) (e:=Extern.SlicesOverlaps.overlaps #[63,63] #[4]) (by kernel_rfl),
   Lib.run_overlaps_apart w 63 4 42 Tryz.underlying63 12 Tryz.sizeOf42 ⟨vb,0,none⟩ ⟨b,off,none⟩ 1 vcap lb cb hne vt t vc.size c.size hsa hsb (by omega) (hfr _) (hfr _)]
  rfl
 have hbd:w.drew.heap[b]?=some (.cells c t (0,0)):=hb
 have hnc:n * 12<=c.size:=by omega
 have hxl:((c.toList.take (n * 12)).drop (p * 12)).length=(n - p) * 12:=by simp;omega
 have hm1:min (n+1 - p) (n - p)=n - p:=by omega
 have hcp1:∀ ty dc sc,(Builtin.copy_ #[63,63] ty #[.slice (some ⟨b,(p+1) * 12,none⟩) (n - p) dc,.slice (some ⟨b,p * 12,none⟩) (n+1 - p) sc]).run Tryz.prog w.drew =
   .ok (goInt ((n - p:Nat):Int)) (w.drew.setRow b (lay c ((p+1) * 12) ((c.toList.take (n * 12)).drop (p * 12)))):=fun ty dc sc=>by
  have:=run_copyK (P:=Tryz.prog) (sT:=63) (ty:=ty) w.drew Tryz.underlying63 Tryz.sizeOf42 b c t hbd ((p+1) * 12) (n - p) dc ⟨b,p * 12,none⟩ (n+1 - p) sc ((c.toList.take (n * 12)).drop (p * 12))
   (by rw [hxl,hm1]) (fun v hv=>h1c v (mem_of_mem_take (mem_of_mem_drop hv))) (fun j v hj=>by
    rw [List.getElem?_drop,List.getElem?_take] at hj
    split at hj
    ·rw [addr_add,cell_of_heap hbd];exact hj
    ·cases hj) (by rw [hxl];omega)
  rw [hm1] at this
  exact this
 obtain ⟨S1,hS1⟩:∃ S1,S1=lay c ((p+1) * 12) ((c.toList.take (n * 12)).drop (p * 12)):=⟨_,rfl⟩
 obtain ⟨S2,hS2⟩:∃ S2,S2=lay S1 (p * 12) (vc.toList.take 12):=⟨_,rfl⟩
 rw [<- hS1] at hcp1 ⊢
 rw [<- hS2]
 have hSs:S1.size=c.size:=by rw [hS1];exact lay_size (by rw [hxl];omega)
 have hvl:(vc.toList.take 12).length=12:=by simp;omega
 have hcp2:∀ (W:World),W.heap=(w.drew.setRow b S1).heap->∀ ty dc,(Builtin.copy_ #[63,63] ty #[.slice (some ⟨b,p * 12,none⟩) (n+1 - p) dc,.slice (some ⟨vb,0,none⟩) 1 vcap]).run Tryz.prog W =
   .ok (goInt 1) (W.setRow b S2):=fun W hW ty dc=>by
  have hbW:W.heap[b]?=some (.cells S1 t (0,0)):=by rw [hW];exact setRow_heap _ _ _ _ _ _ hbd
  have hvW:W.heap[vb]?=some (.cells vc vt (0,0)):=by rw [hW,setRow_other _ _ _ _ hne];exact hvb
  have:=run_copyK (P:=Tryz.prog) (sT:=63) (ty:=ty) W Tryz.underlying63 Tryz.sizeOf42 b S1 t hbW (p * 12) (n+1 - p) dc ⟨vb,0,none⟩ 1 vcap (vc.toList.take 12)
   (by rw [hvl,Nat.min_eq_left (by omega)]) (fun v hv=>h1v v (mem_of_mem_take hv)) (fun j v hj=>by
    rw [List.getElem?_take] at hj
    split at hj
    ·rw [addr_add,cell_of_heap hvW,Nat.zero_add];exact hj
    ·cases hj) (by rw [hvl,hSs];omega)
  rw [Nat.min_eq_left (by omega),<- hS2] at this
  exact this
 clear hxl hm1 hvl hSs hbd
 have mixed:Tryz.prog.follows .mixedOrders=true:=by kernel_rfl
 have hb7:(p:Int)<=(n:Int)+1:=by omega
 go_enter Tryz.func135,Tryz.ntmps135
 go_wp2_with (simp only [hov])
 go_region_law_o (refine step_copy_runI rfl _ _ 63 63 rfl _ _ (by simp [Act.eval,Act.put]) (by simp [Act.eval,Act.put]) (hcp1 _ _ _) ?_)
 go_wp2_with (at_builtin;refine wpList_copy_runI _ rfl _ _ 63 63 rfl _ _ rfl rfl (hcp2 _ rfl _ _) ?_)
 go_ret
 exact ⟨rfl,by rw [hS2,hS1]⟩

set_option maxRecDepth 100000 in
theorem ins_end (w:World) (base:Option Addr) (n cap vb vcap:Nat) (v':Value) (w1:World) (h46:(n+1) * 32<=70368744177664)
  (hnc:n<=cap) (hrun:∀ ty,(Builtin.append_ #[63,63] ty #[.slice base n cap,.slice (some ⟨vb,0,none⟩) 1 vcap]).run Tryz.prog w=.ok v' w1) :
  Calls Tryz.prog 135 #[.slice base n cap,.int .i64 n,.slice (some ⟨vb,0,none⟩) 1 vcap] w fun r w'=>r=.returned v'/\w'=w1:=by
 go_enter Tryz.func135,Tryz.ntmps135
 cases base with
 | none =>
  go_wp2_with (at_builtin;refine Lib.wpList_append_run _ rfl _ _ _ _ rfl _ _ rfl rfl _ _ (hrun _) ?_)
  all_goals (go_ret;exact ⟨rfl,rfl⟩)
 | some a =>
  obtain ⟨ab,ao,asp⟩:=a
  go_wp2_with (at_builtin;refine Lib.wpList_append_run _ rfl _ _ _ _ rfl _ _ rfl rfl _ _ (hrun _) ?_)
  all_goals (go_ret;exact ⟨rfl,rfl⟩)

set_option maxRecDepth 100000 in
theorem ins_grow (w:World) (b vb n vcap p:Nat) (c vc:Array Value) (t vt:TypeId) (hb:w.heap[b]?=some (.cells c t (0,0))) (hvb:w.heap[vb]?=some (.cells vc vt (0,0)))
  (hcs:n * 12<=c.size) (hvs:12<=vc.size) (h1c:∀ v∈c.toList,v.oneCell'=true) (h1v:∀ v∈vc.toList,v.oneCell'=true) (hp:p<n) (h46:(n+1) * 32<=70368744177664) (h1:1<=vcap)
  (G:Nat) (R:Array Value) (t2:TypeId) (w1:World) (hG:n+1<=G) (hR:G * 12<=R.size) (hw1:w1.heap=w.heap.push (.cells R t2 (0,0)))
  (hrz:∀ ty,(Builtin.append_ #[63,3] ty #[.slice (some ⟨b,0,none⟩) p n,.int .i64 ((n:Int)+1 - (p:Int))]).run Tryz.prog w=.ok (.slice (some ⟨w.heap.size,0,none⟩) (n+1) G) w1) :
  Calls Tryz.prog 135 #[.slice (some ⟨b,0,none⟩) n n,.int .i64 p,.slice (some ⟨vb,0,none⟩) 1 vcap] w fun r w' =>
   r=.returned (.slice (some ⟨w.heap.size,0,none⟩) (n+1) G)/\w'=((w1.setRow w.heap.size (lay R (p * 12) (vc.toList.take 12))).drew.setRow w.heap.size (lay (lay R (p * 12) (vc.toList.take 12)) ((p+1) * 12) ((c.toList.take (n * 12)).drop (p * 12)))):=by
 have hz2:¬ ((p:Int)=(n:Int)):=by omega
 have hw0:IntKind.i64.wrap ((n:Int)+1)=(n:Int)+1:=by rw [IntKind.wrap_i64];omega
 have hw1':IntKind.i64.wrap ((p:Int)+1)=(p:Int)+1:=by rw [IntKind.wrap_i64];omega
 have hw2:IntKind.i64.wrap ((n:Int)+1 - (p:Int))=(n:Int)+1 - (p:Int):=by rw [IntKind.wrap_i64];omega
 have hb1:(0:Int)<=(p:Int)+1:=by omega
 have hin:p<=n:=by omega
 have htn:((p:Int)+1).toNat=p+1:=by omega
 have hb2:¬ (G=p+1):=by omega
 have hb2':¬ (G=p):=by omega
 have hb3:(p:Int)<=(n:Int):=by omega
 have hb4:¬ (n=p):=by omega
 have hb6:(p:Int)+1<=(n:Int)+1:=by omega
 have hb7:(p:Int)<=(n:Int)+1:=by omega
 have mixed:Tryz.prog.follows .mixedOrders=true:=by kernel_rfl
 obtain ⟨S1,hS1⟩:∃ S1,lay R (p * 12) (vc.toList.take 12)=S1:=⟨_,rfl⟩
 obtain ⟨S2,hS2⟩:∃ S2,lay S1 ((p+1) * 12) ((c.toList.take (n * 12)).drop (p * 12))=S2:=⟨_,rfl⟩
 rw [hS1,hS2]
 have hbl:b<w.heap.size:=(Array.getElem?_eq_some_iff.1 hb).1
 have hvl2:vb<w.heap.size:=(Array.getElem?_eq_some_iff.1 hvb).1
 have hvl:(vc.toList.take 12).length=12:=by simp;omega
 have hxl:((c.toList.take (n * 12)).drop (p * 12)).length=(n - p) * 12:=by simp;omega
 have hSs:S1.size=R.size:=by rw [<- hS1];exact lay_size (by rw [hvl];omega)
 have hbR:w1.heap[w.heap.size]?=some (.cells R t2 (0,0)):=by rw [hw1];simp
 have hbv:w1.heap[vb]?=some (.cells vc vt (0,0)):=by rw [hw1,Array.getElem?_push,if_neg (by omega)];exact hvb
 have hbb:w1.heap[b]?=some (.cells c t (0,0)):=by rw [hw1,Array.getElem?_push,if_neg (by omega)];exact hb
 have hcp1:∀ ty dc,(Builtin.copy_ #[63,63] ty #[.slice (some ⟨w.heap.size,p * 12,none⟩) (n+1 - p) dc,.slice (some ⟨vb,0,none⟩) 1 vcap]).run Tryz.prog w1 =
   .ok (goInt 1) (w1.setRow w.heap.size S1):=fun ty dc=>by
  have:=run_copyK (P:=Tryz.prog) (sT:=63) (ty:=ty) w1 Tryz.underlying63 Tryz.sizeOf42 w.heap.size R t2 hbR (p * 12) (n+1 - p) dc ⟨vb,0,none⟩ 1 vcap (vc.toList.take 12)
   (by rw [hvl,Nat.min_eq_left (by omega)]) (fun v hv=>h1v v (mem_of_mem_take hv)) (fun j v hj=>by
    rw [List.getElem?_take] at hj
    split at hj
    ·rw [addr_add,cell_of_heap hbv,Nat.zero_add];exact hj
    ·cases hj) (by rw [hvl];omega)
  rw [Nat.min_eq_left (by omega),hS1] at this
  exact this
 have hm1:min (n - p) (n - p)=n - p:=by omega
 have hcp2:∀ ty dc sc,(Builtin.copy_ #[63,63] ty #[.slice (some ⟨w.heap.size,(p+1) * 12,none⟩) (n - p) dc,.slice (some ⟨b,p * 12,none⟩) (n - p) sc]).run Tryz.prog (w1.setRow w.heap.size S1).drew =
   .ok (goInt ((n - p:Nat):Int)) ((w1.setRow w.heap.size S1).drew.setRow w.heap.size S2):=fun ty dc sc=>by
  have hb1:(w1.setRow w.heap.size S1).drew.heap[w.heap.size]?=some (.cells S1 t2 (0,0)):=setRow_heap _ _ _ _ _ _ hbR
  have hb2:(w1.setRow w.heap.size S1).drew.heap[b]?=some (.cells c t (0,0)):=(setRow_other _ _ _ _ (by omega)).trans hbb
  have:=run_copyK (P:=Tryz.prog) (sT:=63) (ty:=ty) (w1.setRow w.heap.size S1).drew Tryz.underlying63 Tryz.sizeOf42 w.heap.size S1 t2 hb1 ((p+1) * 12) (n - p) dc ⟨b,p * 12,none⟩ (n - p) sc ((c.toList.take (n * 12)).drop (p * 12))
   (by rw [hxl,hm1]) (fun v hv=>h1c v (mem_of_mem_take (mem_of_mem_drop hv))) (fun j v hj=>by
    rw [List.getElem?_drop,List.getElem?_take] at hj
    split at hj
    ·rw [addr_add,cell_of_heap hb2];exact hj
    ·cases hj) (by rw [hxl,hSs];omega)
  rw [hm1,hS2] at this
  exact this
 clear hxl hm1 hvl hSs hbR hbv hbb hS1 hS2
 go_enter Tryz.func135,Tryz.ntmps135
 go_wp2_with (first
  | (at_builtin;refine Lib.wpList_append_run _ rfl _ _ _ _ rfl _ _ rfl rfl _ _ (hrz _) ?_)
  | (at_builtin;refine wpList_copy_runI _ rfl _ _ 63 63 rfl _ _ rfl rfl (hcp1 _ _) ?_))
 go_region_law_o (refine step_copy_runI rfl _ _ 63 63 rfl _ _ (by simp [Act.eval,Act.put]) (by simp [Act.eval,Act.put]) (hcp2 _ _ _) ?_)
 go_wp2
 go_ret
 exact ⟨rfl,rfl⟩

theorem step_app_run {P:Program} {ops:Array Oper} {o:Oper} {a:Act} {w:World} {K:Act->World->Prop} {Q:Exit->Act->World->Prop} {E:Prop}
  (hg:o.guard=none) (d x:Operand) (dT sT:TypeId) (hop:o.op=Op.call { callee:=Callee.builtin Builtin.append,args:=#[d,x],argTypes:=#[dT,sT] })
  (v u:Value) (hd:a.eval d=v) (hx:a.eval x=u) {v':Value} {w':World} (hr:(Builtin.append_ #[dT,sT] o.type #[v,u]).run P w=.ok v' w') (hK:K (a.put o.dst v') w') :
  if Region.wanted o (yielded ops a.tmps)=true then Oper.wp P o a w K Q else E:=by
 rw [if_pos (by simp [Region.wanted,hg])]
 unfold Oper.wp
 simp [execOp,hop,resolve,invoke,builtin,hd,hx,hr,Result.andThen]
 exact hK

theorem run_clearK {P:Program} (w:World) {t ty e:TypeId} {z:Value} {sz:Nat} (ht:P.underlying t=some (.slice e)) (hv:∀ w,(zeroValue e).run P w=.ok z w) (hz:z.cells.size=sz) (h0:0<sz) (h1:∀ v∈z.cells.toList,v.oneCell'=true)
  (b:Nat) (c:Array Value) (tc:TypeId) (hb:w.heap[b]?=some (.cells c tc (0,0))) (o n cp:Nat) (hn:0<n) (hfit:o+n * sz<=c.size) :
  (Builtin.clear_ #[t] ty #[.slice (some ⟨b,o,none⟩) n cp]).run P w=.ok (.tuple #[]) (w.setRow b (lay c o (Builtin.zeroCells z.cells n).toList)):=by
 have hl:(Builtin.zeroCells z.cells n).toList.length=n * sz:=by simp [size_zeroCells,hz]
 have hst:=run_storeCells_at (P:=P) b o tc (Builtin.zeroCells z.cells n).toList 0 c w hb (by omega) (zeroCells_ok h1 (by omega))
 have hst':(storeCells ⟨b,o,none⟩ (Builtin.zeroCells z.cells n).toList).run P w=.ok () (w.setRow b (lay c o (Builtin.zeroCells z.cells n).toList)):=by simpa [lay] using hst
 obtain ⟨m,rfl⟩:∃ m,n=m+1:=⟨n - 1,by omega⟩
 simp [Builtin.clear_,run_underlying ht,hv,hst']

set_option maxRecDepth 100000 in
theorem del_run (w:World) (b n cap p q:Nat) (c:Array Value) (t:TypeId) (hb:w.heap[b]?=some (.cells c t (0,0))) (hnc:n<=cap) (hcs:cap * 12<=c.size) (h1c:∀ v∈c.toList,v.oneCell'=true) (hpq:p<q) (hq:q<=n) :
  Calls Tryz.prog 172 #[.slice (some ⟨b,0,none⟩) n cap,.int .i64 p,.int .i64 q] w fun r w' =>
   r = .returned (.slice (some ⟨b,0,none⟩) (n - (q - p)) cap)/\∃ zs:List Value,zs.length=(q - p) * 12/\(∀ v∈zs,v.oneCell'=true) /\
    w'=(w.drew.setRow b (lay c (p * 12) ((c.toList.take (n * 12)).drop (q * 12)))).setRow b (lay (lay c (p * 12) ((c.toList.take (n * 12)).drop (q * 12))) ((p+(n - q)) * 12) zs):=by
 have hne:¬ ((p:Int)=(q:Int)):=by omega
 have hnn:n - (q - p)=p+(n - q):=by omega
 rw [hnn]
 have mixed:Tryz.prog.follows .mixedOrders=true:=by kernel_rfl
 obtain ⟨z,hv,hz,h1z⟩:∃ z:Value,(∀ w,(zeroValue 42).run Tryz.prog w=.ok z w)/\z.cells.size=12/\∀ v∈z.cells.toList,v.oneCell'=true:=⟨_,Tryz.zeroValue42,rfl,by simp [Value.cells,Value.oneCell']⟩
 have hxl:((c.toList.take (n * 12)).drop (q * 12)).length=(n - q) * 12:=by simp;omega
 have hn12:n * 12<=c.size:=by omega
 have hbd:w.drew.heap[b]?=some (.cells c t (0,0)):=hb
 obtain ⟨A,hA⟩:∃ A:Addr,(if cap=q then (some ⟨b,0,none⟩:Option Addr) else some ⟨b,q * 12,none⟩)=some A:=by
  split
  ·exact ⟨_,rfl⟩
  ·exact ⟨_,rfl⟩
 have hAc:∀ j v,((c.toList.take (n * 12)).drop (q * 12))[j]?=some v->w.drew.cell? (A.add j)=some v:=fun j v hj=>by
  have hjl:=(List.getElem?_eq_some_iff.1 hj).1
  rw [hxl] at hjl
  split at hA
  ·omega
  ·cases hA
   rw [List.getElem?_drop,List.getElem?_take] at hj
   split at hj
   ·rw [addr_add,cell_of_heap hbd];exact hj
   ·cases hj
 obtain ⟨i,hi⟩:∃ i,Tryz.prog.info? 42=some i:=⟨_,rfl⟩
 have his:i.size=12:=by
  have:(Tryz.prog.info? 42).map (·.size)=some 12:=by kernel_rfl
  rw [hi] at this;simpa using this
 have hap:∀ ty,(Builtin.append_ #[63,63] ty #[.slice (some ⟨b,0,none⟩) p cap,.slice (some A) (n - q) (cap - q)]).run Tryz.prog w.drew=.ok (.slice (some ⟨b,0,none⟩) (p+(n - q)) cap) (w.drew.setRow b (lay c (p * 12) ((c.toList.take (n * 12)).drop (q * 12)))):=fun ty=>by
  have h1:=run_append_in (P:=Tryz.prog) (ty:=ty) (xt:=63) w.drew Tryz.underlying63 hi Tryz.underlying63 (fun k e=>by cases e) (base:=some ⟨b,0,none⟩) (sLen:=p) (sCap:=cap) (n:=n - q) (x:=.slice (some A) (n - q) (cap - q)) (news:=((c.toList.take (n * 12)).drop (q * 12)).toArray)
   rfl (by
    simp only [Builtin.firstCells,his]
    rw [<- hxl]
    exact run_loadCells_list w.drew A _ hAc) (by omega)
  have hst:=run_storeCells_at (P:=Tryz.prog) b (p * 12) t ((c.toList.take (n * 12)).drop (q * 12)) 0 c w.drew hbd (by rw [hxl];omega) (fun v hv=>h1c v (mem_of_mem_take (mem_of_mem_drop hv)))
  have hst':(storeCells ⟨b,p * 12,none⟩ ((c.toList.take (n * 12)).drop (q * 12))).run Tryz.prog w.drew=.ok () (w.drew.setRow b (lay c (p * 12) ((c.toList.take (n * 12)).drop (q * 12)))):=by simpa [lay] using hst
  rw [h1]
  simp only [his,addr_add,Nat.zero_add]
  rw [hst'];rfl
 obtain ⟨S1,hS1⟩:∃ S1,lay c (p * 12) ((c.toList.take (n * 12)).drop (q * 12))=S1:=⟨_,rfl⟩
 rw [hS1] at hap ⊢
 have hSs:S1.size=c.size:=by rw [<- hS1];exact lay_size (by rw [hxl];omega)
 have hb1:(w.drew.setRow b S1).heap[b]?=some (.cells S1 t (0,0)):=setRow_heap _ _ _ _ _ _ hbd
 have hcl:∀ ty,(Builtin.clear_ #[63] ty #[.slice (some ⟨b,(p+(n - q)) * 12,none⟩) (n - (p+(n - q))) (cap - (p+(n - q)))]).run Tryz.prog (w.drew.setRow b S1)=.ok (.tuple #[]) ((w.drew.setRow b S1).setRow b (lay S1 ((p+(n - q)) * 12) (Builtin.zeroCells z.cells (n - (p+(n - q)))).toList)):=fun ty =>
  run_clearK (P:=Tryz.prog) (w.drew.setRow b S1) Tryz.underlying63 hv hz (by omega) h1z b S1 t hb1 _ _ _ (by omega) (by rw [hSs];omega)
 obtain ⟨zs,hzs⟩:∃ zs,(Builtin.zeroCells z.cells (n - (p+(n - q)))).toList=zs:=⟨_,rfl⟩
 have hz1:zs.length=(q - p) * 12:=by rw [<- hzs];simp [size_zeroCells,hz];omega
 have hz2:∀ v∈zs,v.oneCell'=true:=by rw [<- hzs];exact zeroCells_ok h1z (by omega)
 rw [hzs] at hcl
 have hq1:(p:Int)<=(q:Int):=by omega
 have hq2:(q:Int)<=(n:Int):=by omega
 have hq3:p<=cap:=by omega
 have hq4:q<=cap:=by omega
 have hq5:¬ (cap=p+(n - q)):=by omega
 have hq6:(p:Int)+((n - q:Nat):Int)<=(n:Int):=by omega
 have hq7:¬ (n=p):=by omega
 have hq8:¬ (cap=p):=by omega
 clear hxl hAc hi his hS1 hSs hb1 hzs hv hz h1z hbd
 go_enter Tryz.func172,Tryz.ntmps172
 go_wp2_with fail
 go_region_law_o (refine step_app_run rfl (.tmp 22) (.tmp 25) 63 63 rfl (.slice (some ⟨b,0,none⟩) p cap) (.slice (some A) (n - q) (cap - q)) (by simp [Act.eval,Act.put]) (by simp [Act.eval,Act.put,hA]) (hap _) ?_)
 go_wp2
 go_ret
 exact ⟨rfl,zs,hz1,hz2,rfl⟩

theorem lay_list (c:Array Value) (o:Nat) (xs:List Value):(lay c o xs).toList=c.toList.take o++xs++c.toList.drop (o+xs.length):=rfl
theorem lay_one {c:Array Value} {o:Nat} {xs:List Value} (hc:∀ v∈c.toList,v.oneCell'=true) (hx:∀ v∈xs,v.oneCell'=true):∀ v∈(lay c o xs).toList,v.oneCell'=true:=by
 intro v hv
 rw [lay_list] at hv
 simp only [mem_append] at hv
 rcases hv with (hv | hv) | hv
 ·exact hc v (mem_of_mem_take hv)
 ·exact hx v hv
 ·exact hc v (mem_of_mem_drop hv)
theorem lay_take {c:Array Value} {o m:Nat} {xs:List Value} (h:o+xs.length<=c.size) (hm:m=o+xs.length):(lay c o xs).toList.take m=c.toList.take o++xs:=by
 have hl:(c.toList.take o++xs).length=m:=by simp;omega
 rw [lay_list,List.take_append_of_le_length (by omega),List.take_of_length_le (by omega)]
theorem lay_take_le {c:Array Value} {o m:Nat} {xs:List Value} (h:o<=c.size) (hm:m<=o):(lay c o xs).toList.take m=c.toList.take m:=by
 rw [lay_list,List.append_assoc,List.take_append_of_le_length (by simp;omega),List.take_take,Nat.min_eq_left hm]

theorem turned_set {w w':World} {b:Nat} {c c':Array Value} {t:TypeId} {row:List Value} {cap n sz:Nat} (hb:w.heap[b]?=some (.cells c t (0,0))) (hw:w'.heap[b]?=some (.cells c' t (0,0))) (hE:Env w w')
  (hsz:w'.heap.size=w.heap.size) (ho:∀ x,x≠b->w'.heap[x]?=w.heap[x]?) (h1:cap * sz<=c'.size) (h2:c'.toList.take (n * sz)=row) (h3:∀ v∈c'.toList,v.oneCell'=true) (h4:n<=cap):Turned w w' b b row cap n sz :=
 ⟨⟨c',t,hw,h1,h2,h3⟩,h4,hE,Nat.le_of_eq hsz.symm,fun x _ hx=>ho x hx,.inl rfl⟩

theorem env_drewSet (w:World) (b:Nat) (cs:Array Value):Env w (w.drew.setRow b cs):=(Env.drew w).trans (Env.setRow _ _ _)


theorem frame_info:∃ i z,Tryz.prog.info? 42=some i/\i.zero=some z/\i.size=12/\i.bytes=32/\z.cells.size=12/\∀ v∈z.cells.toList,v.oneCell'=true:=by
 have h1:(Tryz.prog.info? 42).map (·.size)=some 12:=by kernel_rfl
 have h2:(Tryz.prog.info? 42).map (·.bytes)=some 32:=by kernel_rfl
 have h3:(Tryz.prog.info? 42).map (fun i=>(i.zero.map fun z=>(z.cells.size,z.cells.toList.all fun v=>v.oneCell')))=some (some (12,true)):=by kernel_rfl
 cases hi:Tryz.prog.info? 42 with
 | none=>rw [hi] at h1;cases h1
 | some i =>
  rw [hi] at h1 h2 h3
  simp only [Option.map_some,Option.some.injEq] at h1 h2 h3
  cases hz:i.zero with
  | none=>rw [hz] at h3;cases h3
  | some z =>
   rw [hz] at h3
   simp only [Option.map_some,Option.some.injEq,Prod.mk.injEq,List.all_eq_true] at h3
   exact ⟨i,z,rfl,hz,h1,h2,h3.1,h3.2⟩

theorem cells42:Tryz.prog.cellsOf 42=12:=by kernel_rfl
theorem bytes42:Tryz.prog.bytesOf 42=32:=by kernel_rfl

theorem append_in (w:World) (b n cap vb vcap:Nat) (c vc:Array Value) (t vt:TypeId) (hb:w.heap[b]?=some (.cells c t (0,0))) (hvb:w.heap[vb]?=some (.cells vc vt (0,0)))
  (hroom:n+1<=cap) (hcs:cap * 12<=c.size) (hvs:12<=vc.size) (h1v:∀ v∈vc.toList,v.oneCell'=true) (ty:TypeId) :
  (Builtin.append_ #[63,63] ty #[.slice (some ⟨b,0,none⟩) n cap,.slice (some ⟨vb,0,none⟩) 1 vcap]).run Tryz.prog w=.ok (.slice (some ⟨b,0,none⟩) (n+1) cap) (w.setRow b (lay c (n * 12) (vc.toList.take 12))):=by
 obtain ⟨i,z,hi,hz,his,hib,hzs,hz1⟩:=frame_info
 have hvl:(vc.toList.take 12).length=12:=by simp;omega
 have h1:=run_append_in (P:=Tryz.prog) (ty:=ty) (xt:=63) w Tryz.underlying63 hi Tryz.underlying63 (fun k e=>by cases e) (base:=some ⟨b,0,none⟩) (sLen:=n) (sCap:=cap) (n:=1) (x:=.slice (some ⟨vb,0,none⟩) 1 vcap) (news:=(vc.toList.take 12).toArray)
  rfl (by
   simp only [Builtin.firstCells,his,Nat.one_mul]
   have:=run_loadCells_list (P:=Tryz.prog) w ⟨vb,0,none⟩ (vc.toList.take 12) (fun j v hj=>by
    rw [List.getElem?_take] at hj
    split at hj
    ·rw [addr_add,cell_of_heap hvb,Nat.zero_add];exact hj
    ·cases hj)
   rw [hvl] at this
   exact this) hroom
 have hst:=run_storeCells_at (P:=Tryz.prog) b (n * 12) t (vc.toList.take 12) 0 c w hb (by rw [hvl];omega) (fun v hv=>h1v v (mem_of_mem_take hv))
 have hst':(storeCells ⟨b,n * 12,none⟩ (vc.toList.take 12)).run Tryz.prog w=.ok () (w.setRow b (lay c (n * 12) (vc.toList.take 12))):=by simpa [lay] using hst
 rw [h1]
 simp only [his,addr_add,Nat.zero_add]
 rw [hst'];rfl

theorem append_new (w:World) (base:Option Addr) (n vb vcap:Nat) (olds:List Value) (vc:Array Value) (vt:TypeId) (hvb:w.heap[vb]?=some (.cells vc vt (0,0))) (hvs:12<=vc.size) (h46:(n+1) * 32<=70368744177664)
  (hn:base=none->olds=[]) (hl:olds.length=n * 12) (ho:∀ a,base=some a->∀ j v,olds[j]?=some v->w.cell? (a.add j)=some v) :
  ∃ G R,n+1<=G/\R.size=G * 12/\R.toList.take ((n+1) * 12)=olds++vc.toList.take 12/\((∀ v∈olds,v.oneCell'=true)->(∀ v∈vc.toList,v.oneCell'=true)->∀ v∈R.toList,v.oneCell'=true)/\∀ ty,
  (Builtin.append_ #[63,63] ty #[.slice base n n,.slice (some ⟨vb,0,none⟩) 1 vcap]).run Tryz.prog w=.ok (.slice (some ⟨w.heap.size,0,none⟩) (n+1) G) (w.drew.alloc (.cells R 42)):=by
 obtain ⟨i,z,hi,hz,his,hib,hzs,hz1⟩:=frame_info
 have hvl:(vc.toList.take 12).length=12:=by simp;omega
 have hold:(Builtin.firstCells i.size n (.slice base n n)).run Tryz.prog w.drew=.ok olds.toArray w.drew:=by
  cases base with
  | none=>rw [hn rfl];rfl
  | some a =>
   simp only [Builtin.firstCells,his]
   rw [<- hl]
   exact run_loadCells_list w.drew a olds (ho a rfl)
 have hnew:(Builtin.firstCells i.size 1 (.slice (some ⟨vb,0,none⟩) 1 vcap)).run Tryz.prog w.drew=.ok (vc.toList.take 12).toArray w.drew:=by
  simp only [Builtin.firstCells,his,Nat.one_mul]
  have hvd:w.drew.heap[vb]?=some (.cells vc vt (0,0)):=hvb
  have:=run_loadCells_list (P:=Tryz.prog) w.drew ⟨vb,0,none⟩ (vc.toList.take 12) (fun j v hj=>by
   rw [List.getElem?_take] at hj
   split at hj
   ·rw [addr_add,cell_of_heap hvd,Nat.zero_add];exact hj
   ·cases hj)
  rw [hvl] at this
  exact this
 have key:=fun ty=>run_append_new (P:=Tryz.prog) (ty:=ty) (xt:=63) w Tryz.underlying63 hi Tryz.underlying63 (fun k e=>by cases e) hz (base:=base) (sLen:=n) (sCap:=n) (n:=1) (x:=.slice (some ⟨vb,0,none⟩) 1 vcap) (fun _=>rfl) hold hnew (by omega) (by rw [hib];omega) (by omega)
 have hG:=grownCap_ge w (n+1) n 42
 refine ⟨_,_,hG,?_,?_,?_,key⟩
 ·simp [size_zeroCells,hzs,hl,hvl];omega
 ·simp only [Array.toList_append,List.append_assoc]
  rw [<- List.append_assoc,List.take_append_of_le_length (by simp;omega),List.take_of_length_le (by simp;omega)]
 ·intro h1 h2 v hv
  simp only [Array.toList_append,mem_append] at hv
  rcases hv with (hv | hv) | hv
  ·exact h1 v hv
  ·exact h2 v (mem_of_mem_take hv)
  ·exact zeroCells_ok hz1 (by omega) v hv

theorem turned_new {w:World} {b:Nat} {R:Array Value} {row:List Value} {G n:Nat} (h1:n<=G) (h2:R.size=G * 12) (h3:R.toList.take (n * 12)=row) (h4:∀ v∈R.toList,v.oneCell'=true) (w':World) (hE:Env w w') (hw:w'.heap=w.heap.push (.cells R 42 (0,0))) :
  Turned w w' b w.heap.size row G n 12 :=
 ⟨⟨R,42,by rw [hw];simp,by omega,h3,h4⟩,h1,hE,by rw [hw];simp,fun x hx _=>by rw [hw,Array.getElem?_push,if_neg (by omega)],.inr (Nat.le_refl _)⟩

theorem ins_ok:InsOk Tryz.prog 135 42:=by
 unfold InsOk
 rw [cells42,bytes42]
 refine ⟨fun w b vb n cap vcap p c vc t vt hb hvb hne hnc h0 hcs hvs h1c h1v hp h46 h1=>?_,fun w base vb vcap vc vt hvb hvs h1v h46 h1=>?_⟩
 ·have hvl:(vc.toList.take 12).length=12:=by simp;omega
  have hnl:(c.toList.take (n * 12)).length=n * 12:=by simp;omega
  rcases Nat.lt_or_ge p n with hlt | hge
  ·have hxl:((c.toList.take (n * 12)).drop (p * 12)).length=(n - p) * 12:=by simp;omega
   have hpt:(c.toList.take (n * 12)).take (p * 12)=c.toList.take (p * 12):=by rw [List.take_take,Nat.min_eq_left (by omega)]
   rcases Nat.lt_or_ge n cap with hr | hr
   ·-- in its place
    refine (ins_shift w b vb n cap vcap p c vc t vt hb hvb hne (by omega) hcs hvs h1c h1v hlt (by omega) h1).mono fun r w' hk=>?_
    obtain ⟨rfl,rfl⟩:=hk
    refine ⟨b,cap,rfl,?_⟩
    have hS1:(lay c ((p+1) * 12) ((c.toList.take (n * 12)).drop (p * 12))).size=c.size:=lay_size (by rw [hxl];omega)
    have hbd:w.drew.heap[b]?=some (.cells c t (0,0)):=hb
    refine turned_set hb (setRow_heap _ _ _ _ _ _ (setRow_heap _ _ _ _ _ _ hbd)) ((env_drewSet _ _ _).trans (Env.setRow _ _ _)) (by rw [setRow_size,setRow_size];rfl) (fun x hx=>by rw [setRow_other _ _ _ _ hx,setRow_other _ _ _ _ hx];rfl)
     (by rw [lay_size (by rw [hvl,hS1];omega),hS1];exact hcs) ?_ (lay_one (lay_one h1c fun v hv=>h1c v (mem_of_mem_take (mem_of_mem_drop hv))) fun v hv=>h1v v (mem_of_mem_take hv)) (by omega)
    rw [lay_list,lay_take_le (by omega) (by omega),hvl,lay_list,hpt]
    have e1:(c.toList.take ((p+1) * 12)).length=(p+1) * 12:=by simp;omega
    have e2:p * 12+12=(c.toList.take ((p+1) * 12)).length:=by omega
    rw [e2,List.append_assoc (c.toList.take ((p+1) * 12)),List.drop_left]
    rw [<- List.append_assoc,List.take_append_of_le_length (by simp;omega),List.take_of_length_le (by simp;omega)]
   ·-- a new row
    have:cap=n:=by omega
    subst this
    obtain ⟨i,z,hi,hz,his,hib,hzs,hz1⟩:=frame_info
    have hbd:w.drew.heap[b]?=some (.cells c t (0,0)):=hb
    have hold:(Builtin.firstCells i.size p (.slice (some ⟨b,0,none⟩) p cap)).run Tryz.prog w.drew=.ok (c.toList.take (p * 12)).toArray w.drew:=by
     simp only [Builtin.firstCells,his]
     have:=run_loadCells_list (P:=Tryz.prog) w.drew ⟨b,0,none⟩ (c.toList.take (p * 12)) (fun j v hj=>by
      rw [List.getElem?_take] at hj
      split at hj
      ·rw [addr_add,cell_of_heap hbd,Nat.zero_add];exact hj
      ·cases hj)
     rw [show (c.toList.take (p * 12)).length=p * 12 by simp;omega] at this
     exact this
    have hkk:(cap:Int)+1 - (p:Int)=((cap+1 - p:Nat):Int):=by omega
    have hik:p+(cap+1 - p)=cap+1:=by omega
    have key:=fun ty=>run_appendZ_new (P:=Tryz.prog) (ty:=ty) w Tryz.underlying63 hi Tryz.underlying3 hz (base:=some ⟨b,0,none⟩) (sLen:=p) (sCap:=cap) (m:=cap+1 - p) (k':=.i64) (by omega) (by rw [hib];omega) (by omega) hold (by omega) (by rw [hib];omega) (by omega)
    simp only [hik,<- hkk] at key
    have hG:=grownCap_ge w (cap+1) cap 42
    generalize grownCap w (cap+1) cap 42=G at key hG
    obtain ⟨R,hR⟩:∃ R,R=(c.toList.take (p * 12)).toArray++Builtin.zeroCells z.cells (cap+1 - p)++Builtin.zeroCells z.cells (G - (cap+1)):=⟨_,rfl⟩
    rw [<- hR] at key
    have hRs:R.size=G * 12:=by rw [hR];simp [size_zeroCells,hzs];omega
    have hRt:R.toList.take (p * 12)=c.toList.take (p * 12):=by
     rw [hR]
     simp only [Array.toList_append,List.append_assoc]
     rw [List.take_append_of_le_length (by simp;omega),List.take_of_length_le (by simp;omega)]
    have hR1:∀ v∈R.toList,v.oneCell'=true:=by
     intro v hv
     rw [hR] at hv
     simp only [Array.toList_append,mem_append] at hv
     rcases hv with (hv | hv) | hv
     ·exact h1c v (mem_of_mem_take hv)
     ·exact zeroCells_ok hz1 (by omega) v hv
     ·exact zeroCells_ok hz1 (by omega) v hv
    refine (ins_grow w b vb cap vcap p c vc t vt hb hvb hcs hvs h1c h1v hlt (by omega) h1 G R 42 _ hG (by omega) rfl key).mono fun r w' hk=>?_
    obtain ⟨rfl,rfl⟩:=hk
    refine ⟨w.heap.size,G,rfl,?_⟩
    have hS1:(lay R (p * 12) (vc.toList.take 12)).size=R.size:=lay_size (by rw [hvl];omega)
    have hn:(w.drew.alloc (.cells R 42)).heap[w.heap.size]?=some (.cells R 42 (0,0)):=alloc_new w _
    refine ⟨⟨_,42,setRow_heap _ _ _ _ _ _ (setRow_heap _ _ _ _ _ _ hn),?_,?_,?_⟩,hG,?_,?_,fun x hx hxb=>?_,.inr (Nat.le_refl _)⟩
    ·rw [lay_size (by rw [hxl,hS1];omega),hS1];omega
    ·rw [lay_take (by rw [hxl,hS1];omega) (by rw [hxl];omega),lay_take (by rw [hvl];omega) (by rw [hvl];omega),hRt,hpt]
    ·exact lay_one (lay_one hR1 fun v hv=>h1v v (mem_of_mem_take hv)) fun v hv=>h1c v (mem_of_mem_take (mem_of_mem_drop hv))
    ·exact (((Env.drewAlloc w R 42).trans (Env.setRow _ _ _)).trans (Env.drew _)).trans (Env.setRow _ _ _)
    ·rw [setRow_size];show _<=((w.drew.alloc (.cells R 42)).setRow _ _).heap.size;rw [setRow_size];exact alloc_size _ _
    ·rw [setRow_other _ _ _ _ (by omega)]
     show ((w.drew.alloc (.cells R 42)).setRow _ _).heap[x]?=_
     rw [setRow_other _ _ _ _ (by omega)];exact alloc_old _ _ hx
  ·have:p=n:=by omega
   subst this
   have e1:(c.toList.take (p * 12)).take (p * 12)++vc.toList.take 12++(c.toList.take (p * 12)).drop (p * 12)=c.toList.take (p * 12)++vc.toList.take 12:=by
    rw [List.take_of_length_le (by omega),List.drop_of_length_le (by omega),List.append_nil]
   rw [e1]
   rcases Nat.lt_or_ge p cap with hr | hr
   ·refine (ins_end w (some ⟨b,0,none⟩) p cap vb vcap _ _ (by omega) hnc (fun ty=>append_in w b p cap vb vcap c vc t vt hb hvb hr hcs hvs h1v ty)).mono fun r w' hk=>?_
    obtain ⟨rfl,rfl⟩:=hk
    refine ⟨b,cap,rfl,turned_set hb (setRow_heap _ _ _ _ _ _ hb) (Env.setRow _ _ _) (setRow_size _ _ _) (fun x hx=>setRow_other _ _ _ _ hx) (by rw [lay_size (by rw [hvl];omega)];exact hcs) (lay_take (by rw [hvl];omega) (by rw [hvl];omega)) (lay_one h1c fun v hv=>h1v v (mem_of_mem_take hv)) hr⟩
   ·have:cap=p:=by omega
    subst this
    obtain ⟨G,R,g1,g2,g3,g4,g5⟩:=append_new w (some ⟨b,0,none⟩) cap vb vcap (c.toList.take (cap * 12)) vc vt hvb hvs (by omega) (fun e=>by cases e) hnl (fun a e j v hj=>by
     cases e
     rw [List.getElem?_take] at hj
     split at hj
     ·rw [addr_add,cell_of_heap hb,Nat.zero_add];exact hj
     ·cases hj)
    refine (ins_end w (some ⟨b,0,none⟩) cap cap vb vcap _ _ (by omega) hnc g5).mono fun r w' hk=>?_
    obtain ⟨rfl,rfl⟩:=hk
    exact ⟨_,G,rfl,turned_new g1 g2 g3 (g4 (fun v hv=>h1c v (mem_of_mem_take hv)) h1v) _ (Env.drewAlloc _ _ _) rfl⟩
 ·obtain ⟨G,R,g1,g2,g3,g4,g5⟩:=append_new w base 0 vb vcap [] vc vt hvb hvs (by omega) (fun _=>rfl) rfl (fun a e j v hj=>by simp at hj)
  refine (ins_end w base 0 0 vb vcap _ _ (by omega) (Nat.le_refl _) g5).mono fun r w' hk=>?_
  obtain ⟨rfl,rfl⟩:=hk
  exact ⟨_,G,rfl,turned_new g1 g2 (by simpa using g3) (g4 (fun v hv=>by cases hv) h1v) _ (Env.drewAlloc _ _ _) rfl,Nat.le_refl _⟩

theorem del_ok:DelOk Tryz.prog 172 42:=by
 unfold DelOk
 rw [cells42]
 intro w b n cap p q c t hb hnc hcs h1c hpq hq
 refine (del_run w b n cap p q c t hb hnc hcs h1c hpq hq).mono fun r w' hk=>?_
 obtain ⟨rfl,zs,hz1,hz2,rfl⟩:=hk
 refine ⟨rfl,?_⟩
 have hxl:((c.toList.take (n * 12)).drop (q * 12)).length=(n - q) * 12:=by simp;omega
 have hS1:(lay c (p * 12) ((c.toList.take (n * 12)).drop (q * 12))).size=c.size:=lay_size (by rw [hxl];omega)
 have hbd:w.drew.heap[b]?=some (.cells c t (0,0)):=hb
 refine turned_set hb (setRow_heap _ _ _ _ _ _ (setRow_heap _ _ _ _ _ _ hbd)) ((env_drewSet _ _ _).trans (Env.setRow _ _ _)) (by rw [setRow_size,setRow_size];rfl) (fun x hx=>by rw [setRow_other _ _ _ _ hx,setRow_other _ _ _ _ hx];rfl)
  (by rw [lay_size (by rw [hz1,hS1];omega),hS1];exact hcs) ?_ (lay_one (lay_one h1c fun v hv=>h1c v (mem_of_mem_take (mem_of_mem_drop hv))) hz2) (by omega)
 rw [lay_take_le (by omega) (by omega),lay_take (by rw [hxl];omega) (by rw [hxl];omega),List.take_take,Nat.min_eq_left (by omega)]

theorem libs_are:((List.range Tryz.prog.funcs.size).filterMap fun f=>(libOf Tryz.prog f).map fun k=>(f,k))=[(135,LibK.ins),(172,LibK.del)]:=by kernel_rfl
theorem libs_ok:LibsOk Tryz.prog:=by
 intro f k e hk he _ _
 have hlt:f<Tryz.prog.funcs.size:=by
  unfold libOf at hk
  split at hk
  ·rename_i fn hf;exact (Array.getElem?_eq_some_iff.1 hf).1
  ·cases hk
 have hm:(f,k)∈((List.range Tryz.prog.funcs.size).filterMap fun f=>(libOf Tryz.prog f).map fun k=>(f,k)):=List.mem_filterMap.2 ⟨f,List.mem_range.2 hlt,by rw [hk];rfl⟩
 rw [libs_are] at hm
 have hI:rowOf Tryz.prog 135=some 42:=by kernel_rfl
 have hD:rowOf Tryz.prog 172=some 42:=by kernel_rfl
 simp only [mem_cons,List.not_mem_nil,or_false,Prod.mk.injEq] at hm
 rcases hm with ⟨rfl,rfl⟩ | ⟨rfl,rfl⟩
 ·rw [hI] at he;cases he;exact ins_ok
 ·rw [hD] at he;cases he;exact del_ok
end Go.AM.R1
open Go Go.AM Go.Proofs
namespace Go.AM.R1
section
variable {H:Type} {P:Program}
structure Ac.Ok (a:Ac):Prop where
 f:a.f.Ok
 t1:-9223372036854775808<=a.tick
 t2:a.tick<=9223372036854775807
 n1:-9223372036854775808<=a.node
 n2:a.node<=9223372036854775807
theorem dec_bact {n:Nat} {t e:TypeId} {g1 g2 g3 g4 f1 f2 f3 f4 f5:Field} (hs:P.underlying t=some (.struct #[g1,g2,g3,g4])) (h1:P.underlying g1.type=some (.int .i64)) (h2:P.underlying g2.type=some (.int .i64)) (h3:P.underlying g3.type=some .bool) (i:IsFr P g4.type f1 f2 f3 f4 f5 e) {d:DataW H} {cs:List AVal} (h:Dec P (n+4) t d cs):∃ r:Ac,cs=encAc r/\r.Ok:=by
 rw [Dec,hs] at h
 obtain ⟨parts,ass,-,rfl,hf⟩:=h
 obtain ⟨p1,ps1,a1,as1,rfl,rfl,r1,hf⟩:=fieldsR_cons hf
 obtain ⟨p2,ps2,a2,as2,rfl,rfl,r2,hf⟩:=fieldsR_cons hf
 obtain ⟨p3,ps3,a3,as3,rfl,rfl,r3,hf⟩:=fieldsR_cons hf
 obtain ⟨p4,ps4,a4,as4,rfl,rfl,r4,hf⟩:=fieldsR_cons hf
 obtain ⟨rfl,rfl⟩:=fieldsR_nil hf
 simp only [Dec,h1] at r1
 simp only [Dec,h2] at r2
 simp only [Dec,h3] at r3
 obtain ⟨v1,-,w1,rfl⟩:=r1
 obtain ⟨v2,-,w2,rfl⟩:=r2
 obtain ⟨b3,-,rfl⟩:=r3
 obtain ⟨f,rfl,hfo⟩:=dec_frame i r4
 exact ⟨⟨v1,v2,b3,f⟩,by simp [encAc,encFr,u8v],⟨hfo,(wf64 w1).1,(wf64 w1).2,(wf64 w2).1,(wf64 w2).2⟩⟩
theorem decV_bacts {n:Nat} {s t e:TypeId} {g1 g2 g3 g4 f1 f2 f3 f4 f5:Field} (hu:P.underlying s=some (.slice t)) (hs:P.underlying t=some (.struct #[g1,g2,g3,g4])) (h1:P.underlying g1.type=some (.int .i64)) (h2:P.underlying g2.type=some (.int .i64)) (h3:P.underlying g3.type=some .bool) (i:IsFr P g4.type f1 f2 f3 f4 f5 e) {d:DataW H} {a:AVal} (h:DecV P (n+5) s d a) :
  ∃ (nl fu:Bool) (l:List Ac),a=.imm nl fu true (l.map encAc)/\(∀ x∈l,x.Ok)/\l.length<=9223372036854775807:=by
 unfold DecV at h
 rw [if_neg (by simp [isAggT,hu])] at h
 rw [Dec,hu] at h
 rcases h with ⟨-,h⟩ | ⟨elems,spare,rows,-,h,h2',h3'⟩
 ·exact ⟨true,true,[],by simpa [nilS] using h,by simp,by simp⟩
 ·obtain ⟨l,rfl,hl⟩:=rows_map encAc Ac.Ok (all2_forall (Q:=fun b=>∃ r:Ac,b=encAc r/\r.Ok) (fun a b hab=>dec_bact hs h1 h2 h3 i hab) h2')
  exact ⟨false,false,l,by simpa using h,hl,by simpa [maxLen] using h3'⟩
theorem decV_pair {n:Nat} {t:TypeId} {g1 g2:Field} (hs:P.underlying t=some (.struct #[g1,g2])) (h1:P.underlying g1.type=some (.int .i64)) (h2:P.underlying g2.type=some (.int .i64)) {d:DataW H} {a:AVal} (h:DecV P (n+2) t d a) :
  ∃ x y:Int,a=.agg [.lit (.int .i64 x),.lit (.int .i64 y)]/\(-9223372036854775808<=x/\x<=9223372036854775807)/\(-9223372036854775808<=y/\y<=9223372036854775807):=by
 unfold DecV at h
 rw [if_pos (by simp [isAggT,hs])] at h
 obtain ⟨cs,rfl,h⟩:=h
 rw [Dec,hs] at h
 obtain ⟨parts,ass,-,rfl,hf⟩:=h
 obtain ⟨p1,ps1,a1,as1,rfl,rfl,r1,hf⟩:=fieldsR_cons hf
 obtain ⟨p2,ps2,a2,as2,rfl,rfl,r2,hf⟩:=fieldsR_cons hf
 obtain ⟨rfl,rfl⟩:=fieldsR_nil hf
 simp only [Dec,h1] at r1
 simp only [Dec,h2] at r2
 obtain ⟨v1,-,w1,rfl⟩:=r1
 obtain ⟨v2,-,w2,rfl⟩:=r2
 exact ⟨v1,v2,rfl,wf64 w1,wf64 w2⟩
end
end Go.AM.R1
open Go Go.AM Go.AM.R1 Go.Proofs
namespace Go.Proofs.YtefpgafgpanpfaaGreat
open Go.ChangeShapes Go.WideShapes Go.ChangeAt Go.RowKit
namespace driveAll
theorem own:ownKnob Tryz.prog.godebug=none:=by kernel_rfl
theorem laidOut:laidOutB Tryz.prog=true:=by kernel_rfl
theorem mixed:Tryz.prog.follows .mixedOrders=true:=by kernel_rfl
set_option maxRecDepth 100000 in
theorem contract (H:Type) (enc:TypeId × Value->H) (W:World) (base:Nat) (args:Array Value) (ds gs:List (DataW H)) (before:List MemPlace)
  (hval:∀ (j:Nat) t v,Tryz.f8.params[j]?=some t->args[j]?=some v->Value.okWide Tryz.prog W .any base t v)
  (hW:DataW.Whole enc Tryz.prog Tryz.f8.params.toList Rows.driveAllSpec.vars false W args.toList ds gs before) :
  Calls Tryz.prog 8 args W fun e W'=>∃ v,e=.returned v/\Rows.driveAllSpec.post enc Tryz.prog Tryz.f8 false true false false W args v W':=by
 refine law_contract (id:=8) (f:=Tryz.f8) (s:=Rows.driveAllSpec) (k:=7) (nargs:=3) (base:=base) (ds:=ds) (gs:=gs) (before:=before) mixed libs_ok R1.hE laidOut ?e1 ?e2 (tb:=4) ?e3 Tryz.underlying4 ?e4 ?e5 ?e7 ?e8 ?e6
 case e7=>exact hval
 case e8=>exact hW
 case e1=>rfl
 case e3=>kernel_rfl
 case e4=>rw [Tryz.params8];rfl
 ·rw [Tryz.params8];decide +kernel
 ·intro ds h
  match ds,h with
  | [d1,d2,d3],_=>rfl
 ·intro cs hA
  rw [Tryz.params8] at hA
  obtain ⟨d1,r1,a1,s1,rfl,rfl,h1,hA⟩:=decArgs_cons hA
  obtain ⟨d2,r2,a2,s2,rfl,rfl,h2,hA⟩:=decArgs_cons hA
  obtain ⟨d3,r3,a3,s3,rfl,rfl,h3,hA⟩:=decArgs_cons hA
  obtain ⟨rfl,rfl⟩:=decArgs_nil hA
  obtain ⟨n1,f1,l,rfl,hlo,-⟩:=decV_bacts (n:=2) Tryz.underlying22 Tryz.underlying53 Tryz.underlying3 Tryz.underlying3 Tryz.underlying4 ⟨Tryz.underlying42,Tryz.underlying3,Tryz.underlying4,Tryz.underlying4,Tryz.underlying3,Tryz.underlying40,Tryz.underlying5⟩ h1
  obtain ⟨v1,v2,rfl,-,-⟩:=decV_pair (n:=5) Tryz.underlying24 Tryz.underlying3 Tryz.underlying3 h2
  obtain ⟨v,-,hv,rfl⟩:=decV_int (n:=6) Tryz.underlying3 h3
  obtain ⟨n,hn⟩:=(call_iff R1.E).1 (driveAll_spec l (fun x hx=>(hlo x hx).f) n1 f1 v1 v2 v (wf64 hv))
  exact ⟨n,_,hn⟩

set_option maxRecDepth 100000 in
theorem lifted (os:Os) (started:os.Started) (H:Type) (enc:TypeId × Value->H) :
  ReturnsInHanded {} Tryz.checked os 8 .any (Rows.driveAllSpec.pre6 enc Tryz.prog Tryz.f8 Rows.driveAllRow.domain false) (Rows.driveAllSpec.post enc Tryz.prog Tryz.f8 false true false false):=by
 refine returnsInHanded_of_change (C:=Tryz.checked) own started (by kernel_rfl) Tryz.func8
  (ChangeSpec.witness6 (enc:=enc) (C:=Tryz.checked) false ⟨#[],#[.slice none 0 0,.agg #[.int .i64 0,.int .i64 0],.int .i64 0],[]⟩ 8 (by kernel_rfl) (by kernel_rfl) (by kernel_rfl) (by kernel_rfl)) ?_
 intro W base args ds gs before hval hW _ _
 exact contract H enc W base args ds gs before hval hW

theorem proved:Rows.DriveAllSaid :=
 OpenClaim.holds_of_wide 8 Tryz.f8 rfl rfl rfl rfl rfl rfl rfl ⟨rfl,rfl,rfl,rfl,rfl⟩ rfl rfl rfl rfl rfl (by kernel_rfl) Tryz.func8 (by kernel_rfl)
  (of_decide_eq_true (by kernel_rfl)) (by unfold Func.isWrapper;first | (rw [if_pos (by decide +kernel)];kernel_rfl) | (rw [if_neg (by decide +kernel)];exact ⟨rfl,rfl⟩))
  (fun os started H enc _=>lifted os started H enc)
end driveAll
theorem driveAllProved:Rows.DriveAllSaid:=driveAll.proved
end Go.Proofs.YtefpgafgpanpfaaGreat
