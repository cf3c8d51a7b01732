/- The law BusAlike of package magnetolaw11 returns true for every input, and its arguments read as before. -/
import Derived.Test.YtefpgafgpanpfaaGreatBusAlike3
import Derived.WalkKit
import Derived.Shelf.Spec.SlicesInsertGrow
import Derived.ProofKit
set_option linter.unusedVariables false
set_option linter.unusedSimpArgs false
open Go Go.AM
namespace Go.AM.R1
theorem swA_mem {a b N:Nat} (ha:a<N) (hb:b<N) {l:List Ac} (h:∀ x∈l,0≤x.tick∧0≤x.node∧x.node<(N:Int)∧(x.fault=false→checkP x.f=0)):∀ x∈l.map (swA a b),0≤x.tick∧0≤x.node∧x.node<(N:Int)∧(x.fault=false→checkP x.f=0):=by
 intro x hx
 obtain ⟨y,hy,rfl⟩:=List.mem_map.1 hx
 obtain ⟨h1,h2,h3,h4⟩:=h y hy
 refine ⟨h1,?_,?_,h4⟩
 ·unfold swA;simp only [];split
  ·omega
  ·split<;>omega
 ·unfold swA;simp only [];split
  ·omega
  ·split<;>omega
theorem chkAs_of {n:Int}:∀ {l:List Ac},(∀ x∈l,0≤x.tick∧0≤x.node∧x.node<n∧(x.fault=false→checkP x.f=0))→chkAs n l=0
 | [],_=>rfl
 | a :: r,h=>by
  obtain ⟨h1,h2,h3,h4⟩:=h a (List.mem_cons_self ..)
  have e:chkA n a=0:=by
   unfold chkA
   rw [if_neg (by omega)]
   split
   ·rename_i q;exact h4 q
   ·rfl
  rw [chkAs,if_neg (by simp [e]),chkAs_of (fun x hx=>h x (List.mem_cons_of_mem _ hx))]
theorem rem_nat (x:Int) (N:Nat) (hN:1≤N) (h8:N≤1000000):∃ a:Nat,a<N∧(x.tmod N+N).tmod N=(a:Int)∧IntKind.wrap .i64 (x.tmod N+N)=x.tmod N+N:=by
 have h1:=Int.lt_tmod_of_pos x (b:=(N:Int)) (by omega)
 have h2:=Int.tmod_lt_of_pos x (b:=(N:Int)) (by omega)
 have h3:0≤x.tmod N+N:=by omega
 have h4:=Int.tmod_lt_of_pos (x.tmod N+N) (b:=(N:Int)) (by omega)
 have h5:=Int.tmod_nonneg (N:Int) h3
 refine ⟨((x.tmod N+N).tmod N).toNat,?_,?_,wrap64 (by omega) (by omega)⟩
 ·omega
 ·omega
theorem evs_len (l:List Ac):∀ (d t:Nat) (ns:List Nd),ns.length≤32→(((playT l d t ns).map Prod.snd).flatten).length≤64 * d
 | 0,_,_,_=>by simp [playT]
 | d+1,t,ns,h=>by
  have hl2:(tickS l t ns).2.length≤32:=by unfold tickS;rw [foldN_len];exact h
  have h1:=forceE_len (tickS l t ns).1 0#32 0#32 t (tickS l t ns).2
  have h2:=evs_len l d (t+1) (forceN (tickS l t ns).1 0#32 0#32 (tickS l t ns).2) (by rw [forceN_len];exact hl2)
  rw [playT,List.map_cons,List.flatten_cons,List.length_append]
  show (forceE _ _ _ _ _).length+_≤_
  omega
set_option maxHeartbeats 8000000 in
theorem busAlike_spec (l:List Ac) (hf:∀ x∈l,x.f.Ok) (n1 f1:Bool) (nodes ticks t0 t1:Int) :
  call E (.func (.func 4) [] []) [.imm n1 f1 true (l.map encAc),.agg [.lit (.int .i64 nodes),.lit (.int .i64 ticks)],.agg [.lit (.int .i64 t0),.lit (.int .i64 t1)]] []=some (.lit (.bool true),[]):=by
 rw [call_func E E4]
 have haw:=awake11
 have hml:(l.map encAc).length=l.length:=by simp
 by_cases h1:(40:Int)<l.length
 ·have h1n:40<l.length:=by omega
  generalize l.map encAc=rows at *
  simp [go_sem,ir4,haw,hml,h1,h1n]
 have hl40:l.length≤40:=by omega
 have hch:=bChk_spec nodes l (by omega) n1 f1
 have h1n:¬ 40<l.length:=by omega
 by_cases h2:nodes<2
 ·generalize l.map encAc=rows at *
  simp [go_sem,ir4,haw,hml,h1,h1n,h2]
 by_cases h3:8<nodes
 ·generalize l.map encAc=rows at *
  simp [go_sem,ir4,haw,hml,h1,h1n,h2,h3]
 by_cases h4:ticks<0
 ·generalize l.map encAc=rows at *
  simp [go_sem,ir4,haw,hml,h1,h1n,h2,h3,h4]
 by_cases h5:400<ticks
 ·generalize l.map encAc=rows at *
  simp [go_sem,ir4,haw,hml,h1,h1n,h2,h3,h4,h5]
 by_cases h6:chkAll nodes l≠0
 ·generalize l.map encAc=rows at *
  simp [go_sem,ir4,haw,hml,h1,h1n,h2,h3,h4,h5,hch,h6]
 have h6:chkAll nodes l=0:=Decidable.not_not.1 h6
 obtain ⟨N,rfl⟩:∃ N:Nat,nodes=N:=⟨nodes.toNat,by omega⟩
 obtain ⟨T,rfl⟩:∃ T:Nat,ticks=T:=⟨ticks.toNat,by omega⟩
 rw [h6] at hch
 obtain ⟨a,ha,hra,hra2⟩:=rem_nat t0 N (by omega) (by omega)
 obtain ⟨b,hb,hrb,hrb2⟩:=rem_nat t1 N (by omega) (by omega)
 have hcs:chkAs (N:Int) l=0:=by
  unfold chkAll at h6
  split at h6
  ·cases h6
  ·exact h6
 have hok:=chkAs_ok hcs
 have h62:chkAll (N:Int) (l.map (swA a b))=0:=by
  unfold chkAll
  rw [if_neg (by omega)]
  exact chkAs_of (swA_mem ha hb hok)
 have hf2:∀ x∈l.map (swA a b),x.f.Ok:=by
  intro x hx
  obtain ⟨y,hy,rfl⟩:=List.mem_map.1 hx
  exact hf y hy
 obtain ⟨lke,fue,hP⟩:=bplay_spec l (by omega) hf n1 f1 N T (by omega) h6
 obtain ⟨lke2,fue2,hP2⟩:=bplay_spec (l.map (swA a b)) (by rw [List.length_map];omega) hf2 (decide (l=[])) (decide (l=[])) N T (by omega) h62
 obtain ⟨hs1,hs2⟩:=play_sw (N:=N) (by omega) ha hb l (fun x hx=>⟨(hok x hx).2.1,by have:=(hok x hx).2.2.1;omega⟩) T
 have hpo:=play_ok l T 0 (List.replicate N nd0) (by omega)
 have hRE:=@playE_nil l T (List.replicate N nd0)
 have hel:(playE l T 0 (List.replicate N nd0) []).length≤1000000:=by
  have:=evs_len l T 0 (List.replicate N nd0) (by simp;omega)
  unfold playE;rw [List.nil_append];omega
 rw [hs1] at hP2
 generalize playR l T 0 (List.replicate N nd0) []=R at *
 generalize playE l T 0 (List.replicate N nd0) []=ES at *
 generalize playE (l.map (swA a b)) T 0 (List.replicate N nd0) []=ES2 at *
 have hlen:ES2.length=ES.length:=by have:=hs2.length_eq;rw [List.length_map] at this;omega
 have hcount:∀ y,ES2.count y=(ES.map (swE a b)).count y:=fun y=>((List.perm_iff_count.1 hs2) y).symm
 have hN0:¬ (N:Int)=0:=by omega
 have hNz:¬ N=0:=by omega
 have h0:=fun K hk=>alk_o a b l (by omega) n1 f1 (N:Int) (T:Int) K (some (.lit (.bool true),[])) hk l.length 0 (by omega)
 simp only [if_true,Int.natCast_zero,nilS] at h0
 have hnR:(R.map (swR a b)).length=R.length:=by simp
 have hm2:((l.map (swA a b)).map encAc).length=l.length:=by simp
 have hc2:=cutE_whole hm2
 have hmR:(R.map encRun).length=R.length:=by simp
 have hmR2:((R.map (swR a b)).map encRun).length=R.length:=by simp
 have hrl:R.length≤1000000:=by have:=hpo.len;omega
 have hin:∀ r∈R,InR r:=fun r hr=>⟨(hpo.dr r hr).1,(hpo.dr r hr).2⟩
 have hR20:R≠[]→R.map (swR a b)≠[]:=fun h q=>h (List.map_eq_nil_iff.1 q)
 have hEE:ES≠[]→ES2≠[]:=fun h q=>h (List.length_eq_zero_iff.1 (by rw [← hlen,q];rfl))
 have hEE2:ES=[]→ES2=[]:=fun h=>List.length_eq_zero_iff.1 (by rw [hlen,h];rfl)
 by_cases hR0:R=[]
 ·have hE0:=hRE hR0
  have hE20:=hEE2 hE0
  subst hR0;subst hE0;subst hE20
  simp only [plV,plH,bruV,bouV,List.map_nil,List.length_nil,if_true,nilS,List.append_nil] at hP hP2
  by_cases hl0:l=[]
  ·subst hl0
   simp only [List.map_nil,List.length_nil,if_true,decide_true] at h0 hP hP2
   simp only [List.map_nil,List.length_nil] at hml hch hP hP2 h0 h1 h1n
   simp [go_sem,ir4,hml,h1,h1n,h2,h3,h4,h5,hch,hN0,hNz,hra,hrb,hra2,hrb2,nilS,purse_eq,List.range_succ]
   rw [run_inLoop']
   simp [go_sem,purse_eq,List.range_succ]
   refine h0 _ ?_
   intro τ t0 t4 t7 t8 t9
   simp [go_sem,t0,t4,t7,t8,t9,hP,hP2,hmR,hmR2,hlen,hm2,hc2,nilS,purse_eq,List.range_succ]
   rw [run_inLoop']
   simp [go_sem,t7,t8,purse_eq,List.range_succ]
   simp [go_sem,run_codeL E L4_1.eq_1]
   rw [run_inLoop']
   simp [go_sem,t7,t8,purse_eq,List.range_succ]
   simp [go_sem,run_codeL E L4_2.eq_1,haw,purse_eq,List.range_succ]
  ·simp only [hl0,if_false,decide_false] at h0 hP2
   generalize hrr:(l.map (swA a b)).map encAc=rows2 at *
   generalize hrq:l.map encAc=rows at *
   simp [go_sem,ir4,hml,h1,h1n,h2,h3,h4,h5,hch,hN0,hNz,hra,hrb,hra2,hrb2,nilS,purse_eq,List.range_succ]
   rw [run_inLoop']
   simp [go_sem,purse_eq,List.range_succ]
   refine h0 _ ?_
   intro τ t0 t4 t7 t8 t9
   simp [go_sem,t0,t4,t7,t8,t9,hP,hP2,hmR,hmR2,hlen,hm2,hc2,nilS,purse_eq,List.range_succ]
   rw [run_inLoop']
   simp [go_sem,t7,t8,purse_eq,List.range_succ]
   simp [go_sem,run_codeL E L4_1.eq_1]
   rw [run_inLoop']
   simp [go_sem,t7,t8,purse_eq,List.range_succ]
   simp [go_sem,run_codeL E L4_2.eq_1,haw,purse_eq,List.range_succ]
 ·have hRl0:¬ R.length=0:=fun q=>hR0 (List.length_eq_zero_iff.1 q)
  have hR2:=hR20 hR0
  by_cases hE0:ES=[]
  ·have hE20:=hEE2 hE0
   subst hE0;subst hE20
   simp only [plV,plH,bruV,bouV,hR0,hRl0,hR2,hnR,List.length_nil,if_true,if_false,List.append_nil,nilS] at hP hP2
   have hp0:=fun lp fp lr fr K hk=>alk_p0 a b (by omega) (by omega) R hrl hin lp fp lr fr K (some (.lit (.bool true),[])) hk R.length 0 (by omega)
   simp only [Int.natCast_zero,nilS] at hp0
   generalize hr1:(R.map (swR a b)).map encRun=r2 at *
   generalize hr2:R.map encRun=r1 at *
   by_cases hl0:l=[]
   ·subst hl0
    simp only [List.map_nil,List.length_nil,if_true,decide_true] at h0 hP hP2
    simp only [List.map_nil,List.length_nil] at hml hch hP hP2 h0 h1 h1n
    simp [go_sem,ir4,hml,h1,h1n,h2,h3,h4,h5,hch,hN0,hNz,hra,hrb,hra2,hrb2,nilS,purse_eq,List.range_succ]
    rw [run_inLoop']
    simp [go_sem,purse_eq,List.range_succ]
    refine h0 _ ?_
    intro τ t0 t4 t7 t8 t9
    simp [go_sem,t0,t4,t7,t8,t9,hP,hP2,hmR,hmR2,hlen,hm2,hc2,nilS,purse_eq,List.range_succ]
    rw [run_inLoop']
    simp [go_sem,t7,t8,purse_eq,List.range_succ]
    refine hp0 _ _ _ _ _ ?_
    intro τ1 u7 u8 u13 u16
    simp [go_sem,u7,u8,u13,u16]
    rw [run_inLoop']
    simp [go_sem,u7,u8,u13,u16,purse_eq,List.range_succ]
    simp [go_sem,run_codeL E L4_2.eq_1,haw,purse_eq,List.range_succ]
   ·simp only [hl0,if_false,decide_false] at h0 hP2
    generalize hrr:(l.map (swA a b)).map encAc=rows2 at *
    generalize hrq:l.map encAc=rows at *
    simp [go_sem,ir4,hml,h1,h1n,h2,h3,h4,h5,hch,hN0,hNz,hra,hrb,hra2,hrb2,nilS,purse_eq,List.range_succ]
    rw [run_inLoop']
    simp [go_sem,purse_eq,List.range_succ]
    refine h0 _ ?_
    intro τ t0 t4 t7 t8 t9
    simp [go_sem,t0,t4,t7,t8,t9,hP,hP2,hmR,hmR2,hlen,hm2,hc2,nilS,purse_eq,List.range_succ]
    rw [run_inLoop']
    simp [go_sem,t7,t8,purse_eq,List.range_succ]
    refine hp0 _ _ _ _ _ ?_
    intro τ1 u7 u8 u13 u16
    simp [go_sem,u7,u8,u13,u16]
    rw [run_inLoop']
    simp [go_sem,u7,u8,u13,u16,purse_eq,List.range_succ]
    simp [go_sem,run_codeL E L4_2.eq_1,haw,purse_eq,List.range_succ]
  ·have hE20:=hEE hE0
   have hEl0:¬ ES.length=0:=fun q=>hE0 (List.length_eq_zero_iff.1 q)
   simp only [plV,plH,bruV,bouV,hR0,hRl0,hR2,hnR,hE0,hEl0,hE20,hlen,if_false] at hP hP2
   have hp1:=fun lp fp lr fr nq ns lq fq ls fs rq rs K hk=>alk_p1 a b (by omega) (by omega) R hrl hin lp fp lr fr nq ns lq fq ls fs rq rs K (some (.lit (.bool true),[])) hk R.length 0 (by omega)
   have hq1:=fun lq fq ls fs K hk=>alk_q a b ES ES2 hel (by rw [hlen];exact hel) hcount lq fq ls fs K (some (.lit (.bool true),[])) hk ES.length 0 (by omega)
   simp only [Int.natCast_zero,hlen] at hp1 hq1
   generalize hr1:(R.map (swR a b)).map encRun=r2 at *
   generalize hr2:R.map encRun=r1 at *
   have hmE:(ES.map encBev).length=ES.length:=by simp
   have hmE2:(ES2.map encBev).length=ES.length:=by simp [hlen]
   generalize hr3:ES2.map encBev=r3 at *
   generalize hr4:ES.map encBev=r4 at *
   by_cases hl0:l=[]
   ·subst hl0
    simp only [List.map_nil,List.length_nil,if_true,decide_true] at h0 hP hP2
    simp only [List.map_nil,List.length_nil] at hml hch hP hP2 h0 h1 h1n
    simp [go_sem,ir4,hml,h1,h1n,h2,h3,h4,h5,hch,hN0,hNz,hra,hrb,hra2,hrb2,nilS,purse_eq,List.range_succ]
    rw [run_inLoop']
    simp [go_sem,purse_eq,List.range_succ]
    refine h0 _ ?_
    intro τ t0 t4 t7 t8 t9
    simp [go_sem,t0,t4,t7,t8,t9,hP,hP2,hmR,hmR2,hlen,hm2,hc2,nilS,purse_eq,List.range_succ]
    rw [run_inLoop']
    simp [go_sem,t7,t8,purse_eq,List.range_succ]
    refine hp1 _ _ _ _ _ _ _ _ _ _ _ _ _ ?_
    intro τ1 u7 u8 u13 u16
    simp [go_sem,u7,u8,u13,u16]
    rw [run_inLoop']
    simp [go_sem,u7,u8,u13,u16,purse_eq,List.range_succ]
    refine hq1 _ _ _ _ _ ?_
    intro τ2
    simp [go_sem,haw,purse_eq,List.range_succ]
   ·simp only [hl0,if_false,decide_false] at h0 hP2
    generalize hrr:(l.map (swA a b)).map encAc=rows2 at *
    generalize hrq:l.map encAc=rows at *
    simp [go_sem,ir4,hml,h1,h1n,h2,h3,h4,h5,hch,hN0,hNz,hra,hrb,hra2,hrb2,nilS,purse_eq,List.range_succ]
    rw [run_inLoop']
    simp [go_sem,purse_eq,List.range_succ]
    refine h0 _ ?_
    intro τ t0 t4 t7 t8 t9
    simp [go_sem,t0,t4,t7,t8,t9,hP,hP2,hmR,hmR2,hlen,hm2,hc2,nilS,purse_eq,List.range_succ]
    rw [run_inLoop']
    simp [go_sem,t7,t8,purse_eq,List.range_succ]
    refine hp1 _ _ _ _ _ _ _ _ _ _ _ _ _ ?_
    intro τ1 u7 u8 u13 u16
    simp [go_sem,u7,u8,u13,u16]
    rw [run_inLoop']
    simp [go_sem,u7,u8,u13,u16,purse_eq,List.range_succ]
    refine hq1 _ _ _ _ _ ?_
    intro τ2
    simp [go_sem,haw,purse_eq,List.range_succ]
end Go.AM.R1
open Go Go.AM Go.Proofs
namespace Go.AM.R1
section
variable {H:Type} {P:Program}
end
end Go.AM.R1
open Go Go.AM Go.Proofs
namespace Go.AM.R1
section
variable {H:Type} {P:Program}
end
end Go.AM.R1
open Go Go.AM Go.Proofs
namespace Go.AM.R1
section
variable {H:Type} {P:Program}
structure IsFr (P:Program) (t:TypeId) (f1 f2 f3 f4 f5:Field) (e:TypeId):Prop where
 hs:P.underlying t=some (.struct #[f1,f2,f3,f4,f5])
 h1:P.underlying f1.type=some (.int .i64)
 h2:P.underlying f2.type=some .bool
 h3:P.underlying f3.type=some .bool
 h4:P.underlying f4.type=some (.int .i64)
 h5:P.underlying f5.type=some (.array 8 e)
 he:P.underlying e=some (.int .u8)
theorem wfu8 {v:Int} (h:(Lit.int .u8 v).wf=true):0≤v∧v≤255:=by
 simpa [Lit.wf,IntKind.min,IntKind.max,IntKind.signed,IntKind.bits] using h
theorem dec_frame {n:Nat} {t e:TypeId} {f1 f2 f3 f4 f5:Field} (i:IsFr P t f1 f2 f3 f4 f5 e) {d:DataW H} {cs:List AVal} (h:Dec P (n+3) t d cs):∃ f:Fr,cs=encFr f∧f.Ok:=by
 rw [Dec,i.hs] at h
 obtain ⟨parts,ass,-,rfl,hf⟩:=h
 obtain ⟨p1,ps1,a1,as1,rfl,rfl,r1,hf⟩:=fieldsR_cons hf
 obtain ⟨p2,ps2,a2,as2,rfl,rfl,r2,hf⟩:=fieldsR_cons hf
 obtain ⟨p3,ps3,a3,as3,rfl,rfl,r3,hf⟩:=fieldsR_cons hf
 obtain ⟨p4,ps4,a4,as4,rfl,rfl,r4,hf⟩:=fieldsR_cons hf
 obtain ⟨p5,ps5,a5,as5,rfl,rfl,r5,hf⟩:=fieldsR_cons hf
 obtain ⟨rfl,rfl⟩:=fieldsR_nil hf
 simp only [Dec,i.h1] at r1
 simp only [Dec,i.h2] at r2
 simp only [Dec,i.h3] at r3
 simp only [Dec,i.h4] at r4
 rw [Dec,i.h5] at r5
 obtain ⟨v1,-,w1,rfl⟩:=r1
 obtain ⟨b2,-,rfl⟩:=r2
 obtain ⟨b3,-,rfl⟩:=r3
 obtain ⟨v4,-,w4,rfl⟩:=r4
 obtain ⟨pp,aa,-,rfl,hm,h2⟩:=r5
 obtain ⟨l,hl,rfl,hw⟩:=all2_flat (fun v=>[AVal.lit (.int .u8 v)]) (fun v=>(Lit.int .u8 v).wf=true) (fun d a hda=>by
  simp only [Dec,i.he] at hda
  obtain ⟨v,-,hw,rfl⟩:=hda
  exact ⟨v,rfl,hw⟩) h2
 rw [hm] at hl
 match l,hl,hw with
 | [x0,x1,x2,x3,x4,x5,x6,x7],_,hw =>
  have y0:=wfu8 (hw x0 (by simp))
  have y1:=wfu8 (hw x1 (by simp))
  have y2:=wfu8 (hw x2 (by simp))
  have y3:=wfu8 (hw x3 (by simp))
  have y4:=wfu8 (hw x4 (by simp))
  have y5:=wfu8 (hw x5 (by simp))
  have y6:=wfu8 (hw x6 (by simp))
  have y7:=wfu8 (hw x7 (by simp))
  refine ⟨⟨v1,b2,b3,v4,x0.toNat,x1.toNat,x2.toNat,x3.toNat,x4.toNat,x5.toNat,x6.toNat,x7.toNat⟩,?_,⟨(wf64 w1).1,(wf64 w1).2,(wf64 w4).1,(wf64 w4).2,?_⟩⟩
  ·have e:∀ v:Int,0≤v∧v≤255→u8v v.toNat=.lit (.int .u8 v):=fun v hv=>by unfold u8v;rw [show ((v.toNat:Nat):Int)=v from by omega]
   simp only [encFr,e x0 y0,e x1 y1,e x2 y2,e x3 y3,e x4 y4,e x5 y5,e x6 y6,e x7 y7]
   rfl
  ·intro c hc
   simp only [Fr.bytes,List.mem_cons,List.not_mem_nil,or_false] at hc
   omega
end
end Go.AM.R1
set_option linter.unusedVariables false
set_option linter.unusedSimpArgs false
namespace Go.AM.R1
open Go Go.AM Go.Proofs Go.Lib

def lay (c:Array Value) (o:Nat) (xs:List Value):Array Value:=(c.toList.take o++xs++c.toList.drop (o+xs.length)).toArray

theorem lay_size {c:Array Value} {o:Nat} {xs:List Value} (h:o+xs.length≤c.size):(lay c o xs).size=c.size:=by
 simp [lay];omega

theorem run_copyK {P:Program} (w:World) {dT sT ty e:TypeId} {sz:Nat} (hu:P.underlying dT=some (.slice e)) (hsz:∀ w,(sizeOf e).run P w=.ok sz w) (b:Nat) (c:Array Value) (t:TypeId) (hb:w.heap[b]?=some (.cells c t (0,0)))
  (o dLen dCap:Nat) (sa:Addr) (sLen sCap:Nat) (xs:List Value) (hxl:xs.length=min sLen dLen * sz) (hx1:∀ v∈xs,v.oneCell'=true) (hxc:∀ j v,xs[j]?=some v→w.cell? (sa.add j)=some v) (hfit:o+xs.length≤c.size) :
  (Builtin.copy_ #[dT,sT] ty #[.slice (some ⟨b,o,none⟩) dLen dCap,.slice (some sa) sLen sCap]).run P w=.ok (goInt ((min sLen dLen:Nat):Int)) (w.setRow b (lay c o xs)):=by
 have hf:(Builtin.firstCells sz (Nat.min sLen dLen) (.slice (some sa) sLen sCap)).run P w=.ok xs.toArray w:=by
  simp only [Builtin.firstCells]
  have:Nat.min sLen dLen * sz=xs.length:=hxl.symm
  rw [this]
  exact run_loadCells_list w sa xs hxc
 have hst:=run_storeCells_at (P:=P) b o t xs 0 c w hb (by omega) hx1
 have hst':(storeCells ⟨b,o,none⟩ xs).run P w=.ok () (w.setRow b (lay c o xs)):=by simpa [lay] using hst
 simp only [Builtin.copy_,List.getElem?_toArray,List.getElem?_cons_zero,List.getElem?_cons_succ,Sem.run_bind,run_underlying hu,Result.andThen_ok,Builtin.lenOf,Sem.run_pure,hsz,hf,hst',goInt]


set_option maxHeartbeats 4000000 in
set_option maxRecDepth 100000 in
theorem ins_shift (w:World) (b vb n cap vcap p:Nat) (c vc:Array Value) (t vt:TypeId) (hb:w.heap[b]?=some (.cells c t (0,0))) (hvb:w.heap[vb]?=some (.cells vc vt (0,0))) (hne:vb≠b)
  (hroom:n+1≤cap) (hcs:cap * 12≤c.size) (hvs:12≤vc.size) (h1c:∀ v∈c.toList,v.oneCell'=true) (h1v:∀ v∈vc.toList,v.oneCell'=true) (hp:p<n) (h46:(n+1) * 32≤70368744177664) (h1:1≤vcap) :
  Calls Tryz.prog 135 #[.slice (some ⟨b,0,none⟩) n cap,.int .i64 p,.slice (some ⟨vb,0,none⟩) 1 vcap] w fun r w' =>
   r=.returned (.slice (some ⟨b,0,none⟩) (n+1) cap)∧w'=(w.drew.setRow b (lay c ((p+1) * 12) ((c.toList.take (n * 12)).drop (p * 12)))).setRow b (lay (lay c ((p+1) * 12) ((c.toList.take (n * 12)).drop (p * 12))) (p * 12) (vc.toList.take 12)):=by
 have hz2:¬ ((p:Int)=(n:Int)):=by omega
 have hw0:IntKind.i64.wrap ((n:Int)+1)=(n:Int)+1:=by rw [IntKind.wrap_i64];omega
 have hw1:IntKind.i64.wrap ((p:Int)+1)=(p:Int)+1:=by rw [IntKind.wrap_i64];omega
 have hb1:(0:Int)≤(p:Int)+1:=by omega
 have hin:p≤n:=by omega
 have hpc:p≤cap:=by omega
 have htn:((p:Int)+1).toNat=p+1:=by omega
 have hb2:¬ (cap=p+1):=by omega
 have hb3:(p:Int)≤(n:Int):=by omega
 have hb4:¬ (cap=p):=by omega
 have hb5:¬ ((cap:Int)<(n:Int)+1):=by omega
 have hb6:(p:Int)+1≤(n:Int)+1:=by omega
 have hsa:w.shape? vb=some (vt,vc.size):=by simp [World.shape?,hvb]
 have hsb:w.shape? b=some (t,c.size):=by simp [World.shape?,hb]
 have hfr:∀ o,w.frozen? ⟨vb,o,none⟩=false:=fun o=>by simp [World.frozen?,hvb]
 have hov:∀ off lb cb,(callFunc 154 #[.slice (some ⟨vb,0,none⟩) 1 vcap,.slice (some ⟨b,off,none⟩) lb cb]).run Tryz.prog w=.ok (.value (.bool false)) w:=fun off lb cb=>by
  rw [run_callFunc_extern Tryz.func154 (by kernel_rfl) (by kernel_rfl) (by kernel_rfl) (e:=Extern.SlicesOverlaps.overlaps #[63,63] #[4]) (by kernel_rfl),
   Lib.run_overlaps_apart w 63 4 42 Tryz.underlying63 12 Tryz.sizeOf42 ⟨vb,0,none⟩ ⟨b,off,none⟩ 1 vcap lb cb hne vt t vc.size c.size hsa hsb (by omega) (hfr _) (hfr _)]
  rfl
 have hbd:w.drew.heap[b]?=some (.cells c t (0,0)):=hb
 have hnc:n * 12≤c.size:=by omega
 have hxl:((c.toList.take (n * 12)).drop (p * 12)).length=(n - p) * 12:=by simp;omega
 have hm1:min (n+1 - p) (n - p)=n - p:=by omega
 have hcp1:∀ ty dc sc,(Builtin.copy_ #[63,63] ty #[.slice (some ⟨b,(p+1) * 12,none⟩) (n - p) dc,.slice (some ⟨b,p * 12,none⟩) (n+1 - p) sc]).run Tryz.prog w.drew =
   .ok (goInt ((n - p:Nat):Int)) (w.drew.setRow b (lay c ((p+1) * 12) ((c.toList.take (n * 12)).drop (p * 12)))):=fun ty dc sc=>by
  have:=run_copyK (P:=Tryz.prog) (sT:=63) (ty:=ty) w.drew Tryz.underlying63 Tryz.sizeOf42 b c t hbd ((p+1) * 12) (n - p) dc ⟨b,p * 12,none⟩ (n+1 - p) sc ((c.toList.take (n * 12)).drop (p * 12))
   (by rw [hxl,hm1]) (fun v hv=>h1c v (List.mem_of_mem_take (List.mem_of_mem_drop hv))) (fun j v hj=>by
    rw [List.getElem?_drop,List.getElem?_take] at hj
    split at hj
    ·rw [addr_add,cell_of_heap hbd];exact hj
    ·cases hj) (by rw [hxl];omega)
  rw [hm1] at this
  exact this
 obtain ⟨S1,hS1⟩:∃ S1,S1=lay c ((p+1) * 12) ((c.toList.take (n * 12)).drop (p * 12)):=⟨_,rfl⟩
 obtain ⟨S2,hS2⟩:∃ S2,S2=lay S1 (p * 12) (vc.toList.take 12):=⟨_,rfl⟩
 rw [← hS1] at hcp1 ⊢
 rw [← hS2]
 have hSs:S1.size=c.size:=by rw [hS1];exact lay_size (by rw [hxl];omega)
 have hvl:(vc.toList.take 12).length=12:=by simp;omega
 have hcp2:∀ (W:World),W.heap=(w.drew.setRow b S1).heap→∀ ty dc,(Builtin.copy_ #[63,63] ty #[.slice (some ⟨b,p * 12,none⟩) (n+1 - p) dc,.slice (some ⟨vb,0,none⟩) 1 vcap]).run Tryz.prog W =
   .ok (goInt 1) (W.setRow b S2):=fun W hW ty dc=>by
  have hbW:W.heap[b]?=some (.cells S1 t (0,0)):=by rw [hW];exact setRow_heap _ _ _ _ _ _ hbd
  have hvW:W.heap[vb]?=some (.cells vc vt (0,0)):=by rw [hW,setRow_other _ _ _ _ hne];exact hvb
  have:=run_copyK (P:=Tryz.prog) (sT:=63) (ty:=ty) W Tryz.underlying63 Tryz.sizeOf42 b S1 t hbW (p * 12) (n+1 - p) dc ⟨vb,0,none⟩ 1 vcap (vc.toList.take 12)
   (by rw [hvl,Nat.min_eq_left (by omega)]) (fun v hv=>h1v v (List.mem_of_mem_take hv)) (fun j v hj=>by
    rw [List.getElem?_take] at hj
    split at hj
    ·rw [addr_add,cell_of_heap hvW,Nat.zero_add];exact hj
    ·cases hj) (by rw [hvl,hSs];omega)
  rw [Nat.min_eq_left (by omega),← hS2] at this
  exact this
 clear hxl hm1 hvl hSs hbd
 have mixed:Tryz.prog.follows .mixedOrders=true:=by kernel_rfl
 have hb7:(p:Int)≤(n:Int)+1:=by omega
 go_enter Tryz.func135,Tryz.ntmps135
 go_wp2_with (simp only [hov])
 go_region_law_o (refine step_copy_runI rfl _ _ 63 63 rfl _ _ (by simp [Act.eval,Act.put]) (by simp [Act.eval,Act.put]) (hcp1 _ _ _) ?_)
 go_wp2_with (at_builtin;refine wpList_copy_runI _ rfl _ _ 63 63 rfl _ _ rfl rfl (hcp2 _ rfl _ _) ?_)
 go_ret
 exact ⟨rfl,by rw [hS2,hS1]⟩

set_option maxHeartbeats 4000000 in
set_option maxRecDepth 100000 in
theorem ins_end (w:World) (base:Option Addr) (n cap vb vcap:Nat) (v':Value) (w1:World) (h46:(n+1) * 32≤70368744177664)
  (hnc:n≤cap) (hrun:∀ ty,(Builtin.append_ #[63,63] ty #[.slice base n cap,.slice (some ⟨vb,0,none⟩) 1 vcap]).run Tryz.prog w=.ok v' w1) :
  Calls Tryz.prog 135 #[.slice base n cap,.int .i64 n,.slice (some ⟨vb,0,none⟩) 1 vcap] w fun r w'=>r=.returned v'∧w'=w1:=by
 go_enter Tryz.func135,Tryz.ntmps135
 cases base with
 | none =>
  go_wp2_with (at_builtin;refine Lib.wpList_append_run _ rfl _ _ _ _ rfl _ _ rfl rfl _ _ (hrun _) ?_)
  all_goals (go_ret;exact ⟨rfl,rfl⟩)
 | some a =>
  obtain ⟨ab,ao,asp⟩:=a
  go_wp2_with (at_builtin;refine Lib.wpList_append_run _ rfl _ _ _ _ rfl _ _ rfl rfl _ _ (hrun _) ?_)
  all_goals (go_ret;exact ⟨rfl,rfl⟩)

set_option maxHeartbeats 4000000 in
set_option maxRecDepth 100000 in
theorem ins_grow (w:World) (b vb n vcap p:Nat) (c vc:Array Value) (t vt:TypeId) (hb:w.heap[b]?=some (.cells c t (0,0))) (hvb:w.heap[vb]?=some (.cells vc vt (0,0)))
  (hcs:n * 12≤c.size) (hvs:12≤vc.size) (h1c:∀ v∈c.toList,v.oneCell'=true) (h1v:∀ v∈vc.toList,v.oneCell'=true) (hp:p<n) (h46:(n+1) * 32≤70368744177664) (h1:1≤vcap)
  (G:Nat) (R:Array Value) (t2:TypeId) (w1:World) (hG:n+1≤G) (hR:G * 12≤R.size) (hw1:w1.heap=w.heap.push (.cells R t2 (0,0)))
  (hrz:∀ ty,(Builtin.append_ #[63,3] ty #[.slice (some ⟨b,0,none⟩) p n,.int .i64 ((n:Int)+1 - (p:Int))]).run Tryz.prog w=.ok (.slice (some ⟨w.heap.size,0,none⟩) (n+1) G) w1) :
  Calls Tryz.prog 135 #[.slice (some ⟨b,0,none⟩) n n,.int .i64 p,.slice (some ⟨vb,0,none⟩) 1 vcap] w fun r w' =>
   r=.returned (.slice (some ⟨w.heap.size,0,none⟩) (n+1) G)∧w'=((w1.setRow w.heap.size (lay R (p * 12) (vc.toList.take 12))).drew.setRow w.heap.size (lay (lay R (p * 12) (vc.toList.take 12)) ((p+1) * 12) ((c.toList.take (n * 12)).drop (p * 12)))):=by
 have hz2:¬ ((p:Int)=(n:Int)):=by omega
 have hw0:IntKind.i64.wrap ((n:Int)+1)=(n:Int)+1:=by rw [IntKind.wrap_i64];omega
 have hw1':IntKind.i64.wrap ((p:Int)+1)=(p:Int)+1:=by rw [IntKind.wrap_i64];omega
 have hw2:IntKind.i64.wrap ((n:Int)+1 - (p:Int))=(n:Int)+1 - (p:Int):=by rw [IntKind.wrap_i64];omega
 have hb1:(0:Int)≤(p:Int)+1:=by omega
 have hin:p≤n:=by omega
 have htn:((p:Int)+1).toNat=p+1:=by omega
 have hb2:¬ (G=p+1):=by omega
 have hb2':¬ (G=p):=by omega
 have hb3:(p:Int)≤(n:Int):=by omega
 have hb4:¬ (n=p):=by omega
 have hb6:(p:Int)+1≤(n:Int)+1:=by omega
 have hb7:(p:Int)≤(n:Int)+1:=by omega
 have mixed:Tryz.prog.follows .mixedOrders=true:=by kernel_rfl
 obtain ⟨S1,hS1⟩:∃ S1,lay R (p * 12) (vc.toList.take 12)=S1:=⟨_,rfl⟩
 obtain ⟨S2,hS2⟩:∃ S2,lay S1 ((p+1) * 12) ((c.toList.take (n * 12)).drop (p * 12))=S2:=⟨_,rfl⟩
 rw [hS1,hS2]
 have hbl:b<w.heap.size:=(Array.getElem?_eq_some_iff.1 hb).1
 have hvl2:vb<w.heap.size:=(Array.getElem?_eq_some_iff.1 hvb).1
 have hvl:(vc.toList.take 12).length=12:=by simp;omega
 have hxl:((c.toList.take (n * 12)).drop (p * 12)).length=(n - p) * 12:=by simp;omega
 have hSs:S1.size=R.size:=by rw [← hS1];exact lay_size (by rw [hvl];omega)
 have hbR:w1.heap[w.heap.size]?=some (.cells R t2 (0,0)):=by rw [hw1];simp
 have hbv:w1.heap[vb]?=some (.cells vc vt (0,0)):=by rw [hw1,Array.getElem?_push,if_neg (by omega)];exact hvb
 have hbb:w1.heap[b]?=some (.cells c t (0,0)):=by rw [hw1,Array.getElem?_push,if_neg (by omega)];exact hb
 have hcp1:∀ ty dc,(Builtin.copy_ #[63,63] ty #[.slice (some ⟨w.heap.size,p * 12,none⟩) (n+1 - p) dc,.slice (some ⟨vb,0,none⟩) 1 vcap]).run Tryz.prog w1 =
   .ok (goInt 1) (w1.setRow w.heap.size S1):=fun ty dc=>by
  have:=run_copyK (P:=Tryz.prog) (sT:=63) (ty:=ty) w1 Tryz.underlying63 Tryz.sizeOf42 w.heap.size R t2 hbR (p * 12) (n+1 - p) dc ⟨vb,0,none⟩ 1 vcap (vc.toList.take 12)
   (by rw [hvl,Nat.min_eq_left (by omega)]) (fun v hv=>h1v v (List.mem_of_mem_take hv)) (fun j v hj=>by
    rw [List.getElem?_take] at hj
    split at hj
    ·rw [addr_add,cell_of_heap hbv,Nat.zero_add];exact hj
    ·cases hj) (by rw [hvl];omega)
  rw [Nat.min_eq_left (by omega),hS1] at this
  exact this
 have hm1:min (n - p) (n - p)=n - p:=by omega
 have hcp2:∀ ty dc sc,(Builtin.copy_ #[63,63] ty #[.slice (some ⟨w.heap.size,(p+1) * 12,none⟩) (n - p) dc,.slice (some ⟨b,p * 12,none⟩) (n - p) sc]).run Tryz.prog (w1.setRow w.heap.size S1).drew =
   .ok (goInt ((n - p:Nat):Int)) ((w1.setRow w.heap.size S1).drew.setRow w.heap.size S2):=fun ty dc sc=>by
  have hb1:(w1.setRow w.heap.size S1).drew.heap[w.heap.size]?=some (.cells S1 t2 (0,0)):=setRow_heap _ _ _ _ _ _ hbR
  have hb2:(w1.setRow w.heap.size S1).drew.heap[b]?=some (.cells c t (0,0)):=(setRow_other _ _ _ _ (by omega)).trans hbb
  have:=run_copyK (P:=Tryz.prog) (sT:=63) (ty:=ty) (w1.setRow w.heap.size S1).drew Tryz.underlying63 Tryz.sizeOf42 w.heap.size S1 t2 hb1 ((p+1) * 12) (n - p) dc ⟨b,p * 12,none⟩ (n - p) sc ((c.toList.take (n * 12)).drop (p * 12))
   (by rw [hxl,hm1]) (fun v hv=>h1c v (List.mem_of_mem_take (List.mem_of_mem_drop hv))) (fun j v hj=>by
    rw [List.getElem?_drop,List.getElem?_take] at hj
    split at hj
    ·rw [addr_add,cell_of_heap hb2];exact hj
    ·cases hj) (by rw [hxl,hSs];omega)
  rw [hm1,hS2] at this
  exact this
 clear hxl hm1 hvl hSs hbR hbv hbb hS1 hS2
 go_enter Tryz.func135,Tryz.ntmps135
 go_wp2_with (first
  | (at_builtin;refine Lib.wpList_append_run _ rfl _ _ _ _ rfl _ _ rfl rfl _ _ (hrz _) ?_)
  | (at_builtin;refine wpList_copy_runI _ rfl _ _ 63 63 rfl _ _ rfl rfl (hcp1 _ _) ?_))
 go_region_law_o (refine step_copy_runI rfl _ _ 63 63 rfl _ _ (by simp [Act.eval,Act.put]) (by simp [Act.eval,Act.put]) (hcp2 _ _ _) ?_)
 go_wp2
 go_ret
 exact ⟨rfl,rfl⟩

theorem step_app_run {P:Program} {ops:Array Oper} {o:Oper} {a:Act} {w:World} {K:Act→World→Prop} {Q:Exit→Act→World→Prop} {E:Prop}
  (hg:o.guard=none) (d x:Operand) (dT sT:TypeId) (hop:o.op=Op.call { callee:=Callee.builtin Builtin.append,args:=#[d,x],argTypes:=#[dT,sT] })
  (v u:Value) (hd:a.eval d=v) (hx:a.eval x=u) {v':Value} {w':World} (hr:(Builtin.append_ #[dT,sT] o.type #[v,u]).run P w=.ok v' w') (hK:K (a.put o.dst v') w') :
  if Region.wanted o (yielded ops a.tmps)=true then Oper.wp P o a w K Q else E:=by
 rw [if_pos (by simp [Region.wanted,hg])]
 unfold Oper.wp
 simp [execOp,hop,resolve,invoke,builtin,hd,hx,hr,Result.andThen]
 exact hK

theorem run_clearK {P:Program} (w:World) {t ty e:TypeId} {z:Value} {sz:Nat} (ht:P.underlying t=some (.slice e)) (hv:∀ w,(zeroValue e).run P w=.ok z w) (hz:z.cells.size=sz) (h0:0<sz) (h1:∀ v∈z.cells.toList,v.oneCell'=true)
  (b:Nat) (c:Array Value) (tc:TypeId) (hb:w.heap[b]?=some (.cells c tc (0,0))) (o n cp:Nat) (hn:0<n) (hfit:o+n * sz≤c.size) :
  (Builtin.clear_ #[t] ty #[.slice (some ⟨b,o,none⟩) n cp]).run P w=.ok (.tuple #[]) (w.setRow b (lay c o (Builtin.zeroCells z.cells n).toList)):=by
 have hl:(Builtin.zeroCells z.cells n).toList.length=n * sz:=by simp [size_zeroCells,hz]
 have hst:=run_storeCells_at (P:=P) b o tc (Builtin.zeroCells z.cells n).toList 0 c w hb (by omega) (zeroCells_ok h1 (by omega))
 have hst':(storeCells ⟨b,o,none⟩ (Builtin.zeroCells z.cells n).toList).run P w=.ok () (w.setRow b (lay c o (Builtin.zeroCells z.cells n).toList)):=by simpa [lay] using hst
 obtain ⟨m,rfl⟩:∃ m,n=m+1:=⟨n - 1,by omega⟩
 simp [Builtin.clear_,run_underlying ht,hv,hst']

set_option maxHeartbeats 4000000 in
set_option maxRecDepth 100000 in
theorem del_run (w:World) (b n cap p q:Nat) (c:Array Value) (t:TypeId) (hb:w.heap[b]?=some (.cells c t (0,0))) (hnc:n≤cap) (hcs:cap * 12≤c.size) (h1c:∀ v∈c.toList,v.oneCell'=true) (hpq:p<q) (hq:q≤n) :
  Calls Tryz.prog 172 #[.slice (some ⟨b,0,none⟩) n cap,.int .i64 p,.int .i64 q] w fun r w' =>
   r = .returned (.slice (some ⟨b,0,none⟩) (n - (q - p)) cap)∧∃ zs:List Value,zs.length=(q - p) * 12∧(∀ v∈zs,v.oneCell'=true) ∧
    w'=(w.drew.setRow b (lay c (p * 12) ((c.toList.take (n * 12)).drop (q * 12)))).setRow b (lay (lay c (p * 12) ((c.toList.take (n * 12)).drop (q * 12))) ((p+(n - q)) * 12) zs):=by
 have hne:¬ ((p:Int)=(q:Int)):=by omega
 have hnn:n - (q - p)=p+(n - q):=by omega
 rw [hnn]
 have mixed:Tryz.prog.follows .mixedOrders=true:=by kernel_rfl
 obtain ⟨z,hv,hz,h1z⟩:∃ z:Value,(∀ w,(zeroValue 42).run Tryz.prog w=.ok z w)∧z.cells.size=12∧∀ v∈z.cells.toList,v.oneCell'=true:=⟨_,Tryz.zeroValue42,rfl,by simp [Value.cells,Value.oneCell']⟩
 have hxl:((c.toList.take (n * 12)).drop (q * 12)).length=(n - q) * 12:=by simp;omega
 have hn12:n * 12≤c.size:=by omega
 have hbd:w.drew.heap[b]?=some (.cells c t (0,0)):=hb
 obtain ⟨A,hA⟩:∃ A:Addr,(if cap=q then (some ⟨b,0,none⟩:Option Addr) else some ⟨b,q * 12,none⟩)=some A:=by
  split
  ·exact ⟨_,rfl⟩
  ·exact ⟨_,rfl⟩
 have hAc:∀ j v,((c.toList.take (n * 12)).drop (q * 12))[j]?=some v→w.drew.cell? (A.add j)=some v:=fun j v hj=>by
  have hjl:=(List.getElem?_eq_some_iff.1 hj).1
  rw [hxl] at hjl
  split at hA
  ·omega
  ·cases hA
   rw [List.getElem?_drop,List.getElem?_take] at hj
   split at hj
   ·rw [addr_add,cell_of_heap hbd];exact hj
   ·cases hj
 obtain ⟨i,hi⟩:∃ i,Tryz.prog.info? 42=some i:=⟨_,rfl⟩
 have his:i.size=12:=by
  have:(Tryz.prog.info? 42).map (·.size)=some 12:=by kernel_rfl
  rw [hi] at this;simpa using this
 have hap:∀ ty,(Builtin.append_ #[63,63] ty #[.slice (some ⟨b,0,none⟩) p cap,.slice (some A) (n - q) (cap - q)]).run Tryz.prog w.drew=.ok (.slice (some ⟨b,0,none⟩) (p+(n - q)) cap) (w.drew.setRow b (lay c (p * 12) ((c.toList.take (n * 12)).drop (q * 12)))):=fun ty=>by
  have h1:=run_append_in (P:=Tryz.prog) (ty:=ty) (xt:=63) w.drew Tryz.underlying63 hi Tryz.underlying63 (fun k e=>by cases e) (base:=some ⟨b,0,none⟩) (sLen:=p) (sCap:=cap) (n:=n - q) (x:=.slice (some A) (n - q) (cap - q)) (news:=((c.toList.take (n * 12)).drop (q * 12)).toArray)
   rfl (by
    simp only [Builtin.firstCells,his]
    rw [← hxl]
    exact run_loadCells_list w.drew A _ hAc) (by omega)
  have hst:=run_storeCells_at (P:=Tryz.prog) b (p * 12) t ((c.toList.take (n * 12)).drop (q * 12)) 0 c w.drew hbd (by rw [hxl];omega) (fun v hv=>h1c v (List.mem_of_mem_take (List.mem_of_mem_drop hv)))
  have hst':(storeCells ⟨b,p * 12,none⟩ ((c.toList.take (n * 12)).drop (q * 12))).run Tryz.prog w.drew=.ok () (w.drew.setRow b (lay c (p * 12) ((c.toList.take (n * 12)).drop (q * 12)))):=by simpa [lay] using hst
  rw [h1]
  simp only [his,addr_add,Nat.zero_add]
  rw [hst'];rfl
 obtain ⟨S1,hS1⟩:∃ S1,lay c (p * 12) ((c.toList.take (n * 12)).drop (q * 12))=S1:=⟨_,rfl⟩
 rw [hS1] at hap ⊢
 have hSs:S1.size=c.size:=by rw [← hS1];exact lay_size (by rw [hxl];omega)
 have hb1:(w.drew.setRow b S1).heap[b]?=some (.cells S1 t (0,0)):=setRow_heap _ _ _ _ _ _ hbd
 have hcl:∀ ty,(Builtin.clear_ #[63] ty #[.slice (some ⟨b,(p+(n - q)) * 12,none⟩) (n - (p+(n - q))) (cap - (p+(n - q)))]).run Tryz.prog (w.drew.setRow b S1)=.ok (.tuple #[]) ((w.drew.setRow b S1).setRow b (lay S1 ((p+(n - q)) * 12) (Builtin.zeroCells z.cells (n - (p+(n - q)))).toList)):=fun ty =>
  run_clearK (P:=Tryz.prog) (w.drew.setRow b S1) Tryz.underlying63 hv hz (by omega) h1z b S1 t hb1 _ _ _ (by omega) (by rw [hSs];omega)
 obtain ⟨zs,hzs⟩:∃ zs,(Builtin.zeroCells z.cells (n - (p+(n - q)))).toList=zs:=⟨_,rfl⟩
 have hz1:zs.length=(q - p) * 12:=by rw [← hzs];simp [size_zeroCells,hz];omega
 have hz2:∀ v∈zs,v.oneCell'=true:=by rw [← hzs];exact zeroCells_ok h1z (by omega)
 rw [hzs] at hcl
 have hq1:(p:Int)≤(q:Int):=by omega
 have hq2:(q:Int)≤(n:Int):=by omega
 have hq3:p≤cap:=by omega
 have hq4:q≤cap:=by omega
 have hq5:¬ (cap=p+(n - q)):=by omega
 have hq6:(p:Int)+((n - q:Nat):Int)≤(n:Int):=by omega
 have hq7:¬ (n=p):=by omega
 have hq8:¬ (cap=p):=by omega
 clear hxl hAc hi his hS1 hSs hb1 hzs hv hz h1z hbd
 go_enter Tryz.func172,Tryz.ntmps172
 go_wp2_with fail
 go_region_law_o (refine step_app_run rfl (.tmp 22) (.tmp 25) 63 63 rfl (.slice (some ⟨b,0,none⟩) p cap) (.slice (some A) (n - q) (cap - q)) (by simp [Act.eval,Act.put]) (by simp [Act.eval,Act.put,hA]) (hap _) ?_)
 go_wp2
 go_ret
 exact ⟨rfl,zs,hz1,hz2,rfl⟩

theorem lay_list (c:Array Value) (o:Nat) (xs:List Value):(lay c o xs).toList=c.toList.take o++xs++c.toList.drop (o+xs.length):=rfl
theorem lay_one {c:Array Value} {o:Nat} {xs:List Value} (hc:∀ v∈c.toList,v.oneCell'=true) (hx:∀ v∈xs,v.oneCell'=true):∀ v∈(lay c o xs).toList,v.oneCell'=true:=by
 intro v hv
 rw [lay_list] at hv
 simp only [List.mem_append] at hv
 rcases hv with (hv | hv) | hv
 ·exact hc v (List.mem_of_mem_take hv)
 ·exact hx v hv
 ·exact hc v (List.mem_of_mem_drop hv)
theorem lay_take {c:Array Value} {o m:Nat} {xs:List Value} (h:o+xs.length≤c.size) (hm:m=o+xs.length):(lay c o xs).toList.take m=c.toList.take o++xs:=by
 have hl:(c.toList.take o++xs).length=m:=by simp;omega
 rw [lay_list,List.take_append_of_le_length (by omega),List.take_of_length_le (by omega)]
theorem lay_take_le {c:Array Value} {o m:Nat} {xs:List Value} (h:o≤c.size) (hm:m≤o):(lay c o xs).toList.take m=c.toList.take m:=by
 rw [lay_list,List.append_assoc,List.take_append_of_le_length (by simp;omega),List.take_take,Nat.min_eq_left hm]

theorem turned_set {w w':World} {b:Nat} {c c':Array Value} {t:TypeId} {row:List Value} {cap n sz:Nat} (hb:w.heap[b]?=some (.cells c t (0,0))) (hw:w'.heap[b]?=some (.cells c' t (0,0))) (hE:Env w w')
  (hsz:w'.heap.size=w.heap.size) (ho:∀ x,x≠b→w'.heap[x]?=w.heap[x]?) (h1:cap * sz≤c'.size) (h2:c'.toList.take (n * sz)=row) (h3:∀ v∈c'.toList,v.oneCell'=true) (h4:n≤cap):Turned w w' b b row cap n sz :=
 ⟨⟨c',t,hw,h1,h2,h3⟩,h4,hE,Nat.le_of_eq hsz.symm,fun x _ hx=>ho x hx,.inl rfl⟩

theorem env_drewSet (w:World) (b:Nat) (cs:Array Value):Env w (w.drew.setRow b cs):=(Env.drew w).trans (Env.setRow _ _ _)


theorem frame_info:∃ i z,Tryz.prog.info? 42=some i∧i.zero=some z∧i.size=12∧i.bytes=32∧z.cells.size=12∧∀ v∈z.cells.toList,v.oneCell'=true:=by
 have h1:(Tryz.prog.info? 42).map (·.size)=some 12:=by kernel_rfl
 have h2:(Tryz.prog.info? 42).map (·.bytes)=some 32:=by kernel_rfl
 have h3:(Tryz.prog.info? 42).map (fun i=>(i.zero.map fun z=>(z.cells.size,z.cells.toList.all fun v=>v.oneCell')))=some (some (12,true)):=by kernel_rfl
 cases hi:Tryz.prog.info? 42 with
 | none=>rw [hi] at h1;cases h1
 | some i =>
  rw [hi] at h1 h2 h3
  simp only [Option.map_some,Option.some.injEq] at h1 h2 h3
  cases hz:i.zero with
  | none=>rw [hz] at h3;cases h3
  | some z =>
   rw [hz] at h3
   simp only [Option.map_some,Option.some.injEq,Prod.mk.injEq,List.all_eq_true] at h3
   exact ⟨i,z,rfl,hz,h1,h2,h3.1,h3.2⟩

theorem cells42:Tryz.prog.cellsOf 42=12:=by kernel_rfl
theorem bytes42:Tryz.prog.bytesOf 42=32:=by kernel_rfl

theorem append_in (w:World) (b n cap vb vcap:Nat) (c vc:Array Value) (t vt:TypeId) (hb:w.heap[b]?=some (.cells c t (0,0))) (hvb:w.heap[vb]?=some (.cells vc vt (0,0)))
  (hroom:n+1≤cap) (hcs:cap * 12≤c.size) (hvs:12≤vc.size) (h1v:∀ v∈vc.toList,v.oneCell'=true) (ty:TypeId) :
  (Builtin.append_ #[63,63] ty #[.slice (some ⟨b,0,none⟩) n cap,.slice (some ⟨vb,0,none⟩) 1 vcap]).run Tryz.prog w=.ok (.slice (some ⟨b,0,none⟩) (n+1) cap) (w.setRow b (lay c (n * 12) (vc.toList.take 12))):=by
 obtain ⟨i,z,hi,hz,his,hib,hzs,hz1⟩:=frame_info
 have hvl:(vc.toList.take 12).length=12:=by simp;omega
 have h1:=run_append_in (P:=Tryz.prog) (ty:=ty) (xt:=63) w Tryz.underlying63 hi Tryz.underlying63 (fun k e=>by cases e) (base:=some ⟨b,0,none⟩) (sLen:=n) (sCap:=cap) (n:=1) (x:=.slice (some ⟨vb,0,none⟩) 1 vcap) (news:=(vc.toList.take 12).toArray)
  rfl (by
   simp only [Builtin.firstCells,his,Nat.one_mul]
   have:=run_loadCells_list (P:=Tryz.prog) w ⟨vb,0,none⟩ (vc.toList.take 12) (fun j v hj=>by
    rw [List.getElem?_take] at hj
    split at hj
    ·rw [addr_add,cell_of_heap hvb,Nat.zero_add];exact hj
    ·cases hj)
   rw [hvl] at this
   exact this) hroom
 have hst:=run_storeCells_at (P:=Tryz.prog) b (n * 12) t (vc.toList.take 12) 0 c w hb (by rw [hvl];omega) (fun v hv=>h1v v (List.mem_of_mem_take hv))
 have hst':(storeCells ⟨b,n * 12,none⟩ (vc.toList.take 12)).run Tryz.prog w=.ok () (w.setRow b (lay c (n * 12) (vc.toList.take 12))):=by simpa [lay] using hst
 rw [h1]
 simp only [his,addr_add,Nat.zero_add]
 rw [hst'];rfl

theorem append_new (w:World) (base:Option Addr) (n vb vcap:Nat) (olds:List Value) (vc:Array Value) (vt:TypeId) (hvb:w.heap[vb]?=some (.cells vc vt (0,0))) (hvs:12≤vc.size) (h46:(n+1) * 32≤70368744177664)
  (hn:base=none→olds=[]) (hl:olds.length=n * 12) (ho:∀ a,base=some a→∀ j v,olds[j]?=some v→w.cell? (a.add j)=some v) :
  ∃ G R,n+1≤G∧R.size=G * 12∧R.toList.take ((n+1) * 12)=olds++vc.toList.take 12∧((∀ v∈olds,v.oneCell'=true)→(∀ v∈vc.toList,v.oneCell'=true)→∀ v∈R.toList,v.oneCell'=true)∧∀ ty,
  (Builtin.append_ #[63,63] ty #[.slice base n n,.slice (some ⟨vb,0,none⟩) 1 vcap]).run Tryz.prog w=.ok (.slice (some ⟨w.heap.size,0,none⟩) (n+1) G) (w.drew.alloc (.cells R 42)):=by
 obtain ⟨i,z,hi,hz,his,hib,hzs,hz1⟩:=frame_info
 have hvl:(vc.toList.take 12).length=12:=by simp;omega
 have hold:(Builtin.firstCells i.size n (.slice base n n)).run Tryz.prog w.drew=.ok olds.toArray w.drew:=by
  cases base with
  | none=>rw [hn rfl];rfl
  | some a =>
   simp only [Builtin.firstCells,his]
   rw [← hl]
   exact run_loadCells_list w.drew a olds (ho a rfl)
 have hnew:(Builtin.firstCells i.size 1 (.slice (some ⟨vb,0,none⟩) 1 vcap)).run Tryz.prog w.drew=.ok (vc.toList.take 12).toArray w.drew:=by
  simp only [Builtin.firstCells,his,Nat.one_mul]
  have hvd:w.drew.heap[vb]?=some (.cells vc vt (0,0)):=hvb
  have:=run_loadCells_list (P:=Tryz.prog) w.drew ⟨vb,0,none⟩ (vc.toList.take 12) (fun j v hj=>by
   rw [List.getElem?_take] at hj
   split at hj
   ·rw [addr_add,cell_of_heap hvd,Nat.zero_add];exact hj
   ·cases hj)
  rw [hvl] at this
  exact this
 have key:=fun ty=>run_append_new (P:=Tryz.prog) (ty:=ty) (xt:=63) w Tryz.underlying63 hi Tryz.underlying63 (fun k e=>by cases e) hz (base:=base) (sLen:=n) (sCap:=n) (n:=1) (x:=.slice (some ⟨vb,0,none⟩) 1 vcap) (fun _=>rfl) hold hnew (by omega) (by rw [hib];omega) (by omega)
 have hG:=grownCap_ge w (n+1) n 42
 refine ⟨_,_,hG,?_,?_,?_,key⟩
 ·simp [size_zeroCells,hzs,hl,hvl];omega
 ·simp only [Array.toList_append,List.append_assoc]
  rw [← List.append_assoc,List.take_append_of_le_length (by simp;omega),List.take_of_length_le (by simp;omega)]
 ·intro h1 h2 v hv
  simp only [Array.toList_append,List.mem_append] at hv
  rcases hv with (hv | hv) | hv
  ·exact h1 v hv
  ·exact h2 v (List.mem_of_mem_take hv)
  ·exact zeroCells_ok hz1 (by omega) v hv

theorem turned_new {w:World} {b:Nat} {R:Array Value} {row:List Value} {G n:Nat} (h1:n≤G) (h2:R.size=G * 12) (h3:R.toList.take (n * 12)=row) (h4:∀ v∈R.toList,v.oneCell'=true) (w':World) (hE:Env w w') (hw:w'.heap=w.heap.push (.cells R 42 (0,0))) :
  Turned w w' b w.heap.size row G n 12 :=
 ⟨⟨R,42,by rw [hw];simp,by omega,h3,h4⟩,h1,hE,by rw [hw];simp,fun x hx _=>by rw [hw,Array.getElem?_push,if_neg (by omega)],.inr (Nat.le_refl _)⟩

theorem ins_ok:InsOk Tryz.prog 135 42:=by
 unfold InsOk
 rw [cells42,bytes42]
 refine ⟨fun w b vb n cap vcap p c vc t vt hb hvb hne hnc h0 hcs hvs h1c h1v hp h46 h1=>?_,fun w base vb vcap vc vt hvb hvs h1v h46 h1=>?_⟩
 ·have hvl:(vc.toList.take 12).length=12:=by simp;omega
  have hnl:(c.toList.take (n * 12)).length=n * 12:=by simp;omega
  rcases Nat.lt_or_ge p n with hlt | hge
  ·have hxl:((c.toList.take (n * 12)).drop (p * 12)).length=(n - p) * 12:=by simp;omega
   have hpt:(c.toList.take (n * 12)).take (p * 12)=c.toList.take (p * 12):=by rw [List.take_take,Nat.min_eq_left (by omega)]
   rcases Nat.lt_or_ge n cap with hr | hr
   ·-- in its place
    refine (ins_shift w b vb n cap vcap p c vc t vt hb hvb hne (by omega) hcs hvs h1c h1v hlt (by omega) h1).mono fun r w' hk=>?_
    obtain ⟨rfl,rfl⟩:=hk
    refine ⟨b,cap,rfl,?_⟩
    have hS1:(lay c ((p+1) * 12) ((c.toList.take (n * 12)).drop (p * 12))).size=c.size:=lay_size (by rw [hxl];omega)
    have hbd:w.drew.heap[b]?=some (.cells c t (0,0)):=hb
    refine turned_set hb (setRow_heap _ _ _ _ _ _ (setRow_heap _ _ _ _ _ _ hbd)) ((env_drewSet _ _ _).trans (Env.setRow _ _ _)) (by rw [setRow_size,setRow_size];rfl) (fun x hx=>by rw [setRow_other _ _ _ _ hx,setRow_other _ _ _ _ hx];rfl)
     (by rw [lay_size (by rw [hvl,hS1];omega),hS1];exact hcs) ?_ (lay_one (lay_one h1c fun v hv=>h1c v (List.mem_of_mem_take (List.mem_of_mem_drop hv))) fun v hv=>h1v v (List.mem_of_mem_take hv)) (by omega)
    rw [lay_list,lay_take_le (by omega) (by omega),hvl,lay_list,hpt]
    have e1:(c.toList.take ((p+1) * 12)).length=(p+1) * 12:=by simp;omega
    have e2:p * 12+12=(c.toList.take ((p+1) * 12)).length:=by omega
    rw [e2,List.append_assoc (c.toList.take ((p+1) * 12)),List.drop_left]
    rw [← List.append_assoc,List.take_append_of_le_length (by simp;omega),List.take_of_length_le (by simp;omega)]
   ·-- a new row
    have:cap=n:=by omega
    subst this
    obtain ⟨i,z,hi,hz,his,hib,hzs,hz1⟩:=frame_info
    have hbd:w.drew.heap[b]?=some (.cells c t (0,0)):=hb
    have hold:(Builtin.firstCells i.size p (.slice (some ⟨b,0,none⟩) p cap)).run Tryz.prog w.drew=.ok (c.toList.take (p * 12)).toArray w.drew:=by
     simp only [Builtin.firstCells,his]
     have:=run_loadCells_list (P:=Tryz.prog) w.drew ⟨b,0,none⟩ (c.toList.take (p * 12)) (fun j v hj=>by
      rw [List.getElem?_take] at hj
      split at hj
      ·rw [addr_add,cell_of_heap hbd,Nat.zero_add];exact hj
      ·cases hj)
     rw [show (c.toList.take (p * 12)).length=p * 12 by simp;omega] at this
     exact this
    have hkk:(cap:Int)+1 - (p:Int)=((cap+1 - p:Nat):Int):=by omega
    have hik:p+(cap+1 - p)=cap+1:=by omega
    have key:=fun ty=>run_appendZ_new (P:=Tryz.prog) (ty:=ty) w Tryz.underlying63 hi Tryz.underlying3 hz (base:=some ⟨b,0,none⟩) (sLen:=p) (sCap:=cap) (m:=cap+1 - p) (k':=.i64) (by omega) (by rw [hib];omega) (by omega) hold (by omega) (by rw [hib];omega) (by omega)
    simp only [hik,← hkk] at key
    have hG:=grownCap_ge w (cap+1) cap 42
    generalize grownCap w (cap+1) cap 42=G at key hG
    obtain ⟨R,hR⟩:∃ R,R=(c.toList.take (p * 12)).toArray++Builtin.zeroCells z.cells (cap+1 - p)++Builtin.zeroCells z.cells (G - (cap+1)):=⟨_,rfl⟩
    rw [← hR] at key
    have hRs:R.size=G * 12:=by rw [hR];simp [size_zeroCells,hzs];omega
    have hRt:R.toList.take (p * 12)=c.toList.take (p * 12):=by
     rw [hR]
     simp only [Array.toList_append,List.append_assoc]
     rw [List.take_append_of_le_length (by simp;omega),List.take_of_length_le (by simp;omega)]
    have hR1:∀ v∈R.toList,v.oneCell'=true:=by
     intro v hv
     rw [hR] at hv
     simp only [Array.toList_append,List.mem_append] at hv
     rcases hv with (hv | hv) | hv
     ·exact h1c v (List.mem_of_mem_take hv)
     ·exact zeroCells_ok hz1 (by omega) v hv
     ·exact zeroCells_ok hz1 (by omega) v hv
    refine (ins_grow w b vb cap vcap p c vc t vt hb hvb hcs hvs h1c h1v hlt (by omega) h1 G R 42 _ hG (by omega) rfl key).mono fun r w' hk=>?_
    obtain ⟨rfl,rfl⟩:=hk
    refine ⟨w.heap.size,G,rfl,?_⟩
    have hS1:(lay R (p * 12) (vc.toList.take 12)).size=R.size:=lay_size (by rw [hvl];omega)
    have hn:(w.drew.alloc (.cells R 42)).heap[w.heap.size]?=some (.cells R 42 (0,0)):=alloc_new w _
    refine ⟨⟨_,42,setRow_heap _ _ _ _ _ _ (setRow_heap _ _ _ _ _ _ hn),?_,?_,?_⟩,hG,?_,?_,fun x hx hxb=>?_,.inr (Nat.le_refl _)⟩
    ·rw [lay_size (by rw [hxl,hS1];omega),hS1];omega
    ·rw [lay_take (by rw [hxl,hS1];omega) (by rw [hxl];omega),lay_take (by rw [hvl];omega) (by rw [hvl];omega),hRt,hpt]
    ·exact lay_one (lay_one hR1 fun v hv=>h1v v (List.mem_of_mem_take hv)) fun v hv=>h1c v (List.mem_of_mem_take (List.mem_of_mem_drop hv))
    ·exact (((Env.drewAlloc w R 42).trans (Env.setRow _ _ _)).trans (Env.drew _)).trans (Env.setRow _ _ _)
    ·rw [setRow_size];show _≤((w.drew.alloc (.cells R 42)).setRow _ _).heap.size;rw [setRow_size];exact alloc_size _ _
    ·rw [setRow_other _ _ _ _ (by omega)]
     show ((w.drew.alloc (.cells R 42)).setRow _ _).heap[x]?=_
     rw [setRow_other _ _ _ _ (by omega)];exact alloc_old _ _ hx
  ·have:p=n:=by omega
   subst this
   have e1:(c.toList.take (p * 12)).take (p * 12)++vc.toList.take 12++(c.toList.take (p * 12)).drop (p * 12)=c.toList.take (p * 12)++vc.toList.take 12:=by
    rw [List.take_of_length_le (by omega),List.drop_of_length_le (by omega),List.append_nil]
   rw [e1]
   rcases Nat.lt_or_ge p cap with hr | hr
   ·refine (ins_end w (some ⟨b,0,none⟩) p cap vb vcap _ _ (by omega) hnc (fun ty=>append_in w b p cap vb vcap c vc t vt hb hvb hr hcs hvs h1v ty)).mono fun r w' hk=>?_
    obtain ⟨rfl,rfl⟩:=hk
    refine ⟨b,cap,rfl,turned_set hb (setRow_heap _ _ _ _ _ _ hb) (Env.setRow _ _ _) (setRow_size _ _ _) (fun x hx=>setRow_other _ _ _ _ hx) (by rw [lay_size (by rw [hvl];omega)];exact hcs) (lay_take (by rw [hvl];omega) (by rw [hvl];omega)) (lay_one h1c fun v hv=>h1v v (List.mem_of_mem_take hv)) hr⟩
   ·have:cap=p:=by omega
    subst this
    obtain ⟨G,R,g1,g2,g3,g4,g5⟩:=append_new w (some ⟨b,0,none⟩) cap vb vcap (c.toList.take (cap * 12)) vc vt hvb hvs (by omega) (fun e=>by cases e) hnl (fun a e j v hj=>by
     cases e
     rw [List.getElem?_take] at hj
     split at hj
     ·rw [addr_add,cell_of_heap hb,Nat.zero_add];exact hj
     ·cases hj)
    refine (ins_end w (some ⟨b,0,none⟩) cap cap vb vcap _ _ (by omega) hnc g5).mono fun r w' hk=>?_
    obtain ⟨rfl,rfl⟩:=hk
    exact ⟨_,G,rfl,turned_new g1 g2 g3 (g4 (fun v hv=>h1c v (List.mem_of_mem_take hv)) h1v) _ (Env.drewAlloc _ _ _) rfl⟩
 ·obtain ⟨G,R,g1,g2,g3,g4,g5⟩:=append_new w base 0 vb vcap [] vc vt hvb hvs (by omega) (fun _=>rfl) rfl (fun a e j v hj=>by simp at hj)
  refine (ins_end w base 0 0 vb vcap _ _ (by omega) (Nat.le_refl _) g5).mono fun r w' hk=>?_
  obtain ⟨rfl,rfl⟩:=hk
  exact ⟨_,G,rfl,turned_new g1 g2 (by simpa using g3) (g4 (fun v hv=>by cases hv) h1v) _ (Env.drewAlloc _ _ _) rfl,Nat.le_refl _⟩

theorem del_ok:DelOk Tryz.prog 172 42:=by
 unfold DelOk
 rw [cells42]
 intro w b n cap p q c t hb hnc hcs h1c hpq hq
 refine (del_run w b n cap p q c t hb hnc hcs h1c hpq hq).mono fun r w' hk=>?_
 obtain ⟨rfl,zs,hz1,hz2,rfl⟩:=hk
 refine ⟨rfl,?_⟩
 have hxl:((c.toList.take (n * 12)).drop (q * 12)).length=(n - q) * 12:=by simp;omega
 have hS1:(lay c (p * 12) ((c.toList.take (n * 12)).drop (q * 12))).size=c.size:=lay_size (by rw [hxl];omega)
 have hbd:w.drew.heap[b]?=some (.cells c t (0,0)):=hb
 refine turned_set hb (setRow_heap _ _ _ _ _ _ (setRow_heap _ _ _ _ _ _ hbd)) ((env_drewSet _ _ _).trans (Env.setRow _ _ _)) (by rw [setRow_size,setRow_size];rfl) (fun x hx=>by rw [setRow_other _ _ _ _ hx,setRow_other _ _ _ _ hx];rfl)
  (by rw [lay_size (by rw [hz1,hS1];omega),hS1];exact hcs) ?_ (lay_one (lay_one h1c fun v hv=>h1c v (List.mem_of_mem_take (List.mem_of_mem_drop hv))) hz2) (by omega)
 rw [lay_take_le (by omega) (by omega),lay_take (by rw [hxl];omega) (by rw [hxl];omega),List.take_take,Nat.min_eq_left (by omega)]

theorem libs_are:((List.range Tryz.prog.funcs.size).filterMap fun f=>(libOf Tryz.prog f).map fun k=>(f,k))=[(135,LibK.ins),(172,LibK.del)]:=by kernel_rfl
theorem libs_ok:LibsOk Tryz.prog:=by
 intro f k e hk he _ _
 have hlt:f<Tryz.prog.funcs.size:=by
  unfold libOf at hk
  split at hk
  ·rename_i fn hf;exact (Array.getElem?_eq_some_iff.1 hf).1
  ·cases hk
 have hm:(f,k)∈((List.range Tryz.prog.funcs.size).filterMap fun f=>(libOf Tryz.prog f).map fun k=>(f,k)):=List.mem_filterMap.2 ⟨f,List.mem_range.2 hlt,by rw [hk];rfl⟩
 rw [libs_are] at hm
 have hI:rowOf Tryz.prog 135=some 42:=by kernel_rfl
 have hD:rowOf Tryz.prog 172=some 42:=by kernel_rfl
 simp only [List.mem_cons,List.not_mem_nil,or_false,Prod.mk.injEq] at hm
 rcases hm with ⟨rfl,rfl⟩ | ⟨rfl,rfl⟩
 ·rw [hI] at he;cases he;exact ins_ok
 ·rw [hD] at he;cases he;exact del_ok
end Go.AM.R1
open Go Go.AM Go.Proofs
namespace Go.AM.R1
section
variable {H:Type} {P:Program}
structure Ac.Ok (a:Ac):Prop where
 f:a.f.Ok
 t1:-9223372036854775808≤a.tick
 t2:a.tick≤9223372036854775807
 n1:-9223372036854775808≤a.node
 n2:a.node≤9223372036854775807
theorem dec_bact {n:Nat} {t e:TypeId} {g1 g2 g3 g4 f1 f2 f3 f4 f5:Field} (hs:P.underlying t=some (.struct #[g1,g2,g3,g4])) (h1:P.underlying g1.type=some (.int .i64)) (h2:P.underlying g2.type=some (.int .i64)) (h3:P.underlying g3.type=some .bool) (i:IsFr P g4.type f1 f2 f3 f4 f5 e) {d:DataW H} {cs:List AVal} (h:Dec P (n+4) t d cs):∃ r:Ac,cs=encAc r∧r.Ok:=by
 rw [Dec,hs] at h
 obtain ⟨parts,ass,-,rfl,hf⟩:=h
 obtain ⟨p1,ps1,a1,as1,rfl,rfl,r1,hf⟩:=fieldsR_cons hf
 obtain ⟨p2,ps2,a2,as2,rfl,rfl,r2,hf⟩:=fieldsR_cons hf
 obtain ⟨p3,ps3,a3,as3,rfl,rfl,r3,hf⟩:=fieldsR_cons hf
 obtain ⟨p4,ps4,a4,as4,rfl,rfl,r4,hf⟩:=fieldsR_cons hf
 obtain ⟨rfl,rfl⟩:=fieldsR_nil hf
 simp only [Dec,h1] at r1
 simp only [Dec,h2] at r2
 simp only [Dec,h3] at r3
 obtain ⟨v1,-,w1,rfl⟩:=r1
 obtain ⟨v2,-,w2,rfl⟩:=r2
 obtain ⟨b3,-,rfl⟩:=r3
 obtain ⟨f,rfl,hfo⟩:=dec_frame i r4
 exact ⟨⟨v1,v2,b3,f⟩,by simp [encAc,encFr,u8v],⟨hfo,(wf64 w1).1,(wf64 w1).2,(wf64 w2).1,(wf64 w2).2⟩⟩
theorem decV_bacts {n:Nat} {s t e:TypeId} {g1 g2 g3 g4 f1 f2 f3 f4 f5:Field} (hu:P.underlying s=some (.slice t)) (hs:P.underlying t=some (.struct #[g1,g2,g3,g4])) (h1:P.underlying g1.type=some (.int .i64)) (h2:P.underlying g2.type=some (.int .i64)) (h3:P.underlying g3.type=some .bool) (i:IsFr P g4.type f1 f2 f3 f4 f5 e) {d:DataW H} {a:AVal} (h:DecV P (n+5) s d a) :
  ∃ (nl fu:Bool) (l:List Ac),a=.imm nl fu true (l.map encAc)∧(∀ x∈l,x.Ok)∧l.length≤9223372036854775807:=by
 unfold DecV at h
 rw [if_neg (by simp [isAggT,hu])] at h
 rw [Dec,hu] at h
 rcases h with ⟨-,h⟩ | ⟨elems,spare,rows,-,h,h2',h3'⟩
 ·exact ⟨true,true,[],by simpa [nilS] using h,by simp,by simp⟩
 ·obtain ⟨l,rfl,hl⟩:=rows_map encAc Ac.Ok (all2_forall (Q:=fun b=>∃ r:Ac,b=encAc r∧r.Ok) (fun a b hab=>dec_bact hs h1 h2 h3 i hab) h2')
  exact ⟨false,false,l,by simpa using h,hl,by simpa [maxLen] using h3'⟩
theorem decV_pair {n:Nat} {t:TypeId} {g1 g2:Field} (hs:P.underlying t=some (.struct #[g1,g2])) (h1:P.underlying g1.type=some (.int .i64)) (h2:P.underlying g2.type=some (.int .i64)) {d:DataW H} {a:AVal} (h:DecV P (n+2) t d a) :
  ∃ x y:Int,a=.agg [.lit (.int .i64 x),.lit (.int .i64 y)]∧(-9223372036854775808≤x∧x≤9223372036854775807)∧(-9223372036854775808≤y∧y≤9223372036854775807):=by
 unfold DecV at h
 rw [if_pos (by simp [isAggT,hs])] at h
 obtain ⟨cs,rfl,h⟩:=h
 rw [Dec,hs] at h
 obtain ⟨parts,ass,-,rfl,hf⟩:=h
 obtain ⟨p1,ps1,a1,as1,rfl,rfl,r1,hf⟩:=fieldsR_cons hf
 obtain ⟨p2,ps2,a2,as2,rfl,rfl,r2,hf⟩:=fieldsR_cons hf
 obtain ⟨rfl,rfl⟩:=fieldsR_nil hf
 simp only [Dec,h1] at r1
 simp only [Dec,h2] at r2
 obtain ⟨v1,-,w1,rfl⟩:=r1
 obtain ⟨v2,-,w2,rfl⟩:=r2
 exact ⟨v1,v2,rfl,wf64 w1,wf64 w2⟩
end
end Go.AM.R1
open Go Go.AM Go.AM.R1 Go.Proofs
namespace Go.Proofs.YtefpgafgpanpfaaGreat
open Go.ChangeShapes Go.WideShapes Go.ChangeAt Go.RowKit
namespace busAlike
theorem own:ownKnob Tryz.prog.godebug=none:=by kernel_rfl
theorem laidOut:laidOutB Tryz.prog=true:=by kernel_rfl
theorem mixed:Tryz.prog.follows .mixedOrders=true:=by kernel_rfl
set_option maxRecDepth 100000 in
theorem contract (H:Type) (enc:TypeId × Value→H) (W:World) (base:Nat) (args:Array Value) (ds gs:List (DataW H)) (before:List MemPlace)
  (hval:∀ (j:Nat) t v,Tryz.f4.params[j]?=some t→args[j]?=some v→Value.okWide Tryz.prog W .any base t v)
  (hW:DataW.Whole enc Tryz.prog Tryz.f4.params.toList Rows.busAlikeSpec.vars false W args.toList ds gs before) :
  Calls Tryz.prog 4 args W fun e W'=>∃ v,e=.returned v∧Rows.busAlikeSpec.post enc Tryz.prog Tryz.f4 false true false false W args v W':=by
 refine law_contract (id:=4) (f:=Tryz.f4) (s:=Rows.busAlikeSpec) (k:=7) (nargs:=3) (base:=base) (ds:=ds) (gs:=gs) (before:=before) mixed libs_ok R1.hE laidOut ?e1 ?e2 (tb:=4) ?e3 Tryz.underlying4 ?e4 ?e5 ?e7 ?e8 ?e6
 case e7=>exact hval
 case e8=>exact hW
 case e1=>rfl
 case e3=>kernel_rfl
 case e4=>rw [Tryz.params4];rfl
 ·rw [Tryz.params4];decide +kernel
 ·intro ds h
  match ds,h with
  | [d1,d2,d3],_=>rfl
 ·intro cs hA
  rw [Tryz.params4] at hA
  obtain ⟨d1,r1,a1,s1,rfl,rfl,h1,hA⟩:=decArgs_cons hA
  obtain ⟨d2,r2,a2,s2,rfl,rfl,h2,hA⟩:=decArgs_cons hA
  obtain ⟨d3,r3,a3,s3,rfl,rfl,h3,hA⟩:=decArgs_cons hA
  obtain ⟨rfl,rfl⟩:=decArgs_nil hA
  obtain ⟨n1,f1,l,rfl,hlo,-⟩:=decV_bacts (n:=2) Tryz.underlying22 Tryz.underlying53 Tryz.underlying3 Tryz.underlying3 Tryz.underlying4 ⟨Tryz.underlying42,Tryz.underlying3,Tryz.underlying4,Tryz.underlying4,Tryz.underlying3,Tryz.underlying40,Tryz.underlying5⟩ h1
  obtain ⟨v1,v2,rfl,-,-⟩:=decV_pair (n:=5) Tryz.underlying24 Tryz.underlying3 Tryz.underlying3 h2
  obtain ⟨vs,hvl,rfl,-⟩:=decV_ints (n:=5) Tryz.underlying58 Tryz.underlying3 h3
  match vs,hvl with
  | [u1,u2],_ =>
   obtain ⟨n,hn⟩:=(call_iff R1.E).1 (busAlike_spec l (fun x hx=>(hlo x hx).f) n1 f1 v1 v2 u1 u2)
   exact ⟨n,_,hn⟩

set_option maxRecDepth 100000 in
theorem lifted (os:Os) (started:os.Started) (H:Type) (enc:TypeId × Value→H) :
  ReturnsInHanded {} Tryz.checked os 4 .any (Rows.busAlikeSpec.pre6 enc Tryz.prog Tryz.f4 Rows.busAlikeRow.domain false) (Rows.busAlikeSpec.post enc Tryz.prog Tryz.f4 false true false false):=by
 refine returnsInHanded_of_change (C:=Tryz.checked) own started (by kernel_rfl) Tryz.func4
  (ChangeSpec.witness6 (enc:=enc) (C:=Tryz.checked) false ⟨#[],#[.slice none 0 0,.agg #[.int .i64 0,.int .i64 0],.agg #[.int .i64 0,.int .i64 0]],[]⟩ 8 (by kernel_rfl) (by kernel_rfl) (by kernel_rfl) (by kernel_rfl)) ?_
 intro W base args ds gs before hval hW _ _
 exact contract H enc W base args ds gs before hval hW

theorem proved:Rows.BusAlikeSaid :=
 OpenClaim.holds_of_wide 4 Tryz.f4 rfl rfl rfl rfl rfl rfl rfl ⟨rfl,rfl,rfl,rfl,rfl⟩ rfl rfl rfl rfl rfl (by kernel_rfl) Tryz.func4 (by kernel_rfl)
  (of_decide_eq_true (by kernel_rfl)) (by unfold Func.isWrapper;first | (rw [if_pos (by decide +kernel)];kernel_rfl) | (rw [if_neg (by decide +kernel)];exact ⟨rfl,rfl⟩))
  (fun os started H enc _=>lifted os started H enc)
end busAlike
theorem busAlikeProved:Rows.BusAlikeSaid:=busAlike.proved
end Go.Proofs.YtefpgafgpanpfaaGreat
