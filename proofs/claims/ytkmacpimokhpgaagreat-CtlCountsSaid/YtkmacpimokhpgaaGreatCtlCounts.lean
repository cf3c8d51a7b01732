/- The law CtlCounts of package magnetolaw10 returns true for every input, and its arguments read as before. -/
import Derived.Test.YtkmacpimokhpgaaGreatCtl3
import Derived.ProofKit
set_option linter.unusedVariables false
set_option linter.unusedSimpArgs false
open Go Go.AM
namespace Go.AM.R1
/-! ### Turns -/
structure Tn where
  put:Bool
  f:Fr
  lev:Int
def encTn (t:Tn):List AVal:=[.lit (.bool t.put),.lit (.int .i64 t.f.id),.lit (.bool t.f.ext),.lit (.bool t.f.rtr),.lit (.int .i64 t.f.len),.lit (.int .u8 t.f.d0),.lit (.int .u8 t.f.d1),.lit (.int .u8 t.f.d2),.lit (.int .u8 t.f.d3),.lit (.int .u8 t.f.d4),.lit (.int .u8 t.f.d5),.lit (.int .u8 t.f.d6),.lit (.int .u8 t.f.d7),.lit (.int .i64 t.lev)]
def levelP (t:Tn) (d:Bool):Bool:=if t.lev=0 then false else if t.lev=1 then true else d
theorem tlevel_spec (t:Tn) (d:Bool):call E (.func (.func 20) [] []) [.agg (encTn t),.lit (.int .i64 (lv d))] []=some (.lit (.int .i64 (lv (levelP t d))),[]):=by
  rw [call_func E E20]
  unfold levelP
  by_cases h0:t.lev=0
  · simp [go_sem,ir20,encTn,h0,lvF,purse_eq,List.range_succ]
  · by_cases h1:t.lev=1
    · simp [go_sem,ir20,encTn,h1,lvT,purse_eq,List.range_succ]
    · simp [go_sem,ir20,encTn,h0,h1,purse_eq,List.range_succ]
end Go.AM.R1
open Go Go.AM
namespace Go.AM.R1
/-! ### A node calms: how far it counts in each mode -/
structure KOk (n:Nd):Prop where
  k0:n.mode=0→n.k≤10
  k3:n.mode=3∨n.mode=5→n.k≤5
  k4:n.mode=4→n.k≤5
  k7:n.mode=7→1≤n.k∧n.k≤7
  k8:n.mode=8→n.k≤2
  k9:n.mode=9→n.k≤7
  k10:n.mode=10→n.k≤10
theorem KOk.zero {n:Nd} (h:n.k=0) (h7:n.mode≠7):KOk n:=⟨fun _=>by omega,fun _=>by omega,fun _=>by omega,fun q=>absurd q h7,fun _=>by omega,fun _=>by omega,fun _=>by omega⟩
theorem KOk.calm {n:Nd} (h:n.mode=1∨n.mode=2∨n.mode=6):KOk n:=⟨fun _=>by omega,fun _=>by omega,fun _=>by omega,fun _=>by omega,fun _=>by omega,fun _=>by omega,fun _=>by omega⟩
theorem KOk.of {m:Nd} {x y:Nat} (hx:m.mode=x) (hy:m.k=y) (h:(x=0→y≤10)∧(x=3∨x=5→y≤5)∧(x=4→y≤5)∧(x=7→1≤y∧y≤7)∧(x=8→y≤2)∧(x=9→y≤7)∧(x=10→y≤10)):KOk m:=by
  subst hx hy
  obtain ⟨h1,h2,h3,h4,h5,h6,h7⟩:=h
  exact ⟨h1,h2,h3,h4,h5,h6,h7⟩
theorem flag_mk (m:Nd) (st:Int):((flagN m st).mode=3∨(flagN m st).mode=4∨(flagN m st).mode=10)∧(flagN m st).k=0:=by
  refine ⟨?_,rfl⟩
  show (if st=0 then 3 else 4)=3∨(if st=0 then 3 else 4)=4∨(if st=0 then 3 else 4)=10
  split
  · exact .inl rfl
  · exact .inr (.inl rfl)
theorem fail_mk' (n:Nd) (kd:Nat) (c:Bool):((failN n kd c).2.mode=3∨(failN n kd c).2.mode=4∨(failN n kd c).2.mode=10)∧(failN n kd c).2.k=0:=by
  unfold failN
  rcases ch_cases n 1 with ⟨e,-⟩ | ⟨e,-⟩
  · rw [e]
    split
    · rw [if_neg (by simp)];exact ⟨.inr (.inr rfl),rfl⟩
    · exact flag_mk _ _
  · rw [e]
    split
    · rw [if_pos rfl];exact flag_mk _ _
    · exact flag_mk _ _
theorem fail_kok (n:Nd) (kd:Nat) (c:Bool):KOk (failN n kd c).2:=by
  obtain ⟨h1,h2⟩:=fail_mk' n kd c
  exact KOk.zero h2 (by omega)
theorem in_mk {n:Nd} (hm:n.mode=2) (b:Bool):(inN n b).2.2.mode=2∨((inN n b).2.2.k=0∧(inN n b).2.2.mode≠7):=by
  have fk:∀ kd c,(failN n kd c).2.mode=2∨((failN n kd c).2.k=0∧(failN n kd c).2.mode≠7):=fun kd c=>by
    obtain ⟨h1,h2⟩:=fail_mk' n kd c
    exact .inr ⟨h2,by omega⟩
  have tk:∀ b,(takeN n b).2.mode=2:=fun b=>by rw [(take_same n b).2.2.2.2.1,hm]
  have t2:(takeN { n with tx:=false,sends:=false } false).2.mode=2:=by rw [(take_same _ false).2.2.2.2.1];exact hm
  have nk:(nackN n).2.mode=2∨((nackN n).2.k=0∧(nackN n).2.mode≠7):=fk 8 _
  have sk:(sentN (takeN n true).2).mode=2∨((sentN (takeN n true).2).k=0∧(sentN (takeN n true).2).mode≠7):=.inr ⟨rfl,by show (8:Nat)≠7;omega⟩
  have ok:(overN n).2.mode=2∨((overN n).2.k=0∧(overN n).2.mode≠7):=.inr ⟨rfl,by show (5:Nat)≠7;omega⟩
  unfold inN
  repeat' split
  all_goals first | exact fk _ _ | exact nk | exact sk | exact ok | exact .inl (tk _) | exact .inl t2 | exact .inr ⟨rfl,by show (8:Nat)≠7;omega⟩
theorem kok_next {n:Nd} (h:KOk n) (hm:n.mode≤10) (b:Bool):KOk (nxN n b):=by
  have ch:∀ m:Nd,∀ w,(chN m w).1=true∧(chN m w).2.mode=m.mode∧(chN m w).2.k=m.k∨(chN m w).1=false∧(chN m w).2.mode=10∧(chN m w).2.k=0:=by
    intro m w
    rcases ch_cases m w with ⟨e,-⟩ | ⟨e,-⟩<;>rw [e]
    · exact .inr ⟨rfl,rfl,rfl⟩
    · exact .inl ⟨rfl,rfl,rfl⟩
  rcases step_modes n b hm with ⟨h0,e⟩ | ⟨h0,e⟩ | ⟨h0,e⟩ | ⟨h0,e⟩ | ⟨h0,e⟩ | ⟨h0,e⟩ | ⟨h0,e⟩ | ⟨h0,e⟩ | ⟨h0,e⟩ | ⟨h0,e⟩<;>rw [e]
  · have:=h.k0 h0
    unfold joinN;simp only [];repeat' split
    · exact KOk.zero rfl (by simp only [h0];omega)
    · exact KOk.calm (.inl rfl)
    · exact KOk.of (x:=n.mode) (y:=n.k+1) rfl rfl (by omega)
  · unfold idleN;repeat' split
    · exact KOk.calm (.inr (.inl rfl))
    · exact KOk.calm (.inl h0)
    · exact fail_kok _ _ _
  · rcases in_mk h0 b with q | ⟨q,q7⟩
    · exact KOk.calm (.inr (.inl q))
    · exact KOk.zero q q7
  · have hk:=h.k3 h0
    unfold domN;repeat' split
    · exact KOk.calm (.inr (.inr rfl))
    · exact KOk.of (x:=n.mode) (y:=n.k+1) rfl rfl (by omega)
    · exact KOk.calm (.inr (.inr rfl))
    · rename_i q1 q2
      rcases ch n 8 with ⟨g1,g2,g3⟩ | ⟨g1,g2,g3⟩
      · exact KOk.of (x:=n.mode) (y:=n.k+1) g2 rfl (by omega)
      · rw [g1] at q1;cases q1
    · rename_i q1
      rcases ch n 8 with ⟨g1,g2,g3⟩ | ⟨g1,g2,g3⟩
      · exact absurd g1 q1
      · exact KOk.zero g3 (fun q=>absurd (g2.symm.trans q) (by decide))
  · have hk:=h.k4 h0
    have hp:pasK n b≤6:=by unfold pasK;split<;>omega
    have g:=ch { n with k:=pasK n b,lvl:=b,owed:=false } 8
    simp only [] at g
    unfold pasN;repeat' split
    · exact KOk.calm (.inr (.inr rfl))
    · rcases g with ⟨g1,g2,g3⟩ | ⟨g1,g2,g3⟩
      · exact KOk.of (x:=n.mode) (y:=pasK n b) g2 g3 (by omega)
      · exact KOk.zero g3 (fun q=>absurd (g2.symm.trans q) (by decide))
    · rename_i q1
      rcases g with ⟨g1,g2,g3⟩ | ⟨g1,g2,g3⟩
      · exact absurd g1 q1
      · exact KOk.zero g3 (fun q=>absurd (g2.symm.trans q) (by decide))
    · exact KOk.calm (.inr (.inr rfl))
    · exact KOk.of (x:=n.mode) (y:=pasK n b) rfl rfl (by omega)
  · have g:=ch { n with k:=n.k+1 } 8
    simp only [] at g
    unfold waitN;repeat' split
    · exact KOk.of (x:=7) (y:=1) rfl rfl (by omega)
    · exact KOk.calm (.inr (.inr h0))
    · rcases g with ⟨g1,g2,g3⟩ | ⟨g1,g2,g3⟩
      · exact KOk.calm (.inr (.inr (g2.trans h0)))
      · exact KOk.zero g3 (fun q=>absurd (g2.symm.trans q) (by decide))
    · rename_i q1
      rcases g with ⟨g1,g2,g3⟩ | ⟨g1,g2,g3⟩
      · exact absurd g1 q1
      · exact KOk.zero g3 (fun q=>absurd (g2.symm.trans q) (by decide))
    · exact KOk.calm (.inr (.inr h0))
  · have hk:=h.k7 h0
    unfold closeN;repeat' split
    · exact KOk.zero rfl (by show (8:Nat)≠7;omega)
    · exact KOk.of (x:=n.mode) (y:=n.k+1) rfl rfl (by omega)
    · exact KOk.zero rfl (by show (5:Nat)≠7;omega)
    · exact fail_kok _ _ _
  · have hk:=h.k8 h0
    unfold pausN pauseN;repeat' split
    · exact KOk.of (x:=n.mode) (y:=n.k+1) rfl rfl (by omega)
    · exact KOk.zero rfl (by show (9:Nat)≠7;omega)
    · exact KOk.zero rfl (by show (1:Nat)≠7;omega)
    · exact KOk.zero rfl (by show (5:Nat)≠7;omega)
    · exact KOk.calm (.inr (.inl rfl))
  · have hk:=h.k9 h0
    unfold sspN suspN;repeat' split
    · exact KOk.zero rfl (by show (1:Nat)≠7;omega)
    · exact KOk.of (x:=n.mode) (y:=n.k+1) rfl rfl (by omega)
    · exact KOk.calm (.inr (.inl rfl))
  · have hk:=h.k10 h0
    have:offK n b≤11:=by unfold offK;split<;>omega
    unfold offN;repeat' split
    · exact KOk.calm (.inl rfl)
    · exact KOk.zero rfl (by show n.mode≠7;omega)
    · exact KOk.calm (.inl rfl)
    · exact KOk.of (x:=n.mode) (y:=offK n b) rfl rfl (by omega)
theorem kok_nd0:KOk nd0:=KOk.zero rfl (by decide)
end Go.AM.R1
open Go Go.AM
namespace Go.AM.R1
/-! ### What a step does to a node's counts -/
structure CtF (n:Nd) (x:List Nat × Nd):Prop where
  te:x.2.ct.te≤n.ct.te+8
  gone:10∈x.1↔x.2.mode=10
  back:¬ 11∈x.1
  new:x.2.mode=10→x.2.k=0∧x.2.rows=0
theorem CtF.quiet {n m:Nd} {ks:List Nat} (h1:m.ct.te≤n.ct.te+8) (h2:m.mode≠10) (h3:¬ 10∈ks) (h4:¬ 11∈ks):CtF n (ks,m):=⟨h1,⟨fun q=>absurd q h3,fun q=>absurd q h2⟩,h4,fun q=>absurd q h2⟩
theorem txE_te (c:Ct):c.txE.te≤c.te+8:=by
  unfold Ct.txE
  split
  · omega
  · split
    · show 256≤_;omega
    · exact Nat.le_refl _
theorem rxE_te (c:Ct) (w:Nat):(c.rxE w).te≤c.te+8:=by
  unfold Ct.rxE
  split
  · omega
  · show c.te≤_;omega
theorem chCt_te (n:Nd) (w:Nat):(chCt n w).te≤n.ct.te+8:=by
  unfold chCt
  split
  · exact txE_te _
  · exact rxE_te _ _
theorem fail_ctf {n m:Nd} (hm:m.ct=n.ct) (kd:Nat) (hk:kd≠10∧kd≠11) (c:Bool):CtF n (failN m kd c):=by
  have ht:=chCt_te m 1
  rw [hm] at ht
  have fl:∀ (m':Nd) (st:Int),m'.ct.te≤n.ct.te+8→CtF n ([kd],flagN m' st):=by
    intro m' st h
    have hf:=(flag_mk m' st).1
    refine CtF.quiet h ?_ (by simp;omega) (by simp;omega)
    show (if st=0 then 3 else 4)≠10
    split<;>omega
  unfold failN
  rcases ch_cases m 1 with ⟨e,-⟩ | ⟨e,-⟩
  · rw [e]
    split
    · rw [if_neg (by simp)]
      exact ⟨ht,⟨fun _=>rfl,fun _=>by simp⟩,by simp;omega,fun _=>⟨rfl,rfl⟩⟩
    · exact fl m _ (by rw [hm];omega)
  · rw [e]
    split
    · rw [if_pos rfl];exact fl _ _ ht
    · exact fl m _ (by rw [hm];omega)
theorem ch_ctf (n:Nd) (w:Nat):((chN n w).1=true∧(chN n w).2.mode=n.mode∧(chN n w).2.ct.te≤n.ct.te+8)∨((chN n w).1=false∧(chN n w).2.mode=10∧(chN n w).2.k=0∧(chN n w).2.rows=0∧(chN n w).2.ct.te≤n.ct.te+8):=by
  have ht:=chCt_te n w
  rcases ch_cases n w with ⟨e,-⟩ | ⟨e,-⟩<;>rw [e]
  · exact .inr ⟨rfl,rfl,rfl,rfl,ht⟩
  · exact .inl ⟨rfl,rfl,ht⟩
theorem in_ctf {n:Nd} (hm:n.mode=2) (b:Bool):CtF n ((inN n b).1,(inN n b).2.2):=by
  have tk:∀ b ks,¬ 10∈ks→¬ 11∈ks→CtF n (ks,(takeN n b).2):=fun b ks h1 h2=>by
    have t:=take_same n b
    exact CtF.quiet (by rw [t.2.2.1];omega) (by rw [t.2.2.2.2.1];omega) h1 h2
  have t2:CtF n ([3],(takeN { n with tx:=false,sends:=false } false).2):=by
    have t:=take_same { n with tx:=false,sends:=false } false
    exact CtF.quiet (by rw [t.2.2.1];show n.ct.te≤_;omega) (by rw [t.2.2.2.2.1];show n.mode≠10;omega) (by simp) (by simp)
  have fk:∀ kd c,kd≠10∧kd≠11→CtF n (failN n kd c):=fun kd c h=>fail_ctf rfl kd h c
  have nk:CtF n (nackN n):=by
    have h:=fk 8 (!decide (n.ct.state=1)) (by omega)
    exact ⟨h.te,h.gone,h.back,h.new⟩
  have sk:CtF n ([1],sentN (takeN n true).2):=by
    have t:=take_same n true
    refine CtF.quiet ?_ (by show (8:Nat)≠10;omega) (by simp) (by simp)
    show (Ct.sent (takeN n true).2.ct).te≤_
    rw [t.2.2.1]
    unfold Ct.sent
    split
    · omega
    · show n.ct.te - 1≤_;omega
  have ok:CtF n (overN n):=CtF.quiet (by show n.ct.te≤_;omega) (by show (5:Nat)≠10;omega) (by simp) (by simp)
  have rk:CtF n ([2],{ (takeN n true).2 with ct:=n.ct.recv }):=by
    have t:=take_same n true
    refine CtF.quiet ?_ (by show (takeN n true).2.mode≠10;rw [t.2.2.2.2.1];omega) (by simp) (by simp)
    show (Ct.recv n.ct).te≤_
    unfold Ct.recv
    split
    · omega
    · show n.ct.te≤_;omega
  have lk8:CtF n ([],{ (takeN n true).2 with mode:=8,k:=0 }):=by
    have t:=take_same n true
    refine CtF.quiet ?_ (by show (8:Nat)≠10;omega) (by simp) (by simp)
    show (takeN n true).2.ct.te≤_
    rw [t.2.2.1];omega
  unfold inN
  repeat' split
  all_goals first | exact fk 4 true (by omega) | exact fk 5 true (by omega) | exact fk 5 false (by omega) | exact fk 6 true (by omega) | exact fk 7 true (by omega) | exact nk | exact sk | exact ok | exact rk | exact lk8 | exact t2 | exact tk _ [] (by simp) (by simp)
theorem dom_ctf (n:Nd) (h0:n.mode=3∨n.mode=5) (b:Bool):CtF n (domN n b):=by
  have g:=ch_ctf n 8
  unfold domN
  split
  · split
    · exact CtF.quiet (by show n.ct.te≤_;omega) (by show (6:Nat)≠10;omega) (by simp) (by simp)
    · exact CtF.quiet (by show n.ct.te≤_;omega) (by show n.mode≠10;omega) (by simp) (by simp)
  · split
    · rename_i q
      rcases g with ⟨g1,g2,g3⟩ | ⟨g1,-⟩
      · split
        · exact CtF.quiet g3 (by show (6:Nat)≠10;omega) (by simp) (by simp)
        · exact CtF.quiet g3 (by show (chN n 8).2.mode≠10;omega) (by simp) (by simp)
      · rw [g1] at q;cases q
    · rename_i q
      rcases g with ⟨g1,-⟩ | ⟨g1,g2,g3,g4,g5⟩
      · exact absurd g1 q
      · exact ⟨g5,⟨fun _=>g2,fun _=>by simp⟩,by simp,fun _=>⟨g3,g4⟩⟩
theorem pas_ctf (n:Nd) (h0:n.mode=4) (b:Bool):CtF n (pasN n b):=by
  have g:=ch_ctf { n with k:=pasK n b,lvl:=b,owed:=false } 8
  simp only [] at g
  unfold pasN
  split
  · split
    · rename_i q
      rcases g with ⟨g1,g2,g3⟩ | ⟨g1,-⟩
      · split
        · exact CtF.quiet g3 (by show (6:Nat)≠10;omega) (by simp) (by simp)
        · exact CtF.quiet g3 (by omega) (by simp) (by simp)
      · rw [g1] at q;cases q
    · rename_i q
      rcases g with ⟨g1,-⟩ | ⟨g1,g2,g3,g4,g5⟩
      · exact absurd g1 q
      · exact ⟨g5,⟨fun _=>g2,fun _=>by simp⟩,by simp,fun _=>⟨g3,g4⟩⟩
  · split
    · exact CtF.quiet (by show n.ct.te≤_;omega) (by show (6:Nat)≠10;omega) (by simp) (by simp)
    · exact CtF.quiet (by show n.ct.te≤_;omega) (by show n.mode≠10;omega) (by simp) (by simp)
/-- What a step of a node that is not off does to its counts. -/
theorem ctf_next {n:Nd} (hm:n.mode≤9) (b:Bool):CtF n ((stepN n b).1,nxN n b):=by
  have hs:(stepN n b).1=(stepN n b).1:=rfl
  have hc:n.mode=0∨n.mode=1∨n.mode=2∨n.mode=3∨n.mode=4∨n.mode=5∨n.mode=6∨n.mode=7∨n.mode=8∨n.mode=9:=by omega
  have nf:∀ {x:List Nat × Nd},stepN n b=noFr x→CtF n x→CtF n ((stepN n b).1,nxN n b):=fun e h=>by
    unfold nxN;rw [e];exact h
  rcases hc with h0 | h0 | h0 | h0 | h0 | h0 | h0 | h0 | h0 | h0
  · refine nf (x:=joinN n b) (by unfold stepN;rw [h0];rfl) ?_
    unfold joinN
    repeat' split
    all_goals exact CtF.quiet (by show n.ct.te≤_;omega) (by first | (show n.mode≠10;omega) | (show (1:Nat)≠10;omega)) (by simp) (by simp)
  · refine nf (x:=idleN n b) (by unfold stepN;rw [h0];rfl) ?_
    unfold idleN
    split
    · exact CtF.quiet (by show n.ct.te≤_;omega) (by show (2:Nat)≠10;omega) (by simp) (by simp)
    · split
      · exact CtF.quiet (by omega) (by omega) (by simp) (by simp)
      · exact fail_ctf (n:=n) (m:={ n with tx:=true }) rfl 4 (by omega) true
  · have e:stepN n b=inN n b:=by unfold stepN;rw [h0];rfl
    have:=in_ctf h0 b
    unfold nxN;rw [e];exact this
  all_goals skip
  · refine nf (x:=domN n b) (by unfold stepN;rw [h0];rfl) ?_
    exact dom_ctf n (.inl h0) b
  · refine nf (x:=pasN n b) (by unfold stepN;rw [h0];rfl) ?_
    exact pas_ctf n h0 b
  · refine nf (x:=domN n b) (by unfold stepN;rw [h0];rfl) ?_
    exact dom_ctf n (.inr h0) b
  · refine nf (x:=waitN n b) (by unfold stepN;rw [h0];rfl) ?_
    unfold waitN
    have g:=ch_ctf { n with k:=n.k+1 } 8
    simp only [] at g
    have hc8:=chCt_te n 8
    repeat' split
    · exact CtF.quiet (by show n.ct.te≤_;omega) (by show (7:Nat)≠10;omega) (by simp) (by simp)
    · exact CtF.quiet (by show (chCt n 8).te≤_;omega) (by show n.mode≠10;omega) (by simp) (by simp)
    · rename_i q
      rcases g with ⟨g1,g2,g3⟩ | ⟨g1,-⟩
      · exact CtF.quiet g3 (by omega) (by simp) (by simp)
      · rw [g1] at q;cases q
    · rename_i q
      rcases g with ⟨g1,-⟩ | ⟨g1,g2,g3,g4,g5⟩
      · exact absurd g1 q
      · exact ⟨g5,⟨fun _=>g2,fun _=>by simp⟩,by simp,fun _=>⟨g3,g4⟩⟩
    · exact CtF.quiet (by show n.ct.te≤_;omega) (by show n.mode≠10;omega) (by simp) (by simp)
  · refine nf (x:=closeN n b) (by unfold stepN;rw [h0];rfl) ?_
    unfold closeN
    repeat' split
    · exact CtF.quiet (by show n.ct.te≤_;omega) (by show (8:Nat)≠10;omega) (by simp) (by simp)
    · exact CtF.quiet (by show n.ct.te≤_;omega) (by show n.mode≠10;omega) (by simp) (by simp)
    · exact CtF.quiet (by show n.ct.te≤_;omega) (by show (5:Nat)≠10;omega) (by simp) (by simp)
    · exact fail_ctf rfl 7 (by omega) true
  · refine nf (x:=pausN n b) (by unfold stepN;rw [h0];rfl) ?_
    unfold pausN pauseN
    repeat' split
    · exact CtF.quiet (by show n.ct.te≤_;omega) (by show n.mode≠10;omega) (by simp) (by simp)
    · exact CtF.quiet (by show n.ct.te≤_;omega) (by show (9:Nat)≠10;omega) (by simp) (by simp)
    · exact CtF.quiet (by show n.ct.te≤_;omega) (by show (1:Nat)≠10;omega) (by simp) (by simp)
    · exact CtF.quiet (by show n.ct.te≤_;omega) (by show (5:Nat)≠10;omega) (by simp) (by simp)
    · exact CtF.quiet (by show n.ct.te≤_;omega) (by show (2:Nat)≠10;omega) (by simp) (by simp)
  · refine nf (x:=sspN n b) (by unfold stepN;rw [h0];rfl) ?_
    unfold sspN suspN
    repeat' split
    · exact CtF.quiet (by show n.ct.te≤_;omega) (by show (1:Nat)≠10;omega) (by simp) (by simp)
    · exact CtF.quiet (by show n.ct.te≤_;omega) (by show n.mode≠10;omega) (by simp) (by simp)
    · exact CtF.quiet (by show n.ct.te≤_;omega) (by show (2:Nat)≠10;omega) (by simp) (by simp)
end Go.AM.R1
open Go Go.AM
namespace Go.AM.R1
def sq1:ICode→ICode | .seq x _=>x | c=>c
def sq2:ICode→ICode | .seq _ y=>y | c=>c
def blC:ICode→ICode | .block _ c=>c | c=>c
def sqN:Nat→ICode→ICode | 0,c=>c | n+1,c=>sqN n (sq2 c)
def ccL:ICode:=L5_0
def ccBody:ICode:=blC (sq1 (sq2 ccL))
def ccInc:ICode:=sq2 (sq2 ccL)
abbrev ccK (k:List Item):List Item:=.inBlock 1::.code ccInc::.inLoop [0,1,5,6,7,8] L5_0::.inBlock 0::k
/-- What a step of a node that is off does. -/
theorem off_cases {n:Nd} (h:n.mode=10) (hr:n.rows≤127) (b:Bool) :
    (offK n b=11∧n.rows=127∧evN n b=[(11,Fr.zero)]∧nxN n b={ n with ct:=Ct.zero,tx:=false,mode:=1,k:=0,rows:=128 }) ∨
    (offK n b=11∧n.rows<127∧evN n b=[]∧nxN n b={ n with k:=0,rows:=n.rows+1 }) ∨
    (¬ offK n b=11∧evN n b=[]∧nxN n b={ n with k:=offK n b }):=by
  have e:stepN n b=noFr (offN n b):=by unfold stepN;rw [h];rfl
  unfold evN nxN
  rw [e]
  unfold offN noFr
  by_cases q:offK n b=11
  · rw [if_pos q]
    by_cases q2:n.rows+1=128
    · rw [if_pos q2]
      exact .inl ⟨q,by omega,rfl,rfl⟩
    · rw [if_neg q2]
      exact .inr (.inl ⟨q,by omega,rfl,rfl⟩)
  · rw [if_neg q,if_neg (by omega)]
    exact .inr (.inr ⟨q,rfl,rfl⟩)
set_option maxHeartbeats 8000000 in
theorem cc_tailA (lv0 lv1:AVal) (h00:refsV lv0=[]) (h01:refsV lv1=[]) (i:Nat) (hi:i≤10000) (r w:Int) (na nb:Nd) (b:Bool) (hoa:na.ct.off=false) (k:List Item) (Q:Option (AVal × Heap))
    (hih:∀ (r' w':Int) H fs,NodeAt H 0 nb fs→(nb.ct.off=true→r'=0∧w'=0)→finK 0 [.tmp 4] (run E 0 (.code L5_0::.inLoop [0,1,5,6,7,8] L5_0::.inBlock 0::k) [(0,lv0),(1,lv1),(5,.ptr 0 0),(6,.lit (.int .i64 r')),(7,.lit (.int .i64 w')),(8,.lit (.int .i64 ((i:Int)+1)))] H)=Q) :
    ∀ H fs τ b10 b14,NodeAt H 0 nb fs→Ext H fs b10 (.box (lookC na))→Ext H fs b14 (.box (lookC nb))→lk 0 τ=lv0→lk 1 τ=lv1→lk 5 τ=.ptr 0 0→lk 6 τ=.lit (.int .i64 r)→lk 7 τ=.lit (.int .i64 w)→lk 8 τ=.lit (.int .i64 i)→lk 10 τ=.ptr b10 0→lk 11 τ=.lit (.int .i64 (lv b))→lk 14 τ=.ptr b14 0→lk 15 τ=.lit (.bool false)→lk 16 τ=.lit (.bool nb.ct.off) →
    finK 0 [.tmp 4] (run E 0 (.code (sqN 11 ccBody)::ccK k) τ H)=Q:=by
  intro H fs τ b10 b14 h x10 x14 t0 t1 t5 t6 t7 t8 t10 t11 t14 t15 t16
  have w1:=wrapIdx (i:=i) (by omega)
  have hre:=reach_p1 h
  have g10:=x10.get
  have g14:=x14.get
  have ccE:=(rfl:ccL=L5_0).trans L5_0.eq_1
  have ih:=hih 0 0 _ fs (nodeAt_sw1 h) (fun _=>⟨rfl,rfl⟩)
  simp [lookC] at g10 g14 w1
  cases ho:nb.ct.off
  · rw [ho] at t16 g14
    simp [ccBody,ccInc,sqN,sq1,sq2,blC,go_sem,ccE,t0,t1,t5,t6,t7,t8,t10,t11,t14,t15,t16,g10,g14,hoa,w1]
    rw [run_inLoop']
    simp [go_sem,t0,t1,t5,t6,t7,t8,h00,h01,hre]
    exact ih
  · rw [ho] at t16 g14
    simp [ccBody,ccInc,sqN,sq1,sq2,blC,go_sem,ccE,t0,t1,t5,t6,t7,t8,t10,t11,t14,t15,t16,g10,g14,hoa,w1]
    rw [run_inLoop']
    simp [go_sem,t0,t1,t5,t6,t7,t8,h00,h01,hre]
    exact ih
set_option maxHeartbeats 8000000 in
theorem cc_tailB (lv0 lv1:AVal) (h00:refsV lv0=[]) (h01:refsV lv1=[]) (i:Nat) (hi:i≤10000) (na:Nd) (b:Bool) (hma:na.mode=10) (hka:na.k≤10) (hra:na.rows≤127) (hoa:na.ct.off=true) (k:List Item) (Q:Option (AVal × Heap))
    (hih:∀ (r' w':Int) H fs,NodeAt H 0 (nxN na b) fs→((nxN na b).ct.off=true→r'=(nxN na b).k∧w'=(nxN na b).rows)→finK 0 [.tmp 4] (run E 0 (.code L5_0::.inLoop [0,1,5,6,7,8] L5_0::.inBlock 0::k) [(0,lv0),(1,lv1),(5,.ptr 0 0),(6,.lit (.int .i64 r')),(7,.lit (.int .i64 w')),(8,.lit (.int .i64 ((i:Int)+1)))] H)=Q) :
    ∀ H fs τ b10 b14 bk,NodeAt H 0 (nxN na b) fs→Ext H fs b10 (.box (lookC na))→Ext H fs b14 (.box (lookC (nxN na b)))→lk 0 τ=lv0→lk 1 τ=lv1→lk 5 τ=.ptr 0 0→lk 6 τ=.lit (.int .i64 na.k)→lk 7 τ=.lit (.int .i64 na.rows)→lk 8 τ=.lit (.int .i64 i)→lk 10 τ=.ptr b10 0→lk 11 τ=.lit (.int .i64 (lv b))→lk 14 τ=.ptr b14 0→lk 15 τ=.lit (.bool bk)→lk 16 τ=.lit (.bool false)→bk=decide (evN na b≠[]) →
    finK 0 [.tmp 4] (run E 0 (.code (sqN 11 ccBody)::ccK k) τ H)=Q:=by
  intro H fs τ b10 b14 bk h x10 x14 t0 t1 t5 t6 t7 t8 t10 t11 t14 t15 t16 hbk
  have w1:=wrapIdx (i:=i) (by omega)
  have w2:=wrapIdx (i:=na.k) (by omega)
  have w3:=wrapIdx (i:=na.rows) (by omega)
  have hre:=reach_p1 h
  have g10:=x10.get
  have g14:=x14.get
  have ccE:=(rfl:ccL=L5_0).trans L5_0.eq_1
  simp [lookC,hoa] at g10
  simp at w1 w2 w3
  rcases off_cases hma hra b with ⟨q1,q2,q3,q4⟩ | ⟨q1,q2,q3,q4⟩ | ⟨q1,q3,q4⟩
  · have hb:b=true:=by unfold offK at q1;by_cases q:b=true;exact q;rw [if_neg q] at q1;cases q1
    have hk10:na.k=10:=by unfold offK at q1;rw [if_pos hb] at q1;omega
    have ih:=hih 0 128 _ fs (nodeAt_sw1 h) (fun q=>by rw [q4] at q;cases q)
    rw [q3] at hbk
    rw [q4] at g14
    simp [lookC,Ct.zero] at g14 hbk
    rw [hbk] at t15
    rw [hb,lvT] at t11
    simp [hk10,q2] at t6 t7 w2 w3
    simp [ccBody,ccInc,sqN,sq1,sq2,blC,go_sem,ccE,t0,t1,t5,t6,t7,t8,t10,t11,t14,t15,t16,g10,g14,w1,w2,w3]
    rw [run_inLoop']
    simp [go_sem,t0,t1,t5,t6,t7,t8,h00,h01,hre]
    exact ih
  · have hb:b=true:=by unfold offK at q1;by_cases q:b=true;exact q;rw [if_neg q] at q1;cases q1
    have hk10:na.k=10:=by unfold offK at q1;rw [if_pos hb] at q1;omega
    have ih:=hih 0 (na.rows+1:Nat) _ fs (nodeAt_sw1 h) (fun q=>by rw [q4];exact ⟨rfl,rfl⟩)
    have n128:((na.rows:Int)+1=128)=False:=eq_false (by omega)
    rw [q3] at hbk
    rw [q4] at g14
    simp [lookC,hoa] at g14 hbk
    rw [hbk] at t15
    rw [hb,lvT] at t11
    simp [hk10] at t6 w2
    simp at ih
    simp [ccBody,ccInc,sqN,sq1,sq2,blC,go_sem,ccE,t0,t1,t5,t6,t7,t8,t10,t11,t14,t15,t16,g10,g14,w1,w2,w3,n128]
    rw [run_inLoop']
    simp [go_sem,t0,t1,t5,t6,t7,t8,h00,h01,hre]
    exact ih
  · have n128:((na.rows:Int)=128)=False:=eq_false (by omega)
    rw [q3] at hbk
    rw [q4] at g14
    simp [lookC,hoa] at g14 hbk
    rw [hbk] at t15
    cases hb:b
    · rw [hb,lvF] at t11
      have ih:=hih 0 na.rows _ fs (nodeAt_sw1 h) (fun q=>by rw [q4];unfold offK;rw [hb];exact ⟨rfl,rfl⟩)
      simp [ccBody,ccInc,sqN,sq1,sq2,blC,go_sem,ccE,t0,t1,t5,t6,t7,t8,t10,t11,t14,t15,t16,g10,g14,w1,w2,w3,n128]
      rw [run_inLoop']
      simp [go_sem,t0,t1,t5,t6,t7,t8,h00,h01,hre]
      exact ih
    · rw [hb,lvT] at t11
      have hn11:¬ na.k+1=11:=by unfold offK at q1;rw [if_pos hb] at q1;exact q1
      have n11:((na.k:Int)+1=11)=False:=eq_false (by omega)
      have ih:=hih (na.k+1:Nat) na.rows _ fs (nodeAt_sw1 h) (fun q=>by rw [q4];unfold offK;rw [hb];exact ⟨rfl,rfl⟩)
      simp at ih
      simp [ccBody,ccInc,sqN,sq1,sq2,blC,go_sem,ccE,t0,t1,t5,t6,t7,t8,t10,t11,t14,t15,t16,g10,g14,w1,w2,w3,n128,n11]
      rw [run_inLoop']
      simp [go_sem,t0,t1,t5,t6,t7,t8,h00,h01,hre]
      exact ih
/-- Whether an event of a kind is among these. -/
def anyK (kd:Nat) (l:List (Nat × Fr)):Bool:=l.any fun e=>decide (e.1=kd)
theorem anyK_take (kd:Nat) (es:List (Nat × Fr)) (j:Nat) (hj:j<es.length):anyK kd (es.take (j+1))=(anyK kd (es.take j) || decide (es[j].1=kd)):=by
  rw [List.take_succ_eq_append_getElem hj];unfold anyK;rw [List.any_append,List.any_cons,List.any_nil,Bool.or_false]
set_option maxHeartbeats 4000000 in
theorem cc_loop1 (lv0 lv1:AVal) (h00:refsV lv0=[]) (h01:refsV lv1=[]) (r w iv bv:AVal) (hr:refsV r=[]) (hw:refsV w=[]) (hiv:refsV iv=[]) (hbv:refsV bv=[]) (nb:Nd) (b10 b14 ix:Nat) (e10 e14:List AVal) (hf10:refsL e10=[]) (hf14:refsL e14=[]) (hd1:b10≠b14) (hd2:b10≠ix) (hd3:ix≠b14) (es:List (Nat × Fr)) (hes:es.length≤1000) (he0:es≠[]) (k:List Item) (Q:Option (AVal × Heap))
    (hk:∀ H fs τ,NodeAt H 0 nb fs→Ext H fs b10 (.box e10)→Ext H fs b14 (.box e14)→lk 0 τ=lv0→lk 1 τ=lv1→lk 5 τ=.ptr 0 0→lk 6 τ=r→lk 7 τ=w→lk 8 τ=iv→lk 10 τ=.ptr b10 0→lk 11 τ=bv→lk 14 τ=.ptr b14 0→lk 15 τ=.lit (.bool (anyK 11 es))→lk 16 τ=.lit (.bool (anyK 10 es))→finK 0 [.tmp 4] (run E 0 k τ H)=Q) :
    ∀ (d j:Nat),j+d=es.length→∀ H fs,NodeAt H 0 nb fs→Ext H fs b10 (.box e10)→Ext H fs b14 (.box e14)→Ext H fs ix (.arr true false false 15 (es.map encEv)) →
    finK 0 [.tmp 4] (run E 0 (.code L5_1::.inLoop [0,1,5,6,7,8,10,11,12,14,15,16,17] L5_1::.inBlock 2::k) [(0,lv0),(1,lv1),(5,.ptr 0 0),(6,r),(7,w),(8,iv),(10,.ptr b10 0),(11,bv),(12,.own ix es.length 15 0 es.length),(14,.ptr b14 0),(15,.lit (.bool (anyK 11 (es.take j)))),(16,.lit (.bool (anyK 10 (es.take j)))),(17,.lit (.int .i64 j))] H)=Q:=by
  intro d
  induction d with
  | zero =>
    intro j hj H fs h x10 x14 xe
    have:j=es.length:=by omega
    subst this
    rw [List.take_length]
    simp [go_sem,run_codeL E L5_1.eq_1]
    exact hk H fs _ h x10 x14 (by simp [lk]) (by simp [lk]) (by simp [lk]) (by simp [lk]) (by simp [lk]) (by simp [lk]) (by simp [lk]) (by simp [lk]) (by simp [lk]) (by simp [lk]) (by simp [lk])
  | succ d ih =>
    intro j hj H fs h x10 x14 xe
    have hlt:j<es.length:=by omega
    have w3:=wrapIdx (i:=j) (by omega)
    have hnd:=nodeAt_nodup h
    have hre:=reach_mix h [] [b10,ix,b14] (by
      intro c hc
      simp at hc
      rcases hc with q | q | q
      · subst q;exact ⟨_,x10.get,hf10⟩
      · subst q;exact ⟨_,xe.get,rfl⟩
      · subst q;exact ⟨_,x14.get,hf14⟩) (by
      rw [List.nil_append,List.nodup_append]
      refine ⟨hnd,by simp [hd1,hd2,hd3],?_⟩
      intro x hx y hy q
      subst q
      simp at hy
      rcases hy with q | q | q
      · subst q;exact x10.out hx
      · subst q;exact xe.out hx
      · subst q;exact x14.out hx) (by simp)
    have ih2:=ih (j+1) (by omega) (sweep ([]++fs++[b10,ix,b14]) 0 H) fs (nodeAt_sweep h (by intro i hi;simp [hi])) (ext_sweep x10 (by simp)) (ext_sweep x14 (by simp)) (ext_sweep xe (by simp))
    rw [anyK_take 11 es j hlt,anyK_take 10 es j hlt] at ih2
    have hg:(es.map encEv)[j]?=some (encEv es[j]):=by rw [List.getElem?_map,List.getElem?_eq_getElem hlt];rfl
    have hml:(es.map encEv).length=es.length:=by simp
    have gx:=xe.get
    generalize es[j]=e at *
    generalize es.map encEv=rows at *
    have hg2:∀ (q:j<rows.length),rows[j]=encEv e:=fun q=>(List.getElem?_eq_some_iff.1 hg).2
    have h11:((e.1:Int)=11)=(e.1=11):=propext (by omega)
    have h10:((e.1:Int)=10)=(e.1=10):=propext (by omega)
    simp at w3 ih2 hre
    generalize anyK 11 (es.take j)=p at *
    generalize anyK 10 (es.take j)=q at *
    cases p<;>cases q <;>
    simp at ih2 <;>
    simp [go_sem,run_codeL E L5_1.eq_1,w3,hlt,hg,hg2,hml,gx,encEv,h10,h11] <;>
    rw [run_inLoop'] <;>
    simp [go_sem,h00,h01,hr,hw,hiv,hbv,hre] <;>
    exact ih2
theorem cc_nil (lv0 lv1 r w iv bv:AVal) (nb:Nd) (b10 b14:Nat) (k:List Item) (Q:Option (AVal × Heap)) (H:Heap)
    (hk:∀ τ,lk 0 τ=lv0→lk 1 τ=lv1→lk 5 τ=.ptr 0 0→lk 6 τ=r→lk 7 τ=w→lk 8 τ=iv→lk 10 τ=.ptr b10 0→lk 11 τ=bv→lk 14 τ=.ptr b14 0→lk 15 τ=.lit (.bool false)→lk 16 τ=.lit (.bool false)→finK 0 [.tmp 4] (run E 0 k τ H)=Q) :
    finK 0 [.tmp 4] (run E 0 (.code L5_1::.inLoop [0,1,5,6,7,8,10,11,12,14,15,16,17] L5_1::.inBlock 2::k) [(0,lv0),(1,lv1),(5,.ptr 0 0),(6,r),(7,w),(8,iv),(10,.ptr b10 0),(11,bv),(12,nilS),(14,.ptr b14 0),(15,.lit (.bool false)),(16,.lit (.bool false)),(17,.lit (.int .i64 0))] H)=Q:=by
  simp [go_sem,run_codeL E L5_1.eq_1,nilS]
  exact hk _ (by simp [lk]) (by simp [lk]) (by simp [lk]) (by simp [lk]) (by simp [lk]) (by simp [lk]) (by simp [lk]) (by simp [lk]) (by simp [lk]) (by simp [lk]) (by simp [lk])
theorem anyK_evs (kd:Nat) (ks:List Nat) (f:Fr):anyK kd (evsOf ks f)=decide (kd∈ks):=by
  unfold anyK evsOf
  induction ks with
  | nil=>rfl
  | cons a r ih =>
    rw [List.map_cons,List.any_cons,ih]
    by_cases q:a=kd
    · simp [q]
    · simp [q,show ¬ kd=a from fun g=>q g.symm]
theorem fail_len (n:Nd) (kd:Nat) (c:Bool):(failN n kd c).1.length≤2:=by
  unfold failN;repeat' split
  all_goals simp
theorem ks_len (n:Nd) (b:Bool):(stepN n b).1.length≤2:=by
  have hf:=fail_len n
  have hf2:=fail_len { n with tx:=true } 4 true
  have hn:(nackN n).1.length≤2:=hf 8 _
  unfold stepN
  split
  · exact Nat.zero_le _
  · unfold idleN;repeat' split
    · exact Nat.zero_le _
    · exact Nat.zero_le _
    · exact hf2
  · unfold inN;repeat' split
    all_goals first | exact hf 4 true | exact hf 5 true | exact hf 5 false | exact hf 6 true | exact hf 7 true | exact hn | (show ([]:List Nat).length≤2;simp;done) | (simp;done) | (unfold overN;simp;done)
  · unfold domN;repeat' split
    all_goals (simp [noFr])
  · unfold pasN;repeat' split
    all_goals (simp [noFr])
  · unfold domN;repeat' split
    all_goals (simp [noFr])
  · unfold waitN;repeat' split
    all_goals (simp [noFr])
  · unfold closeN overN;repeat' split
    all_goals first | exact hf 7 true | simp [noFr]
  · unfold pausN pauseN overN;repeat' split
    all_goals (simp [noFr])
  · unfold sspN suspN;repeat' split
    all_goals (simp [noFr])
  · unfold offN;repeat' split
    all_goals (simp [noFr])
theorem evs_len (n:Nd) (b:Bool):(evN n b).length≤2:=by
  unfold evN evsOf;rw [List.length_map];exact ks_len n b
/-- The events of a step, and what becomes of being off. -/
theorem flags {n:Nd} (hI:n.Inv) (b:Bool) (ho:n.ct.off=false):anyK 10 (evN n b)=(nxN n b).ct.off∧anyK 11 (evN n b)=false:=by
  have hm:n.mode≤9:=by
    have:=hI.off;rw [ho] at this
    have h2:=hI.mode
    have:¬ n.mode=10:=by intro q;rw [decide_eq_true q] at this;cases this
    omega
  have hc:=ctf_next hm b
  unfold evN
  rw [anyK_evs,anyK_evs]
  refine ⟨?_,decide_eq_false hc.back⟩
  rw [(inv_next hI b).off]
  have:=hc.gone
  simp only [this]
theorem te_next {n:Nd} (hI:n.Inv) (b:Bool):(nxN n b).ct.te≤n.ct.te+8:=by
  by_cases h:n.mode=10
  · rcases off_cases h (hI.r10 h) b with ⟨-,-,-,q⟩ | ⟨-,-,-,q⟩ | ⟨-,-,q⟩<;>rw [q]
    · show (0:Nat)≤_;omega
    · show n.ct.te≤_;omega
    · show n.ct.te≤_;omega
  · exact (ctf_next (by have:=hI.mode;omega) b).te
set_option maxHeartbeats 16000000 in
theorem cc_main (lv0 lv1:AVal) (h00:refsV lv0=[]) (h01:refsV lv1=[]) (i:Nat) (hi:i≤10000) (r w:Int) (t:Tn) (na:Nd) (hI:na.Inv) (hK:KOk na) (hkk:na.k≤10000) (hrw:na.ct.off=true→r=na.k∧w=na.rows) (k:List Item) (Q:Option (AVal × Heap))
    (hih:∀ (r' w':Int) (nb:Nd) H fs,NodeAt H 0 nb fs→nb.Inv→KOk nb→nb.k≤na.k+1→(nb.ct.off=true→r'=nb.k∧w'=nb.rows)→finK 0 [.tmp 4] (run E 0 (.code L5_0::.inLoop [0,1,5,6,7,8] L5_0::.inBlock 0::k) [(0,lv0),(1,lv1),(5,.ptr 0 0),(6,.lit (.int .i64 r')),(7,.lit (.int .i64 w')),(8,.lit (.int .i64 ((i:Int)+1)))] H)=Q) :
    ∀ H fs τ b9,NodeAt H 0 na fs→Ext H fs b9 (.box (encTn t))→lk 0 τ=lv0→lk 1 τ=lv1→lk 5 τ=.ptr 0 0→lk 6 τ=.lit (.int .i64 r)→lk 7 τ=.lit (.int .i64 w)→lk 8 τ=.lit (.int .i64 i)→lk 9 τ=.ptr b9 0 →
    finK 0 [.tmp 4] (run E 0 (.code (sqN 2 ccBody)::ccK k) τ H)=Q:=by
  intro H fs τ b9 h x9 t0 t1 t5 t6 t7 t8 t9
  have ccE:=(rfl:ccL=L5_0).trans L5_0.eq_1
  obtain ⟨H1,hl1,h1,a1⟩:=look_at h hI.ok
  have y9:=ext_append (x9.around a1) [.box (lookC na)]
  have h1':=nodeAt_append h1 [.box (lookC na)]
  have x10:=ext_new h1 (.box (lookC na))
  obtain ⟨b10,hb10⟩:∃ b10,b10=H1.length:=⟨_,rfl⟩
  obtain ⟨H1',hH1'⟩:∃ X,X=H1++[.box (lookC na)]:=⟨_,rfl⟩
  rw [← hb10] at x10
  rw [← hH1'] at y9 h1' x10
  obtain ⟨H2,hd1,h2,a2⟩:=drive_at h1' hI
  have y92:=y9.around a2
  have x102:=x10.around a2
  have hL:=tlevel_spec t (drN na)
  obtain ⟨b,hb⟩:∃ b,b=levelP t (drN na):=⟨_,rfl⟩
  rw [← hb] at hL
  have g9a:=y9.get
  have g9b:=y92.get
  have g10:=x102.get
  have hInb:=inv_next hI b
  have hKnb:=kok_next hK hI.mode b
  have hknb:=k_next na b hI.mode
  have hcc:=ccheck_spec (nxN na b).ct hInb.ok.ct
  have hte:=te_next hI b
  have hte1:=hI.ok.ct
  have hoff:=hInb.off
  have hfl:=flags hI b
  have hlen:=evs_len na b
  have hte2:=hI.ok.ct.t
  have hob:anyK 10 (evN na b)=(if na.ct.off=true then false else (nxN na b).ct.off)∧anyK 11 (evN na b)=(if na.ct.off=true then decide (evN na b≠[]) else false):=by
    by_cases ho:na.ct.off=true
    · have hm10:na.mode=10:=by have:=hI.off;rw [ho] at this;exact of_decide_eq_true this.symm
      rw [if_pos ho,if_pos ho]
      rcases off_cases hm10 (hI.r10 hm10) b with ⟨-,-,q,-⟩ | ⟨-,-,q,-⟩ | ⟨-,q,-⟩<;>rw [q]<;>exact ⟨rfl,rfl⟩
    · rw [if_neg ho,if_neg ho]
      exact hfl (by cases h:na.ct.off;rfl;exact absurd h ho)
  -- what follows the step
  have rest:∀ (Hs:Heap) (fss:List Nat),NodeAt Hs 0 na fss→Ext Hs fss b10 (.box (lookC na))→∀ τ,lk 0 τ=lv0→lk 1 τ=lv1→lk 5 τ=.ptr 0 0→lk 6 τ=.lit (.int .i64 r)→lk 7 τ=.lit (.int .i64 w)→lk 8 τ=.lit (.int .i64 i)→lk 10 τ=.ptr b10 0→lk 11 τ=.lit (.int .i64 (lv b)) →
      finK 0 [.tmp 4] (run E 0 (.code (sqN 5 ccBody)::ccK k) τ Hs)=Q:=by
    intro Hs fss hs xs10 τ t0 t1 t5 t6 t7 t8 t10 t11
    obtain ⟨H3,fs3,ix,hst,h3,a3,hix⟩:=step_at hs hI (by omega) b
    have z10:=xs10.around a3
    have xix:evN na b≠[]→Ext H3 fs3 ix (.arr true false false 15 ((evN na b).map encEv)):=fun q=>⟨(hix q).1,(hix q).2.2⟩
    have lix:evN na b≠[]→Hs.length≤ix:=fun q=>(hix q).2.1
    obtain ⟨H4,hl4,h4,a4⟩:=look_at h3 hInb.ok
    have z104:=ext_append (z10.around a4) [.box (lookC (nxN na b))]
    have xix4:evN na b≠[]→Ext (H4++[.box (lookC (nxN na b))]) fs3 ix (.arr true false false 15 ((evN na b).map encEv)):=fun q=>ext_append ((xix q).around a4) _
    have h4':=nodeAt_append h4 [.box (lookC (nxN na b))]
    have x14:=ext_new h4 (.box (lookC (nxN na b)))
    obtain ⟨b14,hb14⟩:∃ b14,b14=H4.length:=⟨_,rfl⟩
    rw [← hb14] at x14
    have lt10:b10<Hs.length:=xs10.lt
    have lt34:H3.length≤H4.length:=a4.len
    have ltix:evN na b≠[]→ix<H3.length:=fun q=>(xix q).lt
    have d1:b10≠b14:=by have:=z10.lt;omega
    have d2:evN na b≠[]→b10≠ix:=fun q=>by have:=lix q;omega
    have d3:evN na b≠[]→ix≠b14:=fun q=>by have:=ltix q;omega
    have tail:∀ H fs τ,NodeAt H 0 (nxN na b) fs→Ext H fs b10 (.box (lookC na))→Ext H fs b14 (.box (lookC (nxN na b)))→lk 0 τ=lv0→lk 1 τ=lv1→lk 5 τ=.ptr 0 0→lk 6 τ=.lit (.int .i64 r)→lk 7 τ=.lit (.int .i64 w)→lk 8 τ=.lit (.int .i64 i)→lk 10 τ=.ptr b10 0→lk 11 τ=.lit (.int .i64 (lv b))→lk 14 τ=.ptr b14 0→lk 15 τ=.lit (.bool (anyK 11 (evN na b)))→lk 16 τ=.lit (.bool (anyK 10 (evN na b))) →
        finK 0 [.tmp 4] (run E 0 (.code (sqN 11 ccBody)::ccK k) τ H)=Q:=by
      intro H fs τ h x10 x14 t0 t1 t5 t6 t7 t8 t10 t11 t14 t15 t16
      by_cases ho:na.ct.off=true
      · have hm10:na.mode=10:=by have:=hI.off;rw [ho] at this;exact of_decide_eq_true this.symm
        rw [if_pos ho,if_pos ho] at hob
        rw [hob.1] at t16
        rw [hob.2] at t15
        rw [(hrw ho).1] at t6
        rw [(hrw ho).2] at t7
        exact cc_tailB lv0 lv1 h00 h01 i hi na b hm10 (hK.k10 hm10) (hI.r10 hm10) ho k Q (fun r' w' H fs h q=>hih r' w' _ H fs h hInb hKnb hknb q) H fs τ b10 b14 _ h x10 x14 t0 t1 t5 t6 t7 t8 t10 t11 t14 t15 t16 rfl
      · have ho':na.ct.off=false:=by cases h:na.ct.off;rfl;exact absurd h ho
        rw [if_neg ho,if_neg ho] at hob
        rw [hob.1] at t16
        rw [hob.2] at t15
        have hm9:na.mode≤9:=by
          have h1:=hI.off;rw [ho'] at h1
          have h2:=hI.mode
          have:¬ na.mode=10:=by intro q;rw [decide_eq_true q] at h1;cases h1
          omega
        have hnew:=(ctf_next hm9 b).new
        refine cc_tailA lv0 lv1 h00 h01 i hi r w na (nxN na b) b ho' k Q (fun r' w' H fs h q=>hih r' w' _ H fs h hInb hKnb hknb (fun q2=>?_)) H fs τ b10 b14 h x10 x14 t0 t1 t5 t6 t7 t8 t10 t11 t14 t15 t16
        have hm10:(nxN na b).mode=10:=by have:=hInb.off;rw [q2] at this;exact of_decide_eq_true this.symm
        obtain ⟨p1,p2⟩:=hnew hm10
        obtain ⟨p3,p4⟩:=q q2
        have p1:(nxN na b).k=0:=p1
        have p2:(nxN na b).rows=0:=p2
        rw [p1,p2,p3,p4];exact ⟨rfl,rfl⟩
    have g10:=z104.get
    have g14:=x14.get
    have wte:=wrap64 (x:=(na.ct.te:Int)+8) (by omega) (by omega)
    have cte:((na.ct.te:Int)+8<((nxN na b).ct.te:Int))=False:=eq_false (by omega)
    have cof:(nxN na b).ct.off=decide (((nxN na b).mode:Int)=10):=by
      rw [hoff];congr 1;exact propext (by omega)
    have tl:∀ (H:Heap) (X:List Nat),(∀ i∈fs3,i∈X)→b10∈X→b14∈X→H=H4++[.box (lookC (nxN na b))]→∀ τ,lk 0 τ=lv0→lk 1 τ=lv1→lk 5 τ=.ptr 0 0→lk 6 τ=.lit (.int .i64 r)→lk 7 τ=.lit (.int .i64 w)→lk 8 τ=.lit (.int .i64 i)→lk 10 τ=.ptr b10 0→lk 11 τ=.lit (.int .i64 (lv b))→lk 14 τ=.ptr b14 0→lk 15 τ=.lit (.bool (anyK 11 (evN na b)))→lk 16 τ=.lit (.bool (anyK 10 (evN na b))) →
        finK 0 [.tmp 4] (run E 0 (.code (sqN 11 ccBody)::ccK k) τ (sweep X 0 H))=Q:=by
      intro H X q1 q2 q3 e τ
      rw [e]
      exact tail _ fs3 τ (nodeAt_sweep h4' q1) (ext_sweep z104 q2) (ext_sweep x14 q3)
    by_cases he:evN na b=[]
    · have hre:=reach_mix h4' [] [b10,b14] (by
        intro c hc
        simp at hc
        rcases hc with q | q
        · subst q;exact ⟨_,z104.get,rfl⟩
        · subst q;exact ⟨_,x14.get,rfl⟩) (by
        rw [List.nil_append,List.nodup_append]
        refine ⟨nodeAt_nodup h4',by simp [d1],?_⟩
        intro x hx y hy q
        subst q
        simp at hy
        rcases hy with q | q
        · subst q;exact z104.out hx
        · subst q;exact x14.out hx) (by simp)
      rw [he] at hst tl
      have hb14':H4.length=b14:=hb14.symm
      simp only [lookC] at hl4
      simp only [Ct.cells,cof] at hcc
      simp [lookC,cof] at g10 g14 hre
      simp [evV] at hst
      simp [ccBody,ccInc,sqN,sq1,sq2,blC,go_sem,ccE,t0,t1,t5,t6,t7,t8,t10,t11,hst,hl4,hb14',hcc,g10,g14,wte,cte,cof,nilS]
      rw [run_inLoop']
      simp [go_sem,t0,t1,t5,t6,t7,t8,t10,t11,h00,h01,hre]
      refine cc_nil lv0 lv1 _ _ _ _ (nxN na b) b10 b14 _ Q _ ?_
      intro τ u0 u1 u5 u6 u7 u8 u10 u11 u14 u15 u16
      exact tl _ (fs3++[b10,b14]) (fun i hi=>by simp [hi]) (by simp) (by simp) (by simp [lookC,cof]) τ u0 u1 u5 u6 u7 u8 u10 u11 u14 u15 u16
    · have hix4:=xix4 he
      have e1:=d2 he
      have e2:=d3 he
      have hre:=reach_mix h4' [] [b10,ix,b14] (by
        intro c hc
        simp at hc
        rcases hc with q | q | q
        · subst q;exact ⟨_,z104.get,rfl⟩
        · subst q;exact ⟨_,hix4.get,rfl⟩
        · subst q;exact ⟨_,x14.get,rfl⟩) (by
        rw [List.nil_append,List.nodup_append]
        refine ⟨nodeAt_nodup h4',by simp [d1,e1,e2],?_⟩
        intro x hx y hy q
        subst q
        simp at hy
        rcases hy with q | q | q
        · subst q;exact z104.out hx
        · subst q;exact hix4.out hx
        · subst q;exact x14.out hx) (by simp)
      have hl:=fun k hk=>cc_loop1 lv0 lv1 h00 h01 (.lit (.int .i64 r)) (.lit (.int .i64 w)) (.lit (.int .i64 i)) (.lit (.int .i64 (lv b))) rfl rfl rfl rfl (nxN na b) b10 b14 ix (lookC na) (lookC (nxN na b)) rfl rfl d1 e1 e2 (evN na b) (by omega) he k Q hk (evN na b).length 0 (by omega) _ fs3 (nodeAt_sweep (R:=fs3++[b10,ix,b14]) h4' (fun i hi=>by simp [hi])) (ext_sweep z104 (by simp)) (ext_sweep x14 (by simp)) (ext_sweep hix4 (by simp))
      unfold evV at hst
      rw [if_neg he] at hst
      have hb14':H4.length=b14:=hb14.symm
      rw [List.take_zero] at hl
      simp only [lookC] at hl4
      simp only [Ct.cells,cof] at hcc
      simp [lookC,cof] at g10 g14 hre
      simp [anyK] at hl
      generalize (evN na b).length=el at *
      simp only [lookC,cof] at hl
      simp [ccBody,ccInc,sqN,sq1,sq2,blC,go_sem,ccE,t0,t1,t5,t6,t7,t8,t10,t11,hst,hl4,hb14',hcc,g10,g14,wte,cte,cof]
      rw [run_inLoop']
      simp [go_sem,t0,t1,t5,t6,t7,t8,t10,t11,h00,h01,hre]
      refine hl _ ?_
      intro H fs τ h x10 x14 u0 u1 u5 u6 u7 u8 u10 u11 u14 u15 u16
      exact tail H fs τ h x10 (by simpa only [lookC,cof] using x14) u0 u1 u5 u6 u7 u8 u10 u11 u14 u15 u16
  have eR:sqN 2 ccBody=.seq (sq1 (sqN 2 ccBody)) (.seq (sq1 (sqN 3 ccBody)) (.seq (sq1 (sqN 4 ccBody)) (sqN 5 ccBody))):=rfl
  rw [eR]
  generalize sqN 5 ccBody=R at rest ⊢
  have hb10':H1.length=b10:=hb10.symm
  simp only [lookC] at hl1
  simp only [encTn] at hL
  simp [encTn] at g9a g9b
  simp [lookC] at g10
  have hfold:=hH1'.symm
  simp [lookC] at hfold
  have go:∀ τ,lk 0 τ=lv0→lk 1 τ=lv1→lk 5 τ=.ptr 0 0→lk 6 τ=.lit (.int .i64 r)→lk 7 τ=.lit (.int .i64 w)→lk 8 τ=.lit (.int .i64 i)→lk 10 τ=.ptr b10 0→lk 11 τ=.lit (.int .i64 (lv b))→finK 0 [.tmp 4] (run E 0 (.code R::ccK k) τ H2)=Q:=rest H2 fs h2 x102
  by_cases ho:na.ct.off=true
  · have hm10:na.mode=10:=by have:=hI.off;rw [ho] at this;exact of_decide_eq_true this.symm
    have hdt:drN na=true:=by unfold drN;rw [if_neg (by omega),if_neg (by omega),if_neg (by omega)]
    obtain ⟨H3,hd2,h3,a3⟩:=drive_at h2 hI
    have x103:=x102.around a3
    have go2:∀ τ,lk 0 τ=lv0→lk 1 τ=lv1→lk 5 τ=.ptr 0 0→lk 6 τ=.lit (.int .i64 r)→lk 7 τ=.lit (.int .i64 w)→lk 8 τ=.lit (.int .i64 i)→lk 10 τ=.ptr b10 0→lk 11 τ=.lit (.int .i64 (lv b))→finK 0 [.tmp 4] (run E 0 (.code R::ccK k) τ H3)=Q:=rest H3 fs h3 x103
    rw [hdt] at hd1 hd2 hL
    rw [ho] at hl1 g10 hfold
    simp [lvT] at hd1 hd2 hL
    simp [ccBody,sqN,sq1,sq2,blC,go_sem,ccE,t0,t1,t5,t6,t7,t8,t9,hl1,hb10',hfold,hd1,hd2,hL,g9a,g9b,g10,histK,calm]
    exact go2 _ (by simp [lk,t0]) (by simp [lk,t1]) (by simp [lk,t5]) (by simp [lk,t6]) (by simp [lk,t7]) (by simp [lk,t8]) (by simp [lk]) (by simp [lk])
  · have ho':na.ct.off=false:=by cases h:na.ct.off;rfl;exact absurd h ho
    rw [ho'] at hl1 g10 hfold
    simp [ccBody,sqN,sq1,sq2,blC,go_sem,ccE,t0,t1,t5,t6,t7,t8,t9,hl1,hb10',hfold,hd1,hL,g9a,g9b,g10,histK,calm]
    exact go _ (by simp [lk,t0]) (by simp [lk,t1]) (by simp [lk,t5]) (by simp [lk,t6]) (by simp [lk,t7]) (by simp [lk,t8]) (by simp [lk]) (by simp [lk])
theorem ccL_eq:L5_0=.seq (sq1 ccL) (.seq (.block 1 (.seq (sq1 ccBody) (.seq (sq1 (sq2 ccBody)) (sqN 2 ccBody)))) ccInc):=rfl
theorem kok_put {n:Nd} (h:KOk n) (f:Fr):KOk (nputN n f).2:=by
  unfold nputN
  split
  · exact h
  · split
    · exact h
    · exact ⟨h.k0,h.k3,h.k4,h.k7,h.k8,h.k9,h.k10⟩
theorem put_same (n:Nd) (f:Fr):(nputN n f).2.k=n.k∧(nputN n f).2.rows=n.rows∧(nputN n f).2.ct=n.ct:=by
  unfold nputN
  split
  · exact ⟨rfl,rfl,rfl⟩
  · split<;>exact ⟨rfl,rfl,rfl⟩
set_option maxHeartbeats 8000000 in
theorem cc_loop0 (ts:List Tn) (h3:ts.length≤300) (hok:∀ t∈ts,t.f.Ok) (n1 f1:Bool) (m:Nat) (hm:m≤12) (k:List Item) (Q:Option (AVal × Heap)) (hk:∀ τ H,finK 0 [.tmp 4] (run E 0 k τ H)=Q) :
    ∀ (d i:Nat),i+d=ts.length * m→∀ (r w:Int) H fs n,NodeAt H 0 n fs→n.Inv→KOk n→n.k≤i→(n.ct.off=true→r=n.k∧w=n.rows) →
    finK 0 [.tmp 4] (run E 0 (.code L5_0::.inLoop [0,1,5,6,7,8] L5_0::.inBlock 0::k) [(0,.imm n1 f1 true (ts.map encTn)),(1,.lit (.int .i64 m)),(5,.ptr 0 0),(6,.lit (.int .i64 r)),(7,.lit (.int .i64 w)),(8,.lit (.int .i64 i))] H)=Q:=by
  have ccE:=(rfl:ccL=L5_0).trans L5_0.eq_1
  have hN:ts.length * m≤3600:=by
    have:=Nat.mul_le_mul h3 hm
    omega
  have wm:IntKind.wrap .i64 ((ts.length:Int) * (m:Int))=((ts.length * m:Nat):Int):=by
    rw [show (ts.length:Int) * (m:Int)=((ts.length * m:Nat):Int) by push_cast;rfl]
    exact wrap64 (by omega) (by omega)
  intro d
  induction d with
  | zero =>
    intro i hi r w H fs n h hI hK hkk hrw
    have hlt:((i:Int)<((ts.length * m:Nat):Int))=False:=eq_false (by omega)
    generalize ts.length * m=N at *
    rw [run_codeL E ccL_eq]
    simp [ccE,sq1,go_sem,wm,hlt]
    exact hk _ _
  | succ d ih =>
    intro i hi r w H fs n h hI hK hkk hrw
    have hlt:((i:Int)<((ts.length * m:Nat):Int))=True:=eq_true (by omega)
    have hpos:0<ts.length:=by
      rcases Nat.eq_zero_or_pos ts.length with q | q
      · rw [q] at hi;omega
      · exact q
    have hrm:(i:Int).tmod (ts.length:Int)=((i % ts.length:Nat):Int):=by rw [Int.ofNat_tmod]
    have hix:i % ts.length<ts.length:=Nat.mod_lt _ hpos
    generalize i % ts.length=ix at hrm hix
    have hti:ts[ix]?=some ts[ix]:=List.getElem?_eq_getElem hix
    have hfo:=hok ts[ix] (List.getElem_mem _)
    generalize ts[ix]=t at hti hfo
    have ih2:=fun (r' w':Int) (nb:Nd) H fs h1 h2 h3 h4 h5=>ih (i+1) (by omega) r' w' H fs nb h1 h2 h3 (show nb.k≤i+1 from h4) h5
    have main:=fun (na:Nd) (hI:na.Inv) (hK:KOk na) (hkk:na.k≤i) (hrw:na.ct.off=true→r=na.k∧w=na.rows)=>cc_main (.imm n1 f1 true (ts.map encTn)) (.lit (.int .i64 m)) rfl rfl i (by omega) r w t na hI hK (by omega) hrw k Q (fun r' w' nb H fs h1 h2 h3 h4 h5=>by
      have:=ih2 r' w' nb H fs h1 h2 h3 (by omega) h5
      rwa [show ((i+1:Nat):Int)=(i:Int)+1 from by push_cast;rfl] at this)
    have h9:=nodeAt_append h [.box (encTn t)]
    have x9:=ext_new h (.box (encTn t))
    rw [run_codeL E ccL_eq]
    generalize sqN 2 ccBody=R at main ⊢
    have hz:¬ ts=[]:=by intro q;rw [q] at hpos;exact Nat.lt_irrefl _ hpos
    by_cases hp:t.put=true
    · obtain ⟨H1,fs1,hpu,h1,a1⟩:=put_at h9 hI.ok t.f
      obtain ⟨s1,s2,s3⟩:=put_same n t.f
      have go:=main (nputN n t.f).2 (inv_put hI hfo) (kok_put hK t.f) (by omega) (fun q=>by rw [s1,s2];exact hrw (by rw [← s3];exact q)) H1 fs1
      have x91:=x9.around a1
      have go2:=fun τ=>go τ H.length h1 x91
      simp [encTn,encFr,u8v] at hpu
      rw [hp] at hpu
      generalize ts.length * m=N at *
      simp [ccBody,ccE,sq1,sq2,blC,go_sem,wm,hlt,hz,hrm,hti,encTn,hp,hpu]
      exact go2 _ (by simp [lk]) (by simp [lk]) (by simp [lk]) (by simp [lk]) (by simp [lk]) (by simp [lk]) (by simp [lk])
    · have hp:t.put=false:=by cases h:t.put;rfl;exact absurd h hp
      have go2:=fun τ=>main n hI hK hkk hrw _ fs τ H.length h9 x9
      simp only [encTn] at go2
      rw [hp] at go2
      generalize ts.length * m=N at *
      simp [ccBody,ccE,sq1,sq2,blC,go_sem,wm,hlt,hz,hrm,hti,encTn,hp]
      exact go2 _ (by simp [lk]) (by simp [lk]) (by simp [lk]) (by simp [lk]) (by simp [lk]) (by simp [lk]) (by simp [lk])
set_option maxHeartbeats 4000000 in
theorem ctlCounts_spec (ts:List Tn) (hok:∀ t∈ts,t.f.Ok) (n1 f1:Bool) (mv:Int) :
    call E (.func (.func 5) [] []) [.imm n1 f1 true (ts.map encTn),.lit (.int .i64 mv)] []=some (.lit (.bool true),[]):=by
  have ha:=awake10
  have hn:=nnew_spec
  have h0:=nodeAt_can nd0 ⟨false,false,false,false,false⟩ []
  rw [List.append_nil] at h0
  have hre:=reach_p1 h0
  rw [call_func E E5]
  by_cases b1:(300:Int)<(ts.length:Int)
  · simp [go_sem,ir5,b1,ha]
  by_cases b2:mv<0
  · simp [go_sem,ir5,b1,b2,ha]
  by_cases b3:12<mv
  · simp [go_sem,ir5,b1,b2,b3,ha]
  obtain ⟨m,rfl⟩:∃ m:Nat,mv=m:=⟨mv.toNat,by omega⟩
  have hl0:=fun k hk=>cc_loop0 ts (by omega) hok n1 f1 m (by omega) k (some (.lit (.bool true),[])) hk (ts.length * m) 0 (by omega) 0 0 _ _ nd0 (nodeAt_sw1 h0) nd0_inv kok_nd0 (by decide) (fun q=>by cases q)
  have b3':¬ 12<m:=by omega
  simp at hl0
  simp [go_sem,ir5,b1,b2,b3,b3',hn,back_new,nilS]
  rw [run_inLoop']
  simp [go_sem,hre]
  refine hl0 _ ?_
  intro τ H
  simp [go_sem,ha]
end Go.AM.R1
open Go Go.AM Go.Proofs
namespace Go.AM.R1
section
variable {H:Type} {P:Program}
/-- A turn of a node. -/
theorem dec_turn {n:Nat} {t e:TypeId} {g1 g2 g3 f1 f2 f3 f4 f5:Field} (hs:P.underlying t=some (.struct #[g1,g2,g3])) (h1:P.underlying g1.type=some .bool) (i:IsFr P g2.type f1 f2 f3 f4 f5 e) (h3:P.underlying g3.type=some (.int .i64)) {d:DataW H} {cs:List AVal} (h:Dec P (n+4) t d cs):∃ r:Tn,cs=encTn r∧r.f.Ok:=by
  rw [Dec,hs] at h
  obtain ⟨parts,ass,-,rfl,hf⟩:=h
  obtain ⟨p1,ps1,a1,as1,rfl,rfl,r1,hf⟩:=fieldsR_cons hf
  obtain ⟨p2,ps2,a2,as2,rfl,rfl,r2,hf⟩:=fieldsR_cons hf
  obtain ⟨p3,ps3,a3,as3,rfl,rfl,r3,hf⟩:=fieldsR_cons hf
  obtain ⟨rfl,rfl⟩:=fieldsR_nil hf
  simp only [Dec,h1] at r1
  simp only [Dec,h3] at r3
  obtain ⟨b1,-,rfl⟩:=r1
  obtain ⟨f,rfl,hfo⟩:=dec_frame i r2
  obtain ⟨v3,-,w3,rfl⟩:=r3
  exact ⟨⟨b1,f,v3⟩,by simp [encTn,encFr,u8v],hfo⟩
theorem decV_turns {n:Nat} {s t e:TypeId} {g1 g2 g3 f1 f2 f3 f4 f5:Field} (hu:P.underlying s=some (.slice t)) (hs:P.underlying t=some (.struct #[g1,g2,g3])) (h1:P.underlying g1.type=some .bool) (i:IsFr P g2.type f1 f2 f3 f4 f5 e) (h3:P.underlying g3.type=some (.int .i64)) {d:DataW H} {a:AVal} (h:DecV P (n+5) s d a) :
    ∃ (nl fu:Bool) (l:List Tn),a=.imm nl fu true (l.map encTn)∧(∀ t∈l,t.f.Ok)∧l.length≤9223372036854775807:=by
  unfold DecV at h
  rw [if_neg (by simp [isAggT,hu])] at h
  rw [Dec,hu] at h
  rcases h with ⟨-,h⟩ | ⟨elems,spare,rows,-,h,h2,h3'⟩
  · exact ⟨true,true,[],by simpa [nilS] using h,by simp,by simp⟩
  · obtain ⟨l,rfl,hl⟩:=rows_map encTn (fun t=>t.f.Ok) (all2_forall (Q:=fun b=>∃ r:Tn,b=encTn r∧r.f.Ok) (fun a b hab=>dec_turn hs h1 i h3 hab) h2)
    exact ⟨false,false,l,by simpa using h,hl,by simpa [maxLen] using h3'⟩
end
end Go.AM.R1
open Go Go.AM Go.AM.R1 Go.Proofs
namespace Go.Proofs.YtkmacpimokhpgaaGreat
open Go.ChangeShapes Go.WideShapes Go.ChangeAt Go.RowKit
namespace ctlCounts
theorem own:ownKnob Tryz.prog.godebug=none:=by kernel_rfl
theorem laidOut:laidOutB Tryz.prog=true:=by kernel_rfl
theorem mixed:Tryz.prog.follows .mixedOrders=true:=by kernel_rfl
set_option maxRecDepth 100000 in
theorem contract (H:Type) (enc:TypeId × Value→H) (W:World) (base:Nat) (args:Array Value) (ds gs:List (DataW H)) (before:List MemPlace)
    (hval:∀ (j:Nat) t v,Tryz.f5.params[j]?=some t→args[j]?=some v→Value.okWide Tryz.prog W .any base t v)
    (hW:DataW.Whole enc Tryz.prog Tryz.f5.params.toList Rows.ctlCountsSpec.vars false W args.toList ds gs before) :
    Calls Tryz.prog 5 args W fun e W'=>∃ v,e=.returned v∧Rows.ctlCountsSpec.post enc Tryz.prog Tryz.f5 false true false false W args v W':=by
  refine law_contract (id:=5) (f:=Tryz.f5) (s:=Rows.ctlCountsSpec) (k:=7) (nargs:=2) (base:=base) (ds:=ds) (gs:=gs) (before:=before) mixed libs_ok R1.hE laidOut ?e1 ?e2 (tb:=4) ?e3 Tryz.underlying4 ?e4 ?e5 ?e7 ?e8 ?e6
  case e7=>exact hval
  case e8=>exact hW
  case e1=>rfl
  case e3=>kernel_rfl
  case e4=>rw [Tryz.params5];rfl
  · rw [Tryz.params5];decide +kernel
  · intro ds h
    match ds,h with
    | [d1,d2],_=>rfl
  · intro cs hA
    rw [Tryz.params5] at hA
    obtain ⟨d1,r1,a1,s1,rfl,rfl,h1,hA⟩:=decArgs_cons hA
    obtain ⟨d2,r2,a2,s2,rfl,rfl,h2,hA⟩:=decArgs_cons hA
    obtain ⟨rfl,rfl⟩:=decArgs_nil hA
    obtain ⟨n1,f1,ts,rfl,hfo,-⟩:=decV_turns (n:=2) Tryz.underlying46 Tryz.underlying50 Tryz.underlying4 ⟨Tryz.underlying32,Tryz.underlying3,Tryz.underlying4,Tryz.underlying4,Tryz.underlying3,Tryz.underlying30,Tryz.underlying5⟩ Tryz.underlying3 h1
    obtain ⟨mv,-,hw2,rfl⟩:=decV_int (n:=6) Tryz.underlying3 h2
    obtain ⟨n,hn⟩:=(call_iff R1.E).1 (ctlCounts_spec ts hfo n1 f1 mv)
    exact ⟨n,_,hn⟩

set_option maxRecDepth 100000 in
theorem lifted (os:Os) (started:os.Started) (H:Type) (enc:TypeId × Value→H) :
    ReturnsInHanded {} Tryz.checked os 5 .any (Rows.ctlCountsSpec.pre6 enc Tryz.prog Tryz.f5 Rows.ctlCountsRow.domain false) (Rows.ctlCountsSpec.post enc Tryz.prog Tryz.f5 false true false false):=by
  refine returnsInHanded_of_change (C:=Tryz.checked) own started (by kernel_rfl) Tryz.func5
    (ChangeSpec.witness6 (enc:=enc) (C:=Tryz.checked) false ⟨#[],#[.slice none 0 0,.int .i64 0],[]⟩ 8 (by kernel_rfl) (by kernel_rfl) (by kernel_rfl) (by kernel_rfl)) ?_
  intro W base args ds gs before hval hW _ _
  exact contract H enc W base args ds gs before hval hW

theorem proved:Rows.CtlCountsSaid :=
  OpenClaim.holds_of_wide 5 Tryz.f5 rfl rfl rfl rfl rfl rfl rfl ⟨rfl,rfl,rfl,rfl,rfl⟩ rfl rfl rfl rfl rfl (by kernel_rfl) Tryz.func5 (by kernel_rfl)
    (of_decide_eq_true (by kernel_rfl)) (by unfold Func.isWrapper;first | (rw [if_pos (by decide +kernel)];kernel_rfl) | (rw [if_neg (by decide +kernel)];exact ⟨rfl,rfl⟩))
    (fun os started H enc _=>lifted os started H enc)
end ctlCounts
theorem ctlCountsProved:Rows.CtlCountsSaid:=ctlCounts.proved
end Go.Proofs.YtkmacpimokhpgaaGreat
