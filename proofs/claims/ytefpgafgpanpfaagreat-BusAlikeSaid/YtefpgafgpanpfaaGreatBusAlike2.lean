/- The law BusAlike of package magnetolaw11 returns true for every input, and its arguments read as before. -/
import Derived.Test.YtefpgafgpanpfaaGreatBusAlike1
set_option linter.unusedVariables false
set_option linter.unusedSimpArgs false
open Go Go.AM
namespace Go.AM.R1
def cmpL:List Bool→List Bool→Int
 | [],[]=>0
 | [],_::_=>-1
 | _::_,[]=>1
 | x::a,y::b=>if x=y then cmpL a b else if y=true then -1 else 1
theorem isNaN_spec (n:Int):call E (.func (.func 141) [] []) [.lit (.int .i64 n)] []=some (.lit (.bool false),[]):=by
 rw [call_func E E141]
 simp [go_sem,ir141]
theorem ccompare_spec (x y:Bool):call E (.func (.func 115) [] []) [.lit (.int .i64 (lv x)),.lit (.int .i64 (lv y))] []=some (.lit (.int .i64 (if x=y then 0 else if y=true then -1 else 1)),[]):=by
 rw [call_func E E115]
 cases x<;>cases y<;>simp [go_sem,ir115,isNaN_spec,lv]
set_option maxHeartbeats 1000000 in
theorem scompare_loop (l m:List Bool) (hl:l.length≤1000000) (hm:m.length≤1000000) (n1 f1 n2 f2:Bool) (k:List Item) (R:Int→Option (AVal × Heap))
    (hk:∀ τ,lk 0 τ=.imm n1 f1 true (l.map encLv)→lk 1 τ=.imm n2 f2 true (m.map encLv)→l.length≤m.length→finK 0 [.tmp 4] (run E 0 k τ [])=R (if l.length<m.length then -1 else 0)) (hR:∀ c,R c=some (.lit (.int .i64 c),[])) :
    ∀ (d i:Nat),i+d=l.length→i≤m.length →
   finK 0 [.tmp 4] (run E 0 (.code L84_0::.inLoop [0,1,9,10,11] L84_0::.inBlock 0::k) [(0,.imm n1 f1 true (l.map encLv)),(1,.imm n2 f2 true (m.map encLv)),(9,.imm n1 f1 true (l.map encLv)),(10,.lit (.int .i64 l.length)),(11,.lit (.int .i64 i))] [])=R (cmpL (l.drop i) (m.drop i)):=by
  intro d
  induction d with
  | zero =>
    intro i hi him
    have:i=l.length:=by omega
    subst this
    have e:cmpL (l.drop l.length) (m.drop l.length)=if l.length<m.length then -1 else 0:=by
      rw [List.drop_length]
      by_cases h:l.length<m.length
      · rw [if_pos h,List.drop_eq_getElem_cons h];rfl
      · rw [if_neg h,List.drop_of_length_le (by omega)];rfl
    rw [e]
    simp [go_sem,run_codeL E L84_0.eq_1]
    exact hk _ (by simp [lk]) (by simp [lk]) him
  | succ d ih =>
    intro i hi him
    have hlt:i<l.length:=by omega
    have w:=wrapIdx (i:=i) (by omega)
    rw [List.drop_eq_getElem_cons hlt]
    by_cases hlt2:i<m.length
    · rw [List.drop_eq_getElem_cons hlt2]
      have hmi:¬ ((m.length:Int)≤i):=by omega
      have hcc:=ccompare_spec l[i] m[i]
      by_cases h:l[i]=m[i]
      · have e:cmpL (l[i]::l.drop (i+1)) (m[i]::m.drop (i+1))=cmpL (l.drop (i+1)) (m.drop (i+1)):=by rw [cmpL,if_pos h]
        rw [e]
        rw [if_pos h] at hcc
        have ih2:=ih (i+1) (by omega) (by omega)
        generalize R (cmpL (l.drop (i+1)) (m.drop (i+1)))=Q at ih2 ⊢
        simp at ih2 w
        simp [go_sem,run_codeL E L84_0.eq_1,hlt,hlt2,List.getElem?_eq_getElem hlt,List.getElem?_eq_getElem hlt2,encLv,hmi,hcc,w,purse_eq]
        rw [run_inLoop']
        simp [go_sem,purse_eq]
        exact ih2
      · have e:cmpL (l[i]::l.drop (i+1)) (m[i]::m.drop (i+1))=if m[i]=true then -1 else 1:=by rw [cmpL,if_neg h]
        rw [e,hR]
        rw [if_neg h] at hcc
        cases hmv:m[i]
        · rw [hmv] at hcc
          simp at hcc
          simp [go_sem,run_codeL E L84_0.eq_1,hlt,hlt2,List.getElem?_eq_getElem hlt,List.getElem?_eq_getElem hlt2,encLv,hmi,hmv,hcc,w,purse_eq]
        · rw [hmv] at hcc
          simp at hcc
          simp [go_sem,run_codeL E L84_0.eq_1,hlt,hlt2,List.getElem?_eq_getElem hlt,List.getElem?_eq_getElem hlt2,encLv,hmi,hmv,hcc,w,purse_eq]
    · have:i=m.length:=by omega
      have e:cmpL (l[i]::l.drop (i+1)) (m.drop i)=1:=by rw [List.drop_of_length_le (l:=m) (by omega)];rfl
      rw [e,hR]
      have hmi:(m.length:Int)≤i:=by omega
      simp [go_sem,run_codeL E L84_0.eq_1,hlt,List.getElem?_eq_getElem hlt,encLv,hmi,w,purse_eq]
theorem scompare_spec (l m:List Bool) (hl:l.length≤1000000) (hm:m.length≤1000000) (n1 f1 n2 f2:Bool):call E (.func (.func 84) [] []) [.imm n1 f1 true (l.map encLv),.imm n2 f2 true (m.map encLv)] []=some (.lit (.int .i64 (cmpL l m)),[]):=by
 rw [call_func E E84]
 have h:=fun k hk=>scompare_loop l m hl hm n1 f1 n2 f2 k (fun c=>some (.lit (.int .i64 c),[])) hk (fun _=>rfl) l.length 0 (by omega) (by omega)
 simp at h
 simp [go_sem,ir84,purse_eq]
 rw [run_inLoop']
 simp [go_sem,purse_eq]
 refine h _ ?_
 intro τ h0 h1 hlm
 by_cases hlt:l.length<m.length
 ·simp [go_sem,h0,h1,hlt]
 ·simp [go_sem,h0,h1,hlt]
def arbQ (f:Fr):List Bool:=if checkP f=0 then arbP f else []
def bothOk (f g:Fr):Bool:=decide (checkP f=0) && decide (checkP g=0)
theorem arbQ_len (f:Fr):(arbQ f).length≤32:=by
 unfold arbQ
 split
 ·rw [arbP_length];split<;>omega
 ·simp
theorem fcompare_spec (f g:Fr):call E (.func (.func 54) [] []) [.agg (encFr f),.agg (encFr g)] []=some (.tup [.lit (.int .i64 (cmpL (arbQ f) (arbQ g))),.lit (.bool (bothOk f g))],[]):=by
 have hs:=fun n1 f1 n2 f2=>scompare_spec (arbQ f) (arbQ g) (by have:=arbQ_len f;omega) (by have:=arbQ_len g;omega) n1 f1 n2 f2
 generalize hc:cmpL (arbQ f) (arbQ g)=c at hs
 rw [call_func E E54]
 by_cases hf:checkP f=0
 ·have h1:=farb_spec f hf
  have e1:arbQ f=arbP f:=by unfold arbQ;rw [if_pos hf]
  rw [e1] at hs
  by_cases hg:checkP g=0
  ·have h2:=farb_spec g hg
   have e2:arbQ g=arbP g:=by unfold arbQ;rw [if_pos hg]
   rw [e2] at hs
   simp [encFr,u8v] at h1 h2
   simp [go_sem,ir54,encFr,u8v,bothOk,hf,hg,h1,h2,hs,purse_eq,List.range_succ]
  ·have h2:=farb_err g hg
   have e2:arbQ g=[]:=by unfold arbQ;rw [if_neg hg]
   rw [e2] at hs
   simp [encFr,u8v,nilS] at h1 h2 hs
   simp [go_sem,ir54,encFr,u8v,bothOk,hf,hg,h1,h2,hs,purse_eq,List.range_succ]
 ·have h1:=farb_err f hf
  have e1:arbQ f=[]:=by unfold arbQ;rw [if_neg hf]
  rw [e1] at hs
  by_cases hg:checkP g=0
  ·have h2:=farb_spec g hg
   have e2:arbQ g=arbP g:=by unfold arbQ;rw [if_pos hg]
   rw [e2] at hs
   simp [encFr,u8v,nilS] at h1 h2 hs
   simp [go_sem,ir54,encFr,u8v,bothOk,hf,hg,h1,h2,hs,purse_eq,List.range_succ]
  ·have h2:=farb_err g hg
   have e2:arbQ g=[]:=by unfold arbQ;rw [if_neg hg]
   rw [e2] at hs
   simp [encFr,u8v,nilS] at h1 h2 hs
   simp [go_sem,ir54,encFr,u8v,bothOk,hf,hg,h1,h2,hs,purse_eq,List.range_succ]
def lessP (f g:Fr):Bool:=bothOk f g && decide (cmpL (arbQ f) (arbQ g)<0)
theorem less_spec (f g:Fr):call E (.func (.func 26) [] []) [.agg (encFr f),.agg (encFr g)] []=some (.lit (.bool (lessP f g)),[]):=by
 have h:=fcompare_spec f g
 rw [call_func E E26]
 unfold lessP
 generalize bothOk f g=b at h ⊢
 generalize cmpL (arbQ f) (arbQ g)=c at h ⊢
 simp [encFr,u8v] at h
 cases b<;>simp [go_sem,ir26,encFr,u8v,h,purse_eq,List.range_succ]
end Go.AM.R1
open Go Go.AM
namespace Go.AM.R1
theorem aleaves_fr (f g:Fr):aleaves [.lit (.int .i64 f.id),.lit (.bool f.ext),.lit (.bool f.rtr),.lit (.int .i64 f.len),.lit (.int .u8 f.d0),.lit (.int .u8 f.d1),.lit (.int .u8 f.d2),.lit (.int .u8 f.d3),.lit (.int .u8 f.d4),.lit (.int .u8 f.d5),.lit (.int .u8 f.d6),.lit (.int .u8 f.d7)]
  [.lit (.int .i64 g.id),.lit (.bool g.ext),.lit (.bool g.rtr),.lit (.int .i64 g.len),.lit (.int .u8 g.d0),.lit (.int .u8 g.d1),.lit (.int .u8 g.d2),.lit (.int .u8 g.d3),.lit (.int .u8 g.d4),.lit (.int .u8 g.d5),.lit (.int .u8 g.d6),.lit (.int .u8 g.d7)]
  [(0,.i),(1,.b),(2,.b),(3,.i),(4,.i),(5,.i),(6,.i),(7,.i),(8,.i),(9,.i),(10,.i),(11,.i)]=some (decide (f=g)):=by
 obtain ⟨a1,a2,a3,a4,a5,a6,a7,a8,a9,a10,a11,a12⟩:=f
 obtain ⟨b1,b2,b3,b4,b5,b6,b7,b8,b9,b10,b11,b12⟩:=g
 have hn:∀ a b:Nat,((a:Int)=(b:Int))=(a=b):=fun a b=>propext Int.ofNat_inj
 simp [aleaves,aleaf,Fr.mk.injEq,Bool.decide_and,Bool.beq_eq_decide_eq,hn]
theorem frRows (l:List Fr):rowsOk 12 (l.map encFr)=true:=rowsOk_map (f:=encFr) (fun _=>rfl) l
def ixL (f:Fr):List Fr→Nat
 | []=>0
 | g::r=>if lessP f g=true then 0 else ixL f r+1
def insP (f:Fr) (l:List Fr):List Fr:=l.take (ixL f l)++[f]++l.drop (ixL f l)
theorem ixL_le (f:Fr):∀ l:List Fr,ixL f l≤l.length
 | []=>Nat.le_refl _
 | g::r=>by
  have:=ixL_le f r
  rw [ixL]
  split<;>simp<;>omega
theorem ahead_fspec (f g:Fr):call E (.func (.func 133) [] [.ptr 0 0]) [.agg (encFr g)] [.box (encFr f)]=some (.lit (.bool (lessP f g)),[.box (encFr f)]):=by
 have h:=less_spec f g
 rw [call_func E E133]
 simp [encFr,u8v] at h
 simp [go_sem,ir133,encFr,u8v,h,purse_eq,List.range_succ]
set_option maxHeartbeats 1000000 in
theorem frIxf_loop (f:Fr) (l:List Fr) (hl:l.length≤1000000) (nl fu:Bool) (k:List Item) (R:Option (AVal × Heap))
    (hk:∀ τ,finK 1 [.tmp 4] (run E 1 k τ [.box (encFr f)])=some (.lit (.int .i64 (-1)),[.box (encFr f)])) :
    ∀ (d i:Nat),i+d=l.length →
   finK 1 [.tmp 4] (run E 1 (.code L134_0::.inLoop [0,1,7,8] L134_0::.inBlock 0::k) [(0,.imm nl fu true (l.map encFr)),(1,.func (.func 133) [] [.ptr 0 0]),(7,.lit (.int .i64 l.length)),(8,.lit (.int .i64 i))] [.box (encFr f)])
      = some (.lit (.int .i64 (if ixL f (l.drop i)=l.length - i then -1 else ((i+ixL f (l.drop i):Nat):Int))),[.box (encFr f)]):=by
  intro d
  induction d with
  | zero =>
    intro i hi
    have:i=l.length:=by omega
    subst this
    rw [List.drop_length]
    simp [go_sem,run_codeL E L134_0.eq_1,ixL]
    exact hk _
  | succ d ih =>
    intro i hi
    have hlt:i<l.length:=by omega
    have w:=wrapIdx (i:=i) (by omega)
    have ha:=ahead_fspec f l[i]
    rw [List.drop_eq_getElem_cons hlt]
    by_cases h:lessP f l[i]=true
    · have e:ixL f (l[i]::l.drop (i+1))=0:=by rw [ixL,if_pos h]
      rw [e,if_neg (by omega)]
      rw [h] at ha
      simp [encFr,u8v] at ha
      simp [go_sem,run_codeL E L134_0.eq_1,hlt,List.getElem?_eq_getElem hlt,encFr,u8v,ha,purse_eq,List.range_succ]
    · have h:lessP f l[i]=false:=by simpa using h
      have e:ixL f (l[i]::l.drop (i+1))=ixL f (l.drop (i+1))+1:=by rw [ixL,if_neg (by rw [h];simp)]
      have ih2:=ih (i+1) (by omega)
      rw [e]
      have e2:(if ixL f (l.drop (i+1))+1=l.length - i then (-1:Int) else ((i+(ixL f (l.drop (i+1))+1):Nat):Int))=(if ixL f (l.drop (i+1))=l.length - (i+1) then (-1:Int) else ((i+1+ixL f (l.drop (i+1)):Nat):Int)):=by
        by_cases q:ixL f (l.drop (i+1))=l.length - (i+1)
        · rw [if_pos q,if_pos (by omega)]
        · rw [if_neg q,if_neg (by omega),show i+(ixL f (l.drop (i+1))+1)=i+1+ixL f (l.drop (i+1)) by omega]
      rw [e2]
      generalize (if ixL f (l.drop (i+1))=l.length - (i+1) then (-1:Int) else ((i+1+ixL f (l.drop (i+1)):Nat):Int))=z at ih2 ⊢
      rw [h] at ha
      simp [encFr,u8v] at ih2 w ha
      simp [go_sem,run_codeL E L134_0.eq_1,hlt,List.getElem?_eq_getElem hlt,encFr,u8v,ha,w,purse_eq,List.range_succ]
      rw [run_inLoop']
      simp [go_sem,purse_eq,List.range_succ]
      exact ih2
theorem frIxf_spec (f:Fr) (l:List Fr) (hl:l.length≤1000000) (nl fu:Bool):call E (.func (.func 134) [] []) [.imm nl fu true (l.map encFr),.func (.func 133) [] [.ptr 0 0]] [.box (encFr f)]
  = some (.lit (.int .i64 (if ixL f l=l.length then -1 else (ixL f l:Int))),[.box (encFr f)]):=by
 rw [call_func E E134]
 have h:=fun k hk=>frIxf_loop f l hl nl fu k none hk l.length 0 (by omega)
 simp only [List.drop_zero,Nat.sub_zero,Nat.zero_add] at h
 generalize (if ixL f l=l.length then (-1:Int) else (ixL f l:Int))=z at h ⊢
 simp [encFr,u8v] at h
 simp [go_sem,ir134,encFr,u8v,purse_eq,List.range_succ]
 rw [run_inLoop']
 simp [go_sem,purse_eq,List.range_succ]
 refine h _ ?_
 intro τ
 simp [go_sem,encFr,u8v,purse_eq,List.range_succ]
def posL (f:Fr):List Fr→Nat
 | []=>0
 | g::r=>if f=g then 0 else posL f r+1
theorem posL_mem (f:Fr):∀ l:List Fr,f∈l↔posL f l<l.length
 | []=>by simp [posL]
 | g::r=>by
  rw [posL,List.mem_cons,posL_mem f r]
  by_cases h:f=g
  ·simp [h]
  ·simp [h]
set_option maxHeartbeats 1000000 in
theorem frIx_loop (f:Fr) (l:List Fr) (hl:l.length≤1000000) (nl fu:Bool) (k:List Item)
    (hk:∀ τ,finK 0 [.tmp 4] (run E 0 k τ [.box (encFr f)])=some (.lit (.int .i64 (-1)),[])) :
    ∀ (d i:Nat),i+d=l.length →
   finK 0 [.tmp 4] (run E 0 (.code L171_0::.inLoop [0,3,7,8] L171_0::.inBlock 0::k) [(0,.imm nl fu true (l.map encFr)),(3,.ptr 0 0),(7,.lit (.int .i64 l.length)),(8,.lit (.int .i64 i))] [.box (encFr f)])
      = some (.lit (.int .i64 (if posL f (l.drop i)=l.length - i then -1 else ((i+posL f (l.drop i):Nat):Int))),[]):=by
  intro d
  induction d with
  | zero =>
    intro i hi
    have:i=l.length:=by omega
    subst this
    rw [List.drop_length]
    simp [go_sem,run_codeL E L171_0.eq_1,posL]
    exact hk _
  | succ d ih =>
    intro i hi
    have hlt:i<l.length:=by omega
    have w:=wrapIdx (i:=i) (by omega)
    rw [List.drop_eq_getElem_cons hlt]
    by_cases h:f=l[i]
    · have e:posL f (l[i]::l.drop (i+1))=0:=by rw [posL,if_pos h]
      rw [e,if_neg (by omega)]
      simp [go_sem,run_codeL E L171_0.eq_1,hlt,List.getElem?_eq_getElem hlt,encFr,u8v,↓aleaves_fr,h,purse_eq,List.range_succ]
    · have e:posL f (l[i]::l.drop (i+1))=posL f (l.drop (i+1))+1:=by rw [posL,if_neg h]
      have ih2:=ih (i+1) (by omega)
      rw [e]
      have e2:(if posL f (l.drop (i+1))+1=l.length - i then (-1:Int) else ((i+(posL f (l.drop (i+1))+1):Nat):Int))=(if posL f (l.drop (i+1))=l.length - (i+1) then (-1:Int) else ((i+1+posL f (l.drop (i+1)):Nat):Int)):=by
        by_cases q:posL f (l.drop (i+1))=l.length - (i+1)
        · rw [if_pos q,if_pos (by omega)]
        · rw [if_neg q,if_neg (by omega),show i+(posL f (l.drop (i+1))+1)=i+1+posL f (l.drop (i+1)) by omega]
      rw [e2]
      generalize (if posL f (l.drop (i+1))=l.length - (i+1) then (-1:Int) else ((i+1+posL f (l.drop (i+1)):Nat):Int))=z at ih2 ⊢
      simp [encFr,u8v] at ih2 w
      simp [go_sem,run_codeL E L171_0.eq_1,hlt,List.getElem?_eq_getElem hlt,encFr,u8v,↓aleaves_fr,h,w,purse_eq,List.range_succ]
      rw [run_inLoop']
      simp [go_sem,purse_eq,List.range_succ]
      exact ih2
theorem frIx_spec (f:Fr) (l:List Fr) (hl:l.length≤1000000) (nl fu:Bool):call E (.func (.func 171) [] []) [.imm nl fu true (l.map encFr),.agg (encFr f)] []
  = some (.lit (.int .i64 (if posL f l=l.length then -1 else (posL f l:Int))),[]):=by
 rw [call_func E E171]
 have h:=fun k hk=>frIx_loop f l hl nl fu k hk l.length 0 (by omega)
 simp only [List.drop_zero,Nat.sub_zero,Nat.zero_add] at h
 generalize (if posL f l=l.length then (-1:Int) else (posL f l:Int))=z at h ⊢
 simp [encFr,u8v] at h
 simp [go_sem,ir171,encFr,u8v,purse_eq,List.range_succ]
 rw [run_inLoop']
 simp [go_sem,purse_eq,List.range_succ]
 refine h _ ?_
 intro τ
 simp [go_sem,encFr,u8v,purse_eq,List.range_succ]
end Go.AM.R1
open Go Go.AM
namespace Go.AM.R1
def quH (nq fu:Bool) (l:List Fr):Heap:=if nq=true then [.box [nilS,.lit (.int .i64 16)]] else [.box [.own 1 l.length 12 0 l.length,.lit (.int .i64 16)],.arr true false fu 12 (l.map encFr)]
theorem quSize_spec (nq fu:Bool) (l:List Fr) (hn:nq=true→l=[]):call E (.func (.func 101) [] []) [.ptr 0 0] (quH nq fu l)=some (.lit (.int .i64 l.length),quH nq fu l):=by
 rw [call_func E E101]
 cases nq
 ·simp [go_sem,ir101,quH,purse_eq,List.range_succ]
 ·simp [go_sem,ir101,quH,hn rfl,purse_eq,List.range_succ]
theorem quLen_spec (nq fu:Bool) (l:List Fr) (hn:nq=true→l=[]):call E (.func (.func 72) [] []) [.ptr 0 0] (quH nq fu l)=some (.lit (.int .i64 l.length),quH nq fu l):=by
 have h:=quSize_spec nq fu l hn
 rw [call_func E E72]
 cases nq
 ·simp [quH] at h
  simp [go_sem,ir72,quH,h,purse_eq,List.range_succ]
 ·simp [quH,hn rfl,nilS] at h
  simp [go_sem,ir72,quH,h,hn rfl,purse_eq,List.range_succ]
theorem qnew_spec:call E (.func (.func 77) [] []) [.lit (.int .i64 16)] []=some (.tup [.ptr 0 0,.lit (.int .i64 0)],quH true true []):=by
 rw [call_func E E77]
 simp [go_sem,ir77,quH,purse_eq,List.range_succ]
def putH (nq:Bool) (f:Fr) (l:List Fr):Heap:=if nq=true then [.box [.own 1 1 12 0 1,.lit (.int .i64 16)],.arr true false false 12 [encFr f]] else
 [.box [.own 2 (l.length+1) 12 0 (l.length+1),.lit (.int .i64 16)],.dead,.arr true false false 12 ((insP f l).map encFr)]
theorem insP_map (f:Fr) (l:List Fr):(insP f l).map encFr=List.take (ixL f l) (l.map encFr)++[encFr f]++List.drop (ixL f l) (l.map encFr):=by
 simp [insP,List.map_take,List.map_drop]
set_option maxHeartbeats 1000000 in
theorem quRowPut_spec (nq fu:Bool) (f:Fr) (l:List Fr) (hn:nq=true→l=[]) (hl:l.length≤1000):call E (.func (.func 102) [] []) [.ptr 0 0,.agg (encFr f)] (quH nq fu l)=some (.tup [],putH nq f l):=by
 have hb:(l.length+1) * 32≤70368744177664:=by omega
 have hle:=ixL_le f l
 rw [call_func E E102]
 cases nq
 ·have hx:=frIxf_spec f l (by omega) false fu
  have hx2:=frIxf_spec f l (by omega) false false
  simp only [putH,insP_map]
  by_cases h:ixL f l=l.length
  ·rw [if_pos h] at hx hx2
   rw [h]
   simp [encFr,u8v] at hx hx2
   simp [go_sem,ir102,quH,encFr,u8v,hx,hx2,libV,oneRow,insV,hb,purse_eq,List.range_succ]
  ·rw [if_neg h] at hx hx2
   have hlt:¬ ((ixL f l:Int)<0):=by omega
   simp [encFr,u8v] at hx hx2
   simp [go_sem,ir102,quH,encFr,u8v,hx,hx2,hlt,hle,libV,oneRow,insV,hb,purse_eq,List.range_succ]
 ·have hl0:=hn rfl
  subst hl0
  have hx:=frIxf_spec f [] (by simp) true true
  simp [encFr,u8v,ixL,nilS] at hx
  simp [go_sem,ir102,quH,putH,encFr,u8v,hx,libV,oneRow,insV,purse_eq,List.range_succ]
end Go.AM.R1
open Go Go.AM
namespace Go.AM.R1
theorem quPut_spec (nq fu:Bool) (f:Fr) (l:List Fr) (hn:nq=true→l=[]) (hl:l.length≤1000):call E (.func (.func 73) [] []) [.ptr 0 0,.agg (encFr f)] (quH nq fu l)
  = if checkP f≠0 then some (.lit (.int .i64 (checkP f)),quH nq fu l) else if 16≤l.length then some (.lit (.int .i64 15),quH nq fu l) else some (.lit (.int .i64 0),putH nq f l):=by
 have hc:=fcheck_spec f
 have hs:=quSize_spec nq fu l hn
 have hp:=quRowPut_spec nq fu f l hn hl
 rw [call_func E E73]
 cases nq
 ·by_cases h:checkP f=0
  ·rw [if_neg (by simp [h])]
   rw [h] at hc
   by_cases h2:16≤l.length
   ·have h3:(16:Int)≤l.length:=by omega
    rw [if_pos h2]
    simp [quH,encFr,u8v] at hc hs
    simp [go_sem,ir73,quH,encFr,u8v,hc,hs,h2,h3,purse_eq,List.range_succ]
   ·have h3:¬ (16:Int)≤l.length:=by omega
    rw [if_neg h2]
    have hr:=frRows (insP f l)
    generalize (insP f l).map encFr=rows at hp
    simp only [putH] at hp ⊢
    simp [quH,encFr,u8v] at hc hs hp
    simp [go_sem,ir73,quH,encFr,u8v,hc,hs,hp,h2,h3,purse_eq,List.range_succ]
  ·rw [if_pos h]
   simp [quH,encFr,u8v] at hc hs
   simp [go_sem,ir73,quH,encFr,u8v,hc,hs,h,purse_eq,List.range_succ]
 ·have hl0:=hn rfl
  subst hl0
  by_cases h:checkP f=0
  ·rw [if_neg (by simp [h]),if_neg (by simp)]
   rw [h] at hc
   simp [quH,putH,encFr,u8v,nilS] at hc hs hp
   simp [go_sem,ir73,quH,putH,encFr,u8v,nilS,hc,hs,hp,purse_eq,List.range_succ]
  ·rw [if_pos h]
   simp [quH,encFr,u8v] at hc hs
   simp [go_sem,ir73,quH,encFr,u8v,hc,hs,h,purse_eq,List.range_succ]
theorem quFirst_spec (nq fu:Bool) (l:List Fr) (hn:nq=true→l=[]):call E (.func (.func 156) [] []) [.ptr 0 0] (quH nq fu l)
  = some (.tup [.agg (encFr (l.head?.getD Fr.zero)),.lit (.bool (decide (l≠[])))],quH nq fu l):=by
 have hs:=quSize_spec nq fu l hn
 rw [call_func E E156]
 cases nq
 ·cases l with
  | nil =>
   simp [quH] at hs
   simp [go_sem,ir156,quH,encFr,u8v,Fr.zero,hs,purse_eq,List.range_succ]
  | cons f r =>
   have h0:¬ ((r.length:Int)+1=0):=by omega
   simp [quH,encFr,u8v] at hs
   simp [go_sem,ir156,quH,encFr,u8v,hs,h0,purse_eq,List.range_succ]
 ·have hl0:=hn rfl
  subst hl0
  simp [quH,nilS] at hs
  simp [go_sem,ir156,quH,encFr,u8v,Fr.zero,nilS,hs,purse_eq,List.range_succ]
def delL (f:Fr) (l:List Fr):List Fr:=l.take (posL f l)++l.drop (posL f l+1)
theorem delL_map (f:Fr) (l:List Fr):(delL f l).map encFr=List.take (posL f l) (l.map encFr)++List.drop (posL f l+1) (l.map encFr):=by
 simp [delL,List.map_take,List.map_drop]
theorem delL_len (f:Fr) (l:List Fr) (h:f∈l):(delL f l).length=l.length - 1:=by
 have:=(posL_mem f l).1 h
 simp [delL];omega
def dropH (f:Fr) (l:List Fr):Heap:=[.box [.own 2 (l.length - 1) 12 0 (l.length - 1),.lit (.int .i64 16)],.dead,.arr true false false 12 ((delL f l).map encFr)]
set_option maxHeartbeats 1000000 in
theorem quRowDrop_spec (fu:Bool) (f:Fr) (l:List Fr) (hf:f∈l) (hl:l.length≤1000):call E (.func (.func 166) [] []) [.ptr 0 0,.agg (encFr f)] (quH false fu l)=some (.lit (.bool true),dropH f l):=by
 have hp:=(posL_mem f l).1 hf
 have hx:=frIx_spec f l (by omega) false fu
 have hx2:=frIx_spec f l (by omega) false false
 rw [if_neg (by omega)] at hx hx2
 have w:=wrapIdx (i:=posL f l) (by omega)
 have h1:¬ ((posL f l:Int)<0):=by omega
 have h2:(0:Int)≤(posL f l:Int)+1:=by omega
 have h3:((posL f l:Int)+1).toNat=posL f l+1:=by omega
 have h4:posL f l+1 - posL f l=1:=by omega
 have h5:posL f l+1≤l.length:=by omega
 rw [call_func E E166]
 simp only [dropH,delL_map]
 simp [encFr,u8v] at hx hx2 w
 simp [go_sem,ir166,quH,encFr,u8v,hx,hx2,w,h1,h2,h3,h4,h5,libV,delV,purse_eq,List.range_succ]
theorem quDrop_spec (fu:Bool) (f:Fr) (l:List Fr) (hf:f∈l) (hl:l.length≤1000):call E (.func (.func 159) [] []) [.ptr 0 0,.agg (encFr f)] (quH false fu l)=some (.lit (.int .i64 0),dropH f l):=by
 have h:=quRowDrop_spec fu f l hf hl
 rw [call_func E E159]
 generalize hr:(delL f l).map encFr=rows
 simp only [dropH,hr] at h ⊢
 simp [quH,encFr,u8v] at h
 simp [go_sem,ir159,quH,encFr,u8v,h,purse_eq,List.range_succ]
end Go.AM.R1
open Go Go.AM
namespace Go.AM.R1
structure Nd where
 raw:List Bool
 lvl:Bool
 run:Nat
 mode:Nat
 k:Nat
 rows:Nat
 tx:Bool
 sends:Bool
 owed:Bool
 wrong:Bool
 ct:Ct
 own:Fr
 row:List Bool
 nq:Bool
 q:List Fr
structure Fl where
 lr:Bool
 fr:Bool
 fq:Bool
 lw:Bool
 fw:Bool
def Nd.cells (n:Nd) (rv qv wv:AVal):List AVal :=
  [rv,.lit (.int .i64 (lv n.lvl)),.lit (.int .i64 n.run),qv,.lit (.int .i64 n.mode),.lit (.int .i64 n.k),.lit (.int .i64 n.rows),.lit (.bool n.tx),.lit (.bool n.sends),.lit (.bool n.owed),.lit (.bool n.wrong),
   .lit (.int .i64 n.ct.te),.lit (.int .i64 n.ct.re),.lit (.bool n.ct.off),
   .lit (.int .i64 n.own.id),.lit (.bool n.own.ext),.lit (.bool n.own.rtr),.lit (.int .i64 n.own.len),.lit (.int .u8 n.own.d0),.lit (.int .u8 n.own.d1),.lit (.int .u8 n.own.d2),.lit (.int .u8 n.own.d3),.lit (.int .u8 n.own.d4),.lit (.int .u8 n.own.d5),.lit (.int .u8 n.own.d6),.lit (.int .u8 n.own.d7),wv]
def rV (n:Nd):AVal:=if n.raw=[] then nilS else .own 1 n.raw.length 1 0 n.raw.length
def qI (n:Nd):Nat:=if n.raw=[] then 1 else 2
def qV (n:Nd):AVal:=if n.nq=true then nilS else .own (qI n+1) n.q.length 12 0 n.q.length
def wI (n:Nd):Nat:=if n.nq=true then qI n+1 else qI n+2
def wV (n:Nd):AVal:=if n.row=[] then nilS else .own (wI n) n.row.length 1 0 n.row.length
def rE (n:Nd) (F:Fl):Heap:=if n.raw=[] then [] else [.arr true F.lr F.fr 1 (n.raw.map encLv)]
def qE (n:Nd) (F:Fl):Heap:=if n.nq=true then [] else [.arr true false F.fq 12 (n.q.map encFr)]
def wE (n:Nd) (F:Fl):Heap:=if n.row=[] then [] else [.arr true F.lw F.fw 1 (n.row.map encLv)]
def ndH (n:Nd) (F:Fl):Heap:=.box (n.cells (rV n) (.ptr (qI n) 0) (wV n))::(rE n F++.box [qV n,.lit (.int .i64 16)]::(qE n F++wE n F))
def Fl.lock (F:Fl):Fl:={ F with lr:=true }
structure Nd.Ok (n:Nd):Prop where
 nq:n.nq=true→n.q=[]
 ql:n.q.length≤16
 ct:n.ct.Ok
theorem nturn_spec (n:Nd) (F:Fl) (m:Nat):call E (.func (.func 143) [] []) [.ptr 0 0,.lit (.int .i64 m)] (ndH n F)=some (.tup [],ndH { n with mode:=m,k:=0 } F):=by
 rw [call_func E E143]
 by_cases h1:n.raw=[]<;>cases h2:n.nq<;>by_cases h3:n.row=[] <;>
 simp [go_sem,ir143,ndH,rV,qI,qV,wI,wV,rE,qE,wE,Nd.cells,nilS,h1,h2,h3,purse_eq,List.range_succ]
theorem lenPosN {α:Type} (l:List α):(0<l.length)=¬ (l=[]):=by
 cases l with
 | nil=>simp
 | cons a r=>simp
theorem npend_spec (n:Nd) (F:Fl) (hn:n.Ok):call E (.func (.func 98) [] []) [.ptr 0 0] (ndH n F)=some (.lit (.bool (decide (n.q≠[]))),ndH n F):=by
 rw [call_func E E98]
 have hq:=quLen_spec n.nq F.fq n.q hn.nq
 by_cases h1:n.raw=[]<;>cases h2:n.nq<;>by_cases h3:n.row=[] <;>
 simp [quH,h2,nilS] at hq <;>
 simp [go_sem,ir98,ndH,rV,qI,qV,wI,wV,rE,qE,wE,Nd.cells,nilS,h1,h2,h3,hq,lenPosN,purse_eq,List.range_succ]
theorem nlate_spec (n:Nd) (F:Fl):call E (.func (.func 152) [] []) [.ptr 0 0] (ndH n F)=some (.lit (.bool (n.tx && decide (n.ct.state=1))),ndH n F):=by
 rw [call_func E E152]
 have hs:=cstate_spec n.ct
 generalize n.ct.state=st at hs ⊢
 simp [Ct.cells] at hs
 cases ht:n.tx<;>by_cases h1:n.raw=[]<;>cases h2:n.nq<;>by_cases h3:n.row=[] <;>
 simp [go_sem,ir152,ndH,rV,qI,qV,wI,wV,rE,qE,wE,Nd.cells,nilS,h1,h2,h3,ht,hs,purse_eq,List.range_succ]
def nxV (n:Nd):AVal:=.tup [.lit (.int .i64 (nextF n.raw).1),.lit (.int .i64 (nextF n.raw).2),.lit (.bool (decide (n.run=5)))]
theorem nnext_spec (n:Nd) (F:Fl) (hr:RawOk n.raw):call E (.func (.func 121) [] []) [.ptr 0 0] (ndH n F)=some (nxV n,ndH n F.lock):=by
 rw [call_func E E121]
 have hN:=fun nl fu=>fnext_spec n.raw hr nl fu
 have h5:((n.run:Int)=5)=(n.run=5):=by apply propext;omega
 by_cases h1:n.raw=[]
 ·have hN:=hN true true
  rw [h1] at hN
  simp at hN
  cases h2:n.nq<;>by_cases h3:n.row=[] <;>
  simp [go_sem,ir121,ndH,rV,qI,qV,wI,wV,rE,qE,wE,Nd.cells,nilS,nxV,Fl.lock,h1,h2,h3,h5,hN,purse_eq,List.range_succ]
 ·have hN1:=hN false false
  have hN2:=hN false F.fr
  cases h2:n.nq<;>by_cases h3:n.row=[] <;>
  simp [go_sem,ir121,ndH,rV,qI,qV,wI,wV,rE,qE,wE,Nd.cells,nilS,nxV,Fl.lock,h1,h2,h3,h5,hN1,hN2,purse_eq,List.range_succ]
end Go.AM.R1
open Go Go.AM
namespace Go.AM.R1
theorem nright_spec (n:Nd) (F:Fl) (h:dataF n.raw≤n.raw.length) (h2:sumF n.raw+15≤n.raw.length) (hl:n.raw.length≤1000):call E (.func (.func 122) [] []) [.ptr 0 0] (ndH n F)=some (.lit (.bool (rightF n.raw)),ndH n F.lock):=by
 rw [call_func E E122]
 have hN:=fright_spec n.raw h h2 (by omega) false F.fr
 have h1:¬ n.raw=[]:=by intro e;rw [e] at h2;simp at h2
 generalize rightF n.raw=b at hN ⊢
 cases b<;>cases hq:n.nq<;>by_cases h3:n.row=[] <;>
 simp [go_sem,ir122,ndH,rV,qI,qV,wI,wV,rE,qE,wE,Nd.cells,nilS,Fl.lock,h1,hq,h3,hN,purse_eq,List.range_succ]
def takeN (n:Nd) (b:Bool):Bool × Nd :=
 if n.run=5 then (if b=n.lvl then (false,n) else (true,{ n with lvl:=b,run:=1 }))
 else if 4<(nextF n.raw).1 then (true,{ n with run:=0,raw:=n.raw++[b] })
 else if 0<n.run∧b=n.lvl then (true,{ n with run:=n.run+1,raw:=n.raw++[b] })
 else (true,{ n with lvl:=b,run:=1,raw:=n.raw++[b] })
theorem lvT:lv true=1:=rfl
theorem lvF:lv false=0:=rfl
theorem lv_eq (a b:Bool):(lv a=lv b)=(a=b):=by cases a<;>cases b<;>simp [lv]
set_option maxHeartbeats 1000000 in
theorem ntake_spec (n:Nd) (F:Fl) (hr:RawOk n.raw) (h1:¬ n.raw=[]) (h5:n.run≤5) (b:Bool):∃ F',call E (.func (.func 148) [] []) [.ptr 0 0,.lit (.int .i64 (lv b))] (ndH n F)=some (.lit (.bool (takeN n b).1),ndH (takeN n b).2 F'):=by
 have hN:=nnext_spec n F hr
 have hl:=hr.1
 have hby:¬ (70368744177664<(n.raw.length+1) * 8):=by omega
 have w1:IntKind.wrap .i64 ((n.run:Int)+1)=n.run+1:=wrap64 (by omega) (by omega)
 rw [call_func E E148]
 by_cases r5:n.run=5
 ·refine ⟨F.lock,?_⟩
  by_cases hb:b=n.lvl
  ·cases h2:n.nq<;>by_cases h3:n.row=[] <;>
   simp [ndH,rV,qI,qV,wI,wV,rE,qE,wE,Nd.cells,nilS,nxV,Fl.lock,h1,h2,h3,r5] at hN <;>
   simp [go_sem,ir148,ndH,rV,qI,qV,wI,wV,rE,qE,wE,Nd.cells,nilS,takeN,Fl.lock,h1,h2,h3,r5,hN,lv_eq,hb,purse_eq,List.range_succ]
  ·cases h2:n.nq<;>by_cases h3:n.row=[] <;>
   simp [ndH,rV,qI,qV,wI,wV,rE,qE,wE,Nd.cells,nilS,nxV,Fl.lock,h1,h2,h3,r5] at hN <;>
   simp [go_sem,ir148,ndH,rV,qI,qV,wI,wV,rE,qE,wE,Nd.cells,nilS,takeN,Fl.lock,h1,h2,h3,r5,hN,lv_eq,hb,purse_eq,List.range_succ]
 ·refine ⟨{ F with lr:=true,fr:=false },?_⟩
  by_cases hk:4<(nextF n.raw).1
  ·have hk':(4:Int)<(nextF n.raw).1:=by omega
   cases h2:n.nq<;>by_cases h3:n.row=[] <;>
   simp [ndH,rV,qI,qV,wI,wV,rE,qE,wE,Nd.cells,nilS,nxV,Fl.lock,h1,h2,h3,r5] at hN <;>
   simp [go_sem,ir148,ndH,rV,qI,qV,wI,wV,rE,qE,wE,Nd.cells,nilS,takeN,Fl.lock,h1,h2,h3,r5,hN,hk,hk',hby,encLv,purse_eq,List.range_succ]
  ·have hk':¬ (4:Int)<(nextF n.raw).1:=by omega
   by_cases h0:0<n.run∧b=n.lvl
   ·have h01:=h0.1
    have h02:=h0.2
    cases h2:n.nq<;>by_cases h3:n.row=[] <;>
    simp [ndH,rV,qI,qV,wI,wV,rE,qE,wE,Nd.cells,nilS,nxV,Fl.lock,h1,h2,h3,r5] at hN <;>
    simp [go_sem,ir148,ndH,rV,qI,qV,wI,wV,rE,qE,wE,Nd.cells,nilS,takeN,Fl.lock,h1,h2,h3,r5,hN,hk,hk',h01,h02,w1,lv_eq,hby,encLv,purse_eq,List.range_succ]
   ·by_cases h01:0<n.run
    ·have h02:¬ b=n.lvl:=fun e=>h0 ⟨h01,e⟩
     cases h2:n.nq<;>by_cases h3:n.row=[] <;>
     simp [ndH,rV,qI,qV,wI,wV,rE,qE,wE,Nd.cells,nilS,nxV,Fl.lock,h1,h2,h3,r5] at hN <;>
     simp [go_sem,ir148,ndH,rV,qI,qV,wI,wV,rE,qE,wE,Nd.cells,nilS,takeN,Fl.lock,h1,h2,h3,r5,hN,hk,hk',h01,h02,w1,lv_eq,hby,encLv,purse_eq,List.range_succ]
    ·have h02:n.run=0:=by omega
     cases h2:n.nq<;>by_cases h3:n.row=[] <;>
     simp [ndH,rV,qI,qV,wI,wV,rE,qE,wE,Nd.cells,nilS,nxV,Fl.lock,h1,h2,h3,h02] at hN <;>
     simp [go_sem,ir148,ndH,rV,qI,qV,wI,wV,rE,qE,wE,Nd.cells,nilS,takeN,Fl.lock,h1,h2,h3,hN,hk,hk',h02,w1,lv_eq,hby,encLv,purse_eq,List.range_succ]
def frL (n:Nd):Bool:=if n.sends=true then (if n.run=5 then !n.lvl else (n.row[n.raw.length]?).getD true) else !(decide ((nextF n.raw).1=6) && rightF n.raw)
theorem nextF_six {m:List Bool} (h:6≤(nextF m).1∧(nextF m).1≤8):dataF m≤m.length∧sumF m+16≤m.length:=by
 unfold nextF at h
 repeat' split at h
 all_goals first | (simp at h;done) | (constructor<;>omega)
theorem nframe_spec (n:Nd) (F:Fl) (hr:RawOk n.raw) (hs:n.sends=true→n.raw.length<n.row.length):call E (.func (.func 99) [] []) [.ptr 0 0] (ndH n F)=some (.lit (.int .i64 (lv (frL n))),ndH n F.lock):=by
 have hN:=nnext_spec n F hr
 rw [call_func E E99]
 cases hsn:n.sends
 ·by_cases hk:(nextF n.raw).1=6
  ·have hk':((nextF n.raw).1:Int)=6:=by omega
   have h6:=nextF_six (m:=n.raw) (by omega)
   have h1:¬ n.raw=[]:=by intro e;rw [e] at h6;simp at h6
   have hR:=nright_spec n F.lock h6.1 (by omega) hr.1
   cases hb:rightF n.raw<;>cases h2:n.nq<;>by_cases h3:n.row=[] <;>
   simp [ndH,rV,qI,qV,wI,wV,rE,qE,wE,Nd.cells,nilS,nxV,Fl.lock,h1,h2,h3,hb,hsn] at hN hR <;>
   simp [go_sem,ir99,ndH,rV,qI,qV,wI,wV,rE,qE,wE,Nd.cells,nilS,frL,Fl.lock,h1,h2,h3,hsn,hN,hR,hk,hb,lvT,lvF,purse_eq,List.range_succ]
  ·have hk':¬ ((nextF n.raw).1:Int)=6:=by omega
   by_cases h1:n.raw=[]<;>cases h2:n.nq<;>by_cases h3:n.row=[] <;>
   simp [ndH,rV,qI,qV,wI,wV,rE,qE,wE,Nd.cells,nilS,nxV,Fl.lock,h1,h2,h3,hsn] at hN hk hk' <;>
   simp [go_sem,ir99,ndH,rV,qI,qV,wI,wV,rE,qE,wE,Nd.cells,nilS,frL,Fl.lock,h1,h2,h3,hsn,hN,hk,hk',lvT,lvF,purse_eq,List.range_succ]
 ·have hlt:=hs hsn
  have h3:¬ n.row=[]:=by intro e;rw [e] at hlt;simp at hlt
  by_cases r5:n.run=5
  ·by_cases h1:n.raw=[]<;>cases h2:n.nq<;>cases hlv:n.lvl <;>
   simp [ndH,rV,qI,qV,wI,wV,rE,qE,wE,Nd.cells,nilS,nxV,Fl.lock,h1,h2,h3,r5,hlv,hsn,lvT,lvF] at hN <;>
   simp [go_sem,ir99,ndH,rV,qI,qV,wI,wV,rE,qE,wE,Nd.cells,nilS,frL,Fl.lock,h1,h2,h3,hsn,hN,r5,hlv,lvT,lvF,purse_eq,List.range_succ]
   all_goals decide
  ·by_cases h1:n.raw=[]
   ·have hlt0:0<n.row.length:=by rw [h1] at hlt;simpa using hlt
    have hg:n.row[0]?=some n.row[0]:=List.getElem?_eq_getElem hlt0
    cases h2:n.nq <;>
    simp [ndH,rV,qI,qV,wI,wV,rE,qE,wE,Nd.cells,nilS,nxV,Fl.lock,h1,h2,h3,r5,hsn] at hN <;>
    simp [go_sem,ir99,ndH,rV,qI,qV,wI,wV,rE,qE,wE,Nd.cells,nilS,frL,Fl.lock,h1,h2,h3,hsn,hN,r5,hlt0,hg,encLv,purse_eq,List.range_succ]
   ·have hg:n.row[n.raw.length]?=some n.row[n.raw.length]:=List.getElem?_eq_getElem hlt
    cases h2:n.nq <;>
    simp [ndH,rV,qI,qV,wI,wV,rE,qE,wE,Nd.cells,nilS,nxV,Fl.lock,h1,h2,h3,r5,hsn] at hN <;>
    simp [go_sem,ir99,ndH,rV,qI,qV,wI,wV,rE,qE,wE,Nd.cells,nilS,frL,Fl.lock,h1,h2,h3,hsn,hN,r5,hlt,hg,encLv,purse_eq,List.range_succ]
end Go.AM.R1
open Go Go.AM
namespace Go.AM.R1
def encK (k:Nat):List AVal:=[.lit (.int .i64 k)]
def mI (n:Nd):Nat:=if n.row=[] then wI n else wI n+1
def tdV (T:Nat) (ks:List Nat):AVal:=if ks=[] then nilS else .own (T+1) ks.length 1 0 ks.length
def tdC (v:AVal) (f:Fr):List AVal:=[v,.lit (.int .i64 f.id),.lit (.bool f.ext),.lit (.bool f.rtr),.lit (.int .i64 f.len),.lit (.int .u8 f.d0),.lit (.int .u8 f.d1),.lit (.int .u8 f.d2),.lit (.int .u8 f.d3),.lit (.int .u8 f.d4),.lit (.int .u8 f.d5),.lit (.int .u8 f.d6),.lit (.int .u8 f.d7)]
def tdE (T:Nat) (ks:List Nat) (f:Fr):Heap:=.box (tdC (tdV T ks) f)::(if ks=[] then [] else [.arr true false false 1 (ks.map encK)])
def ndT (n:Nd) (F:Fl) (ks:List Nat) (f:Fr):Heap:=ndH n F++tdE (mI n) ks f
theorem tell_nil (f:Fr) (k:Nat):call E (.func (.func 150) [] []) [.ptr 0 0,.lit (.int .i64 k)] (tdE 0 [] f)=some (.tup [],tdE 0 [k] f):=by
 rw [call_func E E150]
 simp [go_sem,ir150,ndH,rV,qI,qV,wI,wV,rE,qE,wE,Nd.cells,nilS,ndT,tdE,tdV,tdC,mI,encK,purse_eq,List.range_succ]
theorem tell_one (f:Fr) (k j:Nat):call E (.func (.func 150) [] []) [.ptr 0 0,.lit (.int .i64 k)] (tdE 0 [j] f)=some (.tup [],tdE 0 [j,k] f):=by
 rw [call_func E E150]
 simp [go_sem,ir150,ndH,rV,qI,qV,wI,wV,rE,qE,wE,Nd.cells,nilS,ndT,tdE,tdV,tdC,mI,encK,purse_eq,List.range_succ]
def chCt (n:Nd) (w:Nat):Ct:=if n.tx=true then n.ct.txE else n.ct.rxE w
def chN (n:Nd) (w:Nat):Bool × Nd:=if (chCt n w).state=2 then (false,{ n with ct:=chCt n w,mode:=10,k:=0,rows:=0 }) else (true,{ n with ct:=chCt n w })
theorem ncharge_nil_off (n:Nd) (F:Fl) (hn:n.Ok) (f:Fr) (w:Nat) (hw:w=1∨w=8) (c:Ct) (hc:c=chCt n w) (h2:c.state=2):call E (.func (.func 151) [] []) [.ptr 0 0,.ptr (mI n) 0,.lit (.int .i64 w)] (ndT n F [] f)
  = some (.lit (.bool false),ndT { n with ct:=c,mode:=10,k:=0,rows:=0 } F [10] f):=by
 have hs:=cstate_spec c
 have ht:=ctx_spec n.ct hn.ct
 have hr:=crx_spec n.ct hn.ct w hw
 have hT:=tell_nil f 10
 have hu:=nturn_spec { n with ct:=c } F 10
 rw [h2] at hs
 rw [call_func E E151]
 by_cases htx:n.tx=true
 case neg =>
  have htx:n.tx=false:=by simpa using htx
  rw [show n.ct.rxE w=c by rw [hc];unfold chCt;rw [htx];rfl] at hr
  clear ht hc
  by_cases h1:n.raw=[]<;>by_cases hq:n.nq=true<;>by_cases h3:n.row=[] <;>
  simp [ndH,rV,qI,qV,wI,wV,rE,qE,wE,Nd.cells,nilS,ndT,tdE,tdV,tdC,mI,encK,Ct.cells,h1,hq,h3,htx] at hs hr hT hu <;>
  simp [go_sem,ir151,ndH,rV,qI,qV,wI,wV,rE,qE,wE,Nd.cells,nilS,ndT,tdE,tdV,tdC,mI,encK,Ct.cells,h1,hq,h3,htx,h2,hs,hr,hT,hu,purse_eq,List.range_succ]
 case pos =>
  rw [show n.ct.txE=c by rw [hc];unfold chCt;rw [htx];rfl] at ht
  clear hr hc
  by_cases h1:n.raw=[]<;>by_cases hq:n.nq=true<;>by_cases h3:n.row=[] <;>
  simp [ndH,rV,qI,qV,wI,wV,rE,qE,wE,Nd.cells,nilS,ndT,tdE,tdV,tdC,mI,encK,Ct.cells,h1,hq,h3,htx] at hs ht hT hu <;>
  simp [go_sem,ir151,ndH,rV,qI,qV,wI,wV,rE,qE,wE,Nd.cells,nilS,ndT,tdE,tdV,tdC,mI,encK,Ct.cells,h1,hq,h3,htx,h2,hs,ht,hT,hu,purse_eq,List.range_succ]
theorem ncharge_nil_on (n:Nd) (F:Fl) (hn:n.Ok) (f:Fr) (w:Nat) (hw:w=1∨w=8) (c:Ct) (hc:c=chCt n w) (h2:¬ c.state=2):call E (.func (.func 151) [] []) [.ptr 0 0,.ptr (mI n) 0,.lit (.int .i64 w)] (ndT n F [] f)
  = some (.lit (.bool true),ndT { n with ct:=c } F [] f):=by
 have hs:=cstate_spec c
 have ht:=ctx_spec n.ct hn.ct
 have hr:=crx_spec n.ct hn.ct w hw
 rw [call_func E E151]
 by_cases htx:n.tx=true
 case neg =>
  have htx:n.tx=false:=by simpa using htx
  rw [show n.ct.rxE w=c by rw [hc];unfold chCt;rw [htx];rfl] at hr
  clear ht hc
  by_cases h1:n.raw=[]<;>by_cases hq:n.nq=true<;>by_cases h3:n.row=[] <;>
  simp [ndH,rV,qI,qV,wI,wV,rE,qE,wE,Nd.cells,nilS,ndT,tdE,tdV,tdC,mI,encK,Ct.cells,h1,hq,h3,htx] at hs hr <;>
  simp [go_sem,ir151,ndH,rV,qI,qV,wI,wV,rE,qE,wE,Nd.cells,nilS,ndT,tdE,tdV,tdC,mI,encK,Ct.cells,h1,hq,h3,htx,h2,hs,hr,purse_eq,List.range_succ]
 case pos =>
  rw [show n.ct.txE=c by rw [hc];unfold chCt;rw [htx];rfl] at ht
  clear hr hc
  by_cases h1:n.raw=[]<;>by_cases hq:n.nq=true<;>by_cases h3:n.row=[] <;>
  simp [ndH,rV,qI,qV,wI,wV,rE,qE,wE,Nd.cells,nilS,ndT,tdE,tdV,tdC,mI,encK,Ct.cells,h1,hq,h3,htx] at hs ht <;>
  simp [go_sem,ir151,ndH,rV,qI,qV,wI,wV,rE,qE,wE,Nd.cells,nilS,ndT,tdE,tdV,tdC,mI,encK,Ct.cells,h1,hq,h3,htx,h2,hs,ht,purse_eq,List.range_succ]
theorem ncharge_one_off (n:Nd) (F:Fl) (hn:n.Ok) (f:Fr) (j:Nat) (w:Nat) (hw:w=1∨w=8) (c:Ct) (hc:c=chCt n w) (h2:c.state=2):call E (.func (.func 151) [] []) [.ptr 0 0,.ptr (mI n) 0,.lit (.int .i64 w)] (ndT n F [j] f)
  = some (.lit (.bool false),ndT { n with ct:=c,mode:=10,k:=0,rows:=0 } F [j,10] f):=by
 have hs:=cstate_spec c
 have ht:=ctx_spec n.ct hn.ct
 have hr:=crx_spec n.ct hn.ct w hw
 have hT:=tell_one f 10 j
 have hu:=nturn_spec { n with ct:=c } F 10
 rw [h2] at hs
 rw [call_func E E151]
 by_cases htx:n.tx=true
 case neg =>
  have htx:n.tx=false:=by simpa using htx
  rw [show n.ct.rxE w=c by rw [hc];unfold chCt;rw [htx];rfl] at hr
  clear ht hc
  by_cases h1:n.raw=[]<;>by_cases hq:n.nq=true<;>by_cases h3:n.row=[] <;>
  simp [ndH,rV,qI,qV,wI,wV,rE,qE,wE,Nd.cells,nilS,ndT,tdE,tdV,tdC,mI,encK,Ct.cells,h1,hq,h3,htx] at hs hr hT hu <;>
  simp [go_sem,ir151,ndH,rV,qI,qV,wI,wV,rE,qE,wE,Nd.cells,nilS,ndT,tdE,tdV,tdC,mI,encK,Ct.cells,h1,hq,h3,htx,h2,hs,hr,hT,hu,purse_eq,List.range_succ]
 case pos =>
  rw [show n.ct.txE=c by rw [hc];unfold chCt;rw [htx];rfl] at ht
  clear hr hc
  by_cases h1:n.raw=[]<;>by_cases hq:n.nq=true<;>by_cases h3:n.row=[] <;>
  simp [ndH,rV,qI,qV,wI,wV,rE,qE,wE,Nd.cells,nilS,ndT,tdE,tdV,tdC,mI,encK,Ct.cells,h1,hq,h3,htx] at hs ht hT hu <;>
  simp [go_sem,ir151,ndH,rV,qI,qV,wI,wV,rE,qE,wE,Nd.cells,nilS,ndT,tdE,tdV,tdC,mI,encK,Ct.cells,h1,hq,h3,htx,h2,hs,ht,hT,hu,purse_eq,List.range_succ]
theorem ncharge_one_on (n:Nd) (F:Fl) (hn:n.Ok) (f:Fr) (j:Nat) (w:Nat) (hw:w=1∨w=8) (c:Ct) (hc:c=chCt n w) (h2:¬ c.state=2):call E (.func (.func 151) [] []) [.ptr 0 0,.ptr (mI n) 0,.lit (.int .i64 w)] (ndT n F [j] f)
  = some (.lit (.bool true),ndT { n with ct:=c } F [j] f):=by
 have hs:=cstate_spec c
 have ht:=ctx_spec n.ct hn.ct
 have hr:=crx_spec n.ct hn.ct w hw
 rw [call_func E E151]
 by_cases htx:n.tx=true
 case neg =>
  have htx:n.tx=false:=by simpa using htx
  rw [show n.ct.rxE w=c by rw [hc];unfold chCt;rw [htx];rfl] at hr
  clear ht hc
  by_cases h1:n.raw=[]<;>by_cases hq:n.nq=true<;>by_cases h3:n.row=[] <;>
  simp [ndH,rV,qI,qV,wI,wV,rE,qE,wE,Nd.cells,nilS,ndT,tdE,tdV,tdC,mI,encK,Ct.cells,h1,hq,h3,htx] at hs hr <;>
  simp [go_sem,ir151,ndH,rV,qI,qV,wI,wV,rE,qE,wE,Nd.cells,nilS,ndT,tdE,tdV,tdC,mI,encK,Ct.cells,h1,hq,h3,htx,h2,hs,hr,purse_eq,List.range_succ]
 case pos =>
  rw [show n.ct.txE=c by rw [hc];unfold chCt;rw [htx];rfl] at ht
  clear hr hc
  by_cases h1:n.raw=[]<;>by_cases hq:n.nq=true<;>by_cases h3:n.row=[] <;>
  simp [ndH,rV,qI,qV,wI,wV,rE,qE,wE,Nd.cells,nilS,ndT,tdE,tdV,tdC,mI,encK,Ct.cells,h1,hq,h3,htx] at hs ht <;>
  simp [go_sem,ir151,ndH,rV,qI,qV,wI,wV,rE,qE,wE,Nd.cells,nilS,ndT,tdE,tdV,tdC,mI,encK,Ct.cells,h1,hq,h3,htx,h2,hs,ht,purse_eq,List.range_succ]
end Go.AM.R1
open Go Go.AM
namespace Go.AM.R1
def flagN (n:Nd) (st:Int):Nd:={ n with wrong:=true,owed:=false,mode:=if st=0 then 3 else 4,k:=0 }
def failN (n:Nd) (kind:Nat) (counted:Bool):List Nat × Nd :=
 if counted=true∨n.tx=false then
  (if (chN n 1).1=true then ([kind],flagN (chN n 1).2 n.ct.state) else ([kind,10],(chN n 1).2))
 else ([kind],flagN n n.ct.state)
def overN (n:Nd):List Nat × Nd:=([9],{ n with wrong:=false,mode:=5,k:=0 })
theorem nover_spec (n:Nd) (F:Fl) (f:Fr):call E (.func (.func 147) [] []) [.ptr 0 0,.ptr (mI n) 0] (ndT n F [] f)=some (.tup [],ndT (overN n).2 F [9] f):=by
 have hT:=tell_nil f 9
 have hu:=nturn_spec { n with wrong:=false } F 5
 rw [call_func E E147]
 simp only [overN]
 by_cases h1:n.raw=[]<;>by_cases hq:n.nq=true<;>by_cases h3:n.row=[] <;>
 simp [ndH,rV,qI,qV,wI,wV,rE,qE,wE,Nd.cells,nilS,ndT,tdE,tdV,tdC,mI,encK,h1,hq,h3] at hT hu <;>
 simp [go_sem,ir147,ndH,rV,qI,qV,wI,wV,rE,qE,wE,Nd.cells,nilS,ndT,tdE,tdV,tdC,mI,encK,h1,hq,h3,hT,hu,purse_eq,List.range_succ]
theorem nfail_none (n:Nd) (F:Fl) (f:Fr) (kind:Nat) (st:Int) (hst:n.ct.state=st) (htx:n.tx=true):call E (.func (.func 145) [] []) [.ptr 0 0,.ptr (mI n) 0,.lit (.int .i64 kind),.lit (.bool false)] (ndT n F [] f)=some (.tup [],ndT (flagN n st) F [kind] f):=by
 have hT:=tell_nil f kind
 have hs:=cstate_spec n.ct
 rw [hst] at hs
 clear hst
 rw [call_func E E145]
 by_cases h0:st=0
 ·have hu:=nturn_spec { n with wrong:=true,owed:=false } F 3
  by_cases h1:n.raw=[]<;>by_cases hq:n.nq=true<;>by_cases h3:n.row=[] <;>
  simp [ndH,rV,qI,qV,wI,wV,rE,qE,wE,Nd.cells,nilS,ndT,tdE,tdV,tdC,mI,encK,Ct.cells,h1,hq,h3,htx,h0] at hT hu hs <;>
  simp [go_sem,ir145,ndH,rV,qI,qV,wI,wV,rE,qE,wE,Nd.cells,nilS,ndT,tdE,tdV,tdC,mI,encK,Ct.cells,flagN,h1,hq,h3,htx,h0,hT,hu,hs,purse_eq,List.range_succ]
 ·have hu:=nturn_spec { n with wrong:=true,owed:=false } F 4
  by_cases h1:n.raw=[]<;>by_cases hq:n.nq=true<;>by_cases h3:n.row=[] <;>
  simp [ndH,rV,qI,qV,wI,wV,rE,qE,wE,Nd.cells,nilS,ndT,tdE,tdV,tdC,mI,encK,Ct.cells,h1,hq,h3,htx,h0] at hT hu hs <;>
  simp [go_sem,ir145,ndH,rV,qI,qV,wI,wV,rE,qE,wE,Nd.cells,nilS,ndT,tdE,tdV,tdC,mI,encK,Ct.cells,flagN,h1,hq,h3,htx,h0,hT,hu,hs,purse_eq,List.range_succ]
set_option maxHeartbeats 4000000 in
theorem nfail_off (n:Nd) (F:Fl) (hn:n.Ok) (f:Fr) (kind:Nat) (ctd:Bool) (st:Int) (hst:n.ct.state=st) (hct:ctd=true∨n.tx=false) (c:Ct) (hc:c=chCt n 1) (h2:c.state=2):call E (.func (.func 145) [] []) [.ptr 0 0,.ptr (mI n) 0,.lit (.int .i64 kind),.lit (.bool ctd)] (ndT n F [] f)
  = some (.tup [],ndT { n with ct:=c,mode:=10,k:=0,rows:=0 } F [kind,10] f):=by
 have hT:=tell_nil f kind
 have hs:=cstate_spec n.ct
 have hch:=ncharge_one_off n F hn f kind 1 (.inl rfl) c hc h2
 rw [hst] at hs
 clear hst hc
 rw [call_func E E145]
 cases ctd
 ·have htx:n.tx=false:=by simpa using hct
  by_cases h1:n.raw=[]<;>by_cases hq:n.nq=true<;>by_cases h3:n.row=[] <;>
  simp [ndH,rV,qI,qV,wI,wV,rE,qE,wE,Nd.cells,nilS,ndT,tdE,tdV,tdC,mI,encK,Ct.cells,h1,hq,h3,htx] at hT hch hs <;>
  simp [go_sem,ir145,ndH,rV,qI,qV,wI,wV,rE,qE,wE,Nd.cells,nilS,ndT,tdE,tdV,tdC,mI,encK,Ct.cells,h1,hq,h3,htx,hT,hch,hs,purse_eq,List.range_succ]
 ·by_cases h1:n.raw=[]<;>by_cases hq:n.nq=true<;>by_cases h3:n.row=[] <;>
  simp [ndH,rV,qI,qV,wI,wV,rE,qE,wE,Nd.cells,nilS,ndT,tdE,tdV,tdC,mI,encK,Ct.cells,h1,hq,h3] at hT hch hs <;>
  simp [go_sem,ir145,ndH,rV,qI,qV,wI,wV,rE,qE,wE,Nd.cells,nilS,ndT,tdE,tdV,tdC,mI,encK,Ct.cells,h1,hq,h3,hT,hch,hs,purse_eq,List.range_succ]
set_option maxHeartbeats 4000000 in
theorem nfail_on (n:Nd) (F:Fl) (hn:n.Ok) (f:Fr) (kind:Nat) (ctd:Bool) (st:Int) (hst:n.ct.state=st) (hct:ctd=true∨n.tx=false) (c:Ct) (hc:c=chCt n 1) (h2:¬ c.state=2):call E (.func (.func 145) [] []) [.ptr 0 0,.ptr (mI n) 0,.lit (.int .i64 kind),.lit (.bool ctd)] (ndT n F [] f)
  = some (.tup [],ndT (flagN { n with ct:=c } st) F [kind] f):=by
 have hT:=tell_nil f kind
 have hs:=cstate_spec n.ct
 have hch:=ncharge_one_on n F hn f kind 1 (.inl rfl) c hc h2
 rw [hst] at hs
 clear hst hc
 rw [call_func E E145]
 by_cases h0:st=0
 case pos =>
  have hu:=nturn_spec { n with ct:=c,wrong:=true,owed:=false } F 3
  cases ctd
  ·have htx:n.tx=false:=by simpa using hct
   by_cases h1:n.raw=[]<;>by_cases hq:n.nq=true<;>by_cases h3:n.row=[] <;>
   simp [ndH,rV,qI,qV,wI,wV,rE,qE,wE,Nd.cells,nilS,ndT,tdE,tdV,tdC,mI,encK,Ct.cells,h1,hq,h3,htx,h0] at hT hch hs hu <;>
   simp [go_sem,ir145,ndH,rV,qI,qV,wI,wV,rE,qE,wE,Nd.cells,nilS,ndT,tdE,tdV,tdC,mI,encK,Ct.cells,flagN,h1,hq,h3,htx,h0,hT,hch,hs,hu,purse_eq,List.range_succ]
  ·by_cases h1:n.raw=[]<;>by_cases hq:n.nq=true<;>by_cases h3:n.row=[] <;>
   simp [ndH,rV,qI,qV,wI,wV,rE,qE,wE,Nd.cells,nilS,ndT,tdE,tdV,tdC,mI,encK,Ct.cells,h1,hq,h3,h0] at hT hch hs hu <;>
   simp [go_sem,ir145,ndH,rV,qI,qV,wI,wV,rE,qE,wE,Nd.cells,nilS,ndT,tdE,tdV,tdC,mI,encK,Ct.cells,flagN,h1,hq,h3,h0,hT,hch,hs,hu,purse_eq,List.range_succ]
 case neg =>
  have hu:=nturn_spec { n with ct:=c,wrong:=true,owed:=false } F 4
  cases ctd
  ·have htx:n.tx=false:=by simpa using hct
   by_cases h1:n.raw=[]<;>by_cases hq:n.nq=true<;>by_cases h3:n.row=[] <;>
   simp [ndH,rV,qI,qV,wI,wV,rE,qE,wE,Nd.cells,nilS,ndT,tdE,tdV,tdC,mI,encK,Ct.cells,h1,hq,h3,htx,h0] at hT hch hs hu <;>
   simp [go_sem,ir145,ndH,rV,qI,qV,wI,wV,rE,qE,wE,Nd.cells,nilS,ndT,tdE,tdV,tdC,mI,encK,Ct.cells,flagN,h1,hq,h3,htx,h0,hT,hch,hs,hu,purse_eq,List.range_succ]
  ·by_cases h1:n.raw=[]<;>by_cases hq:n.nq=true<;>by_cases h3:n.row=[] <;>
   simp [ndH,rV,qI,qV,wI,wV,rE,qE,wE,Nd.cells,nilS,ndT,tdE,tdV,tdC,mI,encK,Ct.cells,h1,hq,h3,h0] at hT hch hs hu <;>
   simp [go_sem,ir145,ndH,rV,qI,qV,wI,wV,rE,qE,wE,Nd.cells,nilS,ndT,tdE,tdV,tdC,mI,encK,Ct.cells,flagN,h1,hq,h3,h0,hT,hch,hs,hu,purse_eq,List.range_succ]
theorem nfail_spec (n:Nd) (F:Fl) (hn:n.Ok) (f:Fr) (kind:Nat) (ctd:Bool):call E (.func (.func 145) [] []) [.ptr 0 0,.ptr (mI n) 0,.lit (.int .i64 kind),.lit (.bool ctd)] (ndT n F [] f)=some (.tup [],ndT (failN n kind ctd).2 F (failN n kind ctd).1 f):=by
 by_cases hc:ctd=true∨n.tx=false
 ·by_cases h:(chCt n 1).state=2
  ·rw [nfail_off n F hn f kind ctd _ rfl hc _ rfl h,show failN n kind ctd=([kind,10],{ n with ct:=chCt n 1,mode:=10,k:=0,rows:=0 }) by
    unfold failN;rw [if_pos hc,show chN n 1=(false,{ n with ct:=chCt n 1,mode:=10,k:=0,rows:=0 }) by unfold chN;rw [if_pos h]];simp]
  ·rw [nfail_on n F hn f kind ctd _ rfl hc _ rfl h,show failN n kind ctd=([kind],flagN { n with ct:=chCt n 1 } n.ct.state) by
    unfold failN;rw [if_pos hc,show chN n 1=(true,{ n with ct:=chCt n 1 }) by unfold chN;rw [if_neg h]];simp]
 ·have h1:ctd=false:=by cases ctd;rfl;exact absurd (.inl rfl) hc
  have h2:n.tx=true:=by cases h:n.tx;exact absurd (.inr h) hc;rfl
  rw [h1,nfail_none n F f kind _ rfl h2,show failN n kind false=([kind],flagN n n.ct.state) by unfold failN;rw [if_neg (by rw [h2];simp)]]
end Go.AM.R1
open Go Go.AM
namespace Go.AM.R1
theorem k1w {k:Nat} (h:k≤1000000000):IntKind.wrap .i64 ((k:Int)+1)=k+1:=wrap64 (by omega) (by omega)
theorem w11:IntKind.wrap .i64 11=11:=by decide
theorem w8:IntKind.wrap .i64 8=8:=by decide
theorem w6:IntKind.wrap .i64 6=6:=by decide
theorem w7:IntKind.wrap .i64 7=7:=by decide
theorem w1c:IntKind.wrap .i64 1=1:=by decide
theorem w128:IntKind.wrap .i64 128=128:=by decide
def joinN (n:Nd) (b:Bool):List Nat × Nd:=([],if b=false then { n with k:=0 } else if n.k+1=11 then { n with mode:=1,k:=0 } else { n with k:=n.k+1 })
def domN (n:Nd) (b:Bool):List Nat × Nd :=
 if b=false then ([],if n.k+1=6 then { n with mode:=6,k:=0 } else { n with k:=n.k+1 })
 else if (chN n 8).1=true then ([4],if n.k+1=6 then { (chN n 8).2 with mode:=6,k:=0 } else { (chN n 8).2 with k:=n.k+1 })
 else ([4,10],(chN n 8).2)
def pasK (n:Nd) (b:Bool):Nat:=if 0<n.k∧b≠n.lvl then 1 else n.k+1
def pasN (n:Nd) (b:Bool):List Nat × Nd :=
 if n.owed=true∧b=false then
  (if (chN { n with k:=pasK n b,lvl:=b,owed:=false } 8).1=true then
   ([],if pasK n b=6 then { (chN { n with k:=pasK n b,lvl:=b,owed:=false } 8).2 with mode:=6,k:=0 } else (chN { n with k:=pasK n b,lvl:=b,owed:=false } 8).2)
  else ([10],(chN { n with k:=pasK n b,lvl:=b,owed:=false } 8).2))
 else ([],if pasK n b=6 then { n with lvl:=b,mode:=6,k:=0 } else { n with k:=pasK n b,lvl:=b })
set_option maxHeartbeats 4000000 in
theorem njoin_spec (n:Nd) (F:Fl) (hk:n.k≤1000000000) (f:Fr) (b:Bool):call E (.func (.func 123) [] []) [.ptr 0 0,.ptr (mI n) 0,.lit (.int .i64 (lv b))] (ndT n F [] f)=some (.tup [],ndT (joinN n b).2 F (joinN n b).1 f):=by
 have w1:=k1w hk
 rw [call_func E E123]
 cases b
 case false =>
  rw [show joinN n false=([],{ n with k:=0 }) from rfl]
  by_cases h1:n.raw=[]<;>by_cases hq:n.nq=true<;>by_cases h3:n.row=[] <;>
  simp [go_sem,ir123,ndH,rV,qI,qV,wI,wV,rE,qE,wE,Nd.cells,nilS,ndT,tdE,tdV,tdC,mI,encK,h1,hq,h3,lvF,w1,purse_eq,List.range_succ]
 case true =>
  by_cases hk2:n.k+1=11
  case pos =>
   rw [show joinN n true=([],{ n with mode:=1,k:=0 }) by unfold joinN;rw [if_neg (by simp),if_pos hk2]]
   have hk3:(n.k:Int)+1=11:=by omega
   have hu:=nturn_spec { n with k:=11 } F 1
   by_cases h1:n.raw=[]<;>by_cases hq:n.nq=true<;>by_cases h3:n.row=[] <;>
   simp [ndH,rV,qI,qV,wI,wV,rE,qE,wE,Nd.cells,nilS,ndT,tdE,tdV,tdC,mI,encK,h1,hq,h3,lvT] at hu <;>
   simp [go_sem,ir123,ndH,rV,qI,qV,wI,wV,rE,qE,wE,Nd.cells,nilS,ndT,tdE,tdV,tdC,mI,encK,h1,hq,h3,lvT,hk3,w11,hu,purse_eq,List.range_succ]
  case neg =>
   rw [show joinN n true=([],{ n with k:=n.k+1 }) by unfold joinN;rw [if_neg (by simp),if_neg hk2]]
   have hk3:¬ ((n.k:Int)+1=11):=by omega
   by_cases h1:n.raw=[]<;>by_cases hq:n.nq=true<;>by_cases h3:n.row=[] <;>
   simp [go_sem,ir123,ndH,rV,qI,qV,wI,wV,rE,qE,wE,Nd.cells,nilS,ndT,tdE,tdV,tdC,mI,encK,h1,hq,h3,lvT,w1,hk3,purse_eq,List.range_succ]
set_option maxHeartbeats 4000000 in
theorem ndom_spec (n:Nd) (F:Fl) (hn:n.Ok) (hk:n.k≤1000000000) (f:Fr) (b:Bool):call E (.func (.func 126) [] []) [.ptr 0 0,.ptr (mI n) 0,.lit (.int .i64 (lv b))] (ndT n F [] f)=some (.tup [],ndT (domN n b).2 F (domN n b).1 f):=by
 have w1:=k1w hk
 rw [call_func E E126]
 cases b
 case false =>
  by_cases hk2:n.k+1=6
  case pos =>
   rw [show domN n false=([],{ n with mode:=6,k:=0 }) by unfold domN;rw [if_pos rfl,if_pos hk2]]
   have hk3:(n.k:Int)+1=6:=by omega
   have hu:=nturn_spec { n with k:=6 } F 6
   by_cases h1:n.raw=[]<;>by_cases hq:n.nq=true<;>by_cases h3:n.row=[] <;>
   simp [ndH,rV,qI,qV,wI,wV,rE,qE,wE,Nd.cells,nilS,ndT,tdE,tdV,tdC,mI,encK,h1,hq,h3,lvF] at hu <;>
   simp [go_sem,ir126,ndH,rV,qI,qV,wI,wV,rE,qE,wE,Nd.cells,nilS,ndT,tdE,tdV,tdC,mI,encK,h1,hq,h3,lvF,hk3,w6,hu,purse_eq,List.range_succ]
  case neg =>
   rw [show domN n false=([],{ n with k:=n.k+1 }) by unfold domN;rw [if_pos rfl,if_neg hk2]]
   have hk3:¬ ((n.k:Int)+1=6):=by omega
   by_cases h1:n.raw=[]<;>by_cases hq:n.nq=true<;>by_cases h3:n.row=[] <;>
   simp [go_sem,ir126,ndH,rV,qI,qV,wI,wV,rE,qE,wE,Nd.cells,nilS,ndT,tdE,tdV,tdC,mI,encK,h1,hq,h3,lvF,w1,hk3,purse_eq,List.range_succ]
 case true =>
  have hT:=tell_nil f 4
  by_cases h2:(chCt n 8).state=2
  case pos =>
   have hc:=ncharge_one_off n F hn f 4 8 (.inr rfl) _ rfl h2
   rw [show domN n true=([4,10],{ n with ct:=chCt n 8,mode:=10,k:=0,rows:=0 }) by
    unfold domN;rw [show chN n 8=(false,{ n with ct:=chCt n 8,mode:=10,k:=0,rows:=0 }) by unfold chN;rw [if_pos h2]];simp]
   generalize chCt n 8=c at hc ⊢
   by_cases h1:n.raw=[]<;>by_cases hq:n.nq=true<;>by_cases h3:n.row=[] <;>
   simp [ndH,rV,qI,qV,wI,wV,rE,qE,wE,Nd.cells,nilS,ndT,tdE,tdV,tdC,mI,encK,h1,hq,h3,lvT] at hT hc <;>
   simp [go_sem,ir126,ndH,rV,qI,qV,wI,wV,rE,qE,wE,Nd.cells,nilS,ndT,tdE,tdV,tdC,mI,encK,h1,hq,h3,lvT,hT,hc,purse_eq,List.range_succ]
  case neg =>
   have hc:=ncharge_one_on n F hn f 4 8 (.inr rfl) _ rfl h2
   by_cases hk2:n.k+1=6
   case pos =>
    rw [show domN n true=([4],{ n with ct:=chCt n 8,mode:=6,k:=0 }) by
     unfold domN;rw [show chN n 8=(true,{ n with ct:=chCt n 8 }) by unfold chN;rw [if_neg h2]];simp [hk2]]
    have hk3:(n.k:Int)+1=6:=by omega
    generalize chCt n 8=c at hc ⊢
    have hu:=nturn_spec { n with ct:=c,k:=6 } F 6
    by_cases h1:n.raw=[]<;>by_cases hq:n.nq=true<;>by_cases h3:n.row=[] <;>
    simp [ndH,rV,qI,qV,wI,wV,rE,qE,wE,Nd.cells,nilS,ndT,tdE,tdV,tdC,mI,encK,h1,hq,h3,lvT] at hT hc hu <;>
    simp [go_sem,ir126,ndH,rV,qI,qV,wI,wV,rE,qE,wE,Nd.cells,nilS,ndT,tdE,tdV,tdC,mI,encK,h1,hq,h3,lvT,hT,hc,hk3,w6,hu,purse_eq,List.range_succ]
   case neg =>
    rw [show domN n true=([4],{ n with ct:=chCt n 8,k:=n.k+1 }) by
     unfold domN;rw [show chN n 8=(true,{ n with ct:=chCt n 8 }) by unfold chN;rw [if_neg h2]];rw [if_neg (by simp),if_pos rfl,if_neg hk2]]
    have hk3:¬ ((n.k:Int)+1=6):=by omega
    generalize chCt n 8=c at hc ⊢
    by_cases h1:n.raw=[]<;>by_cases hq:n.nq=true<;>by_cases h3:n.row=[] <;>
    simp [ndH,rV,qI,qV,wI,wV,rE,qE,wE,Nd.cells,nilS,ndT,tdE,tdV,tdC,mI,encK,h1,hq,h3,lvT] at hT hc <;>
    simp [go_sem,ir126,ndH,rV,qI,qV,wI,wV,rE,qE,wE,Nd.cells,nilS,ndT,tdE,tdV,tdC,mI,encK,h1,hq,h3,lvT,hT,hc,w1,hk3,purse_eq,List.range_succ]
theorem lvNe {a b:Bool} (h:a≠b):¬ (lv a=lv b):=by rw [lv_eq];exact h
theorem natCastS (k:Nat):((k+1:Nat):Int)=(k:Int)+1:=rfl
set_option maxHeartbeats 4000000 in
theorem npas_spec (n:Nd) (F:Fl) (hn:n.Ok) (hk:n.k≤1000000000) (f:Fr) (b:Bool):call E (.func (.func 127) [] []) [.ptr 0 0,.ptr (mI n) 0,.lit (.int .i64 (lv b))] (ndT n F [] f)=some (.tup [],ndT (pasN n b).2 F (pasN n b).1 f):=by
 have w1:=k1w hk
 rw [call_func E E127]
 by_cases ho:n.owed=true∧b=false
 case neg =>
  by_cases hp:0<n.k
  case pos =>
   have hp':(0:Int)<n.k:=by omega
   by_cases hb:n.lvl=b
   case pos =>
    have ek:pasK n b=n.k+1:=by unfold pasK;rw [if_neg (by simp [hb])]
    by_cases hk2:n.k+1=6
    case pos =>
     rw [show pasN n b=([],{ n with lvl:=b,mode:=6,k:=0 }) by unfold pasN;rw [if_neg ho,ek,if_pos hk2]]
     have hk3:(n.k:Int)+1=6:=by omega
     have hu:=nturn_spec { n with k:=6,lvl:=b } F 6
     by_cases hw:n.owed=true
     case pos =>
      have hbt:b=true:=by cases b;exact absurd ⟨hw,rfl⟩ ho;rfl
      subst hbt
      by_cases h1:n.raw=[]<;>by_cases hq:n.nq=true<;>by_cases h3:n.row=[] <;>
      simp [ndH,rV,qI,qV,wI,wV,rE,qE,wE,Nd.cells,nilS,ndT,tdE,tdV,tdC,mI,encK,h1,hq,h3,hw,lvT,lvF,hp,hb] at hu <;>
      simp [go_sem,ir127,ndH,rV,qI,qV,wI,wV,rE,qE,wE,Nd.cells,nilS,ndT,tdE,tdV,tdC,mI,encK,h1,hq,h3,hw,lvT,lvF,hp,hb,hk3,w6,hu,purse_eq,List.range_succ]
     case neg =>
      by_cases h1:n.raw=[]<;>by_cases hq:n.nq=true<;>by_cases h3:n.row=[] <;>
      simp [ndH,rV,qI,qV,wI,wV,rE,qE,wE,Nd.cells,nilS,ndT,tdE,tdV,tdC,mI,encK,h1,hq,h3,hw,lv_eq,hp,hb] at hu <;>
      simp [go_sem,ir127,ndH,rV,qI,qV,wI,wV,rE,qE,wE,Nd.cells,nilS,ndT,tdE,tdV,tdC,mI,encK,h1,hq,h3,hw,lv_eq,hp,hb,hk3,w6,hu,purse_eq,List.range_succ]
    case neg =>
     rw [show pasN n b=([],{ n with k:=n.k+1,lvl:=b }) by unfold pasN;rw [if_neg ho,ek,if_neg hk2]]
     have hk3:¬ ((n.k:Int)+1=6):=by omega
     by_cases hw:n.owed=true
     case pos =>
      have hbt:b=true:=by cases b;exact absurd ⟨hw,rfl⟩ ho;rfl
      subst hbt
      by_cases h1:n.raw=[]<;>by_cases hq:n.nq=true<;>by_cases h3:n.row=[] <;>
      simp [go_sem,ir127,ndH,rV,qI,qV,wI,wV,rE,qE,wE,Nd.cells,nilS,ndT,tdE,tdV,tdC,mI,encK,h1,hq,h3,hw,lvT,lvF,hp,hb,w1,hk3,purse_eq,List.range_succ]
     case neg =>
      by_cases h1:n.raw=[]<;>by_cases hq:n.nq=true<;>by_cases h3:n.row=[] <;>
      simp [go_sem,ir127,ndH,rV,qI,qV,wI,wV,rE,qE,wE,Nd.cells,nilS,ndT,tdE,tdV,tdC,mI,encK,h1,hq,h3,hw,lv_eq,hp,hb,w1,hk3,purse_eq,List.range_succ]
   case neg =>
    have ek:pasK n b=1:=by unfold pasK;rw [if_pos ⟨hp,fun e=>hb e.symm⟩]
    have hbl:=lvNe (fun e:b=n.lvl=>hb e.symm)
    rw [show pasN n b=([],{ n with k:=1,lvl:=b }) by unfold pasN;rw [if_neg ho,ek];rfl]
    by_cases hw:n.owed=true
    case pos =>
     have hbt:b=true:=by cases b;exact absurd ⟨hw,rfl⟩ ho;rfl
     subst hbt
     by_cases h1:n.raw=[]<;>by_cases hq:n.nq=true<;>by_cases h3:n.row=[] <;>
     simp [go_sem,ir127,ndH,rV,qI,qV,wI,wV,rE,qE,wE,Nd.cells,nilS,ndT,tdE,tdV,tdC,mI,encK,h1,hq,h3,hw,lvT,lvF,hp,hb,hbl,w1c,w1c,purse_eq,List.range_succ]
    case neg =>
     by_cases h1:n.raw=[]<;>by_cases hq:n.nq=true<;>by_cases h3:n.row=[] <;>
     simp [go_sem,ir127,ndH,rV,qI,qV,wI,wV,rE,qE,wE,Nd.cells,nilS,ndT,tdE,tdV,tdC,mI,encK,h1,hq,h3,hw,lv_eq,hp,hb,hbl,w1c,w1c,purse_eq,List.range_succ]
  case neg =>
   have hp':¬ (0:Int)<n.k:=by omega
   have ek:pasK n b=n.k+1:=by unfold pasK;rw [if_neg (by simp [hp])]
   by_cases hk2:n.k+1=6
   case pos =>
    rw [show pasN n b=([],{ n with lvl:=b,mode:=6,k:=0 }) by unfold pasN;rw [if_neg ho,ek,if_pos hk2]]
    have hk3:(n.k:Int)+1=6:=by omega
    have hu:=nturn_spec { n with k:=6,lvl:=b } F 6
    by_cases hw:n.owed=true
    case pos =>
     have hbt:b=true:=by cases b;exact absurd ⟨hw,rfl⟩ ho;rfl
     subst hbt
     by_cases h1:n.raw=[]<;>by_cases hq:n.nq=true<;>by_cases h3:n.row=[] <;>
     simp [ndH,rV,qI,qV,wI,wV,rE,qE,wE,Nd.cells,nilS,ndT,tdE,tdV,tdC,mI,encK,h1,hq,h3,hw,lvT,lvF,hp] at hu <;>
     simp [go_sem,ir127,ndH,rV,qI,qV,wI,wV,rE,qE,wE,Nd.cells,nilS,ndT,tdE,tdV,tdC,mI,encK,h1,hq,h3,hw,lvT,lvF,hp,hk3,w6,hu,purse_eq,List.range_succ]
    case neg =>
     by_cases h1:n.raw=[]<;>by_cases hq:n.nq=true<;>by_cases h3:n.row=[] <;>
     simp [ndH,rV,qI,qV,wI,wV,rE,qE,wE,Nd.cells,nilS,ndT,tdE,tdV,tdC,mI,encK,h1,hq,h3,hw,lv_eq,hp] at hu <;>
     simp [go_sem,ir127,ndH,rV,qI,qV,wI,wV,rE,qE,wE,Nd.cells,nilS,ndT,tdE,tdV,tdC,mI,encK,h1,hq,h3,hw,lv_eq,hp,hk3,w6,hu,purse_eq,List.range_succ]
   case neg =>
    rw [show pasN n b=([],{ n with k:=n.k+1,lvl:=b }) by unfold pasN;rw [if_neg ho,ek,if_neg hk2]]
    have hk3:¬ ((n.k:Int)+1=6):=by omega
    by_cases hw:n.owed=true
    case pos =>
     have hbt:b=true:=by cases b;exact absurd ⟨hw,rfl⟩ ho;rfl
     subst hbt
     by_cases h1:n.raw=[]<;>by_cases hq:n.nq=true<;>by_cases h3:n.row=[] <;>
     simp [go_sem,ir127,ndH,rV,qI,qV,wI,wV,rE,qE,wE,Nd.cells,nilS,ndT,tdE,tdV,tdC,mI,encK,h1,hq,h3,hw,lvT,lvF,hp,w1,hk3,purse_eq,List.range_succ]
    case neg =>
     by_cases h1:n.raw=[]<;>by_cases hq:n.nq=true<;>by_cases h3:n.row=[] <;>
     simp [go_sem,ir127,ndH,rV,qI,qV,wI,wV,rE,qE,wE,Nd.cells,nilS,ndT,tdE,tdV,tdC,mI,encK,h1,hq,h3,hw,lv_eq,hp,w1,hk3,purse_eq,List.range_succ]
 case pos =>
  have hw:=ho.1
  have hbf:=ho.2
  subst hbf
  by_cases hp:0<n.k
  case pos =>
   have hp':(0:Int)<n.k:=by omega
   by_cases hb:n.lvl=false
   case pos =>
    have ek:pasK n false=n.k+1:=by unfold pasK;rw [if_neg (by simp [hb])]
    have hnM:({ n with k:=n.k+1,lvl:=false,owed:=false }:Nd).Ok:=⟨hn.nq,hn.ql,hn.ct⟩
    have hcc:chCt ({ n with k:=n.k+1,lvl:=false,owed:=false }:Nd) 8=chCt n 8:=rfl
    by_cases h2:(chCt n 8).state=2
    case pos =>
     have hc:=ncharge_nil_off ({ n with k:=n.k+1,lvl:=false,owed:=false }:Nd) F hnM f 8 (.inr rfl) _ hcc.symm h2
     rw [show pasN n false=([10],{ n with lvl:=false,owed:=false,ct:=chCt n 8,mode:=10,k:=0,rows:=0 }) by
      unfold pasN;rw [if_pos ho,ek,show chN ({ n with k:=n.k+1,lvl:=false,owed:=false }:Nd) 8=(false,{ n with lvl:=false,owed:=false,ct:=chCt n 8,mode:=10,k:=0,rows:=0 }) by unfold chN;rw [hcc,if_pos h2]];simp]
     generalize chCt n 8=c at hc ⊢
     by_cases h1:n.raw=[]<;>by_cases hq:n.nq=true<;>by_cases h3:n.row=[] <;>
     simp [ndH,rV,qI,qV,wI,wV,rE,qE,wE,Nd.cells,nilS,ndT,tdE,tdV,tdC,mI,encK,h1,hq,h3,hw,lvT,lvF,hp,hb] at hc <;>
     simp [go_sem,ir127,ndH,rV,qI,qV,wI,wV,rE,qE,wE,Nd.cells,nilS,ndT,tdE,tdV,tdC,mI,encK,h1,hq,h3,hw,lvT,lvF,hp,hb,hc,w1,natCastS,purse_eq,List.range_succ]
    case neg =>
     have hc:=ncharge_nil_on ({ n with k:=n.k+1,lvl:=false,owed:=false }:Nd) F hnM f 8 (.inr rfl) _ hcc.symm h2
     have hch:chN ({ n with k:=n.k+1,lvl:=false,owed:=false }:Nd) 8=(true,{ n with k:=n.k+1,lvl:=false,owed:=false,ct:=chCt n 8 }):=by unfold chN;rw [hcc,if_neg h2]
     by_cases hk2:n.k+1=6
     case pos =>
      rw [show pasN n false=([],{ n with lvl:=false,owed:=false,ct:=chCt n 8,mode:=6,k:=0 }) by unfold pasN;rw [if_pos ho,ek,hch];simp [hk2]]
      have hk3:(n.k:Int)+1=6:=by omega
      rw [hk2] at hc
      generalize chCt n 8=c at hc ⊢
      have hu:=nturn_spec { n with k:=6,lvl:=false,owed:=false,ct:=c } F 6
      by_cases h1:n.raw=[]<;>by_cases hq:n.nq=true<;>by_cases h3:n.row=[] <;>
      simp [ndH,rV,qI,qV,wI,wV,rE,qE,wE,Nd.cells,nilS,ndT,tdE,tdV,tdC,mI,encK,h1,hq,h3,hw,lvT,lvF,hp,hb] at hc hu <;>
      simp [go_sem,ir127,ndH,rV,qI,qV,wI,wV,rE,qE,wE,Nd.cells,nilS,ndT,tdE,tdV,tdC,mI,encK,h1,hq,h3,hw,lvT,lvF,hp,hb,hc,hu,hk3,w6,purse_eq,List.range_succ]
     case neg =>
      rw [show pasN n false=([],{ n with k:=n.k+1,lvl:=false,owed:=false,ct:=chCt n 8 }) by unfold pasN;rw [if_pos ho,ek,hch];rw [if_pos rfl,if_neg hk2]]
      have hk3:¬ ((n.k:Int)+1=6):=by omega
      generalize chCt n 8=c at hc ⊢
      by_cases h1:n.raw=[]<;>by_cases hq:n.nq=true<;>by_cases h3:n.row=[] <;>
      simp [ndH,rV,qI,qV,wI,wV,rE,qE,wE,Nd.cells,nilS,ndT,tdE,tdV,tdC,mI,encK,h1,hq,h3,hw,lvT,lvF,hp,hb] at hc <;>
      simp [go_sem,ir127,ndH,rV,qI,qV,wI,wV,rE,qE,wE,Nd.cells,nilS,ndT,tdE,tdV,tdC,mI,encK,h1,hq,h3,hw,lvT,lvF,hp,hb,hc,w1,hk3,natCastS,purse_eq,List.range_succ]
   case neg =>
    have ek:pasK n false=1:=by unfold pasK;rw [if_pos ⟨hp,fun e=>hb e.symm⟩]
    have hbl:=lvNe (fun e:false=n.lvl=>hb e.symm)
    have hnM:({ n with k:=1,lvl:=false,owed:=false }:Nd).Ok:=⟨hn.nq,hn.ql,hn.ct⟩
    have hcc:chCt ({ n with k:=1,lvl:=false,owed:=false }:Nd) 8=chCt n 8:=rfl
    by_cases h2:(chCt n 8).state=2
    case pos =>
     have hc:=ncharge_nil_off ({ n with k:=1,lvl:=false,owed:=false }:Nd) F hnM f 8 (.inr rfl) _ hcc.symm h2
     rw [show pasN n false=([10],{ n with lvl:=false,owed:=false,ct:=chCt n 8,mode:=10,k:=0,rows:=0 }) by
      unfold pasN;rw [if_pos ho,ek,show chN ({ n with k:=1,lvl:=false,owed:=false }:Nd) 8=(false,{ n with lvl:=false,owed:=false,ct:=chCt n 8,mode:=10,k:=0,rows:=0 }) by unfold chN;rw [hcc,if_pos h2]];simp]
     generalize chCt n 8=c at hc ⊢
     by_cases h1:n.raw=[]<;>by_cases hq:n.nq=true<;>by_cases h3:n.row=[] <;>
     simp [ndH,rV,qI,qV,wI,wV,rE,qE,wE,Nd.cells,nilS,ndT,tdE,tdV,tdC,mI,encK,h1,hq,h3,hw,lvT,lvF,hp,hb,hbl,w1c] at hc <;>
     simp [go_sem,ir127,ndH,rV,qI,qV,wI,wV,rE,qE,wE,Nd.cells,nilS,ndT,tdE,tdV,tdC,mI,encK,h1,hq,h3,hw,lvT,lvF,hp,hb,hbl,w1c,hc,natCastS,purse_eq,List.range_succ]
    case neg =>
     have hc:=ncharge_nil_on ({ n with k:=1,lvl:=false,owed:=false }:Nd) F hnM f 8 (.inr rfl) _ hcc.symm h2
     have hch:chN ({ n with k:=1,lvl:=false,owed:=false }:Nd) 8=(true,{ n with k:=1,lvl:=false,owed:=false,ct:=chCt n 8 }):=by unfold chN;rw [hcc,if_neg h2]
     rw [show pasN n false=([],{ n with k:=1,lvl:=false,owed:=false,ct:=chCt n 8 }) by unfold pasN;rw [if_pos ho,ek,hch];simp]
     generalize chCt n 8=c at hc ⊢
     by_cases h1:n.raw=[]<;>by_cases hq:n.nq=true<;>by_cases h3:n.row=[] <;>
     simp [ndH,rV,qI,qV,wI,wV,rE,qE,wE,Nd.cells,nilS,ndT,tdE,tdV,tdC,mI,encK,h1,hq,h3,hw,lvT,lvF,hp,hb,hbl,w1c] at hc <;>
     simp [go_sem,ir127,ndH,rV,qI,qV,wI,wV,rE,qE,wE,Nd.cells,nilS,ndT,tdE,tdV,tdC,mI,encK,h1,hq,h3,hw,lvT,lvF,hp,hb,hbl,w1c,hc,natCastS,purse_eq,List.range_succ]
  case neg =>
   have hp':¬ (0:Int)<n.k:=by omega
   have ek:pasK n false=n.k+1:=by unfold pasK;rw [if_neg (by simp [hp])]
   have hnM:({ n with k:=n.k+1,lvl:=false,owed:=false }:Nd).Ok:=⟨hn.nq,hn.ql,hn.ct⟩
   have hcc:chCt ({ n with k:=n.k+1,lvl:=false,owed:=false }:Nd) 8=chCt n 8:=rfl
   by_cases h2:(chCt n 8).state=2
   case pos =>
    have hc:=ncharge_nil_off ({ n with k:=n.k+1,lvl:=false,owed:=false }:Nd) F hnM f 8 (.inr rfl) _ hcc.symm h2
    rw [show pasN n false=([10],{ n with lvl:=false,owed:=false,ct:=chCt n 8,mode:=10,k:=0,rows:=0 }) by
     unfold pasN;rw [if_pos ho,ek,show chN ({ n with k:=n.k+1,lvl:=false,owed:=false }:Nd) 8=(false,{ n with lvl:=false,owed:=false,ct:=chCt n 8,mode:=10,k:=0,rows:=0 }) by unfold chN;rw [hcc,if_pos h2]];simp]
    generalize chCt n 8=c at hc ⊢
    by_cases h1:n.raw=[]<;>by_cases hq:n.nq=true<;>by_cases h3:n.row=[] <;>
    simp [ndH,rV,qI,qV,wI,wV,rE,qE,wE,Nd.cells,nilS,ndT,tdE,tdV,tdC,mI,encK,h1,hq,h3,hw,lvT,lvF,hp] at hc <;>
    simp [go_sem,ir127,ndH,rV,qI,qV,wI,wV,rE,qE,wE,Nd.cells,nilS,ndT,tdE,tdV,tdC,mI,encK,h1,hq,h3,hw,lvT,lvF,hp,hc,w1,natCastS,purse_eq,List.range_succ]
   case neg =>
    have hc:=ncharge_nil_on ({ n with k:=n.k+1,lvl:=false,owed:=false }:Nd) F hnM f 8 (.inr rfl) _ hcc.symm h2
    have hch:chN ({ n with k:=n.k+1,lvl:=false,owed:=false }:Nd) 8=(true,{ n with k:=n.k+1,lvl:=false,owed:=false,ct:=chCt n 8 }):=by unfold chN;rw [hcc,if_neg h2]
    by_cases hk2:n.k+1=6
    case pos =>
     rw [show pasN n false=([],{ n with lvl:=false,owed:=false,ct:=chCt n 8,mode:=6,k:=0 }) by unfold pasN;rw [if_pos ho,ek,hch];simp [hk2]]
     have hk3:(n.k:Int)+1=6:=by omega
     rw [hk2] at hc
     generalize chCt n 8=c at hc ⊢
     have hu:=nturn_spec { n with k:=6,lvl:=false,owed:=false,ct:=c } F 6
     by_cases h1:n.raw=[]<;>by_cases hq:n.nq=true<;>by_cases h3:n.row=[] <;>
     simp [ndH,rV,qI,qV,wI,wV,rE,qE,wE,Nd.cells,nilS,ndT,tdE,tdV,tdC,mI,encK,h1,hq,h3,hw,lvT,lvF,hp] at hc hu <;>
     simp [go_sem,ir127,ndH,rV,qI,qV,wI,wV,rE,qE,wE,Nd.cells,nilS,ndT,tdE,tdV,tdC,mI,encK,h1,hq,h3,hw,lvT,lvF,hp,hc,hu,hk3,w6,purse_eq,List.range_succ]
    case neg =>
     rw [show pasN n false=([],{ n with k:=n.k+1,lvl:=false,owed:=false,ct:=chCt n 8 }) by unfold pasN;rw [if_pos ho,ek,hch];rw [if_pos rfl,if_neg hk2]]
     have hk3:¬ ((n.k:Int)+1=6):=by omega
     generalize chCt n 8=c at hc ⊢
     by_cases h1:n.raw=[]<;>by_cases hq:n.nq=true<;>by_cases h3:n.row=[] <;>
     simp [ndH,rV,qI,qV,wI,wV,rE,qE,wE,Nd.cells,nilS,ndT,tdE,tdV,tdC,mI,encK,h1,hq,h3,hw,lvT,lvF,hp] at hc <;>
     simp [go_sem,ir127,ndH,rV,qI,qV,wI,wV,rE,qE,wE,Nd.cells,nilS,ndT,tdE,tdV,tdC,mI,encK,h1,hq,h3,hw,lvT,lvF,hp,hc,w1,hk3,natCastS,purse_eq,List.range_succ]
end Go.AM.R1
open Go Go.AM
namespace Go.AM.R1
def stepF:List AVal:=[.func (.func 123) [] [],.func (.func 124) [] [],.func (.func 125) [] [],.func (.func 126) [] [],.func (.func 127) [] [],.func (.func 126) [] [],
 .func (.func 128) [] [],.func (.func 129) [] [],.func (.func 130) [] [],.func (.func 131) [] [],.func (.func 132) [] []]
theorem csteps_spec:call E (.func (.func 100) [] []) [] []=some (.agg stepF,[]):=by
 rw [call_func E E100]
 simp [go_sem,ir100,stepF,purse_eq,List.range_succ]
theorem w2c:IntKind.wrap .i64 2=2:=by decide
def encEv (e:Nat × Fr):List AVal:=[.lit (.int .i64 0),.lit (.int .i64 0),.lit (.int .i64 e.1),.lit (.int .i64 e.2.id),.lit (.bool e.2.ext),.lit (.bool e.2.rtr),.lit (.int .i64 e.2.len),.lit (.int .u8 e.2.d0),.lit (.int .u8 e.2.d1),.lit (.int .u8 e.2.d2),.lit (.int .u8 e.2.d3),.lit (.int .u8 e.2.d4),.lit (.int .u8 e.2.d5),.lit (.int .u8 e.2.d6),.lit (.int .u8 e.2.d7)]
def evV (ix:Nat) (es:List (Nat × Fr)):AVal:=if es=[] then nilS else .own ix es.length 15 0 es.length
def evE (es:List (Nat × Fr)):Heap:=if es=[] then [] else [.arr true false false 15 (es.map encEv)]
def evsOf (ks:List Nat) (f:Fr):List (Nat × Fr):=ks.map fun k=>(k,if k=1∨k=2 then f else Fr.zero)
set_option maxHeartbeats 16000000 in
theorem nstep_can0 (n:Nd) (F:Fl) (b:Bool) (fid:Nat) (hm:n.mode<11) (hg:(stepF.drop n.mode)[0]?=some (.func (.func fid) [] [])) (n':Nd) (F2:Fl) (f':Fr) (k1:n'.raw=[]↔n.raw=[]) (k2:n'.nq=n.nq) (k3:n'.row=[]↔n.row=[]) (hc:call E (.func (.func fid) [] []) [.ptr 0 0,.ptr (mI n) 0,.lit (.int .i64 (lv b))] (ndT n F [] Fr.zero)=some (.tup [],ndT n' F2 [] f')):call E (.func (.func 71) [] []) [.ptr 0 0,.lit (.int .i64 (lv b))] (ndH n F)=some (.tup [evV (mI n) [],.lit (.int .i64 0)],ndH n' F2++evE []):=by
 have hs:=csteps_spec
 have hlv:¬ (¬ lv b=0∧¬ lv b=1):=by cases b<;>simp [lv]
 rw [call_func E E71]
 have hrn:∀ g,renL g stepF=stepF:=fun g=>rfl
 have hrf:refsL stepF=[]:=rfl
 generalize stepF=sf at hs hg hrn hrf
 simp at hg
 cases b <;>
 by_cases h1:n.raw=[]<;>by_cases hq:n.nq=true<;>by_cases h3:n.row=[] <;>
 simp [ndH,rV,qI,qV,wI,wV,rE,qE,wE,Nd.cells,nilS,ndT,tdE,tdV,tdC,mI,encK,h1,hq,h3,k1,k2,k3,lvT,lvF,Fr.zero] at hc <;>
 simp [go_sem,ir71,run_codeL E L71_0.eq_1,run_inLoop',ndH,rV,qI,qV,wI,wV,rE,qE,wE,Nd.cells,nilS,ndT,tdE,tdV,tdC,mI,encK,evV,evE,encEv,Fr.zero,h1,hq,h3,k1,k2,k3,lvT,lvF,Fr.zero,hs,hc,hg,hm,hlv,hrn,hrf,aop_idxV,idxVG_agg,w1c,w2c,purse_eq,List.range_succ]
set_option maxHeartbeats 16000000 in
theorem nstep_can1f (n:Nd) (F:Fl) (b:Bool) (fid:Nat) (hm:n.mode<11) (hg:(stepF.drop n.mode)[0]?=some (.func (.func fid) [] [])) (a:Nat) (ha:a=1∨a=2) (n':Nd) (F2:Fl) (f':Fr) (k1:n'.raw=[]↔n.raw=[]) (k2:n'.nq=n.nq) (k3:n'.row=[]↔n.row=[]) (hc:call E (.func (.func fid) [] []) [.ptr 0 0,.ptr (mI n) 0,.lit (.int .i64 (lv b))] (ndT n F [] Fr.zero)=some (.tup [],ndT n' F2 [a] f')):call E (.func (.func 71) [] []) [.ptr 0 0,.lit (.int .i64 (lv b))] (ndH n F)=some (.tup [evV (mI n) [(a,f')],.lit (.int .i64 0)],ndH n' F2++evE [(a,f')]):=by
 have hs:=csteps_spec
 have hlv:¬ (¬ lv b=0∧¬ lv b=1):=by cases b<;>simp [lv]
 rw [call_func E E71]
 have hrn:∀ g,renL g stepF=stepF:=fun g=>rfl
 have hrf:refsL stepF=[]:=rfl
 generalize stepF=sf at hs hg hrn hrf
 simp at hg
 have ha1:(a:Int)=1∨(a:Int)=2:=by omega
 rcases ha with rfl | rfl
 ·cases b <;>
  by_cases h1:n.raw=[]<;>by_cases hq:n.nq=true<;>by_cases h3:n.row=[] <;>
  simp [ndH,rV,qI,qV,wI,wV,rE,qE,wE,Nd.cells,nilS,ndT,tdE,tdV,tdC,mI,encK,h1,hq,h3,k1,k2,k3,lvT,lvF,Fr.zero] at hc <;>
  simp [go_sem,ir71,run_codeL E L71_0.eq_1,run_inLoop',ndH,rV,qI,qV,wI,wV,rE,qE,wE,Nd.cells,nilS,ndT,tdE,tdV,tdC,mI,encK,evV,evE,encEv,Fr.zero,h1,hq,h3,k1,k2,k3,lvT,lvF,Fr.zero,hs,hc,hg,hm,hlv,hrn,hrf,aop_idxV,idxVG_agg,w1c,w2c,purse_eq,List.range_succ]
 ·cases b <;>
  by_cases h1:n.raw=[]<;>by_cases hq:n.nq=true<;>by_cases h3:n.row=[] <;>
  simp [ndH,rV,qI,qV,wI,wV,rE,qE,wE,Nd.cells,nilS,ndT,tdE,tdV,tdC,mI,encK,h1,hq,h3,k1,k2,k3,lvT,lvF,Fr.zero] at hc <;>
  simp [go_sem,ir71,run_codeL E L71_0.eq_1,run_inLoop',ndH,rV,qI,qV,wI,wV,rE,qE,wE,Nd.cells,nilS,ndT,tdE,tdV,tdC,mI,encK,evV,evE,encEv,Fr.zero,h1,hq,h3,k1,k2,k3,lvT,lvF,Fr.zero,hs,hc,hg,hm,hlv,hrn,hrf,aop_idxV,idxVG_agg,w1c,w2c,purse_eq,List.range_succ]
set_option maxHeartbeats 16000000 in
theorem nstep_can1 (n:Nd) (F:Fl) (b:Bool) (fid:Nat) (hm:n.mode<11) (hg:(stepF.drop n.mode)[0]?=some (.func (.func fid) [] [])) (a:Nat) (ha1:¬ a=1) (ha2:¬ a=2) (n':Nd) (F2:Fl) (f':Fr) (k1:n'.raw=[]↔n.raw=[]) (k2:n'.nq=n.nq) (k3:n'.row=[]↔n.row=[]) (hc:call E (.func (.func fid) [] []) [.ptr 0 0,.ptr (mI n) 0,.lit (.int .i64 (lv b))] (ndT n F [] Fr.zero)=some (.tup [],ndT n' F2 [a] f')):call E (.func (.func 71) [] []) [.ptr 0 0,.lit (.int .i64 (lv b))] (ndH n F)=some (.tup [evV (mI n) [(a,Fr.zero)],.lit (.int .i64 0)],ndH n' F2++evE [(a,Fr.zero)]):=by
 have hs:=csteps_spec
 have hlv:¬ (¬ lv b=0∧¬ lv b=1):=by cases b<;>simp [lv]
 rw [call_func E E71]
 have hrn:∀ g,renL g stepF=stepF:=fun g=>rfl
 have hrf:refsL stepF=[]:=rfl
 generalize stepF=sf at hs hg hrn hrf
 simp at hg
 have ha1':¬ (a:Int)=1:=by omega
 have ha2':¬ (a:Int)=2:=by omega
 cases b <;>
 by_cases h1:n.raw=[]<;>by_cases hq:n.nq=true<;>by_cases h3:n.row=[] <;>
 simp [ndH,rV,qI,qV,wI,wV,rE,qE,wE,Nd.cells,nilS,ndT,tdE,tdV,tdC,mI,encK,h1,hq,h3,k1,k2,k3,lvT,lvF,Fr.zero] at hc <;>
 simp [go_sem,ir71,run_codeL E L71_0.eq_1,run_inLoop',ndH,rV,qI,qV,wI,wV,rE,qE,wE,Nd.cells,nilS,ndT,tdE,tdV,tdC,mI,encK,evV,evE,encEv,Fr.zero,h1,hq,h3,k1,k2,k3,lvT,lvF,Fr.zero,hs,hc,hg,hm,hlv,hrn,hrf,aop_idxV,idxVG_agg,w1c,w2c,ha1,ha2,ha1',ha2',purse_eq,List.range_succ]
set_option maxHeartbeats 16000000 in
theorem nstep_can2 (n:Nd) (F:Fl) (b:Bool) (fid:Nat) (hm:n.mode<11) (hg:(stepF.drop n.mode)[0]?=some (.func (.func fid) [] [])) (a:Nat) (ha1:¬ a=1) (ha2:¬ a=2) (n':Nd) (F2:Fl) (f':Fr) (k1:n'.raw=[]↔n.raw=[]) (k2:n'.nq=n.nq) (k3:n'.row=[]↔n.row=[]) (hc:call E (.func (.func fid) [] []) [.ptr 0 0,.ptr (mI n) 0,.lit (.int .i64 (lv b))] (ndT n F [] Fr.zero)=some (.tup [],ndT n' F2 [a,10] f')):call E (.func (.func 71) [] []) [.ptr 0 0,.lit (.int .i64 (lv b))] (ndH n F)=some (.tup [evV (mI n) [(a,Fr.zero),(10,Fr.zero)],.lit (.int .i64 0)],ndH n' F2++evE [(a,Fr.zero),(10,Fr.zero)]):=by
 have hs:=csteps_spec
 have hlv:¬ (¬ lv b=0∧¬ lv b=1):=by cases b<;>simp [lv]
 rw [call_func E E71]
 have hrn:∀ g,renL g stepF=stepF:=fun g=>rfl
 have hrf:refsL stepF=[]:=rfl
 generalize stepF=sf at hs hg hrn hrf
 simp at hg
 have ha1':¬ (a:Int)=1:=by omega
 have ha2':¬ (a:Int)=2:=by omega
 cases b <;>
 by_cases h1:n.raw=[]<;>by_cases hq:n.nq=true<;>by_cases h3:n.row=[] <;>
 simp [ndH,rV,qI,qV,wI,wV,rE,qE,wE,Nd.cells,nilS,ndT,tdE,tdV,tdC,mI,encK,h1,hq,h3,k1,k2,k3,lvT,lvF,Fr.zero] at hc <;>
 simp [go_sem,ir71,run_codeL E L71_0.eq_1,run_inLoop',ndH,rV,qI,qV,wI,wV,rE,qE,wE,Nd.cells,nilS,ndT,tdE,tdV,tdC,mI,encK,evV,evE,encEv,Fr.zero,h1,hq,h3,k1,k2,k3,lvT,lvF,Fr.zero,hs,hc,hg,hm,hlv,hrn,hrf,aop_idxV,idxVG_agg,w1c,w2c,ha1,ha2,ha1',ha2',purse_eq,List.range_succ]
end Go.AM.R1
open Go Go.AM
namespace Go.AM.R1
def startN (n:Nd) (s:Bool):Nd:={ n with mode:=2,k:=0,raw:=[false],lvl:=false,run:=1,tx:=s,sends:=s,own:=if s=true then n.q.head?.getD Fr.zero else n.own,row:=if s=true then allP (n.q.head?.getD Fr.zero) else n.row }
def stG (d:Nat) (mid:Heap) (n n':Nd) (F:Fl) (s:Bool):Heap :=
 .box (n'.cells (.own (mI n+d) 1 1 0 1) (.ptr (qI n) 0) (if s=true then .own (mI n+d+1) n'.row.length 1 0 n'.row.length else wV n))::(rE n F++.box [qV n,.lit (.int .i64 16)]::(qE n F++wE n F))++mid
  ++ ([.arr true false false 1 [encLv false]]++(if s=true then [.arr true false false 1 (n'.row.map encLv)] else []))
set_option maxHeartbeats 4000000 in
theorem ntake_first (n:Nd) (F:Fl) (h1:n.raw=[]) (hr:n.run=0):call E (.func (.func 148) [] []) [.ptr 0 0,.lit (.int .i64 0)] (ndH n F)
  = some (.lit (.bool true),.box ({ n with lvl:=false,run:=1 }.cells (.own (mI n) 1 1 0 1) (.ptr 1 0) (wV n))::(.box [qV n,.lit (.int .i64 16)]::(qE n F++wE n F))++[.arr true false false 1 [encLv false]]):=by
 have hN:=nnext_spec n F (by rw [h1];exact ⟨by simp,by simp [dataF]⟩)
 rw [call_func E E148]
 rw [show nxV n=.tup [.lit (.int .i64 0),.lit (.int .i64 0),.lit (.bool false)] by unfold nxV;rw [h1,hr];rfl] at hN
 by_cases hq:n.nq=true<;>by_cases h3:n.row=[] <;>
 simp [ndH,rV,qI,qV,wI,wV,rE,qE,wE,Nd.cells,nilS,Fl.lock,h1,hq,h3,hr] at hN <;>
 simp [go_sem,ir148,ndH,rV,qI,qV,wI,wV,rE,qE,wE,Nd.cells,nilS,mI,h1,hq,h3,hr,hN,encLv,lvF,purse_eq,List.range_succ]
theorem allP_ne (f:Fr):¬ allP f=[]:=by
 intro e
 have:=congrArg List.length e
 simp [allP] at this
set_option maxHeartbeats 8000000 in
theorem nstart_no (n:Nd) (F:Fl):call E (.func (.func 144) [] []) [.ptr 0 0,.lit (.bool false)] (ndH n F)=some (.tup [],stG 0 [] n (startN n false) F false):=by
 have hu:=nturn_spec n F 2
 have hk:=ntake_first { n with mode:=2,k:=0,raw:=[],lvl:=false,run:=0 } F rfl rfl
 rw [call_func E E144]
 by_cases h1:n.raw=[]<;>by_cases hq:n.nq=true<;>by_cases h3:n.row=[] <;>
 simp [ndH,rV,qI,qV,wI,wV,rE,qE,wE,Nd.cells,nilS,mI,lvF,h1,hq,h3] at hu hk <;>
 simp [go_sem,ir144,ndH,rV,qI,qV,wI,wV,rE,qE,wE,Nd.cells,nilS,mI,stG,startN,lvF,encLv,h1,hq,h3,hu,hk,purse_eq,List.range_succ]
set_option maxHeartbeats 8000000 in
theorem nstart_yes (n:Nd) (F:Fl) (hn:n.Ok) (g:Fr) (r:List Fr) (hg:n.q=g::r) (hok:g.Ok) (hc:checkP g=0):call E (.func (.func 144) [] []) [.ptr 0 0,.lit (.bool true)] (ndH n F)=some (.tup [],stG 0 [] n (startN n true) F true):=by
 have hu:=nturn_spec n F 2
 have hk:=ntake_first { n with mode:=2,k:=0,raw:=[],lvl:=false,run:=0 } F rfl rfl
 have hf:=quFirst_spec n.nq F.fq n.q hn.nq
 have hA:=fall_spec g hok hc
 have hne:=allP_ne g
 have hq:n.nq=false:=by
  cases h:n.nq
  ·rfl
  ·have:=hn.nq h;rw [hg] at this;cases this
 rw [hg] at hf
 have e:startN n true={ n with mode:=2,k:=0,raw:=[false],lvl:=false,run:=1,tx:=true,sends:=true,own:=g,row:=allP g }:=by unfold startN;rw [hg];rfl
 rw [e]
 clear e
 generalize allP g=rw0 at hA hne ⊢
 rw [call_func E E144]
 by_cases h1:n.raw=[]<;>by_cases h3:n.row=[] <;>
 simp [ndH,rV,qI,qV,wI,wV,rE,qE,wE,Nd.cells,nilS,mI,lvF,h1,hq,h3,hg,quH,encFr,u8v] at hu hk hf hA <;>
 simp [go_sem,ir144,ndH,rV,qI,qV,wI,wV,rE,qE,wE,Nd.cells,nilS,mI,stG,lvF,encLv,encFr,u8v,h1,hq,h3,hg,hu,hk,hf,hA,hne,purse_eq,List.range_succ]
end Go.AM.R1
open Go Go.AM
namespace Go.AM.R1
structure Keep (n m:Nd):Prop where
 raw:m.raw=n.raw
 nq:m.nq=n.nq
 row:m.row=n.row
 q:m.q=n.q
theorem ch_keep (n:Nd) (w:Nat):Keep n (chN n w).2:=by unfold chN;split<;>exact ⟨rfl,rfl,rfl,rfl⟩
theorem flag_keep {n m:Nd} (h:Keep n m) (st:Int):Keep n (flagN m st):=⟨h.raw,h.nq,h.row,h.q⟩
theorem fail_keep (n:Nd) (kind:Nat) (c:Bool):Keep n (failN n kind c).2:=by
 unfold failN
 split
 ·split
  ·exact flag_keep (ch_keep n 1) _
  ·exact ch_keep n 1
 ·exact flag_keep ⟨rfl,rfl,rfl,rfl⟩ _
theorem fail_ks (n:Nd) (kind:Nat) (c:Bool):(failN n kind c).1=[kind]∨(failN n kind c).1=[kind,10]:=by
 unfold failN
 split
 ·split
  ·exact .inl rfl
  ·exact .inr rfl
 ·exact .inl rfl
theorem rx_on {n:Nd} (htx:n.tx=false) (ho:n.ct.off=false) (w:Nat):¬ (chCt n w).state=2:=by
 have:(chCt n w).off=false:=by
  unfold chCt Ct.rxE
  rw [htx,ho];simp
 unfold Ct.state
 rw [this]
 simp only [Bool.false_eq_true,if_false]
 split<;>omega
def waitN (n:Nd) (b:Bool):List Nat × Nd :=
 if b=true then ([],{ n with mode:=7,k:=1 })
 else if n.k=0∧n.wrong=true∧n.tx=false then ([],{ n with k:=1,ct:=chCt n 8 })
 else if (n.k+1) % 8=0 then (if (chN { n with k:=n.k+1 } 8).1=true then ([],(chN { n with k:=n.k+1 } 8).2) else ([10],(chN { n with k:=n.k+1 } 8).2))
 else ([],{ n with k:=n.k+1 })
def closeN (n:Nd) (b:Bool):List Nat × Nd :=
 if b=true then ([],if n.k+1=8 then { n with mode:=8,k:=0 } else { n with k:=n.k+1 })
 else if n.k=7 then overN n else failN n 7 true
def offK (n:Nd) (b:Bool):Nat:=if b=true then n.k+1 else 0
def offN (n:Nd) (b:Bool):List Nat × Nd :=
 if offK n b=11 then (if n.rows+1=128 then ([11],{ n with ct:=Ct.zero,tx:=false,mode:=1,k:=0,rows:=128 }) else ([],{ n with k:=0,rows:=n.rows+1 }))
 else if n.rows=128 then ([11],{ n with ct:=Ct.zero,tx:=false,mode:=1,k:=0 }) else ([],{ n with k:=offK n b })
theorem tm1:¬ ((1:Int).tmod 8=0):=by decide
theorem tmod8 (k:Nat):(((k:Int)+1).tmod 8=0)=((k+1) % 8=0):=by
 apply propext
 rw [show (k:Int)+1=((k+1:Nat):Int) from rfl,Int.tmod_eq_emod_of_nonneg (by omega)]
 omega
set_option maxHeartbeats 4000000 in
theorem nwait_spec (n:Nd) (F:Fl) (hn:n.Ok) (hk:n.k≤1000000000) (ho:n.ct.off=false) (f:Fr) (b:Bool):call E (.func (.func 128) [] []) [.ptr 0 0,.ptr (mI n) 0,.lit (.int .i64 (lv b))] (ndT n F [] f)=some (.tup [],ndT (waitN n b).2 F (waitN n b).1 f):=by
 have w1:=k1w hk
 have htm:=tmod8 n.k
 cases b
 case true =>
  rw [show waitN n true=([],{ n with mode:=7,k:=1 }) from rfl]
  have hu:=nturn_spec n F 7
  rw [call_func E E128]
  by_cases h1:n.raw=[]<;>by_cases hq:n.nq=true<;>by_cases h3:n.row=[] <;>
  simp [ndH,rV,qI,qV,wI,wV,rE,qE,wE,Nd.cells,nilS,ndT,tdE,tdV,tdC,mI,encK,h1,hq,h3,lvT] at hu <;>
  simp [go_sem,ir128,ndH,rV,qI,qV,wI,wV,rE,qE,wE,Nd.cells,nilS,ndT,tdE,tdV,tdC,mI,encK,h1,hq,h3,lvT,hu,purse_eq,List.range_succ]
 case false =>
  by_cases hA:n.k=0∧n.wrong=true∧n.tx=false
  case pos =>
   obtain ⟨a1,a2,a3⟩:=hA
   have hnM:({ n with k:=1 }:Nd).Ok:=⟨hn.nq,hn.ql,hn.ct⟩
   have hc:=ncharge_nil_on ({ n with k:=1 }:Nd) F hnM f 8 (.inr rfl) (chCt n 8) rfl (rx_on a3 ho 8)
   rw [show waitN n false=([],{ n with k:=1,ct:=chCt n 8 }) by unfold waitN;rw [if_neg (by simp),if_pos ⟨a1,a2,a3⟩]]
   generalize chCt n 8=c at hc ⊢
   rw [call_func E E128]
   by_cases h1:n.raw=[]<;>by_cases hq:n.nq=true<;>by_cases h3:n.row=[] <;>
   simp [ndH,rV,qI,qV,wI,wV,rE,qE,wE,Nd.cells,nilS,ndT,tdE,tdV,tdC,mI,encK,h1,hq,h3,lvF,a1,a2,a3] at hc <;>
   simp [go_sem,ir128,ndH,rV,qI,qV,wI,wV,rE,qE,wE,Nd.cells,nilS,ndT,tdE,tdV,tdC,mI,encK,h1,hq,h3,lvF,a1,a2,a3,hc,w1c,tm1,purse_eq,List.range_succ]
  case neg =>
   have hA':(n.k=0→n.wrong=true→n.tx=true):=fun x y=>by cases h:n.tx;exact absurd ⟨x,y,h⟩ hA;rfl
   by_cases hB:(n.k+1) % 8=0
   case pos =>
    have k0:¬ n.k=0:=by omega
    have k0':¬ ((n.k:Int)+1=1):=by omega
    have hnM:({ n with k:=n.k+1 }:Nd).Ok:=⟨hn.nq,hn.ql,hn.ct⟩
    have hcc:chCt ({ n with k:=n.k+1 }:Nd) 8=chCt n 8:=rfl
    have hB':((n.k:Int)+1).tmod 8=0:=by rw [htm];exact hB
    by_cases h2:(chCt n 8).state=2
    case pos =>
     have hc:=ncharge_nil_off ({ n with k:=n.k+1 }:Nd) F hnM f 8 (.inr rfl) _ hcc.symm h2
     rw [show waitN n false=([10],{ n with ct:=chCt n 8,mode:=10,k:=0,rows:=0 }) by
      unfold waitN;rw [if_neg (by simp),if_neg hA,if_pos hB,show chN ({ n with k:=n.k+1 }:Nd) 8=(false,{ n with ct:=chCt n 8,mode:=10,k:=0,rows:=0 }) by unfold chN;rw [hcc,if_pos h2]];simp]
     generalize chCt n 8=c at hc ⊢
     rw [call_func E E128]
     by_cases h1:n.raw=[]<;>by_cases hq:n.nq=true<;>by_cases h3:n.row=[] <;>
     simp [ndH,rV,qI,qV,wI,wV,rE,qE,wE,Nd.cells,nilS,ndT,tdE,tdV,tdC,mI,encK,h1,hq,h3,lvF] at hc <;>
     simp [go_sem,ir128,ndH,rV,qI,qV,wI,wV,rE,qE,wE,Nd.cells,nilS,ndT,tdE,tdV,tdC,mI,encK,h1,hq,h3,lvF,hc,w1,k0',hB',natCastS,purse_eq,List.range_succ]
    case neg =>
     have hc:=ncharge_nil_on ({ n with k:=n.k+1 }:Nd) F hnM f 8 (.inr rfl) _ hcc.symm h2
     rw [show waitN n false=([],{ n with ct:=chCt n 8,k:=n.k+1 }) by
      unfold waitN;rw [if_neg (by simp),if_neg hA,if_pos hB,show chN ({ n with k:=n.k+1 }:Nd) 8=(true,{ n with ct:=chCt n 8,k:=n.k+1 }) by unfold chN;rw [hcc,if_neg h2]];simp]
     generalize chCt n 8=c at hc ⊢
     rw [call_func E E128]
     by_cases h1:n.raw=[]<;>by_cases hq:n.nq=true<;>by_cases h3:n.row=[] <;>
     simp [ndH,rV,qI,qV,wI,wV,rE,qE,wE,Nd.cells,nilS,ndT,tdE,tdV,tdC,mI,encK,h1,hq,h3,lvF] at hc <;>
     simp [go_sem,ir128,ndH,rV,qI,qV,wI,wV,rE,qE,wE,Nd.cells,nilS,ndT,tdE,tdV,tdC,mI,encK,h1,hq,h3,lvF,hc,w1,k0',hB',natCastS,purse_eq,List.range_succ]
   case neg =>
    rw [show waitN n false=([],{ n with k:=n.k+1 }) by unfold waitN;rw [if_neg (by simp),if_neg hA,if_neg hB]]
    have hB':¬ ((n.k:Int)+1).tmod 8=0:=by rw [htm];exact hB
    rw [call_func E E128]
    by_cases k0:n.k=0
    case pos =>
     by_cases hw:n.wrong=true
     case pos =>
      have htx:=hA' k0 hw
      by_cases h1:n.raw=[]<;>by_cases hq:n.nq=true<;>by_cases h3:n.row=[] <;>
      simp [go_sem,ir128,ndH,rV,qI,qV,wI,wV,rE,qE,wE,Nd.cells,nilS,ndT,tdE,tdV,tdC,mI,encK,h1,hq,h3,lvF,k0,hw,htx,w1c,tm1,purse_eq,List.range_succ]
     case neg =>
      by_cases h1:n.raw=[]<;>by_cases hq:n.nq=true<;>by_cases h3:n.row=[] <;>
      simp [go_sem,ir128,ndH,rV,qI,qV,wI,wV,rE,qE,wE,Nd.cells,nilS,ndT,tdE,tdV,tdC,mI,encK,h1,hq,h3,lvF,k0,hw,w1c,tm1,purse_eq,List.range_succ]
    case neg =>
     have k0':¬ ((n.k:Int)+1=1):=by omega
     by_cases h1:n.raw=[]<;>by_cases hq:n.nq=true<;>by_cases h3:n.row=[] <;>
     simp [go_sem,ir128,ndH,rV,qI,qV,wI,wV,rE,qE,wE,Nd.cells,nilS,ndT,tdE,tdV,tdC,mI,encK,h1,hq,h3,lvF,w1,k0,k0',hB',purse_eq,List.range_succ]
set_option maxHeartbeats 4000000 in
theorem nclose_spec (n:Nd) (F:Fl) (hn:n.Ok) (hk:n.k≤1000000000) (f:Fr) (b:Bool):call E (.func (.func 129) [] []) [.ptr 0 0,.ptr (mI n) 0,.lit (.int .i64 (lv b))] (ndT n F [] f)=some (.tup [],ndT (closeN n b).2 F (closeN n b).1 f):=by
 have w1:=k1w hk
 cases b
 case true =>
  rw [call_func E E129]
  by_cases hk2:n.k+1=8
  case pos =>
   rw [show closeN n true=([],{ n with mode:=8,k:=0 }) by unfold closeN;rw [if_pos rfl,if_pos hk2]]
   have hk3:(n.k:Int)+1=8:=by omega
   have hu:=nturn_spec { n with k:=8 } F 8
   by_cases h1:n.raw=[]<;>by_cases hq:n.nq=true<;>by_cases h3:n.row=[] <;>
   simp [ndH,rV,qI,qV,wI,wV,rE,qE,wE,Nd.cells,nilS,ndT,tdE,tdV,tdC,mI,encK,h1,hq,h3,lvT] at hu <;>
   simp [go_sem,ir129,ndH,rV,qI,qV,wI,wV,rE,qE,wE,Nd.cells,nilS,ndT,tdE,tdV,tdC,mI,encK,h1,hq,h3,lvT,hk3,w8,hu,purse_eq,List.range_succ]
  case neg =>
   rw [show closeN n true=([],{ n with k:=n.k+1 }) by unfold closeN;rw [if_pos rfl,if_neg hk2]]
   have hk3:¬ ((n.k:Int)+1=8):=by omega
   by_cases h1:n.raw=[]<;>by_cases hq:n.nq=true<;>by_cases h3:n.row=[] <;>
   simp [go_sem,ir129,ndH,rV,qI,qV,wI,wV,rE,qE,wE,Nd.cells,nilS,ndT,tdE,tdV,tdC,mI,encK,h1,hq,h3,lvT,w1,hk3,purse_eq,List.range_succ]
 case false =>
  by_cases h7:n.k=7
  case pos =>
   have ho:=nover_spec n F f
   rw [show closeN n false=overN n by unfold closeN;rw [if_neg (by simp),if_pos h7]]
   rw [call_func E E129]
   simp only [overN] at ho ⊢
   by_cases h1:n.raw=[]<;>by_cases hq:n.nq=true<;>by_cases h3:n.row=[] <;>
   simp [ndH,rV,qI,qV,wI,wV,rE,qE,wE,Nd.cells,nilS,ndT,tdE,tdV,tdC,mI,encK,h1,hq,h3,lvF,h7] at ho <;>
   simp [go_sem,ir129,ndH,rV,qI,qV,wI,wV,rE,qE,wE,Nd.cells,nilS,ndT,tdE,tdV,tdC,mI,encK,h1,hq,h3,lvF,h7,ho,purse_eq,List.range_succ]
  case neg =>
   have h7':¬ ((n.k:Int)=7):=by omega
   have hf:=nfail_spec n F hn f 7 true
   rw [show closeN n false=failN n 7 true by unfold closeN;rw [if_neg (by simp),if_neg h7]]
   rw [call_func E E129]
   have hkp:=fail_keep n 7 true
   have hks:=fail_ks n 7 true
   generalize failN n 7 true=z at hf hkp hks ⊢
   obtain ⟨ks,m⟩:=z
   obtain ⟨e1,e2,e3,-⟩:=hkp
   simp only [] at hf hks e1 e2 e3 ⊢
   rcases hks with rfl | rfl
   ·skip
    by_cases h1:n.raw=[]<;>by_cases hq:n.nq=true<;>by_cases h3:n.row=[] <;>
    simp [ndH,rV,qI,qV,wI,wV,rE,qE,wE,Nd.cells,nilS,ndT,tdE,tdV,tdC,mI,encK,h1,hq,h3,lvF,h7',e1,e2,e3] at hf <;>
    simp [go_sem,ir129,ndH,rV,qI,qV,wI,wV,rE,qE,wE,Nd.cells,nilS,ndT,tdE,tdV,tdC,mI,encK,h1,hq,h3,lvF,h7',e1,e2,e3,hf,purse_eq,List.range_succ]
   ·skip
    by_cases h1:n.raw=[]<;>by_cases hq:n.nq=true<;>by_cases h3:n.row=[] <;>
    simp [ndH,rV,qI,qV,wI,wV,rE,qE,wE,Nd.cells,nilS,ndT,tdE,tdV,tdC,mI,encK,h1,hq,h3,lvF,h7',e1,e2,e3] at hf <;>
    simp [go_sem,ir129,ndH,rV,qI,qV,wI,wV,rE,qE,wE,Nd.cells,nilS,ndT,tdE,tdV,tdC,mI,encK,h1,hq,h3,lvF,h7',e1,e2,e3,hf,purse_eq,List.range_succ]
end Go.AM.R1
open Go Go.AM
namespace Go.AM.R1
def lateP (n:Nd):Bool:=n.tx && decide (n.ct.state=1)
def pauseN (n:Nd):List Nat × Nd:=([],if n.k+1<3 then { n with k:=n.k+1 } else if lateP n=true then { n with mode:=9,k:=0 } else { n with mode:=1,k:=0 })
def suspN (n:Nd):List Nat × Nd:=([],if n.k+1=8 then { n with mode:=1,k:=0 } else { n with k:=n.k+1 })
set_option maxHeartbeats 4000000 in
theorem noff_spec (n:Nd) (F:Fl) (hk:n.k≤1000000000) (hr:n.rows≤1000000000) (f:Fr) (b:Bool):call E (.func (.func 132) [] []) [.ptr 0 0,.ptr (mI n) 0,.lit (.int .i64 (lv b))] (ndT n F [] f)=some (.tup [],ndT (offN n b).2 F (offN n b).1 f):=by
 have w1:=k1w hk
 have w2:=k1w hr
 have hT:=tell_nil f 11
 have hb0:=cback_spec n.ct
 cases b
 case false =>
  have ek:¬ offK n false=11:=by simp [offK]
  by_cases hr2:n.rows=128
  case pos =>
   have hu:=nturn_spec { n with ct:=Ct.zero,tx:=false,k:=0 } F 1
   rw [show offN n false=([11],{ n with ct:=Ct.zero,tx:=false,mode:=1,k:=0 }) by unfold offN;rw [if_neg ek,if_pos hr2]]
   rw [call_func E E132]
   by_cases h1:n.raw=[]<;>by_cases hq:n.nq=true<;>by_cases h3:n.row=[] <;>
   simp [ndH,rV,qI,qV,wI,wV,rE,qE,wE,Nd.cells,nilS,ndT,tdE,tdV,tdC,mI,encK,h1,hq,h3,lvF,Ct.cells,Ct.zero,hr2] at hT hb0 hu <;>
   simp [go_sem,ir132,ndH,rV,qI,qV,wI,wV,rE,qE,wE,Nd.cells,nilS,ndT,tdE,tdV,tdC,mI,encK,h1,hq,h3,lvF,Ct.cells,Ct.zero,hr2,hT,hb0,hu,w1,purse_eq,List.range_succ]
  case neg =>
   have hr3:¬ ((n.rows:Int)=128):=by omega
   rw [show offN n false=([],{ n with k:=0 }) by unfold offN;rw [if_neg ek,if_neg hr2];rfl]
   rw [call_func E E132]
   by_cases h1:n.raw=[]<;>by_cases hq:n.nq=true<;>by_cases h3:n.row=[] <;>
   simp [go_sem,ir132,ndH,rV,qI,qV,wI,wV,rE,qE,wE,Nd.cells,nilS,ndT,tdE,tdV,tdC,mI,encK,h1,hq,h3,lvF,w1,hr3,purse_eq,List.range_succ]
 case true =>
  by_cases hk2:n.k+1=11
  case pos =>
   have hk3:(n.k:Int)+1=11:=by omega
   have ek:offK n true=11:=hk2
   by_cases hr2:n.rows+1=128
   case pos =>
    have hr3:(n.rows:Int)+1=128:=by omega
    have hu:=nturn_spec { n with ct:=Ct.zero,tx:=false,k:=0,rows:=128 } F 1
    rw [show offN n true=([11],{ n with ct:=Ct.zero,tx:=false,mode:=1,k:=0,rows:=128 }) by unfold offN;rw [if_pos ek,if_pos hr2]]
    rw [call_func E E132]
    by_cases h1:n.raw=[]<;>by_cases hq:n.nq=true<;>by_cases h3:n.row=[] <;>
    simp [ndH,rV,qI,qV,wI,wV,rE,qE,wE,Nd.cells,nilS,ndT,tdE,tdV,tdC,mI,encK,h1,hq,h3,lvT,Ct.cells,Ct.zero] at hT hb0 hu <;>
    simp [go_sem,ir132,ndH,rV,qI,qV,wI,wV,rE,qE,wE,Nd.cells,nilS,ndT,tdE,tdV,tdC,mI,encK,h1,hq,h3,lvT,Ct.cells,Ct.zero,hT,hb0,hu,hk3,w11,hr3,w128,purse_eq,List.range_succ]
   case neg =>
    have hr3:¬ ((n.rows:Int)+1=128):=by omega
    rw [show offN n true=([],{ n with k:=0,rows:=n.rows+1 }) by unfold offN;rw [if_pos ek,if_neg hr2]]
    rw [call_func E E132]
    by_cases h1:n.raw=[]<;>by_cases hq:n.nq=true<;>by_cases h3:n.row=[] <;>
    simp [go_sem,ir132,ndH,rV,qI,qV,wI,wV,rE,qE,wE,Nd.cells,nilS,ndT,tdE,tdV,tdC,mI,encK,h1,hq,h3,lvT,hk3,w11,w2,hr3,purse_eq,List.range_succ]
  case neg =>
   have hk3:¬ ((n.k:Int)+1=11):=by omega
   have ek:¬ offK n true=11:=hk2
   by_cases hr2:n.rows=128
   case pos =>
    have hu:=nturn_spec { n with ct:=Ct.zero,tx:=false,k:=n.k+1 } F 1
    rw [show offN n true=([11],{ n with ct:=Ct.zero,tx:=false,mode:=1,k:=0 }) by unfold offN;rw [if_neg ek,if_pos hr2]]
    rw [call_func E E132]
    by_cases h1:n.raw=[]<;>by_cases hq:n.nq=true<;>by_cases h3:n.row=[] <;>
    simp [ndH,rV,qI,qV,wI,wV,rE,qE,wE,Nd.cells,nilS,ndT,tdE,tdV,tdC,mI,encK,h1,hq,h3,lvT,Ct.cells,Ct.zero,hr2] at hT hb0 hu <;>
    simp [go_sem,ir132,ndH,rV,qI,qV,wI,wV,rE,qE,wE,Nd.cells,nilS,ndT,tdE,tdV,tdC,mI,encK,h1,hq,h3,lvT,Ct.cells,Ct.zero,hr2,hT,hb0,hu,hk3,w1,natCastS,purse_eq,List.range_succ]
   case neg =>
    have hr3:¬ ((n.rows:Int)=128):=by omega
    rw [show offN n true=([],{ n with k:=n.k+1 }) by unfold offN;rw [if_neg ek,if_neg hr2];rfl]
    rw [call_func E E132]
    by_cases h1:n.raw=[]<;>by_cases hq:n.nq=true<;>by_cases h3:n.row=[] <;>
    simp [go_sem,ir132,ndH,rV,qI,qV,wI,wV,rE,qE,wE,Nd.cells,nilS,ndT,tdE,tdV,tdC,mI,encK,h1,hq,h3,lvT,hk3,w1,hr3,purse_eq,List.range_succ]
set_option maxHeartbeats 4000000 in
theorem nidle_rest (n:Nd) (F:Fl) (hn:n.Ok) (hq0:n.q=[]) (f:Fr):call E (.func (.func 124) [] []) [.ptr 0 0,.ptr (mI n) 0,.lit (.int .i64 1)] (ndT n F [] f)=some (.tup [],ndT n F [] f):=by
 have hp:=npend_spec n F hn
 rw [hq0] at hp
 rw [call_func E E124]
 by_cases h1:n.raw=[]<;>by_cases hq:n.nq=true<;>by_cases h3:n.row=[] <;>
 simp [ndH,rV,qI,qV,wI,wV,rE,qE,wE,Nd.cells,nilS,ndT,tdE,tdV,tdC,mI,encK,h1,hq,h3,hq0] at hp <;>
 simp [go_sem,ir124,ndH,rV,qI,qV,wI,wV,rE,qE,wE,Nd.cells,nilS,ndT,tdE,tdV,tdC,mI,encK,h1,hq,h3,hq0,hp,purse_eq,List.range_succ]
set_option maxHeartbeats 4000000 in
theorem nidle_fail (n:Nd) (F:Fl) (hn:n.Ok) (hq0:¬ n.q=[]) (f:Fr):call E (.func (.func 124) [] []) [.ptr 0 0,.ptr (mI n) 0,.lit (.int .i64 1)] (ndT n F [] f)=some (.tup [],ndT (failN { n with tx:=true } 4 true).2 F (failN { n with tx:=true } 4 true).1 f):=by
 have hp:=npend_spec n F hn
 have hnM:({ n with tx:=true }:Nd).Ok:=⟨hn.nq,hn.ql,hn.ct⟩
 have hf:=nfail_spec { n with tx:=true } F hnM f 4 true
 have hkp:=fail_keep { n with tx:=true } 4 true
 have hks:=fail_ks { n with tx:=true } 4 true
 generalize failN { n with tx:=true } 4 true=z at hf hkp hks ⊢
 obtain ⟨ks,m⟩:=z
 obtain ⟨e1,e2,e3,-⟩:=hkp
 simp only [] at hf hks e1 e2 e3 ⊢
 rw [call_func E E124]
 rcases hks with rfl | rfl
 ·skip
  by_cases h1:n.raw=[]<;>by_cases hq:n.nq=true<;>by_cases h3:n.row=[] <;>
  simp [ndH,rV,qI,qV,wI,wV,rE,qE,wE,Nd.cells,nilS,ndT,tdE,tdV,tdC,mI,encK,h1,hq,h3,hq0,e1,e2,e3] at hp hf <;>
  simp [go_sem,ir124,ndH,rV,qI,qV,wI,wV,rE,qE,wE,Nd.cells,nilS,ndT,tdE,tdV,tdC,mI,encK,h1,hq,h3,hq0,e1,e2,e3,hp,hf,purse_eq,List.range_succ]
 ·skip
  by_cases h1:n.raw=[]<;>by_cases hq:n.nq=true<;>by_cases h3:n.row=[] <;>
  simp [ndH,rV,qI,qV,wI,wV,rE,qE,wE,Nd.cells,nilS,ndT,tdE,tdV,tdC,mI,encK,h1,hq,h3,hq0,e1,e2,e3] at hp hf <;>
  simp [go_sem,ir124,ndH,rV,qI,qV,wI,wV,rE,qE,wE,Nd.cells,nilS,ndT,tdE,tdV,tdC,mI,encK,h1,hq,h3,hq0,e1,e2,e3,hp,hf,purse_eq,List.range_succ]
set_option maxHeartbeats 8000000 in
theorem nidle_start_no (n:Nd) (F:Fl) (hn:n.Ok) (hq0:n.q=[]) (f:Fr):call E (.func (.func 124) [] []) [.ptr 0 0,.ptr (mI n) 0,.lit (.int .i64 0)] (ndT n F [] f)=some (.tup [],stG 1 (tdE (mI n) [] f) n (startN n false) F false):=by
 have hp:=npend_spec n F hn
 have hs:=nstart_no n F
 rw [hq0] at hp
 rw [call_func E E124]
 by_cases h1:n.raw=[]<;>by_cases hq:n.nq=true<;>by_cases h3:n.row=[] <;>
 simp [ndH,rV,qI,qV,wI,wV,rE,qE,wE,Nd.cells,nilS,ndT,tdE,tdV,tdC,mI,encK,h1,hq,h3,hq0,stG,startN,encLv,lvF] at hp hs <;>
 simp [go_sem,ir124,ndH,rV,qI,qV,wI,wV,rE,qE,wE,Nd.cells,nilS,ndT,tdE,tdV,tdC,mI,encK,h1,hq,h3,hq0,stG,startN,encLv,lvF,hp,hs,purse_eq,List.range_succ]
set_option maxHeartbeats 8000000 in
theorem nidle_start_yes (n:Nd) (F:Fl) (hn:n.Ok) (g:Fr) (r:List Fr) (hg:n.q=g::r) (hok:g.Ok) (hc:checkP g=0) (f:Fr):call E (.func (.func 124) [] []) [.ptr 0 0,.ptr (mI n) 0,.lit (.int .i64 0)] (ndT n F [] f)=some (.tup [],stG 1 (tdE (mI n) [] f) n (startN n true) F true):=by
 have hp:=npend_spec n F hn
 have hs:=nstart_yes n F hn g r hg hok hc
 rw [hg] at hp
 have hq:n.nq=false:=by
  cases h:n.nq
  ·rfl
  ·have:=hn.nq h;rw [hg] at this;cases this
 rw [call_func E E124]
 have hne:=allP_ne g
 have e:startN n true={ n with mode:=2,k:=0,raw:=[false],lvl:=false,run:=1,tx:=true,sends:=true,own:=g,row:=allP g }:=by unfold startN;rw [hg];rfl
 rw [e] at hs ⊢
 clear e
 generalize allP g=rw0 at hs hne ⊢
 by_cases h1:n.raw=[]<;>by_cases h3:n.row=[] <;>
 simp [ndH,rV,qI,qV,wI,wV,rE,qE,wE,Nd.cells,nilS,ndT,tdE,tdV,tdC,mI,encK,stG,encLv,lvF,h1,hq,h3,hg] at hp hs <;>
 simp [go_sem,ir124,ndH,rV,qI,qV,wI,wV,rE,qE,wE,Nd.cells,nilS,ndT,tdE,tdV,tdC,mI,encK,stG,encLv,lvF,h1,hq,h3,hg,hp,hs,hne,purse_eq,List.range_succ]
end Go.AM.R1
open Go Go.AM
namespace Go.AM.R1
theorem nnextT (n:Nd) (F:Fl) (kind k:Nat) (hN:nextF n.raw=(kind,k)) (hr:RawOk n.raw):call E (.func (.func 121) [] []) [.ptr 0 0] (ndH n F)=some (.tup [.lit (.int .i64 kind),.lit (.int .i64 k),.lit (.bool (decide (n.run=5)))],ndH n F.lock):=by
 have h:=nnext_spec n F hr
 unfold nxV at h
 rw [hN] at h
 exact h
set_option maxHeartbeats 8000000 in
theorem ndiff_lost (n:Nd) (F:Fl) (hr:RawOk n.raw) (h1:¬ n.raw=[]) (hq:n.nq=false) (h3:¬ n.row=[]) (f:Fr) (k:Nat) (hN:nextF n.raw=(1,k)) (h5:¬ n.run=5):call E (.func (.func 146) [] []) [.ptr 0 0,.ptr (mI n) 0,.lit (.int .i64 0)] (ndT n F [] f)=some (.lit (.bool true),ndT { n with tx:=false,sends:=false } F.lock [3] f):=by
 have hx:=nnextT n F 1 k hN hr
 have hT:=tell_nil f 3
 rw [call_func E E146]
 simp [ndH,rV,qI,qV,wI,wV,rE,qE,wE,Nd.cells,nilS,ndT,tdE,tdV,tdC,mI,encK,Fl.lock,h1,hq,h3,h5] at hx hT
 simp [go_sem,ir146,ndH,rV,qI,qV,wI,wV,rE,qE,wE,Nd.cells,nilS,ndT,tdE,tdV,tdC,mI,encK,Fl.lock,h1,hq,h3,h5,hx,hT,purse_eq,List.range_succ]
set_option maxHeartbeats 8000000 in
theorem ndiff_slot (n:Nd) (F:Fl) (hr:RawOk n.raw) (h1:¬ n.raw=[]) (hq:n.nq=false) (h3:¬ n.row=[]) (f:Fr) (k:Nat) (hN:nextF n.raw=(6,k)):call E (.func (.func 146) [] []) [.ptr 0 0,.ptr (mI n) 0,.lit (.int .i64 0)] (ndT n F [] f)=some (.lit (.bool true),ndT n F.lock [] f):=by
 have hx:=nnextT n F 6 k hN hr
 rw [call_func E E146]
 simp [ndH,rV,qI,qV,wI,wV,rE,qE,wE,Nd.cells,nilS,ndT,tdE,tdV,tdC,mI,encK,Fl.lock,h1,hq,h3] at hx
 simp [go_sem,ir146,ndH,rV,qI,qV,wI,wV,rE,qE,wE,Nd.cells,nilS,ndT,tdE,tdV,tdC,mI,encK,Fl.lock,h1,hq,h3,hx,purse_eq,List.range_succ]
set_option maxHeartbeats 8000000 in
theorem ndiff_stuff (n:Nd) (F:Fl) (hr:RawOk n.raw) (h1:¬ n.raw=[]) (hq:n.nq=false) (h3:¬ n.row=[]) (hn:n.Ok) (f:Fr) (k:Nat) (hN:nextF n.raw=(1,k)) (h5:n.run=5):call E (.func (.func 146) [] []) [.ptr 0 0,.ptr (mI n) 0,.lit (.int .i64 0)] (ndT n F [] f)=some (.lit (.bool false),ndT (failN n 5 false).2 F.lock (failN n 5 false).1 f):=by
 have hx:=nnextT n F 1 k hN hr
 have hf:=nfail_spec n F.lock hn f 5 false
 have hkp:=fail_keep n 5 false
 have hks:=fail_ks n 5 false
 generalize failN n 5 false=z at hf hkp hks ⊢
 obtain ⟨ks,m⟩:=z
 obtain ⟨e1,e2,e3,-⟩:=hkp
 simp only [] at hf hks e1 e2 e3 ⊢
 rw [call_func E E146]
 rcases hks with rfl | rfl
 ·skip
  simp [ndH,rV,qI,qV,wI,wV,rE,qE,wE,Nd.cells,nilS,ndT,tdE,tdV,tdC,mI,encK,Fl.lock,h1,hq,h3,h5,e1,e2,e3] at hx hf
  simp [go_sem,ir146,ndH,rV,qI,qV,wI,wV,rE,qE,wE,Nd.cells,nilS,ndT,tdE,tdV,tdC,mI,encK,Fl.lock,h1,hq,h3,h5,e1,e2,e3,hx,hf,purse_eq,List.range_succ]
 ·skip
  simp [ndH,rV,qI,qV,wI,wV,rE,qE,wE,Nd.cells,nilS,ndT,tdE,tdV,tdC,mI,encK,Fl.lock,h1,hq,h3,h5,e1,e2,e3] at hx hf
  simp [go_sem,ir146,ndH,rV,qI,qV,wI,wV,rE,qE,wE,Nd.cells,nilS,ndT,tdE,tdV,tdC,mI,encK,Fl.lock,h1,hq,h3,h5,e1,e2,e3,hx,hf,purse_eq,List.range_succ]
set_option maxHeartbeats 8000000 in
theorem ndiff_bit1 (n:Nd) (F:Fl) (hr:RawOk n.raw) (h1:¬ n.raw=[]) (hq:n.nq=false) (h3:¬ n.row=[]) (hn:n.Ok) (f:Fr) (kind k:Nat) (hN:nextF n.raw=(kind,k)) :call E (.func (.func 146) [] []) [.ptr 0 0,.ptr (mI n) 0,.lit (.int .i64 1)] (ndT n F [] f)=some (.lit (.bool false),ndT (failN n 4 true).2 F.lock (failN n 4 true).1 f):=by
 have hx:=nnextT n F kind k hN hr
 have hf:=nfail_spec n F.lock hn f 4 true
 have hkp:=fail_keep n 4 true
 have hks:=fail_ks n 4 true
 generalize failN n 4 true=z at hf hkp hks ⊢
 obtain ⟨ks,m⟩:=z
 obtain ⟨e1,e2,e3,-⟩:=hkp
 simp only [] at hf hks e1 e2 e3 ⊢
 rw [call_func E E146]
 rcases hks with rfl | rfl
 ·skip
  simp [ndH,rV,qI,qV,wI,wV,rE,qE,wE,Nd.cells,nilS,ndT,tdE,tdV,tdC,mI,encK,Fl.lock,h1,hq,h3,e1,e2,e3] at hx hf
  simp [go_sem,ir146,ndH,rV,qI,qV,wI,wV,rE,qE,wE,Nd.cells,nilS,ndT,tdE,tdV,tdC,mI,encK,Fl.lock,h1,hq,h3,e1,e2,e3,hx,hf,purse_eq,List.range_succ]
 ·skip
  simp [ndH,rV,qI,qV,wI,wV,rE,qE,wE,Nd.cells,nilS,ndT,tdE,tdV,tdC,mI,encK,Fl.lock,h1,hq,h3,e1,e2,e3] at hx hf
  simp [go_sem,ir146,ndH,rV,qI,qV,wI,wV,rE,qE,wE,Nd.cells,nilS,ndT,tdE,tdV,tdC,mI,encK,Fl.lock,h1,hq,h3,e1,e2,e3,hx,hf,purse_eq,List.range_succ]
set_option maxHeartbeats 8000000 in
theorem ndiff_bit0 (n:Nd) (F:Fl) (hr:RawOk n.raw) (h1:¬ n.raw=[]) (hq:n.nq=false) (h3:¬ n.row=[]) (hn:n.Ok) (f:Fr) (kind k:Nat) (hN:nextF n.raw=(kind,k)) (hk1:¬ kind=1) (hk6:¬ kind=6):call E (.func (.func 146) [] []) [.ptr 0 0,.ptr (mI n) 0,.lit (.int .i64 0)] (ndT n F [] f)=some (.lit (.bool false),ndT (failN n 4 true).2 F.lock (failN n 4 true).1 f):=by
 have hx:=nnextT n F kind k hN hr
 have hk1':¬ (kind:Int)=1:=by omega
 have hk6':¬ (kind:Int)=6:=by omega
 have hf:=nfail_spec n F.lock hn f 4 true
 have hkp:=fail_keep n 4 true
 have hks:=fail_ks n 4 true
 generalize failN n 4 true=z at hf hkp hks ⊢
 obtain ⟨ks,m⟩:=z
 obtain ⟨e1,e2,e3,-⟩:=hkp
 simp only [] at hf hks e1 e2 e3 ⊢
 rw [call_func E E146]
 rcases hks with rfl | rfl
 ·skip
  simp [ndH,rV,qI,qV,wI,wV,rE,qE,wE,Nd.cells,nilS,ndT,tdE,tdV,tdC,mI,encK,Fl.lock,h1,hq,h3,e1,e2,e3] at hx hf
  simp [go_sem,ir146,ndH,rV,qI,qV,wI,wV,rE,qE,wE,Nd.cells,nilS,ndT,tdE,tdV,tdC,mI,encK,Fl.lock,h1,hq,h3,e1,e2,e3,hx,hf,hk1',hk6',hk1,hk6,purse_eq,List.range_succ]
 ·skip
  simp [ndH,rV,qI,qV,wI,wV,rE,qE,wE,Nd.cells,nilS,ndT,tdE,tdV,tdC,mI,encK,Fl.lock,h1,hq,h3,e1,e2,e3] at hx hf
  simp [go_sem,ir146,ndH,rV,qI,qV,wI,wV,rE,qE,wE,Nd.cells,nilS,ndT,tdE,tdV,tdC,mI,encK,Fl.lock,h1,hq,h3,e1,e2,e3,hx,hf,hk1',hk6',hk1,hk6,purse_eq,List.range_succ]
set_option maxHeartbeats 8000000 in
theorem nend_recv (n:Nd) (F:Fl) (hn:n.Ok) (h1:¬ n.raw=[]) (hs:n.sends=false) (hd:dataF n.raw≤n.raw.length) (h2:sumF n.raw≤n.raw.length) (h0:n.raw[0]?=some false) (hl:n.raw.length≤1001) (f:Fr):call E (.func (.func 149) [] []) [.ptr 0 0,.ptr (mI n) 0,.lit (.int .i64 5)] (ndT n F [] f)=some (.tup [],ndT { n with ct:=n.ct.recv } F.lock [2] (frameOf n.raw)):=by
 have hc:=crecv_spec n.ct hn.ct
 have hT:=tell_nil (frameOf n.raw) 2
 have hF:=fframe_spec n.raw hd h2 h0 (by omega) false F.fr
 generalize frameOf n.raw=g at hT hF ⊢
 generalize n.ct.recv=c at hc ⊢
 rw [call_func E E149]
 by_cases hq:n.nq=true<;>by_cases h3:n.row=[] <;>
 simp [ndH,rV,qI,qV,wI,wV,rE,qE,wE,Nd.cells,nilS,ndT,tdE,tdV,tdC,mI,encK,Fl.lock,h1,hq,h3,hs,Ct.cells,encFr,u8v] at hc hT hF <;>
 simp [go_sem,ir149,ndH,rV,qI,qV,wI,wV,rE,qE,wE,Nd.cells,nilS,ndT,tdE,tdV,tdC,mI,encK,Fl.lock,h1,hq,h3,hs,Ct.cells,encFr,u8v,hc,hT,hF,purse_eq,List.range_succ]
set_option maxHeartbeats 8000000 in
theorem nend_last (n:Nd) (F:Fl) (h1:¬ n.raw=[]) (hs:n.sends=false) (f:Fr):call E (.func (.func 149) [] []) [.ptr 0 0,.ptr (mI n) 0,.lit (.int .i64 6)] (ndT n F [] f)=some (.tup [],ndT { n with mode:=8,k:=0 } F [] f):=by
 have hu:=nturn_spec n F 8
 rw [call_func E E149]
 by_cases hq:n.nq=true<;>by_cases h3:n.row=[] <;>
 simp [ndH,rV,qI,qV,wI,wV,rE,qE,wE,Nd.cells,nilS,ndT,tdE,tdV,tdC,mI,encK,Fl.lock,h1,hq,h3,hs] at hu <;>
 simp [go_sem,ir149,ndH,rV,qI,qV,wI,wV,rE,qE,wE,Nd.cells,nilS,ndT,tdE,tdV,tdC,mI,encK,Fl.lock,h1,hq,h3,hs,hu,purse_eq,List.range_succ]
set_option maxHeartbeats 8000000 in
theorem nend_none (n:Nd) (F:Fl) (h1:¬ n.raw=[]) (k:Nat) (hk6:¬ k=6) (hk5:¬ k=5∨n.sends=true) (f:Fr):call E (.func (.func 149) [] []) [.ptr 0 0,.ptr (mI n) 0,.lit (.int .i64 k)] (ndT n F [] f)=some (.tup [],ndT n F [] f):=by
 have hk6':¬ (k:Int)=6:=by omega
 rw [call_func E E149]
 by_cases h5:k=5
 case pos =>
  have hs:n.sends=true:=by rcases hk5 with h | h;exact absurd h5 h;exact h
  subst h5
  by_cases hq:n.nq=true<;>by_cases h3:n.row=[] <;>
  simp [go_sem,ir149,ndH,rV,qI,qV,wI,wV,rE,qE,wE,Nd.cells,nilS,ndT,tdE,tdV,tdC,mI,encK,Fl.lock,h1,hq,h3,hs,purse_eq,List.range_succ]
 case neg =>
  have h5':¬ (k:Int)=5:=by omega
  by_cases hq:n.nq=true<;>by_cases h3:n.row=[] <;>
  simp [go_sem,ir149,ndH,rV,qI,qV,wI,wV,rE,qE,wE,Nd.cells,nilS,ndT,tdE,tdV,tdC,mI,encK,Fl.lock,h1,hq,h3,h5',hk6',h5,hk6,purse_eq,List.range_succ]
theorem nturn_any (n:Nd) (F:Fl) (rows:List (List AVal)) (ql:Nat) (m:Nat) (h1:¬ n.raw=[]) (h3:¬ n.row=[]):call E (.func (.func 143) [] []) [.ptr 0 0,.lit (.int .i64 m)]
  [.box (n.cells (.own 1 n.raw.length 1 0 n.raw.length) (.ptr 2 0) (.own 4 n.row.length 1 0 n.row.length)),.arr true F.lr F.fr 1 (n.raw.map encLv),.box [.own 3 ql 12 0 ql,.lit (.int .i64 16)],.arr true false false 12 rows,.arr true F.lw F.fw 1 (n.row.map encLv)]
  = some (.tup [],[.box ({ n with mode:=m,k:=0 }.cells (.own 1 n.raw.length 1 0 n.raw.length) (.ptr 2 0) (.own 4 n.row.length 1 0 n.row.length)),.arr true F.lr F.fr 1 (n.raw.map encLv),.box [.own 3 ql 12 0 ql,.lit (.int .i64 16)],.arr true false false 12 rows,.arr true F.lw F.fw 1 (n.row.map encLv)]):=by
 rw [call_func E E143]
 simp [go_sem,ir143,Nd.cells,h1,h3,purse_eq,List.range_succ]
def sentN (n:Nd):Nd:={ n with ct:=n.ct.sent,q:=delL n.own n.q,mode:=8,k:=0 }
def sentG (mid:Heap) (tail:Heap) (ql:Nat) (n:Nd) (F:Fl):Heap :=
 .box ((sentN n).cells (.own 1 n.raw.length 1 0 n.raw.length) (.ptr 2 0) (.own 4 n.row.length 1 0 n.row.length))::.arr true F.lr F.fr 1 (n.raw.map encLv)::.box [.own ql (n.q.length - 1) 12 0 (n.q.length - 1),.lit (.int .i64 16)]::.dead
  :: .arr true F.lw F.fw 1 (n.row.map encLv)::(mid++.arr true false false 12 ((delL n.own n.q).map encFr)::tail)
set_option maxHeartbeats 8000000 in
theorem nend_sent (n:Nd) (F:Fl) (hn:n.Ok) (h1:¬ n.raw=[]) (hq:n.nq=false) (h3:¬ n.row=[]) (hs:n.sends=true) (ho:n.own∈n.q) (f:Fr):call E (.func (.func 149) [] []) [.ptr 0 0,.ptr (mI n) 0,.lit (.int .i64 6)] (ndT n F [] f)=some (.tup [],sentG [.box (tdC (.own 7 1 1 0 1) n.own)] [.arr true false false 1 [encK 1]] 6 n F):=by
 have hc:=csent_spec n.ct hn.ct
 have hT:=tell_nil n.own 1
 have hD:=quDrop_spec F.fq n.own n.q ho (by have:=hn.ql;omega)
 have hlen:=delL_len n.own n.q ho
 have hrows:=frRows (delL n.own n.q)
 unfold sentG sentN
 unfold dropH at hD
 generalize hrw:(delL n.own n.q).map encFr=rows at hD ⊢
 generalize n.ct.sent=c at hc ⊢
 clear hrw
 rw [call_func E E149]
 have hu:=nturn_any { n with ct:=c } F rows (n.q.length - 1) 8 h1 h3
 simp [ndH,rV,qI,qV,wI,wV,rE,qE,wE,Nd.cells,nilS,ndT,tdE,tdV,tdC,mI,encK,Fl.lock,h1,hq,h3,hs,Ct.cells,encFr,u8v,quH] at hc hT hD hu
 simp [go_sem,ir149,ndH,rV,qI,qV,wI,wV,rE,qE,wE,Nd.cells,nilS,ndT,tdE,tdV,tdC,mI,encK,Fl.lock,h1,hq,h3,hs,Ct.cells,encFr,u8v,quH,hc,hT,hD,hu,purse_eq,List.range_succ]
end Go.AM.R1
open Go Go.AM
namespace Go.AM.R1
theorem head_app {m:List Bool} (h:dataF m≤m.length) (r:List Bool):dataF (m++r)=dataF m∧(sumF m≤m.length→sumF (m++r)=sumF m):=by
 have hd:=(sumF_ge m).2.2
 have he:extF (m++r)=extF m:=by
  unfold extF
  rw [List.getElem?_append_left (by omega)]
 have h1:dataF (m++r)=dataF m:=by unfold dataF;rw [he]
 have h2:rtrF (m++r)=rtrF m:=by
  unfold rtrF
  rw [he,List.getElem?_append_left]
  unfold dataF at h
  split at h<;>(rename_i q;simp only [q];simp;omega)
 have h3:sizeF (m++r)=sizeF m:=by
  unfold sizeF
  rw [h1,List.take_append_of_le_length h]
 exact ⟨h1,fun _=>by unfold sumF;rw [h1,h2,h3]⟩
theorem take_keep (n:Nd) (b:Bool) (h1:¬ n.raw=[]):¬ (takeN n b).2.raw=[]∧(takeN n b).2.nq=n.nq∧(takeN n b).2.row=n.row∧(takeN n b).2.q=n.q∧(takeN n b).2.sends=n.sends∧(takeN n b).2.tx=n.tx∧(takeN n b).2.ct=n.ct∧(takeN n b).2.own=n.own∧(takeN n b).2.mode=n.mode:=by
 unfold takeN
 split
 ·split<;>exact ⟨h1,rfl,rfl,rfl,rfl,rfl,rfl,rfl,rfl⟩
 ·split
  ·exact ⟨by simp,rfl,rfl,rfl,rfl,rfl,rfl,rfl,rfl⟩
  ·split<;>exact ⟨by simp,rfl,rfl,rfl,rfl,rfl,rfl,rfl,rfl⟩
theorem take_ok (n:Nd) (b:Bool) (h:¬ (n.run=5∧b=n.lvl)):(takeN n b).1=true:=by
 unfold takeN
 by_cases h5:n.run=5
 ·rw [if_pos h5,if_neg (fun e=>h ⟨h5,e⟩)]
 ·rw [if_neg h5]
  split
  ·rfl
  ·split<;>rfl
theorem nframeT (n:Nd) (F:Fl) (d:Bool) (hd:frL n=d) (hr:RawOk n.raw) (hs:n.sends=true→n.raw.length<n.row.length):call E (.func (.func 99) [] []) [.ptr 0 0] (ndH n F.lock)=some (.lit (.int .i64 (lv d)),ndH n F.lock):=by
 have h:=nframe_spec n F.lock hr hs
 rw [hd] at h
 exact h
theorem end_facts (n:Nd) (hr:RawOk n.raw) (h1:¬ n.raw=[]) (k:Nat) (hN:nextF n.raw=(8,k)) (h0:n.raw[0]?=some false) :
  dataF (n.raw++[true])≤(n.raw++[true]).length∧sumF (n.raw++[true])≤(n.raw++[true]).length∧(n.raw++[true])[0]?=some false∧(n.raw++[true]).length≤1001:=by
 have h6:=nextF_six (m:=n.raw) (by rw [hN];simp)
 have hh:=head_app (m:=n.raw) h6.1 [true]
 refine ⟨by rw [hh.1,List.length_append];omega,?_,?_,by rw [List.length_append];have:=hr.1;simp;omega⟩
 ·rw [hh.2 (by omega),List.length_append];omega
 ·rw [List.getElem?_append_left (List.length_pos_iff.2 h1)];exact h0
def nackN (n:Nd):List Nat × Nd:=((failN n 8 (!decide (n.ct.state=1))).1,{ (failN n 8 (!decide (n.ct.state=1))).2 with owed:=decide (n.ct.state=1) })
set_option maxHeartbeats 8000000 in
theorem rin_bit (n:Nd) (F:Fl) (hn:n.Ok) (hr:RawOk n.raw) (h1:¬ n.raw=[]) (hl5:n.run≤5) (f:Fr) (hs:n.sends=false) (k:Nat) (hN:nextF n.raw=(6,k)) (hd:frL n=false) :∃ F2,call E (.func (.func 125) [] []) [.ptr 0 0,.ptr (mI n) 0,.lit (.int .i64 (lv true))] (ndT n F [] f)=some (.tup [],ndT (failN n 4 true).2 F2 (failN n 4 true).1 f):=by
 have hx:=nnextT n F 6 k hN hr
 have hfr:=nframeT n F false hd hr (fun e=>by rw [hs] at e;cases e)
 have hf:=nfail_spec n F.lock hn f 4 true
 have hkp:=fail_keep n 4 true
 have hks:=fail_ks n 4 true
 generalize failN n 4 true=z at hf hkp hks ⊢
 obtain ⟨ks,m⟩:=z
 obtain ⟨e1,e2,e3,-⟩:=hkp
 simp only [] at hf hks e1 e2 e3 ⊢
 refine ⟨F.lock,?_⟩
 rw [call_func E E125]
 rcases hks with rfl | rfl
 ·skip
  by_cases hq:n.nq=true<;>by_cases h3:n.row=[] <;>
  simp [ndH,rV,qI,qV,wI,wV,rE,qE,wE,Nd.cells,nilS,ndT,tdE,tdV,tdC,mI,encK,Fl.lock,h1,hq,h3,hs,e1,e2,e3,lvT,lvF] at hx hfr hf <;>
  simp [go_sem,ir125,ndH,rV,qI,qV,wI,wV,rE,qE,wE,Nd.cells,nilS,ndT,tdE,tdV,tdC,mI,encK,Fl.lock,h1,hq,h3,hs,e1,e2,e3,lvT,lvF,hx,hfr,hf,purse_eq,List.range_succ]
 ·skip
  by_cases hq:n.nq=true<;>by_cases h3:n.row=[] <;>
  simp [ndH,rV,qI,qV,wI,wV,rE,qE,wE,Nd.cells,nilS,ndT,tdE,tdV,tdC,mI,encK,Fl.lock,h1,hq,h3,hs,e1,e2,e3,lvT,lvF] at hx hfr hf <;>
  simp [go_sem,ir125,ndH,rV,qI,qV,wI,wV,rE,qE,wE,Nd.cells,nilS,ndT,tdE,tdV,tdC,mI,encK,Fl.lock,h1,hq,h3,hs,e1,e2,e3,lvT,lvF,hx,hfr,hf,purse_eq,List.range_succ]
set_option maxHeartbeats 8000000 in
theorem rin_added_lo_t (n:Nd) (F:Fl) (hn:n.Ok) (hr:RawOk n.raw) (h1:¬ n.raw=[]) (hl5:n.run≤5) (f:Fr) (hs:n.sends=false) (kind k:Nat) (hN:nextF n.raw=(kind,k)) (hd:frL n=true) (h5:n.run=5) (hb:¬ n.lvl=true) (h4:kind≤4):∃ F2,call E (.func (.func 125) [] []) [.ptr 0 0,.ptr (mI n) 0,.lit (.int .i64 (lv true))] (ndT n F [] f)=some (.tup [],ndT (takeN n true).2 F2 [] f):=by
 have hx:=nnextT n F kind k hN hr
 have hfr:=nframeT n F true hd hr (fun e=>by rw [hs] at e;cases e)
 have h4':(kind:Int)≤4:=by omega
 have h8:¬ kind=8:=by omega
 have h8':¬ (kind:Int)=8:=by omega
 obtain ⟨F2,ht⟩:=ntake_spec n F.lock hr h1 hl5 true
 have hok:=take_ok n true (fun e=>hb e.2.symm)
 have htk:=take_keep n true h1
 rw [hok] at ht
 clear hok
 generalize (takeN n true).2=m at ht htk ⊢
 obtain ⟨t1,t2,t3,-,t4,-⟩:=htk
 refine ⟨F2,?_⟩
 rw [call_func E E125]
 by_cases hq:n.nq=true<;>by_cases h3:n.row=[] <;>
 simp [ndH,rV,qI,qV,wI,wV,rE,qE,wE,Nd.cells,nilS,ndT,tdE,tdV,tdC,mI,encK,Fl.lock,h1,hq,h3,hs,h5,t1,t2,t3,t4,lvT,lvF] at hx hfr ht <;>
 simp [go_sem,ir125,ndH,rV,qI,qV,wI,wV,rE,qE,wE,Nd.cells,nilS,ndT,tdE,tdV,tdC,mI,encK,Fl.lock,h1,hq,h3,hs,h5,t1,t2,t3,t4,lvT,lvF,hx,hfr,ht,h4,h4',h8,h8',purse_eq,List.range_succ]
set_option maxHeartbeats 8000000 in
theorem rin_stuff_lo_t (n:Nd) (F:Fl) (hn:n.Ok) (hr:RawOk n.raw) (h1:¬ n.raw=[]) (hl5:n.run≤5) (f:Fr) (hs:n.sends=false) (kind k:Nat) (hN:nextF n.raw=(kind,k)) (hd:frL n=true) (h5:n.run=5) (hb:n.lvl=true) (h4:kind≤4):∃ F2,call E (.func (.func 125) [] []) [.ptr 0 0,.ptr (mI n) 0,.lit (.int .i64 (lv true))] (ndT n F [] f)=some (.tup [],ndT (failN n 5 true).2 F2 (failN n 5 true).1 f):=by
 have hx:=nnextT n F kind k hN hr
 have hfr:=nframeT n F true hd hr (fun e=>by rw [hs] at e;cases e)
 have h4':(kind:Int)≤4:=by omega
 have h8:¬ kind=8:=by omega
 have h8':¬ (kind:Int)=8:=by omega
 obtain ⟨F2,ht⟩:=ntake_spec n F.lock hr h1 hl5 true
 rw [show takeN n true=(false,n) by unfold takeN;rw [if_pos h5,if_pos hb.symm]] at ht
 clear hb
 have hf:=nfail_spec n F2 hn f 5 true
 have hkp:=fail_keep n 5 true
 have hks:=fail_ks n 5 true
 generalize failN n 5 true=z at hf hkp hks ⊢
 obtain ⟨ks,m⟩:=z
 obtain ⟨e1,e2,e3,-⟩:=hkp
 simp only [] at hf hks e1 e2 e3 ⊢
 refine ⟨F2,?_⟩
 rw [call_func E E125]
 rcases hks with rfl | rfl
 ·skip
  by_cases hq:n.nq=true<;>by_cases h3:n.row=[] <;>
  simp [ndH,rV,qI,qV,wI,wV,rE,qE,wE,Nd.cells,nilS,ndT,tdE,tdV,tdC,mI,encK,Fl.lock,h1,hq,h3,hs,h5,e1,e2,e3,lvT,lvF] at hx hfr ht hf <;>
  simp [go_sem,ir125,ndH,rV,qI,qV,wI,wV,rE,qE,wE,Nd.cells,nilS,ndT,tdE,tdV,tdC,mI,encK,Fl.lock,h1,hq,h3,hs,h5,e1,e2,e3,lvT,lvF,hx,hfr,ht,hf,h4,h4',h8,h8',purse_eq,List.range_succ]
 ·skip
  by_cases hq:n.nq=true<;>by_cases h3:n.row=[] <;>
  simp [ndH,rV,qI,qV,wI,wV,rE,qE,wE,Nd.cells,nilS,ndT,tdE,tdV,tdC,mI,encK,Fl.lock,h1,hq,h3,hs,h5,e1,e2,e3,lvT,lvF] at hx hfr ht hf <;>
  simp [go_sem,ir125,ndH,rV,qI,qV,wI,wV,rE,qE,wE,Nd.cells,nilS,ndT,tdE,tdV,tdC,mI,encK,Fl.lock,h1,hq,h3,hs,h5,e1,e2,e3,lvT,lvF,hx,hfr,ht,hf,h4,h4',h8,h8',purse_eq,List.range_succ]
set_option maxHeartbeats 8000000 in
theorem rin_added_hi_t (n:Nd) (F:Fl) (hn:n.Ok) (hr:RawOk n.raw) (h1:¬ n.raw=[]) (hl5:n.run≤5) (f:Fr) (hs:n.sends=false) (k:Nat) (hN:nextF n.raw=(5,k)) (hd:frL n=true) (h5:n.run=5) (hb:¬ n.lvl=true):∃ F2,call E (.func (.func 125) [] []) [.ptr 0 0,.ptr (mI n) 0,.lit (.int .i64 (lv true))] (ndT n F [] f)=some (.tup [],ndT (takeN n true).2 F2 [] f):=by
 have hx:=nnextT n F 5 k hN hr
 have hfr:=nframeT n F true hd hr (fun e=>by rw [hs] at e;cases e)
 obtain ⟨F2,ht⟩:=ntake_spec n F.lock hr h1 hl5 true
 have hok:=take_ok n true (fun e=>hb e.2.symm)
 have htk:=take_keep n true h1
 rw [hok] at ht
 clear hok
 generalize (takeN n true).2=m at ht htk ⊢
 obtain ⟨t1,t2,t3,-,t4,-⟩:=htk
 refine ⟨F2,?_⟩
 rw [call_func E E125]
 by_cases hq:n.nq=true<;>by_cases h3:n.row=[] <;>
 simp [ndH,rV,qI,qV,wI,wV,rE,qE,wE,Nd.cells,nilS,ndT,tdE,tdV,tdC,mI,encK,Fl.lock,h1,hq,h3,hs,h5,t1,t2,t3,t4,lvT,lvF] at hx hfr ht <;>
 simp [go_sem,ir125,ndH,rV,qI,qV,wI,wV,rE,qE,wE,Nd.cells,nilS,ndT,tdE,tdV,tdC,mI,encK,Fl.lock,h1,hq,h3,hs,h5,t1,t2,t3,t4,lvT,lvF,hx,hfr,ht,purse_eq,List.range_succ]
set_option maxHeartbeats 8000000 in
theorem rin_stuff_hi_t (n:Nd) (F:Fl) (hn:n.Ok) (hr:RawOk n.raw) (h1:¬ n.raw=[]) (hl5:n.run≤5) (f:Fr) (hs:n.sends=false) (k:Nat) (hN:nextF n.raw=(5,k)) (hd:frL n=true) (h5:n.run=5) (hb:n.lvl=true):∃ F2,call E (.func (.func 125) [] []) [.ptr 0 0,.ptr (mI n) 0,.lit (.int .i64 (lv true))] (ndT n F [] f)=some (.tup [],ndT (failN n 5 true).2 F2 (failN n 5 true).1 f):=by
 have hx:=nnextT n F 5 k hN hr
 have hfr:=nframeT n F true hd hr (fun e=>by rw [hs] at e;cases e)
 obtain ⟨F2,ht⟩:=ntake_spec n F.lock hr h1 hl5 true
 rw [show takeN n true=(false,n) by unfold takeN;rw [if_pos h5,if_pos hb.symm]] at ht
 clear hb
 have hf:=nfail_spec n F2 hn f 5 true
 have hkp:=fail_keep n 5 true
 have hks:=fail_ks n 5 true
 generalize failN n 5 true=z at hf hkp hks ⊢
 obtain ⟨ks,m⟩:=z
 obtain ⟨e1,e2,e3,-⟩:=hkp
 simp only [] at hf hks e1 e2 e3 ⊢
 refine ⟨F2,?_⟩
 rw [call_func E E125]
 rcases hks with rfl | rfl
 ·skip
  by_cases hq:n.nq=true<;>by_cases h3:n.row=[] <;>
  simp [ndH,rV,qI,qV,wI,wV,rE,qE,wE,Nd.cells,nilS,ndT,tdE,tdV,tdC,mI,encK,Fl.lock,h1,hq,h3,hs,h5,e1,e2,e3,lvT,lvF] at hx hfr ht hf <;>
  simp [go_sem,ir125,ndH,rV,qI,qV,wI,wV,rE,qE,wE,Nd.cells,nilS,ndT,tdE,tdV,tdC,mI,encK,Fl.lock,h1,hq,h3,hs,h5,e1,e2,e3,lvT,lvF,hx,hfr,ht,hf,purse_eq,List.range_succ]
 ·skip
  by_cases hq:n.nq=true<;>by_cases h3:n.row=[] <;>
  simp [ndH,rV,qI,qV,wI,wV,rE,qE,wE,Nd.cells,nilS,ndT,tdE,tdV,tdC,mI,encK,Fl.lock,h1,hq,h3,hs,h5,e1,e2,e3,lvT,lvF] at hx hfr ht hf <;>
  simp [go_sem,ir125,ndH,rV,qI,qV,wI,wV,rE,qE,wE,Nd.cells,nilS,ndT,tdE,tdV,tdC,mI,encK,Fl.lock,h1,hq,h3,hs,h5,e1,e2,e3,lvT,lvF,hx,hfr,ht,hf,purse_eq,List.range_succ]
set_option maxHeartbeats 8000000 in
theorem rin_low_t (n:Nd) (F:Fl) (hn:n.Ok) (hr:RawOk n.raw) (h1:¬ n.raw=[]) (hl5:n.run≤5) (f:Fr) (hs:n.sends=false) (kind k:Nat) (hN:nextF n.raw=(kind,k)) (hd:frL n=true) (h5:¬ n.run=5) (h4:kind≤4):∃ F2,call E (.func (.func 125) [] []) [.ptr 0 0,.ptr (mI n) 0,.lit (.int .i64 (lv true))] (ndT n F [] f)=some (.tup [],ndT (takeN n true).2 F2 [] f):=by
 have hx:=nnextT n F kind k hN hr
 have hfr:=nframeT n F true hd hr (fun e=>by rw [hs] at e;cases e)
 have h4':(kind:Int)≤4:=by omega
 have h8:¬ kind=8:=by omega
 have h8':¬ (kind:Int)=8:=by omega
 obtain ⟨F2,ht⟩:=ntake_spec n F.lock hr h1 hl5 true
 have hok:=take_ok n true (fun e=>h5 e.1)
 have htk:=take_keep n true h1
 rw [hok] at ht
 clear hok
 generalize (takeN n true).2=m at ht htk ⊢
 obtain ⟨t1,t2,t3,-,t4,-⟩:=htk
 refine ⟨F2,?_⟩
 rw [call_func E E125]
 by_cases hq:n.nq=true<;>by_cases h3:n.row=[] <;>
 simp [ndH,rV,qI,qV,wI,wV,rE,qE,wE,Nd.cells,nilS,ndT,tdE,tdV,tdC,mI,encK,Fl.lock,h1,hq,h3,hs,h5,t1,t2,t3,t4,lvT,lvF] at hx hfr ht <;>
 simp [go_sem,ir125,ndH,rV,qI,qV,wI,wV,rE,qE,wE,Nd.cells,nilS,ndT,tdE,tdV,tdC,mI,encK,Fl.lock,h1,hq,h3,hs,h5,t1,t2,t3,t4,lvT,lvF,hx,hfr,ht,h4,h4',h8,h8',purse_eq,List.range_succ]
set_option maxHeartbeats 8000000 in
theorem rin_added_lo_f (n:Nd) (F:Fl) (hn:n.Ok) (hr:RawOk n.raw) (h1:¬ n.raw=[]) (hl5:n.run≤5) (f:Fr) (hs:n.sends=false) (kind k:Nat) (hN:nextF n.raw=(kind,k)) (hd:frL n=true) (h5:n.run=5) (hb:¬ n.lvl=false) (h4:kind≤4):∃ F2,call E (.func (.func 125) [] []) [.ptr 0 0,.ptr (mI n) 0,.lit (.int .i64 (lv false))] (ndT n F [] f)=some (.tup [],ndT (takeN n false).2 F2 [] f):=by
 have hx:=nnextT n F kind k hN hr
 have hfr:=nframeT n F true hd hr (fun e=>by rw [hs] at e;cases e)
 have h4':(kind:Int)≤4:=by omega
 have h8:¬ kind=8:=by omega
 have h8':¬ (kind:Int)=8:=by omega
 obtain ⟨F2,ht⟩:=ntake_spec n F.lock hr h1 hl5 false
 have hok:=take_ok n false (fun e=>hb e.2.symm)
 have htk:=take_keep n false h1
 rw [hok] at ht
 clear hok
 generalize (takeN n false).2=m at ht htk ⊢
 obtain ⟨t1,t2,t3,-,t4,-⟩:=htk
 refine ⟨F2,?_⟩
 rw [call_func E E125]
 by_cases hq:n.nq=true<;>by_cases h3:n.row=[] <;>
 simp [ndH,rV,qI,qV,wI,wV,rE,qE,wE,Nd.cells,nilS,ndT,tdE,tdV,tdC,mI,encK,Fl.lock,h1,hq,h3,hs,h5,t1,t2,t3,t4,lvT,lvF] at hx hfr ht <;>
 simp [go_sem,ir125,ndH,rV,qI,qV,wI,wV,rE,qE,wE,Nd.cells,nilS,ndT,tdE,tdV,tdC,mI,encK,Fl.lock,h1,hq,h3,hs,h5,t1,t2,t3,t4,lvT,lvF,hx,hfr,ht,h4,h4',h8,h8',purse_eq,List.range_succ]
set_option maxHeartbeats 8000000 in
theorem rin_stuff_lo_f (n:Nd) (F:Fl) (hn:n.Ok) (hr:RawOk n.raw) (h1:¬ n.raw=[]) (hl5:n.run≤5) (f:Fr) (hs:n.sends=false) (kind k:Nat) (hN:nextF n.raw=(kind,k)) (hd:frL n=true) (h5:n.run=5) (hb:n.lvl=false) (h4:kind≤4):∃ F2,call E (.func (.func 125) [] []) [.ptr 0 0,.ptr (mI n) 0,.lit (.int .i64 (lv false))] (ndT n F [] f)=some (.tup [],ndT (failN n 5 true).2 F2 (failN n 5 true).1 f):=by
 have hx:=nnextT n F kind k hN hr
 have hfr:=nframeT n F true hd hr (fun e=>by rw [hs] at e;cases e)
 have h4':(kind:Int)≤4:=by omega
 have h8:¬ kind=8:=by omega
 have h8':¬ (kind:Int)=8:=by omega
 obtain ⟨F2,ht⟩:=ntake_spec n F.lock hr h1 hl5 false
 rw [show takeN n false=(false,n) by unfold takeN;rw [if_pos h5,if_pos hb.symm]] at ht
 clear hb
 have hf:=nfail_spec n F2 hn f 5 true
 have hkp:=fail_keep n 5 true
 have hks:=fail_ks n 5 true
 generalize failN n 5 true=z at hf hkp hks ⊢
 obtain ⟨ks,m⟩:=z
 obtain ⟨e1,e2,e3,-⟩:=hkp
 simp only [] at hf hks e1 e2 e3 ⊢
 refine ⟨F2,?_⟩
 rw [call_func E E125]
 rcases hks with rfl | rfl
 ·skip
  by_cases hq:n.nq=true<;>by_cases h3:n.row=[] <;>
  simp [ndH,rV,qI,qV,wI,wV,rE,qE,wE,Nd.cells,nilS,ndT,tdE,tdV,tdC,mI,encK,Fl.lock,h1,hq,h3,hs,h5,e1,e2,e3,lvT,lvF] at hx hfr ht hf <;>
  simp [go_sem,ir125,ndH,rV,qI,qV,wI,wV,rE,qE,wE,Nd.cells,nilS,ndT,tdE,tdV,tdC,mI,encK,Fl.lock,h1,hq,h3,hs,h5,e1,e2,e3,lvT,lvF,hx,hfr,ht,hf,h4,h4',h8,h8',purse_eq,List.range_succ]
 ·skip
  by_cases hq:n.nq=true<;>by_cases h3:n.row=[] <;>
  simp [ndH,rV,qI,qV,wI,wV,rE,qE,wE,Nd.cells,nilS,ndT,tdE,tdV,tdC,mI,encK,Fl.lock,h1,hq,h3,hs,h5,e1,e2,e3,lvT,lvF] at hx hfr ht hf <;>
  simp [go_sem,ir125,ndH,rV,qI,qV,wI,wV,rE,qE,wE,Nd.cells,nilS,ndT,tdE,tdV,tdC,mI,encK,Fl.lock,h1,hq,h3,hs,h5,e1,e2,e3,lvT,lvF,hx,hfr,ht,hf,h4,h4',h8,h8',purse_eq,List.range_succ]
set_option maxHeartbeats 8000000 in
theorem rin_added_hi_f (n:Nd) (F:Fl) (hn:n.Ok) (hr:RawOk n.raw) (h1:¬ n.raw=[]) (hl5:n.run≤5) (f:Fr) (hs:n.sends=false) (k:Nat) (hN:nextF n.raw=(5,k)) (hd:frL n=true) (h5:n.run=5) (hb:¬ n.lvl=false):∃ F2,call E (.func (.func 125) [] []) [.ptr 0 0,.ptr (mI n) 0,.lit (.int .i64 (lv false))] (ndT n F [] f)=some (.tup [],ndT (takeN n false).2 F2 [] f):=by
 have hx:=nnextT n F 5 k hN hr
 have hfr:=nframeT n F true hd hr (fun e=>by rw [hs] at e;cases e)
 obtain ⟨F2,ht⟩:=ntake_spec n F.lock hr h1 hl5 false
 have hok:=take_ok n false (fun e=>hb e.2.symm)
 have htk:=take_keep n false h1
 rw [hok] at ht
 clear hok
 generalize (takeN n false).2=m at ht htk ⊢
 obtain ⟨t1,t2,t3,-,t4,-⟩:=htk
 refine ⟨F2,?_⟩
 rw [call_func E E125]
 by_cases hq:n.nq=true<;>by_cases h3:n.row=[] <;>
 simp [ndH,rV,qI,qV,wI,wV,rE,qE,wE,Nd.cells,nilS,ndT,tdE,tdV,tdC,mI,encK,Fl.lock,h1,hq,h3,hs,h5,t1,t2,t3,t4,lvT,lvF] at hx hfr ht <;>
 simp [go_sem,ir125,ndH,rV,qI,qV,wI,wV,rE,qE,wE,Nd.cells,nilS,ndT,tdE,tdV,tdC,mI,encK,Fl.lock,h1,hq,h3,hs,h5,t1,t2,t3,t4,lvT,lvF,hx,hfr,ht,purse_eq,List.range_succ]
set_option maxHeartbeats 8000000 in
theorem rin_stuff_hi_f (n:Nd) (F:Fl) (hn:n.Ok) (hr:RawOk n.raw) (h1:¬ n.raw=[]) (hl5:n.run≤5) (f:Fr) (hs:n.sends=false) (k:Nat) (hN:nextF n.raw=(5,k)) (hd:frL n=true) (h5:n.run=5) (hb:n.lvl=false):∃ F2,call E (.func (.func 125) [] []) [.ptr 0 0,.ptr (mI n) 0,.lit (.int .i64 (lv false))] (ndT n F [] f)=some (.tup [],ndT (failN n 5 true).2 F2 (failN n 5 true).1 f):=by
 have hx:=nnextT n F 5 k hN hr
 have hfr:=nframeT n F true hd hr (fun e=>by rw [hs] at e;cases e)
 obtain ⟨F2,ht⟩:=ntake_spec n F.lock hr h1 hl5 false
 rw [show takeN n false=(false,n) by unfold takeN;rw [if_pos h5,if_pos hb.symm]] at ht
 clear hb
 have hf:=nfail_spec n F2 hn f 5 true
 have hkp:=fail_keep n 5 true
 have hks:=fail_ks n 5 true
 generalize failN n 5 true=z at hf hkp hks ⊢
 obtain ⟨ks,m⟩:=z
 obtain ⟨e1,e2,e3,-⟩:=hkp
 simp only [] at hf hks e1 e2 e3 ⊢
 refine ⟨F2,?_⟩
 rw [call_func E E125]
 rcases hks with rfl | rfl
 ·skip
  by_cases hq:n.nq=true<;>by_cases h3:n.row=[] <;>
  simp [ndH,rV,qI,qV,wI,wV,rE,qE,wE,Nd.cells,nilS,ndT,tdE,tdV,tdC,mI,encK,Fl.lock,h1,hq,h3,hs,h5,e1,e2,e3,lvT,lvF] at hx hfr ht hf <;>
  simp [go_sem,ir125,ndH,rV,qI,qV,wI,wV,rE,qE,wE,Nd.cells,nilS,ndT,tdE,tdV,tdC,mI,encK,Fl.lock,h1,hq,h3,hs,h5,e1,e2,e3,lvT,lvF,hx,hfr,ht,hf,purse_eq,List.range_succ]
 ·skip
  by_cases hq:n.nq=true<;>by_cases h3:n.row=[] <;>
  simp [ndH,rV,qI,qV,wI,wV,rE,qE,wE,Nd.cells,nilS,ndT,tdE,tdV,tdC,mI,encK,Fl.lock,h1,hq,h3,hs,h5,e1,e2,e3,lvT,lvF] at hx hfr ht hf <;>
  simp [go_sem,ir125,ndH,rV,qI,qV,wI,wV,rE,qE,wE,Nd.cells,nilS,ndT,tdE,tdV,tdC,mI,encK,Fl.lock,h1,hq,h3,hs,h5,e1,e2,e3,lvT,lvF,hx,hfr,ht,hf,purse_eq,List.range_succ]
set_option maxHeartbeats 8000000 in
theorem rin_low_f (n:Nd) (F:Fl) (hn:n.Ok) (hr:RawOk n.raw) (h1:¬ n.raw=[]) (hl5:n.run≤5) (f:Fr) (hs:n.sends=false) (kind k:Nat) (hN:nextF n.raw=(kind,k)) (hd:frL n=true) (h5:¬ n.run=5) (h4:kind≤4):∃ F2,call E (.func (.func 125) [] []) [.ptr 0 0,.ptr (mI n) 0,.lit (.int .i64 (lv false))] (ndT n F [] f)=some (.tup [],ndT (takeN n false).2 F2 [] f):=by
 have hx:=nnextT n F kind k hN hr
 have hfr:=nframeT n F true hd hr (fun e=>by rw [hs] at e;cases e)
 have h4':(kind:Int)≤4:=by omega
 have h8:¬ kind=8:=by omega
 have h8':¬ (kind:Int)=8:=by omega
 obtain ⟨F2,ht⟩:=ntake_spec n F.lock hr h1 hl5 false
 have hok:=take_ok n false (fun e=>h5 e.1)
 have htk:=take_keep n false h1
 rw [hok] at ht
 clear hok
 generalize (takeN n false).2=m at ht htk ⊢
 obtain ⟨t1,t2,t3,-,t4,-⟩:=htk
 refine ⟨F2,?_⟩
 rw [call_func E E125]
 by_cases hq:n.nq=true<;>by_cases h3:n.row=[] <;>
 simp [ndH,rV,qI,qV,wI,wV,rE,qE,wE,Nd.cells,nilS,ndT,tdE,tdV,tdC,mI,encK,Fl.lock,h1,hq,h3,hs,h5,t1,t2,t3,t4,lvT,lvF] at hx hfr ht <;>
 simp [go_sem,ir125,ndH,rV,qI,qV,wI,wV,rE,qE,wE,Nd.cells,nilS,ndT,tdE,tdV,tdC,mI,encK,Fl.lock,h1,hq,h3,hs,h5,t1,t2,t3,t4,lvT,lvF,hx,hfr,ht,h4,h4',h8,h8',purse_eq,List.range_succ]
set_option maxHeartbeats 8000000 in
theorem rin_slot_t_t (n:Nd) (F:Fl) (hn:n.Ok) (hr:RawOk n.raw) (h1:¬ n.raw=[]) (hl5:n.run≤5) (f:Fr) (hs:n.sends=false) (k:Nat) (hN:nextF n.raw=(6,k)) (hd:frL n=true) (h5:¬ n.run=5):∃ F2,call E (.func (.func 125) [] []) [.ptr 0 0,.ptr (mI n) 0,.lit (.int .i64 (lv true))] (ndT n F [] f)=some (.tup [],ndT (takeN n true).2 F2 [] f):=by
 have hx:=nnextT n F 6 k hN hr
 have hfr:=nframeT n F true hd hr (fun e=>by rw [hs] at e;cases e)
 obtain ⟨F2,ht⟩:=ntake_spec n F.lock hr h1 hl5 true
 have hok:=take_ok n true (fun e=>h5 e.1)
 have htk:=take_keep n true h1
 rw [hok] at ht
 clear hok
 generalize (takeN n true).2=m at ht htk ⊢
 obtain ⟨t1,t2,t3,-,t4,-⟩:=htk
 refine ⟨F2,?_⟩
 rw [call_func E E125]
 by_cases hq:n.nq=true<;>by_cases h3:n.row=[] <;>
 simp [ndH,rV,qI,qV,wI,wV,rE,qE,wE,Nd.cells,nilS,ndT,tdE,tdV,tdC,mI,encK,Fl.lock,h1,hq,h3,hs,h5,t1,t2,t3,t4,lvT,lvF] at hx hfr ht <;>
 simp [go_sem,ir125,ndH,rV,qI,qV,wI,wV,rE,qE,wE,Nd.cells,nilS,ndT,tdE,tdV,tdC,mI,encK,Fl.lock,h1,hq,h3,hs,h5,t1,t2,t3,t4,lvT,lvF,hx,hfr,ht,purse_eq,List.range_succ]
set_option maxHeartbeats 8000000 in
theorem rin_slot_t_f (n:Nd) (F:Fl) (hn:n.Ok) (hr:RawOk n.raw) (h1:¬ n.raw=[]) (hl5:n.run≤5) (f:Fr) (hs:n.sends=false) (k:Nat) (hN:nextF n.raw=(6,k)) (hd:frL n=true) (h5:¬ n.run=5):∃ F2,call E (.func (.func 125) [] []) [.ptr 0 0,.ptr (mI n) 0,.lit (.int .i64 (lv false))] (ndT n F [] f)=some (.tup [],ndT (takeN n false).2 F2 [] f):=by
 have hx:=nnextT n F 6 k hN hr
 have hfr:=nframeT n F true hd hr (fun e=>by rw [hs] at e;cases e)
 obtain ⟨F2,ht⟩:=ntake_spec n F.lock hr h1 hl5 false
 have hok:=take_ok n false (fun e=>h5 e.1)
 have htk:=take_keep n false h1
 rw [hok] at ht
 clear hok
 generalize (takeN n false).2=m at ht htk ⊢
 obtain ⟨t1,t2,t3,-,t4,-⟩:=htk
 refine ⟨F2,?_⟩
 rw [call_func E E125]
 by_cases hq:n.nq=true<;>by_cases h3:n.row=[] <;>
 simp [ndH,rV,qI,qV,wI,wV,rE,qE,wE,Nd.cells,nilS,ndT,tdE,tdV,tdC,mI,encK,Fl.lock,h1,hq,h3,hs,h5,t1,t2,t3,t4,lvT,lvF] at hx hfr ht <;>
 simp [go_sem,ir125,ndH,rV,qI,qV,wI,wV,rE,qE,wE,Nd.cells,nilS,ndT,tdE,tdV,tdC,mI,encK,Fl.lock,h1,hq,h3,hs,h5,t1,t2,t3,t4,lvT,lvF,hx,hfr,ht,purse_eq,List.range_succ]
set_option maxHeartbeats 8000000 in
theorem rin_slot_f_f (n:Nd) (F:Fl) (hn:n.Ok) (hr:RawOk n.raw) (h1:¬ n.raw=[]) (hl5:n.run≤5) (f:Fr) (hs:n.sends=false) (k:Nat) (hN:nextF n.raw=(6,k)) (hd:frL n=false) (h5:¬ n.run=5):∃ F2,call E (.func (.func 125) [] []) [.ptr 0 0,.ptr (mI n) 0,.lit (.int .i64 (lv false))] (ndT n F [] f)=some (.tup [],ndT (takeN n false).2 F2 [] f):=by
 have hx:=nnextT n F 6 k hN hr
 have hfr:=nframeT n F false hd hr (fun e=>by rw [hs] at e;cases e)
 obtain ⟨F2,ht⟩:=ntake_spec n F.lock hr h1 hl5 false
 have hok:=take_ok n false (fun e=>h5 e.1)
 have htk:=take_keep n false h1
 rw [hok] at ht
 clear hok
 generalize (takeN n false).2=m at ht htk ⊢
 obtain ⟨t1,t2,t3,-,t4,-⟩:=htk
 refine ⟨F2,?_⟩
 rw [call_func E E125]
 by_cases hq:n.nq=true<;>by_cases h3:n.row=[] <;>
 simp [ndH,rV,qI,qV,wI,wV,rE,qE,wE,Nd.cells,nilS,ndT,tdE,tdV,tdC,mI,encK,Fl.lock,h1,hq,h3,hs,h5,t1,t2,t3,t4,lvT,lvF] at hx hfr ht <;>
 simp [go_sem,ir125,ndH,rV,qI,qV,wI,wV,rE,qE,wE,Nd.cells,nilS,ndT,tdE,tdV,tdC,mI,encK,Fl.lock,h1,hq,h3,hs,h5,t1,t2,t3,t4,lvT,lvF,hx,hfr,ht,purse_eq,List.range_succ]
set_option maxHeartbeats 8000000 in
theorem rin_delim (n:Nd) (F:Fl) (hn:n.Ok) (hr:RawOk n.raw) (h1:¬ n.raw=[]) (hl5:n.run≤5) (f:Fr) (hs:n.sends=false) (k:Nat) (hN:nextF n.raw=(5,k)) (hd:frL n=true) (h5:¬ n.run=5):∃ F2,call E (.func (.func 125) [] []) [.ptr 0 0,.ptr (mI n) 0,.lit (.int .i64 (lv true))] (ndT n F [] f)=some (.tup [],ndT (takeN n true).2 F2 [] f):=by
 have hx:=nnextT n F 5 k hN hr
 have hfr:=nframeT n F true hd hr (fun e=>by rw [hs] at e;cases e)
 obtain ⟨F2,ht⟩:=ntake_spec n F.lock hr h1 hl5 true
 have hok:=take_ok n true (fun e=>h5 e.1)
 have htk:=take_keep n true h1
 rw [hok] at ht
 clear hok
 generalize (takeN n true).2=m at ht htk ⊢
 obtain ⟨t1,t2,t3,-,t4,-⟩:=htk
 refine ⟨F2,?_⟩
 rw [call_func E E125]
 by_cases hq:n.nq=true<;>by_cases h3:n.row=[] <;>
 simp [ndH,rV,qI,qV,wI,wV,rE,qE,wE,Nd.cells,nilS,ndT,tdE,tdV,tdC,mI,encK,Fl.lock,h1,hq,h3,hs,h5,t1,t2,t3,t4,lvT,lvF] at hx hfr ht <;>
 simp [go_sem,ir125,ndH,rV,qI,qV,wI,wV,rE,qE,wE,Nd.cells,nilS,ndT,tdE,tdV,tdC,mI,encK,Fl.lock,h1,hq,h3,hs,h5,t1,t2,t3,t4,lvT,lvF,hx,hfr,ht,purse_eq,List.range_succ]
set_option maxHeartbeats 8000000 in
theorem rin_ack (n:Nd) (F:Fl) (hn:n.Ok) (hr:RawOk n.raw) (h1:¬ n.raw=[]) (hl5:n.run≤5) (f:Fr) (hs:n.sends=false) (k:Nat) (hN:nextF n.raw=(7,k)) (hd:frL n=true) (h5:¬ n.run=5) (hri:rightF n.raw=true):∃ F2,call E (.func (.func 125) [] []) [.ptr 0 0,.ptr (mI n) 0,.lit (.int .i64 (lv true))] (ndT n F [] f)=some (.tup [],ndT (takeN n true).2 F2 [] f):=by
 have hx:=nnextT n F 7 k hN hr
 have hfr:=nframeT n F true hd hr (fun e=>by rw [hs] at e;cases e)
 have h7:=nextF_six (m:=n.raw) (by rw [hN];simp)
 have hR:=nright_spec n F.lock h7.1 (by omega) hr.1
 rw [hri] at hR
 obtain ⟨F2,ht⟩:=ntake_spec n F.lock hr h1 hl5 true
 have hok:=take_ok n true (fun e=>h5 e.1)
 have htk:=take_keep n true h1
 rw [hok] at ht
 clear hok
 generalize (takeN n true).2=m at ht htk ⊢
 obtain ⟨t1,t2,t3,-,t4,-⟩:=htk
 refine ⟨F2,?_⟩
 rw [call_func E E125]
 by_cases hq:n.nq=true<;>by_cases h3:n.row=[] <;>
 simp [ndH,rV,qI,qV,wI,wV,rE,qE,wE,Nd.cells,nilS,ndT,tdE,tdV,tdC,mI,encK,Fl.lock,h1,hq,h3,hs,h5,t1,t2,t3,t4,lvT,lvF] at hx hfr ht hR <;>
 simp [go_sem,ir125,ndH,rV,qI,qV,wI,wV,rE,qE,wE,Nd.cells,nilS,ndT,tdE,tdV,tdC,mI,encK,Fl.lock,h1,hq,h3,hs,h5,t1,t2,t3,t4,lvT,lvF,hx,hfr,ht,hR,purse_eq,List.range_succ]
set_option maxHeartbeats 8000000 in
theorem rin_sum (n:Nd) (F:Fl) (hn:n.Ok) (hr:RawOk n.raw) (h1:¬ n.raw=[]) (hl5:n.run≤5) (f:Fr) (hs:n.sends=false) (k:Nat) (hN:nextF n.raw=(7,k)) (hd:frL n=true) (h5:¬ n.run=5) (hri:rightF n.raw=false):∃ F2,call E (.func (.func 125) [] []) [.ptr 0 0,.ptr (mI n) 0,.lit (.int .i64 (lv true))] (ndT n F [] f)=some (.tup [],ndT (failN n 6 true).2 F2 (failN n 6 true).1 f):=by
 have hx:=nnextT n F 7 k hN hr
 have hfr:=nframeT n F true hd hr (fun e=>by rw [hs] at e;cases e)
 have h7:=nextF_six (m:=n.raw) (by rw [hN];simp)
 have hR:=nright_spec n F.lock h7.1 (by omega) hr.1
 rw [hri] at hR
 have hf:=nfail_spec n F.lock hn f 6 true
 have hkp:=fail_keep n 6 true
 have hks:=fail_ks n 6 true
 generalize failN n 6 true=z at hf hkp hks ⊢
 obtain ⟨ks,m⟩:=z
 obtain ⟨e1,e2,e3,-⟩:=hkp
 simp only [] at hf hks e1 e2 e3 ⊢
 refine ⟨F.lock,?_⟩
 rw [call_func E E125]
 rcases hks with rfl | rfl
 ·skip
  by_cases hq:n.nq=true<;>by_cases h3:n.row=[] <;>
  simp [ndH,rV,qI,qV,wI,wV,rE,qE,wE,Nd.cells,nilS,ndT,tdE,tdV,tdC,mI,encK,Fl.lock,h1,hq,h3,hs,h5,e1,e2,e3,lvT,lvF] at hx hfr hR hf <;>
  simp [go_sem,ir125,ndH,rV,qI,qV,wI,wV,rE,qE,wE,Nd.cells,nilS,ndT,tdE,tdV,tdC,mI,encK,Fl.lock,h1,hq,h3,hs,h5,e1,e2,e3,lvT,lvF,hx,hfr,hR,hf,purse_eq,List.range_succ]
 ·skip
  by_cases hq:n.nq=true<;>by_cases h3:n.row=[] <;>
  simp [ndH,rV,qI,qV,wI,wV,rE,qE,wE,Nd.cells,nilS,ndT,tdE,tdV,tdC,mI,encK,Fl.lock,h1,hq,h3,hs,h5,e1,e2,e3,lvT,lvF] at hx hfr hR hf <;>
  simp [go_sem,ir125,ndH,rV,qI,qV,wI,wV,rE,qE,wE,Nd.cells,nilS,ndT,tdE,tdV,tdC,mI,encK,Fl.lock,h1,hq,h3,hs,h5,e1,e2,e3,lvT,lvF,hx,hfr,hR,hf,purse_eq,List.range_succ]
set_option maxHeartbeats 8000000 in
theorem rin_form5 (n:Nd) (F:Fl) (hn:n.Ok) (hr:RawOk n.raw) (h1:¬ n.raw=[]) (hl5:n.run≤5) (f:Fr) (hs:n.sends=false) (k:Nat) (hN:nextF n.raw=(5,k)) (hd:frL n=true) (h5:¬ n.run=5):∃ F2,call E (.func (.func 125) [] []) [.ptr 0 0,.ptr (mI n) 0,.lit (.int .i64 (lv false))] (ndT n F [] f)=some (.tup [],ndT (failN n 7 true).2 F2 (failN n 7 true).1 f):=by
 have hx:=nnextT n F 5 k hN hr
 have hfr:=nframeT n F true hd hr (fun e=>by rw [hs] at e;cases e)
 have hf:=nfail_spec n F.lock hn f 7 true
 have hkp:=fail_keep n 7 true
 have hks:=fail_ks n 7 true
 generalize failN n 7 true=z at hf hkp hks ⊢
 obtain ⟨ks,m⟩:=z
 obtain ⟨e1,e2,e3,-⟩:=hkp
 simp only [] at hf hks e1 e2 e3 ⊢
 refine ⟨F.lock,?_⟩
 rw [call_func E E125]
 rcases hks with rfl | rfl
 ·skip
  by_cases hq:n.nq=true<;>by_cases h3:n.row=[] <;>
  simp [ndH,rV,qI,qV,wI,wV,rE,qE,wE,Nd.cells,nilS,ndT,tdE,tdV,tdC,mI,encK,Fl.lock,h1,hq,h3,hs,h5,e1,e2,e3,lvT,lvF] at hx hfr hf <;>
  simp [go_sem,ir125,ndH,rV,qI,qV,wI,wV,rE,qE,wE,Nd.cells,nilS,ndT,tdE,tdV,tdC,mI,encK,Fl.lock,h1,hq,h3,hs,h5,e1,e2,e3,lvT,lvF,hx,hfr,hf,purse_eq,List.range_succ]
 ·skip
  by_cases hq:n.nq=true<;>by_cases h3:n.row=[] <;>
  simp [ndH,rV,qI,qV,wI,wV,rE,qE,wE,Nd.cells,nilS,ndT,tdE,tdV,tdC,mI,encK,Fl.lock,h1,hq,h3,hs,h5,e1,e2,e3,lvT,lvF] at hx hfr hf <;>
  simp [go_sem,ir125,ndH,rV,qI,qV,wI,wV,rE,qE,wE,Nd.cells,nilS,ndT,tdE,tdV,tdC,mI,encK,Fl.lock,h1,hq,h3,hs,h5,e1,e2,e3,lvT,lvF,hx,hfr,hf,purse_eq,List.range_succ]
set_option maxHeartbeats 8000000 in
theorem rin_form7 (n:Nd) (F:Fl) (hn:n.Ok) (hr:RawOk n.raw) (h1:¬ n.raw=[]) (hl5:n.run≤5) (f:Fr) (hs:n.sends=false) (k:Nat) (hN:nextF n.raw=(7,k)) (hd:frL n=true) (h5:¬ n.run=5):∃ F2,call E (.func (.func 125) [] []) [.ptr 0 0,.ptr (mI n) 0,.lit (.int .i64 (lv false))] (ndT n F [] f)=some (.tup [],ndT (failN n 7 true).2 F2 (failN n 7 true).1 f):=by
 have hx:=nnextT n F 7 k hN hr
 have hfr:=nframeT n F true hd hr (fun e=>by rw [hs] at e;cases e)
 have hf:=nfail_spec n F.lock hn f 7 true
 have hkp:=fail_keep n 7 true
 have hks:=fail_ks n 7 true
 generalize failN n 7 true=z at hf hkp hks ⊢
 obtain ⟨ks,m⟩:=z
 obtain ⟨e1,e2,e3,-⟩:=hkp
 simp only [] at hf hks e1 e2 e3 ⊢
 refine ⟨F.lock,?_⟩
 rw [call_func E E125]
 rcases hks with rfl | rfl
 ·skip
  by_cases hq:n.nq=true<;>by_cases h3:n.row=[] <;>
  simp [ndH,rV,qI,qV,wI,wV,rE,qE,wE,Nd.cells,nilS,ndT,tdE,tdV,tdC,mI,encK,Fl.lock,h1,hq,h3,hs,h5,e1,e2,e3,lvT,lvF] at hx hfr hf <;>
  simp [go_sem,ir125,ndH,rV,qI,qV,wI,wV,rE,qE,wE,Nd.cells,nilS,ndT,tdE,tdV,tdC,mI,encK,Fl.lock,h1,hq,h3,hs,h5,e1,e2,e3,lvT,lvF,hx,hfr,hf,purse_eq,List.range_succ]
 ·skip
  by_cases hq:n.nq=true<;>by_cases h3:n.row=[] <;>
  simp [ndH,rV,qI,qV,wI,wV,rE,qE,wE,Nd.cells,nilS,ndT,tdE,tdV,tdC,mI,encK,Fl.lock,h1,hq,h3,hs,h5,e1,e2,e3,lvT,lvF] at hx hfr hf <;>
  simp [go_sem,ir125,ndH,rV,qI,qV,wI,wV,rE,qE,wE,Nd.cells,nilS,ndT,tdE,tdV,tdC,mI,encK,Fl.lock,h1,hq,h3,hs,h5,e1,e2,e3,lvT,lvF,hx,hfr,hf,purse_eq,List.range_succ]
set_option maxHeartbeats 8000000 in
theorem rin_form8 (n:Nd) (F:Fl) (hn:n.Ok) (hr:RawOk n.raw) (h1:¬ n.raw=[]) (hl5:n.run≤5) (f:Fr) (hs:n.sends=false) (k:Nat) (hN:nextF n.raw=(8,k)) (hd:frL n=true) (h5:¬ n.run=5) (hk6:¬ k=6):∃ F2,call E (.func (.func 125) [] []) [.ptr 0 0,.ptr (mI n) 0,.lit (.int .i64 (lv false))] (ndT n F [] f)=some (.tup [],ndT (failN n 7 true).2 F2 (failN n 7 true).1 f):=by
 have hx:=nnextT n F 8 k hN hr
 have hfr:=nframeT n F true hd hr (fun e=>by rw [hs] at e;cases e)
 have hk6':¬ (k:Int)=6:=by omega
 have hf:=nfail_spec n F.lock hn f 7 true
 have hkp:=fail_keep n 7 true
 have hks:=fail_ks n 7 true
 generalize failN n 7 true=z at hf hkp hks ⊢
 obtain ⟨ks,m⟩:=z
 obtain ⟨e1,e2,e3,-⟩:=hkp
 simp only [] at hf hks e1 e2 e3 ⊢
 refine ⟨F.lock,?_⟩
 rw [call_func E E125]
 rcases hks with rfl | rfl
 ·skip
  by_cases hq:n.nq=true<;>by_cases h3:n.row=[] <;>
  simp [ndH,rV,qI,qV,wI,wV,rE,qE,wE,Nd.cells,nilS,ndT,tdE,tdV,tdC,mI,encK,Fl.lock,h1,hq,h3,hs,h5,e1,e2,e3,lvT,lvF] at hx hfr hf <;>
  simp [go_sem,ir125,ndH,rV,qI,qV,wI,wV,rE,qE,wE,Nd.cells,nilS,ndT,tdE,tdV,tdC,mI,encK,Fl.lock,h1,hq,h3,hs,h5,e1,e2,e3,lvT,lvF,hx,hfr,hf,hk6,hk6',purse_eq,List.range_succ]
 ·skip
  by_cases hq:n.nq=true<;>by_cases h3:n.row=[] <;>
  simp [ndH,rV,qI,qV,wI,wV,rE,qE,wE,Nd.cells,nilS,ndT,tdE,tdV,tdC,mI,encK,Fl.lock,h1,hq,h3,hs,h5,e1,e2,e3,lvT,lvF] at hx hfr hf <;>
  simp [go_sem,ir125,ndH,rV,qI,qV,wI,wV,rE,qE,wE,Nd.cells,nilS,ndT,tdE,tdV,tdC,mI,encK,Fl.lock,h1,hq,h3,hs,h5,e1,e2,e3,lvT,lvF,hx,hfr,hf,hk6,hk6',purse_eq,List.range_succ]
set_option maxHeartbeats 8000000 in
theorem rin_over (n:Nd) (F:Fl) (hn:n.Ok) (hr:RawOk n.raw) (h1:¬ n.raw=[]) (hl5:n.run≤5) (f:Fr) (hs:n.sends=false) (k:Nat) (hN:nextF n.raw=(8,k)) (hd:frL n=true) (h5:¬ n.run=5) (hk:k=6):∃ F2,call E (.func (.func 125) [] []) [.ptr 0 0,.ptr (mI n) 0,.lit (.int .i64 (lv false))] (ndT n F [] f)=some (.tup [],ndT (overN n).2 F2 [9] f):=by
 have hx:=nnextT n F 8 k hN hr
 have hfr:=nframeT n F true hd hr (fun e=>by rw [hs] at e;cases e)
 subst hk
 have ho:=nover_spec n F.lock f
 simp only [overN] at ho ⊢
 refine ⟨F.lock,?_⟩
 rw [call_func E E125]
 by_cases hq:n.nq=true<;>by_cases h3:n.row=[] <;>
 simp [ndH,rV,qI,qV,wI,wV,rE,qE,wE,Nd.cells,nilS,ndT,tdE,tdV,tdC,mI,encK,Fl.lock,h1,hq,h3,hs,h5,lvT,lvF] at hx hfr ho <;>
 simp [go_sem,ir125,ndH,rV,qI,qV,wI,wV,rE,qE,wE,Nd.cells,nilS,ndT,tdE,tdV,tdC,mI,encK,Fl.lock,h1,hq,h3,hs,h5,lvT,lvF,hx,hfr,ho,purse_eq,List.range_succ]
set_option maxHeartbeats 8000000 in
theorem rin_end5 (n:Nd) (F:Fl) (hn:n.Ok) (hr:RawOk n.raw) (h1:¬ n.raw=[]) (hl5:n.run≤5) (f:Fr) (hs:n.sends=false) (k:Nat) (hN:nextF n.raw=(8,k)) (hd:frL n=true) (h5:¬ n.run=5) (hk:k=5) (h0:n.raw[0]?=some false):∃ F2,call E (.func (.func 125) [] []) [.ptr 0 0,.ptr (mI n) 0,.lit (.int .i64 (lv true))] (ndT n F [] f)=some (.tup [],ndT { (takeN n true).2 with ct:=n.ct.recv } F2 [2] (frameOf (n.raw++[true]))):=by
 have hx:=nnextT n F 8 k hN hr
 have hfr:=nframeT n F true hd hr (fun e=>by rw [hs] at e;cases e)
 subst hk
 obtain ⟨F2,ht⟩:=ntake_spec n F.lock hr h1 hl5 true
 have hok:=take_ok n true (fun e=>h5 e.1)
 have htk:=take_keep n true h1
 rw [hok] at ht
 clear hok
 have hmr:(takeN n true).2.raw=n.raw++[true]:=by unfold takeN;rw [if_neg h5,if_pos (by rw [hN];decide)]
 have hfacts:=end_facts n hr h1 5 hN h0
 have he:=nend_recv (takeN n true).2 F2 ⟨by rw [htk.2.1,htk.2.2.2.1];exact hn.nq,by rw [htk.2.2.2.1];exact hn.ql,by rw [htk.2.2.2.2.2.2.1];exact hn.ct⟩ htk.1 (by rw [htk.2.2.2.2.1];exact hs) (by rw [hmr];exact hfacts.1) (by rw [hmr];exact hfacts.2.1) (by rw [hmr];exact hfacts.2.2.1) (by rw [hmr];exact hfacts.2.2.2) f
 have hfo:frameOf (takeN n true).2.raw=frameOf (n.raw++[true]):=by rw [hmr]
 have hco:(takeN n true).2.ct.recv=n.ct.recv:=by rw [htk.2.2.2.2.2.2.1]
 rw [hfo,hco] at he
 clear hfo hco
 generalize frameOf (n.raw++[true])=g at he ⊢
 generalize n.ct.recv=c at he ⊢
 generalize (takeN n true).2=m at ht htk he ⊢
 obtain ⟨t1,t2,t3,-,t4,-⟩:=htk
 clear hmr hfacts
 refine ⟨F2.lock,?_⟩
 rw [call_func E E125]
 by_cases hq:n.nq=true<;>by_cases h3:n.row=[] <;>
 simp [ndH,rV,qI,qV,wI,wV,rE,qE,wE,Nd.cells,nilS,ndT,tdE,tdV,tdC,mI,encK,Fl.lock,h1,hq,h3,hs,h5,t1,t2,t3,t4,lvT,lvF] at hx hfr ht he <;>
 simp [go_sem,ir125,ndH,rV,qI,qV,wI,wV,rE,qE,wE,Nd.cells,nilS,ndT,tdE,tdV,tdC,mI,encK,Fl.lock,h1,hq,h3,hs,h5,t1,t2,t3,t4,lvT,lvF,hx,hfr,ht,he,purse_eq,List.range_succ]
set_option maxHeartbeats 8000000 in
theorem rin_end6 (n:Nd) (F:Fl) (hn:n.Ok) (hr:RawOk n.raw) (h1:¬ n.raw=[]) (hl5:n.run≤5) (f:Fr) (hs:n.sends=false) (k:Nat) (hN:nextF n.raw=(8,k)) (hd:frL n=true) (h5:¬ n.run=5) (hk:k=6):∃ F2,call E (.func (.func 125) [] []) [.ptr 0 0,.ptr (mI n) 0,.lit (.int .i64 (lv true))] (ndT n F [] f)=some (.tup [],ndT { (takeN n true).2 with mode:=8,k:=0 } F2 [] f):=by
 have hx:=nnextT n F 8 k hN hr
 have hfr:=nframeT n F true hd hr (fun e=>by rw [hs] at e;cases e)
 subst hk
 obtain ⟨F2,ht⟩:=ntake_spec n F.lock hr h1 hl5 true
 have hok:=take_ok n true (fun e=>h5 e.1)
 have htk:=take_keep n true h1
 rw [hok] at ht
 clear hok
 have he:=nend_last (takeN n true).2 F2 htk.1 (by rw [htk.2.2.2.2.1];exact hs) f
 generalize (takeN n true).2=m at ht htk he ⊢
 obtain ⟨t1,t2,t3,-,t4,-⟩:=htk
 refine ⟨F2,?_⟩
 rw [call_func E E125]
 by_cases hq:n.nq=true<;>by_cases h3:n.row=[] <;>
 simp [ndH,rV,qI,qV,wI,wV,rE,qE,wE,Nd.cells,nilS,ndT,tdE,tdV,tdC,mI,encK,Fl.lock,h1,hq,h3,hs,h5,t1,t2,t3,t4,lvT,lvF] at hx hfr ht he <;>
 simp [go_sem,ir125,ndH,rV,qI,qV,wI,wV,rE,qE,wE,Nd.cells,nilS,ndT,tdE,tdV,tdC,mI,encK,Fl.lock,h1,hq,h3,hs,h5,t1,t2,t3,t4,lvT,lvF,hx,hfr,ht,he,purse_eq,List.range_succ]
set_option maxHeartbeats 8000000 in
theorem rin_endx (n:Nd) (F:Fl) (hn:n.Ok) (hr:RawOk n.raw) (h1:¬ n.raw=[]) (hl5:n.run≤5) (f:Fr) (hs:n.sends=false) (k:Nat) (hN:nextF n.raw=(8,k)) (hd:frL n=true) (h5:¬ n.run=5) (hk6:¬ k=6) (hk5:¬ k=5):∃ F2,call E (.func (.func 125) [] []) [.ptr 0 0,.ptr (mI n) 0,.lit (.int .i64 (lv true))] (ndT n F [] f)=some (.tup [],ndT (takeN n true).2 F2 [] f):=by
 have hx:=nnextT n F 8 k hN hr
 have hfr:=nframeT n F true hd hr (fun e=>by rw [hs] at e;cases e)
 obtain ⟨F2,ht⟩:=ntake_spec n F.lock hr h1 hl5 true
 have hok:=take_ok n true (fun e=>h5 e.1)
 have htk:=take_keep n true h1
 rw [hok] at ht
 clear hok
 have hk6':¬ (k:Int)=6:=by omega
 have he:=nend_none (takeN n true).2 F2 htk.1 k hk6 (.inl hk5) f
 generalize (takeN n true).2=m at ht htk he ⊢
 obtain ⟨t1,t2,t3,-,t4,-⟩:=htk
 refine ⟨F2,?_⟩
 rw [call_func E E125]
 by_cases hq:n.nq=true<;>by_cases h3:n.row=[] <;>
 simp [ndH,rV,qI,qV,wI,wV,rE,qE,wE,Nd.cells,nilS,ndT,tdE,tdV,tdC,mI,encK,Fl.lock,h1,hq,h3,hs,h5,t1,t2,t3,t4,lvT,lvF] at hx hfr ht he <;>
 simp [go_sem,ir125,ndH,rV,qI,qV,wI,wV,rE,qE,wE,Nd.cells,nilS,ndT,tdE,tdV,tdC,mI,encK,Fl.lock,h1,hq,h3,hs,h5,t1,t2,t3,t4,lvT,lvF,hx,hfr,ht,he,hk6,hk6',purse_eq,List.range_succ]
end Go.AM.R1
open Go Go.AM
namespace Go.AM.R1
set_option maxHeartbeats 8000000 in
theorem sin_lost (n:Nd) (F:Fl) (hn:n.Ok) (hr:RawOk n.raw) (h1:¬ n.raw=[]) (hl5:n.run≤5) (f:Fr) (hs:n.sends=true) (hrl:n.raw.length<n.row.length) (hq:n.nq=false) (h3:¬ n.row=[]) (k:Nat) (hN:nextF n.raw=(1,k)) (hd:frL n=true) (h5:¬ n.run=5):∃ F2,call E (.func (.func 125) [] []) [.ptr 0 0,.ptr (mI n) 0,.lit (.int .i64 (lv false))] (ndT n F [] f)=some (.tup [],ndT (takeN { n with tx:=false,sends:=false } false).2 F2 [3] f):=by
 have hx:=nnextT n F 1 k hN hr
 have hfr:=nframeT n F true hd hr (fun _=>hrl)
 have hdf:=ndiff_lost n F.lock hr h1 hq h3 f k hN h5
 obtain ⟨F2,ht⟩:=ntake_spec ({ n with tx:=false,sends:=false }:Nd) F.lock hr h1 hl5 false
 have hok:=take_ok ({ n with tx:=false,sends:=false }:Nd) false (fun e=>h5 e.1)
 have htk:=take_keep ({ n with tx:=false,sends:=false }:Nd) false h1
 rw [hok] at ht
 clear hok
 generalize (takeN ({ n with tx:=false,sends:=false }:Nd) false).2=m at ht htk ⊢
 obtain ⟨t1,t2,t3,-,t4,-⟩:=htk
 refine ⟨F2,?_⟩
 rw [call_func E E125]
 simp [ndH,rV,qI,qV,wI,wV,rE,qE,wE,Nd.cells,nilS,ndT,tdE,tdV,tdC,mI,encK,Fl.lock,h1,hq,h3,hs,h5,t1,t2,t3,t4,lvT,lvF] at hx hfr hdf ht
 simp [go_sem,ir125,ndH,rV,qI,qV,wI,wV,rE,qE,wE,Nd.cells,nilS,ndT,tdE,tdV,tdC,mI,encK,Fl.lock,h1,hq,h3,hs,h5,t1,t2,t3,t4,lvT,lvF,hx,hfr,hdf,ht,purse_eq,List.range_succ]
set_option maxHeartbeats 8000000 in
theorem sin_stuff (n:Nd) (F:Fl) (hn:n.Ok) (hr:RawOk n.raw) (h1:¬ n.raw=[]) (hl5:n.run≤5) (f:Fr) (hs:n.sends=true) (hrl:n.raw.length<n.row.length) (hq:n.nq=false) (h3:¬ n.row=[]) (k:Nat) (hN:nextF n.raw=(1,k)) (hd:frL n=true) (h5:n.run=5):∃ F2,call E (.func (.func 125) [] []) [.ptr 0 0,.ptr (mI n) 0,.lit (.int .i64 (lv false))] (ndT n F [] f)=some (.tup [],ndT (failN n 5 false).2 F2 (failN n 5 false).1 f):=by
 have hx:=nnextT n F 1 k hN hr
 have hfr:=nframeT n F true hd hr (fun _=>hrl)
 have hf:=ndiff_stuff n F.lock hr h1 hq h3 hn f k hN h5
 have hkp:=fail_keep n 5 false
 have hks:=fail_ks n 5 false
 generalize failN n 5 false=z at hf hkp hks ⊢
 obtain ⟨ks,m⟩:=z
 obtain ⟨e1,e2,e3,-⟩:=hkp
 simp only [] at hf hks e1 e2 e3 ⊢
 refine ⟨F.lock,?_⟩
 rw [call_func E E125]
 rcases hks with rfl | rfl
 ·skip
  simp [ndH,rV,qI,qV,wI,wV,rE,qE,wE,Nd.cells,nilS,ndT,tdE,tdV,tdC,mI,encK,Fl.lock,h1,hq,h3,hs,h5,e1,e2,e3,lvT,lvF] at hx hfr hf
  simp [go_sem,ir125,ndH,rV,qI,qV,wI,wV,rE,qE,wE,Nd.cells,nilS,ndT,tdE,tdV,tdC,mI,encK,Fl.lock,h1,hq,h3,hs,h5,e1,e2,e3,lvT,lvF,hx,hfr,hf,purse_eq,List.range_succ]
 ·skip
  simp [ndH,rV,qI,qV,wI,wV,rE,qE,wE,Nd.cells,nilS,ndT,tdE,tdV,tdC,mI,encK,Fl.lock,h1,hq,h3,hs,h5,e1,e2,e3,lvT,lvF] at hx hfr hf
  simp [go_sem,ir125,ndH,rV,qI,qV,wI,wV,rE,qE,wE,Nd.cells,nilS,ndT,tdE,tdV,tdC,mI,encK,Fl.lock,h1,hq,h3,hs,h5,e1,e2,e3,lvT,lvF,hx,hfr,hf,purse_eq,List.range_succ]
set_option maxHeartbeats 8000000 in
theorem sin_bit1 (n:Nd) (F:Fl) (hn:n.Ok) (hr:RawOk n.raw) (h1:¬ n.raw=[]) (hl5:n.run≤5) (f:Fr) (hs:n.sends=true) (hrl:n.raw.length<n.row.length) (hq:n.nq=false) (h3:¬ n.row=[]) (kind k:Nat) (hN:nextF n.raw=(kind,k)) (hd:frL n=false) :∃ F2,call E (.func (.func 125) [] []) [.ptr 0 0,.ptr (mI n) 0,.lit (.int .i64 (lv true))] (ndT n F [] f)=some (.tup [],ndT (failN n 4 true).2 F2 (failN n 4 true).1 f):=by
 have hx:=nnextT n F kind k hN hr
 have hfr:=nframeT n F false hd hr (fun _=>hrl)
 have hf:=ndiff_bit1 n F.lock hr h1 hq h3 hn f kind k hN
 have hkp:=fail_keep n 4 true
 have hks:=fail_ks n 4 true
 generalize failN n 4 true=z at hf hkp hks ⊢
 obtain ⟨ks,m⟩:=z
 obtain ⟨e1,e2,e3,-⟩:=hkp
 simp only [] at hf hks e1 e2 e3 ⊢
 refine ⟨F.lock,?_⟩
 rw [call_func E E125]
 rcases hks with rfl | rfl
 ·skip
  simp [ndH,rV,qI,qV,wI,wV,rE,qE,wE,Nd.cells,nilS,ndT,tdE,tdV,tdC,mI,encK,Fl.lock,h1,hq,h3,hs,e1,e2,e3,lvT,lvF] at hx hfr hf
  simp [go_sem,ir125,ndH,rV,qI,qV,wI,wV,rE,qE,wE,Nd.cells,nilS,ndT,tdE,tdV,tdC,mI,encK,Fl.lock,h1,hq,h3,hs,e1,e2,e3,lvT,lvF,hx,hfr,hf,purse_eq,List.range_succ]
 ·skip
  simp [ndH,rV,qI,qV,wI,wV,rE,qE,wE,Nd.cells,nilS,ndT,tdE,tdV,tdC,mI,encK,Fl.lock,h1,hq,h3,hs,e1,e2,e3,lvT,lvF] at hx hfr hf
  simp [go_sem,ir125,ndH,rV,qI,qV,wI,wV,rE,qE,wE,Nd.cells,nilS,ndT,tdE,tdV,tdC,mI,encK,Fl.lock,h1,hq,h3,hs,e1,e2,e3,lvT,lvF,hx,hfr,hf,purse_eq,List.range_succ]
set_option maxHeartbeats 8000000 in
theorem sin_bit0 (n:Nd) (F:Fl) (hn:n.Ok) (hr:RawOk n.raw) (h1:¬ n.raw=[]) (hl5:n.run≤5) (f:Fr) (hs:n.sends=true) (hrl:n.raw.length<n.row.length) (hq:n.nq=false) (h3:¬ n.row=[]) (kind k:Nat) (hN:nextF n.raw=(kind,k)) (hd:frL n=true)  (hk1:¬ kind=1) (hk6:¬ kind=6):∃ F2,call E (.func (.func 125) [] []) [.ptr 0 0,.ptr (mI n) 0,.lit (.int .i64 (lv false))] (ndT n F [] f)=some (.tup [],ndT (failN n 4 true).2 F2 (failN n 4 true).1 f):=by
 have hx:=nnextT n F kind k hN hr
 have hfr:=nframeT n F true hd hr (fun _=>hrl)
 have hf:=ndiff_bit0 n F.lock hr h1 hq h3 hn f kind k hN hk1 hk6
 have hkp:=fail_keep n 4 true
 have hks:=fail_ks n 4 true
 generalize failN n 4 true=z at hf hkp hks ⊢
 obtain ⟨ks,m⟩:=z
 obtain ⟨e1,e2,e3,-⟩:=hkp
 simp only [] at hf hks e1 e2 e3 ⊢
 refine ⟨F.lock,?_⟩
 rw [call_func E E125]
 rcases hks with rfl | rfl
 ·skip
  simp [ndH,rV,qI,qV,wI,wV,rE,qE,wE,Nd.cells,nilS,ndT,tdE,tdV,tdC,mI,encK,Fl.lock,h1,hq,h3,hs,e1,e2,e3,lvT,lvF] at hx hfr hf
  simp [go_sem,ir125,ndH,rV,qI,qV,wI,wV,rE,qE,wE,Nd.cells,nilS,ndT,tdE,tdV,tdC,mI,encK,Fl.lock,h1,hq,h3,hs,e1,e2,e3,lvT,lvF,hx,hfr,hf,purse_eq,List.range_succ]
 ·skip
  simp [ndH,rV,qI,qV,wI,wV,rE,qE,wE,Nd.cells,nilS,ndT,tdE,tdV,tdC,mI,encK,Fl.lock,h1,hq,h3,hs,e1,e2,e3,lvT,lvF] at hx hfr hf
  simp [go_sem,ir125,ndH,rV,qI,qV,wI,wV,rE,qE,wE,Nd.cells,nilS,ndT,tdE,tdV,tdC,mI,encK,Fl.lock,h1,hq,h3,hs,e1,e2,e3,lvT,lvF,hx,hfr,hf,purse_eq,List.range_succ]
set_option maxHeartbeats 8000000 in
theorem sin_slot (n:Nd) (F:Fl) (hn:n.Ok) (hr:RawOk n.raw) (h1:¬ n.raw=[]) (hl5:n.run≤5) (f:Fr) (hs:n.sends=true) (hrl:n.raw.length<n.row.length) (hq:n.nq=false) (h3:¬ n.row=[]) (k:Nat) (hN:nextF n.raw=(6,k)) (hd:frL n=true) (h5:¬ n.run=5):∃ F2,call E (.func (.func 125) [] []) [.ptr 0 0,.ptr (mI n) 0,.lit (.int .i64 (lv false))] (ndT n F [] f)=some (.tup [],ndT (takeN n false).2 F2 [] f):=by
 have hx:=nnextT n F 6 k hN hr
 have hfr:=nframeT n F true hd hr (fun _=>hrl)
 have hdf:=ndiff_slot n F.lock hr h1 hq h3 f k hN
 obtain ⟨F2,ht⟩:=ntake_spec n F.lock hr h1 hl5 false
 have hok:=take_ok n false (fun e=>h5 e.1)
 have htk:=take_keep n false h1
 rw [hok] at ht
 clear hok
 generalize (takeN n false).2=m at ht htk ⊢
 obtain ⟨t1,t2,t3,-,t4,-⟩:=htk
 refine ⟨F2,?_⟩
 rw [call_func E E125]
 simp [ndH,rV,qI,qV,wI,wV,rE,qE,wE,Nd.cells,nilS,ndT,tdE,tdV,tdC,mI,encK,Fl.lock,h1,hq,h3,hs,h5,t1,t2,t3,t4,lvT,lvF] at hx hfr hdf ht
 simp [go_sem,ir125,ndH,rV,qI,qV,wI,wV,rE,qE,wE,Nd.cells,nilS,ndT,tdE,tdV,tdC,mI,encK,Fl.lock,h1,hq,h3,hs,h5,t1,t2,t3,t4,lvT,lvF,hx,hfr,hdf,ht,purse_eq,List.range_succ]
set_option maxHeartbeats 8000000 in
theorem sin_ack (n:Nd) (F:Fl) (hn:n.Ok) (hr:RawOk n.raw) (h1:¬ n.raw=[]) (hl5:n.run≤5) (f:Fr) (hs:n.sends=true) (hrl:n.raw.length<n.row.length) (hq:n.nq=false) (h3:¬ n.row=[]) (k:Nat) (hN:nextF n.raw=(6,k)) (hd:frL n=true) (h5:¬ n.run=5):∃ F2,call E (.func (.func 125) [] []) [.ptr 0 0,.ptr (mI n) 0,.lit (.int .i64 (lv true))] (ndT n F [] f)=some (.tup [],ndT (nackN n).2 F2 (nackN n).1 f):=by
 have hx:=nnextT n F 6 k hN hr
 have hfr:=nframeT n F true hd hr (fun _=>hrl)
 have hst:=cstate_spec n.ct
 unfold nackN
 by_cases hpa:n.ct.state=1
 case pos =>
  rw [hpa] at hst
  rw [show decide (n.ct.state=1)=true from decide_eq_true hpa]
  have hf:=nfail_spec n F.lock hn f 8 false
  have hkp:=fail_keep n 8 false
  have hks:=fail_ks n 8 false
  rw [show (!true)=false from rfl]
  generalize failN n 8 false=z at hf hkp hks ⊢
  obtain ⟨ks,m⟩:=z
  obtain ⟨e1,e2,e3,-⟩:=hkp
  simp only [] at hf hks e1 e2 e3 ⊢
  refine ⟨F.lock,?_⟩
  rw [call_func E E125]
  rcases hks with rfl | rfl
  ·skip
   simp [ndH,rV,qI,qV,wI,wV,rE,qE,wE,Nd.cells,nilS,ndT,tdE,tdV,tdC,mI,encK,Fl.lock,h1,hq,h3,hs,h5,e1,e2,e3,Ct.cells,lvT,lvF] at hx hfr hf hst
   simp [go_sem,ir125,ndH,rV,qI,qV,wI,wV,rE,qE,wE,Nd.cells,nilS,ndT,tdE,tdV,tdC,mI,encK,Fl.lock,h1,hq,h3,hs,h5,e1,e2,e3,Ct.cells,lvT,lvF,hx,hfr,hf,hst,purse_eq,List.range_succ]
  ·skip
   simp [ndH,rV,qI,qV,wI,wV,rE,qE,wE,Nd.cells,nilS,ndT,tdE,tdV,tdC,mI,encK,Fl.lock,h1,hq,h3,hs,h5,e1,e2,e3,Ct.cells,lvT,lvF] at hx hfr hf hst
   simp [go_sem,ir125,ndH,rV,qI,qV,wI,wV,rE,qE,wE,Nd.cells,nilS,ndT,tdE,tdV,tdC,mI,encK,Fl.lock,h1,hq,h3,hs,h5,e1,e2,e3,Ct.cells,lvT,lvF,hx,hfr,hf,hst,purse_eq,List.range_succ]
 case neg =>
  rw [show decide (n.ct.state=1)=false from decide_eq_false hpa]
  have hf:=nfail_spec n F.lock hn f 8 true
  have hkp:=fail_keep n 8 true
  have hks:=fail_ks n 8 true
  rw [show (!false)=true from rfl]
  generalize failN n 8 true=z at hf hkp hks ⊢
  obtain ⟨ks,m⟩:=z
  obtain ⟨e1,e2,e3,-⟩:=hkp
  simp only [] at hf hks e1 e2 e3 ⊢
  refine ⟨F.lock,?_⟩
  rw [call_func E E125]
  rcases hks with rfl | rfl
  ·skip
   simp [ndH,rV,qI,qV,wI,wV,rE,qE,wE,Nd.cells,nilS,ndT,tdE,tdV,tdC,mI,encK,Fl.lock,h1,hq,h3,hs,h5,e1,e2,e3,Ct.cells,lvT,lvF] at hx hfr hf hst
   simp [go_sem,ir125,ndH,rV,qI,qV,wI,wV,rE,qE,wE,Nd.cells,nilS,ndT,tdE,tdV,tdC,mI,encK,Fl.lock,h1,hq,h3,hs,h5,e1,e2,e3,Ct.cells,lvT,lvF,hx,hfr,hf,hst,hpa,purse_eq,List.range_succ]
  ·skip
   simp [ndH,rV,qI,qV,wI,wV,rE,qE,wE,Nd.cells,nilS,ndT,tdE,tdV,tdC,mI,encK,Fl.lock,h1,hq,h3,hs,h5,e1,e2,e3,Ct.cells,lvT,lvF] at hx hfr hf hst
   simp [go_sem,ir125,ndH,rV,qI,qV,wI,wV,rE,qE,wE,Nd.cells,nilS,ndT,tdE,tdV,tdC,mI,encK,Fl.lock,h1,hq,h3,hs,h5,e1,e2,e3,Ct.cells,lvT,lvF,hx,hfr,hf,hst,hpa,purse_eq,List.range_succ]
set_option maxHeartbeats 8000000 in
theorem sin_added_lo_t (n:Nd) (F:Fl) (hn:n.Ok) (hr:RawOk n.raw) (h1:¬ n.raw=[]) (hl5:n.run≤5) (f:Fr) (hs:n.sends=true) (hrl:n.raw.length<n.row.length) (hq:n.nq=false) (h3:¬ n.row=[]) (kind k:Nat) (hN:nextF n.raw=(kind,k)) (hd:frL n=true) (h5:n.run=5) (hb:¬ n.lvl=true) (h4:kind≤4):∃ F2,call E (.func (.func 125) [] []) [.ptr 0 0,.ptr (mI n) 0,.lit (.int .i64 (lv true))] (ndT n F [] f)=some (.tup [],ndT (takeN n true).2 F2 [] f):=by
 have hx:=nnextT n F kind k hN hr
 have hfr:=nframeT n F true hd hr (fun _=>hrl)
 have h4':(kind:Int)≤4:=by omega
 have h8:¬ kind=8:=by omega
 have h8':¬ (kind:Int)=8:=by omega
 obtain ⟨F2,ht⟩:=ntake_spec n F.lock hr h1 hl5 true
 have hok:=take_ok n true (fun e=>hb e.2.symm)
 have htk:=take_keep n true h1
 rw [hok] at ht
 clear hok
 generalize (takeN n true).2=m at ht htk ⊢
 obtain ⟨t1,t2,t3,-,t4,-⟩:=htk
 refine ⟨F2,?_⟩
 rw [call_func E E125]
 simp [ndH,rV,qI,qV,wI,wV,rE,qE,wE,Nd.cells,nilS,ndT,tdE,tdV,tdC,mI,encK,Fl.lock,h1,hq,h3,hs,h5,t1,t2,t3,t4,lvT,lvF] at hx hfr ht
 simp [go_sem,ir125,ndH,rV,qI,qV,wI,wV,rE,qE,wE,Nd.cells,nilS,ndT,tdE,tdV,tdC,mI,encK,Fl.lock,h1,hq,h3,hs,h5,t1,t2,t3,t4,lvT,lvF,hx,hfr,ht,h4,h4',h8,h8',purse_eq,List.range_succ]
set_option maxHeartbeats 8000000 in
theorem sin_added_hi_t (n:Nd) (F:Fl) (hn:n.Ok) (hr:RawOk n.raw) (h1:¬ n.raw=[]) (hl5:n.run≤5) (f:Fr) (hs:n.sends=true) (hrl:n.raw.length<n.row.length) (hq:n.nq=false) (h3:¬ n.row=[]) (k:Nat) (hN:nextF n.raw=(5,k)) (hd:frL n=true) (h5:n.run=5) (hb:¬ n.lvl=true):∃ F2,call E (.func (.func 125) [] []) [.ptr 0 0,.ptr (mI n) 0,.lit (.int .i64 (lv true))] (ndT n F [] f)=some (.tup [],ndT (takeN n true).2 F2 [] f):=by
 have hx:=nnextT n F 5 k hN hr
 have hfr:=nframeT n F true hd hr (fun _=>hrl)
 obtain ⟨F2,ht⟩:=ntake_spec n F.lock hr h1 hl5 true
 have hok:=take_ok n true (fun e=>hb e.2.symm)
 have htk:=take_keep n true h1
 rw [hok] at ht
 clear hok
 generalize (takeN n true).2=m at ht htk ⊢
 obtain ⟨t1,t2,t3,-,t4,-⟩:=htk
 refine ⟨F2,?_⟩
 rw [call_func E E125]
 simp [ndH,rV,qI,qV,wI,wV,rE,qE,wE,Nd.cells,nilS,ndT,tdE,tdV,tdC,mI,encK,Fl.lock,h1,hq,h3,hs,h5,t1,t2,t3,t4,lvT,lvF] at hx hfr ht
 simp [go_sem,ir125,ndH,rV,qI,qV,wI,wV,rE,qE,wE,Nd.cells,nilS,ndT,tdE,tdV,tdC,mI,encK,Fl.lock,h1,hq,h3,hs,h5,t1,t2,t3,t4,lvT,lvF,hx,hfr,ht,purse_eq,List.range_succ]
set_option maxHeartbeats 8000000 in
theorem sin_low_t (n:Nd) (F:Fl) (hn:n.Ok) (hr:RawOk n.raw) (h1:¬ n.raw=[]) (hl5:n.run≤5) (f:Fr) (hs:n.sends=true) (hrl:n.raw.length<n.row.length) (hq:n.nq=false) (h3:¬ n.row=[]) (kind k:Nat) (hN:nextF n.raw=(kind,k)) (hd:frL n=true) (h5:¬ n.run=5) (h4:kind≤4):∃ F2,call E (.func (.func 125) [] []) [.ptr 0 0,.ptr (mI n) 0,.lit (.int .i64 (lv true))] (ndT n F [] f)=some (.tup [],ndT (takeN n true).2 F2 [] f):=by
 have hx:=nnextT n F kind k hN hr
 have hfr:=nframeT n F true hd hr (fun _=>hrl)
 have h4':(kind:Int)≤4:=by omega
 have h8:¬ kind=8:=by omega
 have h8':¬ (kind:Int)=8:=by omega
 obtain ⟨F2,ht⟩:=ntake_spec n F.lock hr h1 hl5 true
 have hok:=take_ok n true (fun e=>h5 e.1)
 have htk:=take_keep n true h1
 rw [hok] at ht
 clear hok
 generalize (takeN n true).2=m at ht htk ⊢
 obtain ⟨t1,t2,t3,-,t4,-⟩:=htk
 refine ⟨F2,?_⟩
 rw [call_func E E125]
 simp [ndH,rV,qI,qV,wI,wV,rE,qE,wE,Nd.cells,nilS,ndT,tdE,tdV,tdC,mI,encK,Fl.lock,h1,hq,h3,hs,h5,t1,t2,t3,t4,lvT,lvF] at hx hfr ht
 simp [go_sem,ir125,ndH,rV,qI,qV,wI,wV,rE,qE,wE,Nd.cells,nilS,ndT,tdE,tdV,tdC,mI,encK,Fl.lock,h1,hq,h3,hs,h5,t1,t2,t3,t4,lvT,lvF,hx,hfr,ht,h4,h4',h8,h8',purse_eq,List.range_succ]
set_option maxHeartbeats 8000000 in
theorem sin_added_lo_f (n:Nd) (F:Fl) (hn:n.Ok) (hr:RawOk n.raw) (h1:¬ n.raw=[]) (hl5:n.run≤5) (f:Fr) (hs:n.sends=true) (hrl:n.raw.length<n.row.length) (hq:n.nq=false) (h3:¬ n.row=[]) (kind k:Nat) (hN:nextF n.raw=(kind,k)) (hd:frL n=false) (h5:n.run=5) (hb:¬ n.lvl=false) (h4:kind≤4):∃ F2,call E (.func (.func 125) [] []) [.ptr 0 0,.ptr (mI n) 0,.lit (.int .i64 (lv false))] (ndT n F [] f)=some (.tup [],ndT (takeN n false).2 F2 [] f):=by
 have hx:=nnextT n F kind k hN hr
 have hfr:=nframeT n F false hd hr (fun _=>hrl)
 have h4':(kind:Int)≤4:=by omega
 have h8:¬ kind=8:=by omega
 have h8':¬ (kind:Int)=8:=by omega
 obtain ⟨F2,ht⟩:=ntake_spec n F.lock hr h1 hl5 false
 have hok:=take_ok n false (fun e=>hb e.2.symm)
 have htk:=take_keep n false h1
 rw [hok] at ht
 clear hok
 generalize (takeN n false).2=m at ht htk ⊢
 obtain ⟨t1,t2,t3,-,t4,-⟩:=htk
 refine ⟨F2,?_⟩
 rw [call_func E E125]
 simp [ndH,rV,qI,qV,wI,wV,rE,qE,wE,Nd.cells,nilS,ndT,tdE,tdV,tdC,mI,encK,Fl.lock,h1,hq,h3,hs,h5,t1,t2,t3,t4,lvT,lvF] at hx hfr ht
 simp [go_sem,ir125,ndH,rV,qI,qV,wI,wV,rE,qE,wE,Nd.cells,nilS,ndT,tdE,tdV,tdC,mI,encK,Fl.lock,h1,hq,h3,hs,h5,t1,t2,t3,t4,lvT,lvF,hx,hfr,ht,h4,h4',h8,h8',purse_eq,List.range_succ]
set_option maxHeartbeats 8000000 in
theorem sin_added_hi_f (n:Nd) (F:Fl) (hn:n.Ok) (hr:RawOk n.raw) (h1:¬ n.raw=[]) (hl5:n.run≤5) (f:Fr) (hs:n.sends=true) (hrl:n.raw.length<n.row.length) (hq:n.nq=false) (h3:¬ n.row=[]) (k:Nat) (hN:nextF n.raw=(5,k)) (hd:frL n=false) (h5:n.run=5) (hb:¬ n.lvl=false):∃ F2,call E (.func (.func 125) [] []) [.ptr 0 0,.ptr (mI n) 0,.lit (.int .i64 (lv false))] (ndT n F [] f)=some (.tup [],ndT (takeN n false).2 F2 [] f):=by
 have hx:=nnextT n F 5 k hN hr
 have hfr:=nframeT n F false hd hr (fun _=>hrl)
 obtain ⟨F2,ht⟩:=ntake_spec n F.lock hr h1 hl5 false
 have hok:=take_ok n false (fun e=>hb e.2.symm)
 have htk:=take_keep n false h1
 rw [hok] at ht
 clear hok
 generalize (takeN n false).2=m at ht htk ⊢
 obtain ⟨t1,t2,t3,-,t4,-⟩:=htk
 refine ⟨F2,?_⟩
 rw [call_func E E125]
 simp [ndH,rV,qI,qV,wI,wV,rE,qE,wE,Nd.cells,nilS,ndT,tdE,tdV,tdC,mI,encK,Fl.lock,h1,hq,h3,hs,h5,t1,t2,t3,t4,lvT,lvF] at hx hfr ht
 simp [go_sem,ir125,ndH,rV,qI,qV,wI,wV,rE,qE,wE,Nd.cells,nilS,ndT,tdE,tdV,tdC,mI,encK,Fl.lock,h1,hq,h3,hs,h5,t1,t2,t3,t4,lvT,lvF,hx,hfr,ht,purse_eq,List.range_succ]
set_option maxHeartbeats 8000000 in
theorem sin_low_f (n:Nd) (F:Fl) (hn:n.Ok) (hr:RawOk n.raw) (h1:¬ n.raw=[]) (hl5:n.run≤5) (f:Fr) (hs:n.sends=true) (hrl:n.raw.length<n.row.length) (hq:n.nq=false) (h3:¬ n.row=[]) (kind k:Nat) (hN:nextF n.raw=(kind,k)) (hd:frL n=false) (h5:¬ n.run=5) (h4:kind≤4):∃ F2,call E (.func (.func 125) [] []) [.ptr 0 0,.ptr (mI n) 0,.lit (.int .i64 (lv false))] (ndT n F [] f)=some (.tup [],ndT (takeN n false).2 F2 [] f):=by
 have hx:=nnextT n F kind k hN hr
 have hfr:=nframeT n F false hd hr (fun _=>hrl)
 have h4':(kind:Int)≤4:=by omega
 have h8:¬ kind=8:=by omega
 have h8':¬ (kind:Int)=8:=by omega
 obtain ⟨F2,ht⟩:=ntake_spec n F.lock hr h1 hl5 false
 have hok:=take_ok n false (fun e=>h5 e.1)
 have htk:=take_keep n false h1
 rw [hok] at ht
 clear hok
 generalize (takeN n false).2=m at ht htk ⊢
 obtain ⟨t1,t2,t3,-,t4,-⟩:=htk
 refine ⟨F2,?_⟩
 rw [call_func E E125]
 simp [ndH,rV,qI,qV,wI,wV,rE,qE,wE,Nd.cells,nilS,ndT,tdE,tdV,tdC,mI,encK,Fl.lock,h1,hq,h3,hs,h5,t1,t2,t3,t4,lvT,lvF] at hx hfr ht
 simp [go_sem,ir125,ndH,rV,qI,qV,wI,wV,rE,qE,wE,Nd.cells,nilS,ndT,tdE,tdV,tdC,mI,encK,Fl.lock,h1,hq,h3,hs,h5,t1,t2,t3,t4,lvT,lvF,hx,hfr,ht,h4,h4',h8,h8',purse_eq,List.range_succ]
set_option maxHeartbeats 8000000 in
theorem sin_delim5 (n:Nd) (F:Fl) (hn:n.Ok) (hr:RawOk n.raw) (h1:¬ n.raw=[]) (hl5:n.run≤5) (f:Fr) (hs:n.sends=true) (hrl:n.raw.length<n.row.length) (hq:n.nq=false) (h3:¬ n.row=[]) (k:Nat) (hN:nextF n.raw=(5,k)) (hd:frL n=true) (h5:¬ n.run=5):∃ F2,call E (.func (.func 125) [] []) [.ptr 0 0,.ptr (mI n) 0,.lit (.int .i64 (lv true))] (ndT n F [] f)=some (.tup [],ndT (takeN n true).2 F2 [] f):=by
 have hx:=nnextT n F 5 k hN hr
 have hfr:=nframeT n F true hd hr (fun _=>hrl)
 obtain ⟨F2,ht⟩:=ntake_spec n F.lock hr h1 hl5 true
 have hok:=take_ok n true (fun e=>h5 e.1)
 have htk:=take_keep n true h1
 rw [hok] at ht
 clear hok
 generalize (takeN n true).2=m at ht htk ⊢
 obtain ⟨t1,t2,t3,-,t4,-⟩:=htk
 refine ⟨F2,?_⟩
 rw [call_func E E125]
 simp [ndH,rV,qI,qV,wI,wV,rE,qE,wE,Nd.cells,nilS,ndT,tdE,tdV,tdC,mI,encK,Fl.lock,h1,hq,h3,hs,h5,t1,t2,t3,t4,lvT,lvF] at hx hfr ht
 simp [go_sem,ir125,ndH,rV,qI,qV,wI,wV,rE,qE,wE,Nd.cells,nilS,ndT,tdE,tdV,tdC,mI,encK,Fl.lock,h1,hq,h3,hs,h5,t1,t2,t3,t4,lvT,lvF,hx,hfr,ht,purse_eq,List.range_succ]
set_option maxHeartbeats 8000000 in
theorem sin_delim7 (n:Nd) (F:Fl) (hn:n.Ok) (hr:RawOk n.raw) (h1:¬ n.raw=[]) (hl5:n.run≤5) (f:Fr) (hs:n.sends=true) (hrl:n.raw.length<n.row.length) (hq:n.nq=false) (h3:¬ n.row=[]) (k:Nat) (hN:nextF n.raw=(7,k)) (hd:frL n=true) (h5:¬ n.run=5):∃ F2,call E (.func (.func 125) [] []) [.ptr 0 0,.ptr (mI n) 0,.lit (.int .i64 (lv true))] (ndT n F [] f)=some (.tup [],ndT (takeN n true).2 F2 [] f):=by
 have hx:=nnextT n F 7 k hN hr
 have hfr:=nframeT n F true hd hr (fun _=>hrl)
 obtain ⟨F2,ht⟩:=ntake_spec n F.lock hr h1 hl5 true
 have hok:=take_ok n true (fun e=>h5 e.1)
 have htk:=take_keep n true h1
 rw [hok] at ht
 clear hok
 generalize (takeN n true).2=m at ht htk ⊢
 obtain ⟨t1,t2,t3,-,t4,-⟩:=htk
 refine ⟨F2,?_⟩
 rw [call_func E E125]
 simp [ndH,rV,qI,qV,wI,wV,rE,qE,wE,Nd.cells,nilS,ndT,tdE,tdV,tdC,mI,encK,Fl.lock,h1,hq,h3,hs,h5,t1,t2,t3,t4,lvT,lvF] at hx hfr ht
 simp [go_sem,ir125,ndH,rV,qI,qV,wI,wV,rE,qE,wE,Nd.cells,nilS,ndT,tdE,tdV,tdC,mI,encK,Fl.lock,h1,hq,h3,hs,h5,t1,t2,t3,t4,lvT,lvF,hx,hfr,ht,purse_eq,List.range_succ]
set_option maxHeartbeats 8000000 in
theorem sin_endx (n:Nd) (F:Fl) (hn:n.Ok) (hr:RawOk n.raw) (h1:¬ n.raw=[]) (hl5:n.run≤5) (f:Fr) (hs:n.sends=true) (hrl:n.raw.length<n.row.length) (hq:n.nq=false) (h3:¬ n.row=[]) (k:Nat) (hN:nextF n.raw=(8,k)) (hd:frL n=true) (h5:¬ n.run=5) (hk6:¬ k=6):∃ F2,call E (.func (.func 125) [] []) [.ptr 0 0,.ptr (mI n) 0,.lit (.int .i64 (lv true))] (ndT n F [] f)=some (.tup [],ndT (takeN n true).2 F2 [] f):=by
 have hx:=nnextT n F 8 k hN hr
 have hfr:=nframeT n F true hd hr (fun _=>hrl)
 obtain ⟨F2,ht⟩:=ntake_spec n F.lock hr h1 hl5 true
 have hok:=take_ok n true (fun e=>h5 e.1)
 have htk:=take_keep n true h1
 rw [hok] at ht
 clear hok
 have hk6':¬ (k:Int)=6:=by omega
 have he:=nend_none (takeN n true).2 F2 htk.1 k hk6 (.inr (by rw [htk.2.2.2.2.1];exact hs)) f
 generalize (takeN n true).2=m at ht htk he ⊢
 obtain ⟨t1,t2,t3,-,t4,-⟩:=htk
 refine ⟨F2,?_⟩
 rw [call_func E E125]
 simp [ndH,rV,qI,qV,wI,wV,rE,qE,wE,Nd.cells,nilS,ndT,tdE,tdV,tdC,mI,encK,Fl.lock,h1,hq,h3,hs,h5,t1,t2,t3,t4,lvT,lvF] at hx hfr ht he
 simp [go_sem,ir125,ndH,rV,qI,qV,wI,wV,rE,qE,wE,Nd.cells,nilS,ndT,tdE,tdV,tdC,mI,encK,Fl.lock,h1,hq,h3,hs,h5,t1,t2,t3,t4,lvT,lvF,hx,hfr,ht,he,hk6,hk6',purse_eq,List.range_succ]
set_option maxHeartbeats 8000000 in
theorem sin_sent (n:Nd) (F:Fl) (hn:n.Ok) (hr:RawOk n.raw) (h1:¬ n.raw=[]) (hl5:n.run≤5) (f:Fr) (hs:n.sends=true) (hrl:n.raw.length<n.row.length) (hq:n.nq=false) (h3:¬ n.row=[]) (hN:nextF n.raw=(8,6)) (hd:frL n=true) (h5:¬ n.run=5) (ho:n.own∈n.q):∃ F2,call E (.func (.func 125) [] []) [.ptr 0 0,.ptr (mI n) 0,.lit (.int .i64 (lv true))] (ndT n F [] f)=some (.tup [],sentG [.box (tdC (.own 7 1 1 0 1) n.own)] [.arr true false false 1 [encK 1]] 6 (takeN n true).2 F2):=by
 have hx:=nnextT n F 8 6 hN hr
 have hfr:=nframeT n F true hd hr (fun _=>hrl)
 obtain ⟨F2,ht⟩:=ntake_spec n F.lock hr h1 hl5 true
 have hok:=take_ok n true (fun e=>h5 e.1)
 have htk:=take_keep n true h1
 rw [hok] at ht
 clear hok
 have hon:(takeN n true).2.own=n.own:=htk.2.2.2.2.2.2.2.1
 have he:=nend_sent (takeN n true).2 F2 ⟨by rw [htk.2.1,htk.2.2.2.1];exact hn.nq,by rw [htk.2.2.2.1];exact hn.ql,by rw [htk.2.2.2.2.2.2.1];exact hn.ct⟩ htk.1 (by rw [htk.2.1];exact hq) (by rw [htk.2.2.1];exact h3) (by rw [htk.2.2.2.2.1];exact hs) (by rw [hon,htk.2.2.2.1];exact ho) f
 rw [hon] at he
 refine ⟨F2,?_⟩
 generalize (takeN n true).2=m at ht htk he hon ⊢
 obtain ⟨t1,t2,t3,-,t4,-⟩:=htk
 unfold sentG sentN at he ⊢
 rw [hon] at he ⊢
 generalize hrw:(delL n.own m.q).map encFr=rows at he ⊢
 clear hrw
 rw [call_func E E125]
 simp [ndH,rV,qI,qV,wI,wV,rE,qE,wE,Nd.cells,nilS,ndT,tdE,tdV,tdC,mI,encK,Fl.lock,h1,hq,h3,hs,h5,lvT,lvF,t1,t2,t3,t4] at hx hfr ht he
 simp [go_sem,ir125,ndH,rV,qI,qV,wI,wV,rE,qE,wE,Nd.cells,nilS,ndT,tdE,tdV,tdC,mI,encK,Fl.lock,h1,hq,h3,hs,h5,lvT,lvF,t1,t2,t3,t4,hx,hfr,ht,he,purse_eq,List.range_succ]
end Go.AM.R1
open Go Go.AM
namespace Go.AM.R1
set_option maxHeartbeats 16000000 in
theorem nstep_start_f (n:Nd) (F:Fl) (b:Bool) (fid:Nat) (hm:n.mode<11) (hg:(stepF.drop n.mode)[0]?=some (.func (.func fid) [] [])) (n':Nd)  (hc:call E (.func (.func fid) [] []) [.ptr 0 0,.ptr (mI n) 0,.lit (.int .i64 (lv b))] (ndT n F [] Fr.zero)=some (.tup [],stG 1 (tdE (mI n) [] Fr.zero) n n' F false)):call E (.func (.func 71) [] []) [.ptr 0 0,.lit (.int .i64 (lv b))] (ndH n F)=some (.tup [nilS,.lit (.int .i64 0)],stG 0 [] n n' F false):=by
 have hs:=csteps_spec
 have hlv:¬ (¬ lv b=0∧¬ lv b=1):=by cases b<;>simp [lv]
 rw [call_func E E71]
 have hrn:∀ g,renL g stepF=stepF:=fun g=>rfl
 have hrf:refsL stepF=[]:=rfl
 generalize stepF=sf at hs hg hrn hrf
 simp at hg
 cases b <;>
 by_cases h1:n.raw=[]<;>by_cases hq:n.nq=true<;>by_cases h3:n.row=[] <;>
 simp [ndH,rV,qI,qV,wI,wV,rE,qE,wE,Nd.cells,nilS,ndT,tdE,tdV,tdC,mI,encK,h1,hq,h3,stG,lvT,lvF,Fr.zero] at hc <;>
 simp [go_sem,ir71,run_codeL E L71_0.eq_1,run_inLoop',ndH,rV,qI,qV,wI,wV,rE,qE,wE,Nd.cells,nilS,ndT,tdE,tdV,tdC,mI,encK,evV,evE,encEv,Fr.zero,h1,hq,h3,stG,lvT,lvF,Fr.zero,hs,hc,hg,hm,hlv,hrn,hrf,aop_idxV,idxVG_agg,w1c,w2c,purse_eq,List.range_succ]
set_option maxHeartbeats 16000000 in
theorem nstep_start_t (n:Nd) (F:Fl) (b:Bool) (fid:Nat) (hm:n.mode<11) (hg:(stepF.drop n.mode)[0]?=some (.func (.func fid) [] [])) (n':Nd) (k3:¬ n'.row=[]) (hc:call E (.func (.func fid) [] []) [.ptr 0 0,.ptr (mI n) 0,.lit (.int .i64 (lv b))] (ndT n F [] Fr.zero)=some (.tup [],stG 1 (tdE (mI n) [] Fr.zero) n n' F true)):call E (.func (.func 71) [] []) [.ptr 0 0,.lit (.int .i64 (lv b))] (ndH n F)=some (.tup [nilS,.lit (.int .i64 0)],stG 0 [] n n' F true):=by
 have hs:=csteps_spec
 have hlv:¬ (¬ lv b=0∧¬ lv b=1):=by cases b<;>simp [lv]
 rw [call_func E E71]
 have hrn:∀ g,renL g stepF=stepF:=fun g=>rfl
 have hrf:refsL stepF=[]:=rfl
 generalize stepF=sf at hs hg hrn hrf
 simp at hg
 cases b <;>
 by_cases h1:n.raw=[]<;>by_cases hq:n.nq=true<;>by_cases h3:n.row=[] <;>
 simp [ndH,rV,qI,qV,wI,wV,rE,qE,wE,Nd.cells,nilS,ndT,tdE,tdV,tdC,mI,encK,h1,hq,h3,stG,lvT,lvF,Fr.zero,k3] at hc <;>
 simp [go_sem,ir71,run_codeL E L71_0.eq_1,run_inLoop',ndH,rV,qI,qV,wI,wV,rE,qE,wE,Nd.cells,nilS,ndT,tdE,tdV,tdC,mI,encK,evV,evE,encEv,Fr.zero,h1,hq,h3,stG,lvT,lvF,Fr.zero,k3,hs,hc,hg,hm,hlv,hrn,hrf,aop_idxV,idxVG_agg,w1c,w2c,purse_eq,List.range_succ]
set_option maxHeartbeats 16000000 in
theorem nstep_sent (n:Nd) (F:Fl) (b:Bool) (fid:Nat) (hm:n.mode<11) (hg:(stepF.drop n.mode)[0]?=some (.func (.func fid) [] [])) (h1:¬ n.raw=[]) (hq:n.nq=false) (h3:¬ n.row=[]) (m:Nd) (F2:Fl) (hm1:¬ m.raw=[]) (hm2:m.nq=false) (hm3:m.row=n.row) (hc:call E (.func (.func fid) [] []) [.ptr 0 0,.ptr (mI n) 0,.lit (.int .i64 (lv b))] (ndT n F [] Fr.zero)=some (.tup [],sentG [.box (tdC (.own 7 1 1 0 1) m.own)] [.arr true false false 1 [encK 1]] 6 m F2)):call E (.func (.func 71) [] []) [.ptr 0 0,.lit (.int .i64 (lv b))] (ndH n F)=some (.tup [.own 6 1 15 0 1,.lit (.int .i64 0)],sentG [] [.arr true false false 15 [encEv (1,m.own)]] 5 m F2):=by
 have hs:=csteps_spec
 have hlv:¬ (¬ lv b=0∧¬ lv b=1):=by cases b<;>simp [lv]
 rw [call_func E E71]
 have hrn:∀ g,renL g stepF=stepF:=fun g=>rfl
 have hrf:refsL stepF=[]:=rfl
 generalize stepF=sf at hs hg hrn hrf
 simp at hg
 unfold sentG sentN at hc ⊢
 generalize (delL m.own m.q).map encFr=rows at hc ⊢
 generalize m.ct.sent=c at hc ⊢
 cases b
 all_goals simp [ndH,rV,qI,qV,wI,wV,rE,qE,wE,Nd.cells,nilS,ndT,tdE,tdV,tdC,mI,encK,h1,hq,h3,hm1,hm2,hm3,lvT,lvF,Fr.zero] at hc
 all_goals simp [go_sem,ir71,run_codeL E L71_0.eq_1,run_inLoop',ndH,rV,qI,qV,wI,wV,rE,qE,wE,Nd.cells,nilS,ndT,tdE,tdV,tdC,mI,encK,evV,evE,encEv,Fr.zero,h1,hq,h3,hm1,hm2,hm3,lvT,lvF,Fr.zero,hs,hc,hg,hm,hlv,hrn,hrf,aop_idxV,idxVG_agg,w1c,w2c,purse_eq,List.range_succ]
end Go.AM.R1
open Go Go.AM
namespace Go.AM.R1
set_option maxHeartbeats 8000000 in
theorem npause_over (n:Nd) (F:Fl) (hk2:n.k<2) (f:Fr):call E (.func (.func 130) [] []) [.ptr 0 0,.ptr (mI n) 0,.lit (.int .i64 0)] (ndT n F [] f)=some (.tup [],ndT (overN n).2 F [9] f):=by
 have ho:=nover_spec n F f
 have hk3:(n.k:Int)<2:=by omega
 rw [call_func E E130]
 simp only [overN] at ho ⊢
 by_cases h1:n.raw=[]<;>by_cases hq:n.nq=true<;>by_cases h3:n.row=[] <;>
 simp [ndH,rV,qI,qV,wI,wV,rE,qE,wE,Nd.cells,nilS,ndT,tdE,tdV,tdC,mI,encK,h1,hq,h3] at ho <;>
 simp [go_sem,ir130,ndH,rV,qI,qV,wI,wV,rE,qE,wE,Nd.cells,nilS,ndT,tdE,tdV,tdC,mI,encK,h1,hq,h3,ho,hk3,hk2,purse_eq,List.range_succ]
set_option maxHeartbeats 8000000 in
theorem npause_no0 (n:Nd) (F:Fl) (hn:n.Ok) (hk2:¬ n.k<2) (hq0:n.q=[]) (f:Fr):call E (.func (.func 130) [] []) [.ptr 0 0,.ptr (mI n) 0,.lit (.int .i64 0)] (ndT n F [] f)=some (.tup [],stG 1 (tdE (mI n) [] f) n (startN n false) F false):=by
 have hp:=npend_spec n F hn
 have hs:=nstart_no n F
 have hk3:¬ (n.k:Int)<2:=by omega
 rw [hq0] at hp
 rw [call_func E E130]
 by_cases h1:n.raw=[]<;>by_cases hq:n.nq=true<;>by_cases h3:n.row=[] <;>
 simp [ndH,rV,qI,qV,wI,wV,rE,qE,wE,Nd.cells,nilS,ndT,tdE,tdV,tdC,mI,encK,h1,hq,h3,hq0,stG,startN,encLv,lvF] at hp hs <;>
 simp [go_sem,ir130,ndH,rV,qI,qV,wI,wV,rE,qE,wE,Nd.cells,nilS,ndT,tdE,tdV,tdC,mI,encK,h1,hq,h3,hq0,stG,startN,encLv,lvF,hp,hs,hk3,hk2,purse_eq,List.range_succ]
set_option maxHeartbeats 8000000 in
theorem npause_nol (n:Nd) (F:Fl) (hn:n.Ok) (hk2:¬ n.k<2) (hq0:¬ n.q=[]) (hl:lateP n=true) (f:Fr):call E (.func (.func 130) [] []) [.ptr 0 0,.ptr (mI n) 0,.lit (.int .i64 0)] (ndT n F [] f)=some (.tup [],stG 1 (tdE (mI n) [] f) n (startN n false) F false):=by
 have hp:=npend_spec n F hn
 have hs:=nstart_no n F
 have hla:=nlate_spec n F
 have hk3:¬ (n.k:Int)<2:=by omega
 rw [show (n.tx && decide (n.ct.state=1))=true from hl] at hla
 rw [call_func E E130]
 by_cases h1:n.raw=[]<;>by_cases hq:n.nq=true<;>by_cases h3:n.row=[] <;>
 simp [ndH,rV,qI,qV,wI,wV,rE,qE,wE,Nd.cells,nilS,ndT,tdE,tdV,tdC,mI,encK,h1,hq,h3,hq0,stG,startN,encLv,lvF] at hp hs hla <;>
 simp [go_sem,ir130,ndH,rV,qI,qV,wI,wV,rE,qE,wE,Nd.cells,nilS,ndT,tdE,tdV,tdC,mI,encK,h1,hq,h3,hq0,stG,startN,encLv,lvF,hp,hs,hla,hk3,hk2,purse_eq,List.range_succ]
set_option maxHeartbeats 8000000 in
theorem npause_yes (n:Nd) (F:Fl) (hn:n.Ok) (hk2:¬ n.k<2) (g:Fr) (r:List Fr) (hg:n.q=g::r) (hok:g.Ok) (hc:checkP g=0) (hl:lateP n=false) (f:Fr):call E (.func (.func 130) [] []) [.ptr 0 0,.ptr (mI n) 0,.lit (.int .i64 0)] (ndT n F [] f)=some (.tup [],stG 1 (tdE (mI n) [] f) n (startN n true) F true):=by
 have hp:=npend_spec n F hn
 have hs:=nstart_yes n F hn g r hg hok hc
 have hla:=nlate_spec n F
 have hk3:¬ (n.k:Int)<2:=by omega
 rw [show (n.tx && decide (n.ct.state=1))=false from hl] at hla
 rw [hg] at hp
 have hq:n.nq=false:=by
  cases h:n.nq
  ·rfl
  ·have:=hn.nq h;rw [hg] at this;cases this
 have hne:=allP_ne g
 have e:startN n true={ n with mode:=2,k:=0,raw:=[false],lvl:=false,run:=1,tx:=true,sends:=true,own:=g,row:=allP g }:=by unfold startN;rw [hg];rfl
 rw [e] at hs ⊢
 clear e
 generalize allP g=rw0 at hs hne ⊢
 rw [call_func E E130]
 by_cases h1:n.raw=[]<;>by_cases h3:n.row=[] <;>
 simp [ndH,rV,qI,qV,wI,wV,rE,qE,wE,Nd.cells,nilS,ndT,tdE,tdV,tdC,mI,encK,stG,encLv,lvF,h1,hq,h3,hg] at hp hs hla <;>
 simp [go_sem,ir130,ndH,rV,qI,qV,wI,wV,rE,qE,wE,Nd.cells,nilS,ndT,tdE,tdV,tdC,mI,encK,stG,encLv,lvF,h1,hq,h3,hg,hp,hs,hla,hne,hk3,hk2,purse_eq,List.range_succ]
set_option maxHeartbeats 8000000 in
theorem npause_rest (n:Nd) (F:Fl) (hk:n.k≤1000000000) (f:Fr):call E (.func (.func 130) [] []) [.ptr 0 0,.ptr (mI n) 0,.lit (.int .i64 1)] (ndT n F [] f)=some (.tup [],ndT (pauseN n).2 F [] f):=by
 have w1:=k1w hk
 have hla:=nlate_spec { n with k:=n.k+1 } F
 rw [call_func E E130]
 by_cases hk2:n.k+1<3
 case pos =>
  rw [show (pauseN n).2={ n with k:=n.k+1 } by unfold pauseN;simp only [];rw [if_pos hk2]]
  have hk3:(n.k:Int)+1<3:=by omega
  by_cases h1:n.raw=[]<;>by_cases hq:n.nq=true<;>by_cases h3:n.row=[] <;>
  simp [go_sem,ir130,ndH,rV,qI,qV,wI,wV,rE,qE,wE,Nd.cells,nilS,ndT,tdE,tdV,tdC,mI,encK,h1,hq,h3,w1,hk3,purse_eq,List.range_succ]
 case neg =>
  have hk3:¬ ((n.k:Int)+1<3):=by omega
  by_cases hl:lateP n=true
  case pos =>
   rw [show (pauseN n).2={ n with mode:=9,k:=0 } by unfold pauseN;simp only [];rw [if_neg hk2,if_pos hl]]
   rw [show (({ n with k:=n.k+1 }:Nd).tx && decide (({ n with k:=n.k+1 }:Nd).ct.state=1))=true from hl] at hla
   have hu:=nturn_spec { n with k:=n.k+1 } F 9
   by_cases h1:n.raw=[]<;>by_cases hq:n.nq=true<;>by_cases h3:n.row=[] <;>
   simp [ndH,rV,qI,qV,wI,wV,rE,qE,wE,Nd.cells,nilS,ndT,tdE,tdV,tdC,mI,encK,h1,hq,h3] at hla hu <;>
   simp [go_sem,ir130,ndH,rV,qI,qV,wI,wV,rE,qE,wE,Nd.cells,nilS,ndT,tdE,tdV,tdC,mI,encK,h1,hq,h3,hla,hu,w1,hk3,natCastS,purse_eq,List.range_succ]
  case neg =>
   have hl:lateP n=false:=by simpa using hl
   rw [show (pauseN n).2={ n with mode:=1,k:=0 } by unfold pauseN;simp only [];rw [if_neg hk2,if_neg (by rw [hl];simp)]]
   rw [show (({ n with k:=n.k+1 }:Nd).tx && decide (({ n with k:=n.k+1 }:Nd).ct.state=1))=false from hl] at hla
   have hu:=nturn_spec { n with k:=n.k+1 } F 1
   by_cases h1:n.raw=[]<;>by_cases hq:n.nq=true<;>by_cases h3:n.row=[] <;>
   simp [ndH,rV,qI,qV,wI,wV,rE,qE,wE,Nd.cells,nilS,ndT,tdE,tdV,tdC,mI,encK,h1,hq,h3] at hla hu <;>
   simp [go_sem,ir130,ndH,rV,qI,qV,wI,wV,rE,qE,wE,Nd.cells,nilS,ndT,tdE,tdV,tdC,mI,encK,h1,hq,h3,hla,hu,w1,hk3,natCastS,purse_eq,List.range_succ]
set_option maxHeartbeats 8000000 in
theorem nsusp_start (n:Nd) (F:Fl) (f:Fr):call E (.func (.func 131) [] []) [.ptr 0 0,.ptr (mI n) 0,.lit (.int .i64 0)] (ndT n F [] f)=some (.tup [],stG 1 (tdE (mI n) [] f) n (startN n false) F false):=by
 have hs:=nstart_no n F
 rw [call_func E E131]
 by_cases h1:n.raw=[]<;>by_cases hq:n.nq=true<;>by_cases h3:n.row=[] <;>
 simp [ndH,rV,qI,qV,wI,wV,rE,qE,wE,Nd.cells,nilS,ndT,tdE,tdV,tdC,mI,encK,h1,hq,h3,stG,startN,encLv,lvF] at hs <;>
 simp [go_sem,ir131,ndH,rV,qI,qV,wI,wV,rE,qE,wE,Nd.cells,nilS,ndT,tdE,tdV,tdC,mI,encK,h1,hq,h3,stG,startN,encLv,lvF,hs,purse_eq,List.range_succ]
set_option maxHeartbeats 8000000 in
theorem nsusp_rest (n:Nd) (F:Fl) (hk:n.k≤1000000000) (f:Fr):call E (.func (.func 131) [] []) [.ptr 0 0,.ptr (mI n) 0,.lit (.int .i64 1)] (ndT n F [] f)=some (.tup [],ndT (suspN n).2 F [] f):=by
 have w1:=k1w hk
 rw [call_func E E131]
 by_cases hk2:n.k+1=8
 case pos =>
  rw [show (suspN n).2={ n with mode:=1,k:=0 } by unfold suspN;simp only [];rw [if_pos hk2]]
  have hk3:(n.k:Int)+1=8:=by omega
  have hu:=nturn_spec { n with k:=8 } F 1
  by_cases h1:n.raw=[]<;>by_cases hq:n.nq=true<;>by_cases h3:n.row=[] <;>
  simp [ndH,rV,qI,qV,wI,wV,rE,qE,wE,Nd.cells,nilS,ndT,tdE,tdV,tdC,mI,encK,h1,hq,h3] at hu <;>
  simp [go_sem,ir131,ndH,rV,qI,qV,wI,wV,rE,qE,wE,Nd.cells,nilS,ndT,tdE,tdV,tdC,mI,encK,h1,hq,h3,hu,hk3,w8,purse_eq,List.range_succ]
 case neg =>
  rw [show (suspN n).2={ n with k:=n.k+1 } by unfold suspN;simp only [];rw [if_neg hk2]]
  have hk3:¬ ((n.k:Int)+1=8):=by omega
  by_cases h1:n.raw=[]<;>by_cases hq:n.nq=true<;>by_cases h3:n.row=[] <;>
  simp [go_sem,ir131,ndH,rV,qI,qV,wI,wV,rE,qE,wE,Nd.cells,nilS,ndT,tdE,tdV,tdC,mI,encK,h1,hq,h3,w1,hk3,purse_eq,List.range_succ]
end Go.AM.R1
open Go Go.AM
namespace Go.AM.R1
def inN (n:Nd) (b:Bool):List Nat × Fr × Nd :=
 if n.sends=true then
  if b=frL n then
   if n.run≠5∧(nextF n.raw).1=6 then ((nackN n).1,Fr.zero,(nackN n).2)
   else if n.run≠5∧nextF n.raw=(8,6) then ([1],n.own,sentN (takeN n true).2)
   else ([],Fr.zero,(takeN n b).2)
  else if b=true then ((failN n 4 true).1,Fr.zero,(failN n 4 true).2)
  else if (nextF n.raw).1=1 then (if n.run=5 then ((failN n 5 false).1,Fr.zero,(failN n 5 false).2) else ([3],Fr.zero,(takeN { n with tx:=false,sends:=false } false).2))
  else if (nextF n.raw).1=6 then ([],Fr.zero,(takeN n false).2)
  else ((failN n 4 true).1,Fr.zero,(failN n 4 true).2)
 else if frL n=false then (if b=true then ((failN n 4 true).1,Fr.zero,(failN n 4 true).2) else ([],Fr.zero,(takeN n false).2))
 else if n.run=5 then (if b=n.lvl then ((failN n 5 true).1,Fr.zero,(failN n 5 true).2) else ([],Fr.zero,(takeN n b).2))
 else if (nextF n.raw).1≤4∨(nextF n.raw).1=6 then ([],Fr.zero,(takeN n b).2)
 else if b=false then (if nextF n.raw=(8,6) then ([9],Fr.zero,(overN n).2) else ((failN n 7 true).1,Fr.zero,(failN n 7 true).2))
 else if (nextF n.raw).1=7∧rightF n.raw=false then ((failN n 6 true).1,Fr.zero,(failN n 6 true).2)
 else if nextF n.raw=(8,5) then ([2],frameOf (n.raw++[true]),{ (takeN n true).2 with ct:=n.ct.recv })
 else if nextF n.raw=(8,6) then ([],Fr.zero,{ (takeN n true).2 with mode:=8,k:=0 })
 else ([],Fr.zero,(takeN n true).2)
def noFr (x:List Nat × Nd):List Nat × Fr × Nd:=(x.1,Fr.zero,x.2)
def idleN (n:Nd) (b:Bool):List Nat × Nd :=
 if b=false then ([],startN n (decide (n.q≠[]))) else if n.q=[] then ([],n) else failN { n with tx:=true } 4 true
def pausN (n:Nd) (b:Bool):List Nat × Nd :=
 if b=true then pauseN n else if n.k<2 then overN n else ([],startN n (decide (n.q≠[]) && !lateP n))
def sspN (n:Nd) (b:Bool):List Nat × Nd:=if b=true then suspN n else ([],startN n false)
def stepN (n:Nd) (b:Bool):List Nat × Fr × Nd :=
 match n.mode with
 | 0=>noFr (joinN n b)
 | 1=>noFr (idleN n b)
 | 2=>inN n b
 | 3=>noFr (domN n b)
 | 4=>noFr (pasN n b)
 | 5=>noFr (domN n b)
 | 6=>noFr (waitN n b)
 | 7=>noFr (closeN n b)
 | 8=>noFr (pausN n b)
 | 9=>noFr (sspN n b)
 | _=>noFr (offN n b)
def evN (n:Nd) (b:Bool):List (Nat × Fr):=evsOf (stepN n b).1 (stepN n b).2.1
def nxN (n:Nd) (b:Bool):Nd:=(stepN n b).2.2
def drN (n:Nd):Bool:=if n.mode=1 then decide (n.q=[]) else if n.mode=3∨n.mode=5 then false else if n.mode=2 then frL n else true
def NIn (m:List Bool):Prop:=dataF m≤m.length→m.length≤sumF m+24
structure SendOk (n:Nd):Prop where
 nq:n.nq=false
 mem:n.own∈n.q
 ok:n.own.Ok
 chk:checkP n.own=0
 row:n.row=allP n.own
 raw:(∃ r,r≠[]∧n.raw++r=sentP n.own)∨(∃ t,n.raw=sentP n.own++t∧t.length≤9)
structure InF (n:Nd):Prop where
 ne:¬ n.raw=[]
 h0:n.raw[0]?=some false
 ri:NIn n.raw
 run:n.run≤5
 r58:n.run=5→(nextF n.raw).1≤5
 tx:n.tx=n.sends
 se:n.sends=true→SendOk n
structure Nd.Inv (n:Nd):Prop where
 ok:n.Ok
 qv:∀ g∈n.q,g.Ok∧checkP g=0
 mode:n.mode≤10
 off:n.ct.off=decide (n.mode=10)
 rows:n.rows≤128
 r10:n.mode=10→n.rows≤127
 inf:n.mode=2→InF n
theorem NIn.ok {m:List Bool} (h:NIn m):RawOk m:=by
 have h1:=sumF_ge m
 have h2:dataF m≤m.length→m.length≤sumF m+24:=h
 refine ⟨?_,fun q=>by have:=h2 q;omega⟩
 rcases Nat.lt_or_ge m.length (dataF m) with q | q
 ·omega
 ·have:=h2 q;omega
theorem NIn.kind {m:List Bool} (h:NIn m):(nextF m).1≤8:=by
 unfold nextF
 have h1:=sumF_ge m
 have h2:dataF m≤m.length→m.length≤sumF m+24:=h
 repeat (split;· simp)
 rename_i q
 have:=h2 (by omega)
 omega
theorem NIn.last {m:List Bool} (h:NIn m) (h8:(nextF m).1=8) (hk:(nextF m).2=6):dataF m≤m.length∧m.length=sumF m+24:=by
 obtain ⟨g1,g2⟩:=nextF_six (m:=m) (by omega)
 unfold nextF at hk h8
 have h2:=h g1
 repeat' split at hk
 all_goals (first | (simp at h8;done) | skip)
 all_goals simp at hk
 all_goals simp_all
 all_goals omega
theorem nIn_one (b:Bool):NIn [b]:=by
 intro h
 have:=(sumF_ge [b]).2.2
 simp at h;omega
theorem nIn_append {m:List Bool} (h:NIn m) (hn:¬ (dataF m≤m.length∧m.length=sumF m+24)) (b:Bool):NIn (m++[b]):=by
 intro q
 rcases Nat.lt_or_ge m.length (dataF m) with h1 | h1
 ·have h2:=sumF_ge (m++[b])
  rw [List.length_append] at q ⊢
  simp only [List.length_singleton] at *
  rcases Nat.lt_or_ge m.length 14 with h3 | h3
  ·have:=(sumF_ge (m++[b])).2.2;omega
  ·have hx:dataF (m++[b])=dataF m:=by unfold dataF;rw [extF_append h3]
   rw [hx] at q h2
   omega
 ·have h2:=h h1
  rw [sumF_append h1]
  simp;omega
theorem kind_next {m:List Bool} (h:(nextF m).1≤4) (b:Bool):(nextF (m++[b])).1≤5:=by
 apply Classical.byContradiction
 intro hk
 have hk:6≤(nextF (m++[b])).1:=by omega
 have h9:=nextF_le (m++[b])
 have key:dataF (m++[b])≤(m++[b]).length∧sumF (m++[b])+16≤(m++[b]).length:=by
  unfold nextF at hk
  repeat' split at hk
  all_goals first | (simp at hk;done) | (constructor<;>omega)
 obtain ⟨k1,k2⟩:=key
 have h2:=sumF_ge (m++[b])
 simp only [List.length_append,List.length_singleton] at k1 k2
 have h14:14≤m.length:=by omega
 have hx:dataF (m++[b])=dataF m:=by unfold dataF;rw [extF_append h14]
 have h1:dataF m≤m.length:=by omega
 rw [sumF_append h1] at k2
 have:=nextF_gt' h1 (by omega)
 omega
theorem allP_sent (f:Fr):allP f=sentP f++List.replicate 10 true:=rfl
theorem send_facts {n:Nd} (h:SendOk n):n.raw.length<n.row.length∧¬ n.row=[]∧(4<(nextF n.raw).1→n.row[n.raw.length]?=some true)∧∀ r,n.raw++r=sentP n.own→∀ x s,r=x::s→n.row[n.raw.length]?=some x:=by
 obtain ⟨-,-,-,hc,hrow,hraw⟩:=h
 have hl:n.row.length=(sentP n.own).length+10:=by rw [hrow,allP_sent];simp
 have h4:∀ r,n.raw++r=sentP n.own→∀ x s,r=x::s→n.row[n.raw.length]?=some x:=by
  intro r hr x s hx
  rw [hrow,allP_sent,← hr,hx];simp
 rcases hraw with ⟨r,hr,e⟩ | ⟨t,e,ht⟩
 ·have h1:n.raw.length<(sentP n.own).length:=by
   rw [← e,List.length_append];have:=List.length_pos_iff.2 hr;omega
  refine ⟨by omega,by intro q;rw [q] at hl;simp at hl,fun hk=>?_,h4⟩
  have:=prefix_kind n.own hc n.raw r hr e
  omega
 ·have h1:n.raw.length=(sentP n.own).length+t.length:=by rw [e,List.length_append]
  refine ⟨by omega,by intro q;rw [q] at hl;simp at hl,fun _=>?_,h4⟩
  rw [hrow,allP_sent,List.getElem?_append_right (by omega),List.getElem?_replicate,if_pos (by omega)]
end Go.AM.R1
open Go Go.AM
namespace Go.AM.R1
theorem ndrive_spec (n:Nd) (F:Fl) (hI:n.Inv):∃ F2,call E (.func (.func 69) [] []) [.ptr 0 0] (ndH n F)=some (.lit (.int .i64 (lv (drN n))),ndH n F2):=by
 have hn:=hI.ok
 by_cases m1:n.mode=1
 ·refine ⟨F,?_⟩
  have hp:=npend_spec n F hn
  rw [show drN n=decide (n.q=[]) by unfold drN;rw [if_pos m1]]
  rw [call_func E E69]
  by_cases hq0:n.q=[]<;>by_cases h1:n.raw=[]<;>by_cases hq:n.nq=true<;>by_cases h3:n.row=[] <;>
  simp [ndH,rV,qI,qV,wI,wV,rE,qE,wE,Nd.cells,nilS,h1,hq,h3,hq0,m1] at hp <;>
  simp [go_sem,ir69,ndH,rV,qI,qV,wI,wV,rE,qE,wE,Nd.cells,nilS,h1,hq,h3,hq0,m1,hp,lvT,lvF,purse_eq,List.range_succ]
 ·have m1':¬ (n.mode:Int)=1:=by omega
  by_cases m35:n.mode=3∨n.mode=5
  ·refine ⟨F,?_⟩
   rw [show drN n=false by unfold drN;rw [if_neg m1,if_pos m35]]
   rw [call_func E E69]
   rcases m35 with m3 | m3
   ·by_cases h1:n.raw=[]<;>by_cases hq:n.nq=true<;>by_cases h3:n.row=[] <;>
    simp [go_sem,ir69,ndH,rV,qI,qV,wI,wV,rE,qE,wE,Nd.cells,nilS,h1,hq,h3,m3,lvT,lvF,purse_eq,List.range_succ]
   ·by_cases h1:n.raw=[]<;>by_cases hq:n.nq=true<;>by_cases h3:n.row=[] <;>
    simp [go_sem,ir69,ndH,rV,qI,qV,wI,wV,rE,qE,wE,Nd.cells,nilS,h1,hq,h3,m3,lvT,lvF,purse_eq,List.range_succ]
  ·have m3':¬ (n.mode:Int)=3:=by omega
   have m5':¬ (n.mode:Int)=5:=by omega
   have m3:¬ n.mode=3:=by omega
   have m5:¬ n.mode=5:=by omega
   by_cases m2:n.mode=2
   ·refine ⟨F.lock,?_⟩
    have hf:=hI.inf m2
    have hfr:=nframe_spec n F hf.ri.ok (fun hs=>(send_facts (hf.se hs)).1)
    rw [show drN n=frL n by unfold drN;rw [if_neg m1,if_neg m35,if_pos m2]]
    rw [call_func E E69]
    generalize frL n=d at hfr ⊢
    cases d<;>by_cases h1:n.raw=[]<;>by_cases hq:n.nq=true<;>by_cases h3:n.row=[] <;>
    simp [ndH,rV,qI,qV,wI,wV,rE,qE,wE,Nd.cells,nilS,Fl.lock,h1,hq,h3,m2,lvT,lvF] at hfr <;>
    simp [go_sem,ir69,ndH,rV,qI,qV,wI,wV,rE,qE,wE,Nd.cells,nilS,Fl.lock,h1,hq,h3,m2,hfr,lvT,lvF,purse_eq,List.range_succ]
   ·have m2':¬ (n.mode:Int)=2:=by omega
    refine ⟨F,?_⟩
    rw [show drN n=true by unfold drN;rw [if_neg m1,if_neg m35,if_neg m2]]
    rw [call_func E E69]
    by_cases h1:n.raw=[]<;>by_cases hq:n.nq=true<;>by_cases h3:n.row=[] <;>
    simp [go_sem,ir69,ndH,rV,qI,qV,wI,wV,rE,qE,wE,Nd.cells,nilS,h1,hq,h3,m1,m2,m3,m5,m1',m2',m3',m5',lvT,lvF,purse_eq,List.range_succ]
end Go.AM.R1
open Go Go.AM
namespace Go.AM.R1
def rAt (n:Nd) (rx:Nat):AVal:=if n.raw=[] then nilS else .own rx n.raw.length 1 0 n.raw.length
def lAt (n:Nd) (lx:Nat):AVal:=if n.nq=true then nilS else .own lx n.q.length 12 0 n.q.length
def wAt (n:Nd) (wx:Nat):AVal:=if n.row=[] then nilS else .own wx n.row.length 1 0 n.row.length
def footL (n:Nd) (a rx qx lx wx:Nat):List Nat:=a::((if n.raw=[] then [] else [rx])++qx::((if n.nq=true then [] else [lx])++(if n.row=[] then [] else [wx])))
structure NodeAtF (H:Heap) (a:Nat) (n:Nd) (F:Fl) (rx qx lx wx:Nat):Prop where
 box:H[a]?=some (.box (n.cells (rAt n rx) (.ptr qx 0) (wAt n wx)))
 raw:¬ n.raw=[]→H[rx]?=some (.arr true F.lr F.fr 1 (n.raw.map encLv))
 qu:H[qx]?=some (.box [lAt n lx,.lit (.int .i64 16)])
 q:n.nq=false→H[lx]?=some (.arr true false F.fq 12 (n.q.map encFr))
 row:¬ n.row=[]→H[wx]?=some (.arr true F.lw F.fw 1 (n.row.map encLv))
 nd:(footL n a rx qx lx wx).Nodup
def NodeAt (H:Heap) (a:Nat) (n:Nd) (fs:List Nat):Prop:=∃ F rx qx lx wx,NodeAtF H a n F rx qx lx wx∧fs=footL n a rx qx lx wx
theorem nodeAt_nodup {H:Heap} {a:Nat} {n:Nd} {fs:List Nat} (h:NodeAt H a n fs):fs.Nodup:=by
 obtain ⟨F,rx,qx,lx,wx,h,rfl⟩:=h
 exact h.nd
theorem nodeAt_len {H:Heap} {a:Nat} {n:Nd} {fs:List Nat} (h:NodeAt H a n fs):fs.length≤5:=by
 obtain ⟨F,rx,qx,lx,wx,h,rfl⟩:=h
 unfold footL
 split<;>split<;>split<;>simp
theorem lt_of_get {H:Heap} {i:Nat} {e:Entry} (h:H[i]?=some e):i<H.length:=(List.getElem?_eq_some_iff.1 h).1
theorem nodeAt_lt {H:Heap} {a:Nat} {n:Nd} {fs:List Nat} (h:NodeAt H a n fs):∀ i∈fs,i<H.length:=by
 obtain ⟨F,rx,qx,lx,wx,h,rfl⟩:=h
 intro i hi
 simp only [footL,List.mem_cons,List.mem_append] at hi
 rcases hi with rfl | hi | rfl | hi | hi
 ·exact lt_of_get h.box
 ·by_cases h1:n.raw=[]
  ·simp [h1] at hi
  ·simp [h1] at hi
   subst hi
   exact lt_of_get (h.raw h1)
 ·exact lt_of_get h.qu
 ·cases h1:n.nq
  ·simp [h1] at hi
   subst hi
   exact lt_of_get (h.q h1)
  ·simp [h1] at hi
 ·by_cases h1:n.row=[]
  ·simp [h1] at hi
  ·simp [h1] at hi
   subst hi
   exact lt_of_get (h.row h1)
theorem nodeAt_head {H:Heap} {a:Nat} {n:Nd} {fs:List Nat} (h:NodeAt H a n fs):a∈fs:=by
 obtain ⟨F,rx,qx,lx,wx,h,rfl⟩:=h
 exact List.mem_cons_self
theorem nodeAt_same {H H2:Heap} {a:Nat} {n:Nd} {fs:List Nat} (h:NodeAt H a n fs) (hs:∀ i∈fs,H2[i]?=H[i]?):NodeAt H2 a n fs:=by
 obtain ⟨F,rx,qx,lx,wx,h,rfl⟩:=h
 refine ⟨F,rx,qx,lx,wx,⟨?_,?_,?_,?_,?_,h.nd⟩,rfl⟩
 ·rw [hs a (by simp [footL])];exact h.box
 ·intro h1;rw [hs rx (by simp [footL,h1])];exact h.raw h1
 ·rw [hs qx (by simp [footL])];exact h.qu
 ·intro h1;rw [hs lx (by simp [footL,h1])];exact h.q h1
 ·intro h1;rw [hs wx (by simp [footL,h1])];exact h.row h1
theorem refs_rAt (n:Nd) (rx:Nat):refsV (rAt n rx)=if n.raw=[] then [] else [rx]:=by unfold rAt;split<;>rfl
theorem refs_wAt (n:Nd) (wx:Nat):refsV (wAt n wx)=if n.row=[] then [] else [wx]:=by unfold wAt;split<;>rfl
theorem refs_lAt (n:Nd) (lx:Nat):refsV (lAt n lx)=if n.nq=true then [] else [lx]:=by unfold lAt;split<;>rfl
theorem reach_step {H:Heap} {k i:Nat} {w acc:List Nat} {e:Entry} (hi:i ∉ acc) (he:H[i]?=some e):reach H (k+1) (i::w) acc=reach H k (refsE e++w) (acc++[i]):=by
 rw [reach_cons,if_neg hi,he,reachK_some]
theorem reach_opt {H:Heap} (c:Prop) [Decidable c] {x:Nat} (he:¬ c→∃ b d z l,H[x]?=some (.arr true b d z l)) (k:Nat) (w acc:List Nat) (hd:¬ c→x ∉ acc) :
  reach H (k+(if c then ([]:List Nat) else [x]).length) ((if c then [] else [x])++w) acc=reach H k w (acc++if c then [] else [x]):=by
 by_cases h:c
 ·simp [h]
 ·obtain ⟨b,d,z,l,he⟩:=he h
  simp only [h,if_false,List.length_cons,List.length_nil,Nat.zero_add,List.cons_append,List.nil_append]
  rw [reach_step (hd h) he]
  simp [refsE]
theorem reach_node {H:Heap} {a:Nat} {n:Nd} {fs:List Nat} (h:NodeAt H a n fs) (k:Nat) (w acc:List Nat) (hd:∀ i∈fs,i ∉ acc):reach H (k+fs.length) (a::w) acc=reach H k w (acc++fs):=by
 obtain ⟨F,rx,qx,lx,wx,h,rfl⟩:=h
 have hnd:=h.nd
 have rb:refsE (.box (n.cells (rAt n rx) (.ptr qx 0) (wAt n wx)))=refsV (rAt n rx)++[qx]++refsV (wAt n wx):=by
  simp [refsE,Nd.cells,refsL,refsV]
 have rq:refsE (.box [lAt n lx,.lit (.int .i64 16)])=refsV (lAt n lx):=by simp [refsE,refsL,refsV]
 rw [refs_rAt,refs_wAt] at rb
 rw [refs_lAt] at rq
 have hr:=reach_opt (H:=H) (n.raw=[]) (x:=rx) (fun q=>⟨_,_,_,_,h.raw q⟩)
 have hl:=reach_opt (H:=H) (n.nq=true) (x:=lx) (fun q=>⟨_,_,_,_,h.q (by simpa using q)⟩)
 have hw:=reach_opt (H:=H) (n.row=[]) (x:=wx) (fun q=>⟨_,_,_,_,h.row q⟩)
 have mr:¬ n.raw=[]→rx∈(if n.raw=[] then [] else [rx]):=fun q=>by simp [q]
 have ml:¬ n.nq=true→lx∈(if n.nq=true then [] else [lx]):=fun q=>by rw [if_neg q];simp
 have mw:¬ n.row=[]→wx∈(if n.row=[] then [] else [wx]):=fun q=>by simp [q]
 unfold footL at hnd hd ⊢
 generalize (if n.raw=[] then ([]:List Nat) else [rx])=R at *
 generalize (if n.nq=true then ([]:List Nat) else [lx])=L at *
 generalize (if n.row=[] then ([]:List Nat) else [wx])=W at *
 simp only [List.nodup_cons,List.nodup_append,List.mem_append,List.mem_cons,not_or] at hnd
 obtain ⟨⟨a1,a2,a3,a4⟩,b1,⟨⟨c1,c2⟩,c3,c4,c5⟩,b2⟩:=hnd
 have e:k+(a::(R++qx::(L++W))).length=(k+W.length+L.length+1+R.length)+1:=by simp;omega
 rw [e,reach_step (hd a (by simp)) h.box,rb,List.append_assoc,List.append_assoc,hr _ _ _ (fun q=>?_),List.singleton_append,reach_step ?_ h.qu,rq,hl _ _ _ (fun q=>?_),hw _ _ _ (fun q=>?_)]
 ·simp
 ·have:=hd wx (by simp [mw q])
  have m:=mw q
  simp only [List.mem_append,List.mem_singleton,not_or]
  exact ⟨⟨⟨⟨this,fun e=>a4 (e ▸ m)⟩,fun e=>b2 _ e _ (by simp [m]) rfl⟩,fun e=>c2 (e ▸ m)⟩,fun e=>c5 _ e _ m rfl⟩
 ·have:=hd lx (by simp [ml q])
  have m:=ml q
  simp only [List.mem_append,List.mem_singleton,not_or]
  exact ⟨⟨⟨this,fun e=>a3 (e ▸ m)⟩,fun e=>b2 _ e _ (by simp [m]) rfl⟩,fun e=>c1 (e ▸ m)⟩
 ·have:=hd qx (by simp)
  simp only [List.mem_append,List.mem_singleton,not_or]
  exact ⟨⟨this,fun e=>a2 e.symm⟩,fun e=>b2 _ e _ (by simp) rfl⟩
 ·have:=hd rx (by simp [mr q])
  have m:=mr q
  simp only [List.mem_append,List.mem_singleton,not_or]
  exact ⟨this,fun e=>a1 (e ▸ m)⟩
end Go.AM.R1
open Go Go.AM
namespace Go.AM.R1
theorem bifNe {a b x y:Nat} (h:¬ a=b):(bif a == b then x else y)=y:=by
 have q:(a == b)=false:=by simpa using h
 rw [q];rfl
theorem canon_of {H:Heap} {a:Nat} {n:Nd} {fs:List Nat} (h:NodeAt H a n fs):fs.idxOf a=0∧∃ F,(fs.map fun i=>renE (fun i=>fs.idxOf i) (H.getD i .dead))=ndH n F:=by
 obtain ⟨F,rx,qx,lx,wx,h,rfl⟩:=h
 refine ⟨by simp [footL,List.idxOf_cons],F,?_⟩
 have hnd:=h.nd
 have hb:=h.box
 have hqu:=h.qu
 have hr:=h.raw
 have hl:=h.q
 have hw:=h.row
 clear h
 by_cases h1:n.raw=[]<;>by_cases h2:n.nq=true<;>by_cases h3:n.row=[] <;>
 simp [footL,rAt,lAt,wAt,h1,h2,h3] at hnd hb hqu hr hl hw <;>
 simp [footL,h1,h2,h3,List.getD_eq_getElem?_getD,hb,hqu,hr,hl,hw,renE,renL,renV,nilS,renLL,ndH,rV,qI,qV,wI,wV,rE,qE,wE,Nd.cells,nilS,List.idxOf_cons,hnd,bifNe]
theorem ndH_len (n:Nd) (F:Fl):(ndH n F).length=mI n:=by
 by_cases h1:n.raw=[]<;>by_cases h2:n.nq=true<;>by_cases h3:n.row=[] <;>
 simp [ndH,rV,qI,qV,wI,wV,rE,qE,wE,Nd.cells,nilS,mI,h1,h2,h3]
theorem nodeAt_fl {H:Heap} {a:Nat} {n:Nd} {fs:List Nat} (h:NodeAt H a n fs):fs.length=mI n:=by
 obtain ⟨F,rx,qx,lx,wx,h,rfl⟩:=h
 by_cases h1:n.raw=[]<;>by_cases h2:n.nq=true<;>by_cases h3:n.row=[] <;>
 simp [footL,mI,wI,qI,h1,h2,h3]
theorem call_at (c:Callee) {H:Heap} {a:Nat} {n:Nd} {fs:List Nat} (h:NodeAt H a n fs) (f:AVal) (xs:List AVal) (hf:flatV f=true) (hx:flatL xs=true) :
  ∃ F,callK1 c H (some (f,[])) (some (.ptr a 0::xs,[]))=refK H fs (c f (.ptr 0 0::xs) (ndH n F)):=by
 obtain ⟨e0,F,hF⟩:=canon_of h
 refine ⟨F,?_⟩
 have hl:=nodeAt_len h
 have hreach:reach H purse (refsV f++refsL (.ptr a 0::xs)) []=some fs:=by
  rw [refsV_flat f hf,List.nil_append,refsL,refsL_flat xs hx,show refsV (.ptr a 0)++[]=[a] from rfl,show purse=(400 - fs.length)+fs.length by rw [purse_eq];omega,reach_node h _ [] [] (by simp)]
  rw [reach_nil];rfl
 rw [callK1_ref]
 simp only [List.nil_append,locks]
 rw [hreach,rchK_some,hF,renV_flat _ f hf]
 rw [renL,renL_flat _ xs hx]
 simp only [renV,e0]
theorem glob_old {fs:List Nat} {N j:Nat} (hj:j<fs.length):toGlob fs N j=fs[j]:=by
 unfold toGlob
 rw [if_pos hj,List.getD_eq_getElem?_getD,List.getElem?_eq_getElem hj];rfl
theorem glob_new {fs:List Nat} {N j:Nat} (hj:fs.length≤j):toGlob fs N j=N+(j - fs.length):=by
 unfold toGlob
 rw [if_neg (by omega)]
def backH (H:Heap) (fs:List Nat) (Hn:Heap):Heap:=setAll H fs ((Hn.take fs.length).map (renE (toGlob fs H.length)))++(Hn.drop fs.length).map (renE (toGlob fs H.length))
theorem back_len {H:Heap} {fs:List Nat} {Hn:Heap}:(backH H fs Hn).length=H.length+(Hn.length - fs.length):=by
 unfold backH
 rw [List.length_append,setAll_length];simp
theorem back_other {H:Heap} {fs:List Nat} {Hn:Heap} (hnd:fs.Nodup) (hlt:∀ i∈fs,i<H.length) (hk:fs.length≤Hn.length) {i:Nat} (hi:i<H.length) (hf:i ∉ fs):(backH H fs Hn)[i]?=H[i]?:=by
 unfold backH
 rw [List.getElem?_append_left (by rw [setAll_length];exact hi),setAll_get fs _ H hnd (by simp;omega) hlt,if_neg hf]
theorem back_get {H:Heap} {fs:List Nat} {Hn:Heap} (hnd:fs.Nodup) (hlt:∀ i∈fs,i<H.length) (hk:fs.length≤Hn.length) {j:Nat} {e:Entry} (hj:Hn[j]?=some e):(backH H fs Hn)[toGlob fs H.length j]?=some (renE (toGlob fs H.length) e):=by
 have hjl:=lt_of_get hj
 rcases Nat.lt_or_ge j fs.length with hlt2 | hge
 ·have hm:fs[j]∈fs:=List.getElem_mem hlt2
  have hg:=glob_old (N:=H.length) hlt2
  unfold backH
  rw [hg,List.getElem?_append_left (by rw [setAll_length];exact hlt _ hm),setAll_get fs _ H hnd (by simp;omega) hlt,if_pos hm]
  rw [idxOf_get hnd (List.getElem?_eq_getElem hlt2),List.getElem?_map,List.getElem?_take,if_pos hlt2,hj];rfl
 ·have hg:=glob_new (N:=H.length) hge
  unfold backH
  rw [hg,List.getElem?_append_right (by rw [setAll_length];omega),setAll_length,List.getElem?_map,List.getElem?_drop]
  rw [show fs.length+(H.length+(j - fs.length) - H.length)=j by omega,hj];rfl
theorem glob_inj {H:Heap} {fs:List Nat} (hnd:fs.Nodup) (hlt:∀ i∈fs,i<H.length) {i j:Nat} (h:toGlob fs H.length i=toGlob fs H.length j):i=j:=by
 rcases Nat.lt_or_ge i fs.length with h1 | h1<;>rcases Nat.lt_or_ge j fs.length with h2 | h2
 ·rw [glob_old h1,glob_old h2] at h
  have q:=idxOf_get hnd (List.getElem?_eq_getElem h1)
  rw [h] at q
  exact q.symm.trans (idxOf_get hnd (List.getElem?_eq_getElem h2))
 ·rw [glob_old h1,glob_new h2] at h
  have:=hlt _ (List.getElem_mem h1);omega
 ·rw [glob_new h1,glob_old h2] at h
  have:=hlt _ (List.getElem_mem h2);omega
 ·rw [glob_new h1,glob_new h2] at h;omega
end Go.AM.R1
open Go Go.AM
namespace Go.AM.R1
def nd0:Nd:=⟨[],false,0,0,0,0,false,false,false,false,Ct.zero,Fr.zero,[],true,[]⟩
theorem nnew_spec:call E (.func (.func 49) [] []) [] []=some (.ptr 0 0,ndH nd0 ⟨false,false,false,false,false⟩):=by
 have h:=qnew_spec
 simp [quH,nilS] at h
 rw [call_func E E49]
 simp [go_sem,ir49,ndH,rV,qI,qV,wI,wV,rE,qE,wE,Nd.cells,nilS,nd0,Ct.zero,Fr.zero,lvF,h,purse_eq,List.range_succ]
def nputN (n:Nd) (f:Fr):Int × Nd:=if checkP f≠0 then (checkP f,n) else if 16≤n.q.length then (15,n) else (0,{ n with q:=insP f n.q,nq:=false })
theorem insP_len (f:Fr) (l:List Fr):(insP f l).length=l.length+1:=by
 have:=ixL_le f l
 simp [insP];omega
end Go.AM.R1
open Go Go.AM
namespace Go.AM.R1
theorem state_two (c:Ct):c.state=2↔c.off=true:=by
 unfold Ct.state
 by_cases h:c.off=true
 ·simp [h]
 ·rw [if_neg h];split<;>simp [h]
theorem chCt_ok {n:Nd} (h:n.ct.Ok) (w:Nat):(chCt n w).Ok:=by
 unfold chCt;split
 ·exact Ct.txE_ok h
 ·exact Ct.rxE_ok h w
structure Part (n:Nd):Prop where
 ok:n.Ok
 qv:∀ g∈n.q,g.Ok∧checkP g=0
 rows:n.rows≤128
theorem Nd.Inv.part {n:Nd} (h:n.Inv):Part n:=⟨h.ok,h.qv,h.rows⟩
theorem Part.inv {n:Nd} (h:Part n) (hm:n.mode≤10) (h2:¬ n.mode=2) (ho:n.ct.off=decide (n.mode=10)) (h10:n.mode=10→n.rows≤127:=by simp):n.Inv:=⟨h.ok,h.qv,hm,ho,h.rows,h10,fun e=>absurd e h2⟩
theorem part_of {n m:Nd} (h:Part n) (hk:Keep n m) (hc:m.ct.Ok) (hr:m.rows≤128):Part m:=⟨⟨by rw [hk.nq,hk.q];exact h.ok.nq,by rw [hk.q];exact h.ok.ql,hc⟩,by rw [hk.q];exact h.qv,hr⟩
theorem ch_cases (n:Nd) (w:Nat):(chN n w=(false,{ n with ct:=chCt n w,mode:=10,k:=0,rows:=0 })∧(chCt n w).off=true)∨(chN n w=(true,{ n with ct:=chCt n w })∧(chCt n w).off=false):=by
 unfold chN
 by_cases h:(chCt n w).state=2
 ·rw [if_pos h];exact .inl ⟨rfl,(state_two _).1 h⟩
 ·rw [if_neg h]
  refine .inr ⟨rfl,?_⟩
  cases h2:(chCt n w).off
  ·rfl
  ·exact absurd ((state_two _).2 h2) h
theorem flag_inv {m:Nd} (h:Part m) (ho:m.ct.off=false) (st:Int):(flagN m st).Inv:=by
 refine Part.inv ⟨⟨h.ok.nq,h.ok.ql,h.ok.ct⟩,h.qv,h.rows⟩ ?_ ?_ ?_ ?_
 ·unfold flagN;simp only [];split<;>omega
 ·unfold flagN;simp only [];split<;>omega
 ·show m.ct.off=_
  rw [ho];unfold flagN;simp only [];split<;>rfl
 ·unfold flagN;simp only [];split<;>(intro e;omega)
theorem fail_inv {n:Nd} (h:Part n) (ho:n.ct.off=false) (kind:Nat) (c:Bool):(failN n kind c).2.Inv:=by
 unfold failN
 split
 ·rcases ch_cases n 1 with ⟨e,h1⟩ | ⟨e,h1⟩
  ·rw [e]
   exact Part.inv ⟨⟨h.ok.nq,h.ok.ql,chCt_ok h.ok.ct 1⟩,h.qv,by simp⟩ (by simp) (by simp) (by simp [h1])
  ·rw [e]
   exact flag_inv (m:={ n with ct:=chCt n 1 }) ⟨⟨h.ok.nq,h.ok.ql,chCt_ok h.ok.ct 1⟩,h.qv,h.rows⟩ h1 _
 ·exact flag_inv h ho _
theorem over_inv {n:Nd} (h:Part n) (ho:n.ct.off=false):(overN n).2.Inv:=Part.inv ⟨⟨h.ok.nq,h.ok.ql,h.ok.ct⟩,h.qv,h.rows⟩ (by simp [overN]) (by simp [overN]) (by simp [overN,ho]) (by simp [overN])
theorem part_mode {n:Nd} (h:Part n) (ho:n.ct.off=false) {m:Nd} (e1:Keep n m) (e2:m.ct=n.ct) (e3:m.rows=n.rows) (hm:m.mode≤9) (h2:¬ m.mode=2):m.Inv :=
 Part.inv (part_of h e1 (by rw [e2];exact h.ok.ct) (by rw [e3];exact h.rows)) (by omega) h2 (by rw [e2,ho];simp;omega) (fun e=>by omega)
theorem start_inv {n:Nd} (h:Part n) (ho:n.ct.off=false) (s:Bool) (hs:s=true→n.q≠[]):(startN n s).Inv:=by
 refine ⟨⟨h.ok.nq,h.ok.ql,h.ok.ct⟩,h.qv,by simp [startN],by simp [startN,ho],h.rows,by simp [startN],fun _=>⟨by simp [startN],rfl,nIn_one false,by simp [startN],by simp [startN],rfl,fun hs2=>?_⟩⟩
 have hs2:s=true:=hs2
 subst hs2
 cases hq:n.q with
 | nil=>exact absurd hq (hs rfl)
 | cons g r =>
  have hv:=h.qv g (by rw [hq];simp)
  have hown:(startN n true).own=g:=by unfold startN;rw [hq];rfl
  refine ⟨?_,?_,?_,?_,?_,?_⟩
  ·show n.nq=false
   cases hn:n.nq
   ·rfl
   ·have:=h.ok.nq hn;rw [hq] at this;cases this
  ·rw [hown];show g∈n.q;rw [hq];simp
  ·rw [hown];exact hv.1
  ·rw [hown];exact hv.2
  ·rw [hown];show (if true=true then allP (n.q.head?.getD Fr.zero) else n.row)=allP g
   rw [if_pos rfl,hq]<;>rfl
  ·rw [hown]
   have e:sentP g=false::(sentP g).tail:=by unfold sentP bitsP;rfl
   refine .inl ⟨(sentP g).tail,?_,by rw [show (startN n true).raw=[false] from rfl,List.singleton_append];exact e.symm⟩
   intro q
   have hl:=(sentP_sum g hv.2 []).2.2
   have hb:=(bitsP_length g).2
   rw [e,q] at hl
   simp only [List.length_cons,List.length_nil] at hl;omega
theorem take_inf {n:Nd} (h:InF n) (hk:nextF n.raw≠(8,6)) (b:Bool) (hb:n.sends=true→b=frL n∨(nextF n.raw).1=6):InF (takeN n b).2:=by
 obtain ⟨h1,h0,hri,hl5,h58,htx,hse⟩:=h
 have hkind:=hri.kind
 have hnl:¬ (dataF n.raw≤n.raw.length∧n.raw.length=sumF n.raw+24):=by
  rintro ⟨q1,q2⟩
  apply hk
  have h3:=sumF_ge n.raw
  unfold nextF
  rw [if_neg (by omega),if_neg (by
   rintro (q | ⟨q3,q4⟩)
   ·omega
   ·have:dataF n.raw=39:=by unfold dataF;rw [if_pos q3]
    omega),if_neg (by omega),if_neg (by omega),if_neg (by omega),if_neg (by omega),if_neg (by omega),if_neg (by omega),if_pos (by omega)]
  congr 1;omega
 have happ:=nIn_append hri hnl b
 have h0':(n.raw++[b])[0]?=some false:=by rw [List.getElem?_append_left (List.length_pos_iff.2 h1)];exact h0
 have hsend:n.run≠5→n.sends=true→SendOk { n with raw:=n.raw++[b] }:=by
  intro h5 hs
  obtain ⟨s1,s2,s3,s4,s5,s6⟩:=hse hs
  obtain ⟨-,-,f1,f2⟩:=send_facts (hse hs)
  refine ⟨s1,s2,s3,s4,s5,?_⟩
  rcases s6 with ⟨r,hr,e⟩ | ⟨t,e,ht⟩
  ·have hk4:=prefix_kind n.own s4 n.raw r hr e
   cases r with
   | nil=>exact absurd rfl hr
   | cons x s =>
    have hx:=f2 _ e x s rfl
    have hbx:b=x:=by
     rcases hb hs with q | q
     ·rw [q];unfold frL;rw [if_pos hs,if_neg h5,hx];rfl
     ·omega
    subst hbx
    by_cases hs0:s=[]
    ·subst hs0
     exact .inr ⟨[],by simpa using e,by simp⟩
    ·exact .inl ⟨s,hs0,by simpa using e⟩
  ·refine .inr ⟨t++[b],by simp [e],?_⟩
   have ht9:t.length≠9:=by
    intro q
    apply hk
    rw [e,nextF_sent n.own s4 t (by omega)]
    simp [q]
   simp;omega
 by_cases h5:n.run=5
 ·by_cases hlb:b=n.lvl
  ·rw [show (takeN n b).2=n by unfold takeN;rw [if_pos h5,if_pos hlb]]
   exact ⟨h1,h0,hri,hl5,h58,htx,hse⟩
  ·rw [show (takeN n b).2={ n with lvl:=b,run:=1 } by unfold takeN;rw [if_pos h5,if_neg hlb]]
   exact ⟨h1,h0,hri,by simp,by simp,htx,fun hs=>let q:=hse hs;⟨q.nq,q.mem,q.ok,q.chk,q.row,q.raw⟩⟩
 ·by_cases hk4:4<(nextF n.raw).1
  ·rw [show (takeN n b).2={ n with run:=0,raw:=n.raw++[b] } by unfold takeN;rw [if_neg h5,if_pos hk4]]
   exact ⟨by simp,h0',happ,by simp,by simp,htx,fun hs=>let q:=hsend h5 hs;⟨q.nq,q.mem,q.ok,q.chk,q.row,q.raw⟩⟩
  ·have kn:=kind_next (m:=n.raw) (by omega) b
   by_cases hr:0<n.run∧b=n.lvl
   ·rw [show (takeN n b).2={ n with run:=n.run+1,raw:=n.raw++[b] } by unfold takeN;rw [if_neg h5,if_neg hk4,if_pos hr]]
    exact ⟨by simp,h0',happ,by simp only [];omega,fun _=>kn,htx,fun hs=>let q:=hsend h5 hs;⟨q.nq,q.mem,q.ok,q.chk,q.row,q.raw⟩⟩
   ·rw [show (takeN n b).2={ n with lvl:=b,run:=1,raw:=n.raw++[b] } by unfold takeN;rw [if_neg h5,if_neg hk4,if_neg hr]]
    exact ⟨by simp,h0',happ,by simp,fun _=>kn,htx,fun hs=>let q:=hsend h5 hs;⟨q.nq,q.mem,q.ok,q.chk,q.row,q.raw⟩⟩
theorem take_same (n:Nd) (b:Bool):(takeN n b).2.q=n.q∧(takeN n b).2.nq=n.nq∧(takeN n b).2.ct=n.ct∧(takeN n b).2.rows=n.rows∧(takeN n b).2.mode=n.mode∧(takeN n b).2.k=n.k∧(takeN n b).2.tx=n.tx∧(takeN n b).2.sends=n.sends∧(takeN n b).2.own=n.own∧(takeN n b).2.row=n.row:=by
 unfold takeN
 split
 ·split<;>exact ⟨rfl,rfl,rfl,rfl,rfl,rfl,rfl,rfl,rfl,rfl⟩
 ·split
  ·exact ⟨rfl,rfl,rfl,rfl,rfl,rfl,rfl,rfl,rfl,rfl⟩
  ·split<;>exact ⟨rfl,rfl,rfl,rfl,rfl,rfl,rfl,rfl,rfl,rfl⟩
theorem take_inv {n:Nd} (h:n.Inv) (h2:n.mode=2) (hk:nextF n.raw≠(8,6)) (b:Bool) (hb:n.sends=true→b=frL n∨(nextF n.raw).1=6):(takeN n b).2.Inv:=by
 have t:=take_same n b
 have hi:=take_inf (h.inf h2) hk b hb
 exact ⟨⟨by rw [t.2.1,t.1];exact h.ok.nq,by rw [t.1];exact h.ok.ql,by rw [t.2.2.1];exact h.ok.ct⟩,by rw [t.1];exact h.qv,by rw [t.2.2.2.2.1];exact h.mode,by rw [t.2.2.1,t.2.2.2.2.1];exact h.off,by rw [t.2.2.2.1];exact h.rows,by rw [t.2.2.2.1,t.2.2.2.2.1];exact h.r10,fun _=>hi⟩
theorem join_keep0 (n:Nd) (b:Bool):Keep n (joinN n b).2∧(joinN n b).2.ct=n.ct∧(joinN n b).2.rows=n.rows:=by
 unfold joinN;simp only [];split
 ·exact ⟨⟨rfl,rfl,rfl,rfl⟩,rfl,rfl⟩
 ·split<;>exact ⟨⟨rfl,rfl,rfl,rfl⟩,rfl,rfl⟩
theorem join_inv {n:Nd} (h:n.Inv) (hm:n.mode=0) (b:Bool):(joinN n b).2.Inv:=by
 have ho:n.ct.off=false:=by rw [h.off];simp;omega
 refine part_mode h.part ho (join_keep0 n b).1 (join_keep0 n b).2.1 (join_keep0 n b).2.2 ?_ ?_<;>(unfold joinN;simp only [];split<;>first | (simp only [];omega) | (split<;>simp only []<;>omega))
theorem mem_delL {f g:Fr} {l:List Fr} (h:g∈delL f l):g∈l:=by
 unfold delL at h
 rcases List.mem_append.1 h with h | h
 ·exact List.mem_of_mem_take h
 ·exact List.mem_of_mem_drop h
theorem in_inv {n : Nd} (h:n.Inv) (h2:n.mode=2) (b:Bool):(inN n b).2.2.Inv:=by
  have hp:=h.part
  have ho:n.ct.off=false:=by rw [h.off];simp;omega
  have hf:=h.inf h2
  have t:=take_same n true
  unfold inN
  split
  · rename_i hs
    split
    · rename_i hd
      split
      · have hi:=fail_inv hp ho 8 (!decide (n.ct.state=1))
        exact ⟨⟨hi.ok.nq,hi.ok.ql,hi.ok.ct⟩,hi.qv,hi.mode,hi.off,hi.rows,hi.r10,fun e=>by
          have hf2:=hi.inf e
          exact ⟨hf2.ne,hf2.h0,hf2.ri,hf2.run,hf2.r58,hf2.tx,fun q=>⟨(hf2.se q).nq,(hf2.se q).mem,(hf2.se q).ok,(hf2.se q).chk,(hf2.se q).row,(hf2.se q).raw⟩⟩⟩
      · rename_i hq1
        split
        · have hS:=hf.se hs
          have hlen:=delL_len n.own n.q hS.mem
          refine Part.inv ⟨⟨fun e=>?_,?_,?_⟩,?_,?_⟩ (by simp [sentN]) (by simp [sentN]) ?_ (by simp [sentN])
          · have:(takeN n true).2.nq=true:=e
            rw [t.2.1,hS.nq] at this;cases this
          · show (delL (takeN n true).2.own (takeN n true).2.q).length≤16
            rw [t.2.2.2.2.2.2.2.2.1,t.1,hlen];have:=h.ok.ql;omega
          · show ((takeN n true).2.ct.sent).Ok
            rw [t.2.2.1];exact Ct.sent_ok h.ok.ct
          · intro g hg
            have hg:g∈delL (takeN n true).2.own (takeN n true).2.q:=hg
            rw [t.2.2.2.2.2.2.2.2.1,t.1] at hg
            exact h.qv g (mem_delL hg)
          · show (takeN n true).2.rows≤128
            rw [t.2.2.2.1];exact h.rows
          · show ((takeN n true).2.ct.sent).off=_
            rw [t.2.2.1]
            unfold Ct.sent;rw [ho];simp [sentN]
        · rename_i hq2
          refine take_inv h h2 (fun e=>hq2 ⟨fun e5=>?_,e⟩) b (fun _=>.inl hd)
          have:=hf.r58 e5
          rw [e] at this;simp at this
    · split
      · exact fail_inv hp ho 4 true
      · split
        · rename_i hk1
          split
          · exact fail_inv hp ho 5 false
          · have hM:({ n with tx:=false,sends:=false }:Nd).Inv:=⟨⟨h.ok.nq,h.ok.ql,h.ok.ct⟩,h.qv,h.mode,h.off,h.rows,h.r10,fun _=>⟨hf.ne,hf.h0,hf.ri,hf.run,hf.r58,rfl,fun e=>by cases e⟩⟩
            exact take_inv hM h2 (fun e=>by rw [show ({ n with tx:=false,sends:=false }:Nd).raw=n.raw from rfl] at e;rw [e] at hk1;simp at hk1) false (fun e=>by cases e)
        · split
          · rename_i hk6
            exact take_inv h h2 (fun e=>by rw [e] at hk6;simp at hk6) false (fun _=>.inr hk6)
          · exact fail_inv hp ho 4 true
  · rename_i hs
    have hs:n.sends=false:=by simpa using hs
    have tk:=fun (b:Bool) (hk:nextF n.raw≠(8,6))=>take_inv h h2 hk b (fun e=>by rw [hs] at e;cases e)
    split
    · rename_i hd
      split
      · exact fail_inv hp ho 4 true
      · refine tk false (fun e=>?_)
        unfold frL at hd
        rw [if_neg (by rw [hs];simp),e] at hd
        simp at hd
    · split
      · rename_i h5
        split
        · exact fail_inv hp ho 5 true
        · exact tk b (fun e=>by have:=hf.r58 h5;rw [e] at this;simp at this)
      · split
        · rename_i hkk
          exact tk b (fun e=>by rw [e] at hkk;simp at hkk)
        · split
          · split
            · exact over_inv hp ho
            · exact fail_inv hp ho 7 true
          · split
            · exact fail_inv hp ho 6 true
            · split
              · rename_i h85
                have hi:=tk true (fun e=>by rw [e] at h85;cases h85)
                have hf2:=hi.inf (by rw [t.2.2.2.2.1];exact h2)
                refine ⟨⟨hi.ok.nq,hi.ok.ql,Ct.recv_ok h.ok.ct⟩,hi.qv,hi.mode,?_,hi.rows,hi.r10,fun _=>⟨hf2.ne,hf2.h0,hf2.ri,hf2.run,hf2.r58,hf2.tx,fun q=>⟨(hf2.se q).nq,(hf2.se q).mem,(hf2.se q).ok,(hf2.se q).chk,(hf2.se q).row,(hf2.se q).raw⟩⟩⟩
                show n.ct.recv.off=decide ((takeN n true).2.mode=10)
                rw [t.2.2.2.2.1,h2]
                unfold Ct.recv;rw [ho];simp
              · split
                · refine Part.inv ⟨⟨?_,?_,?_⟩,?_,?_⟩ (by simp) (by simp) ?_
                  · show (takeN n true).2.nq=true→(takeN n true).2.q=[]
                    rw [t.2.1,t.1];exact h.ok.nq
                  · show (takeN n true).2.q.length≤16
                    rw [t.1];exact h.ok.ql
                  · show (takeN n true).2.ct.Ok
                    rw [t.2.2.1];exact h.ok.ct
                  · show ∀ g∈(takeN n true).2.q,_
                    rw [t.1];exact h.qv
                  · show (takeN n true).2.rows≤128
                    rw [t.2.2.2.1];exact h.rows
                  · show (takeN n true).2.ct.off=_
                    rw [t.2.2.1,ho];simp
                · rename_i h86
                  exact tk true h86
theorem dom_inv {n:Nd} (h:n.Inv) (hm:n.mode=3∨n.mode=5) (b:Bool):(domN n b).2.Inv:=by
 have hp:=h.part
 have ho:n.ct.off=false:=by rw [h.off];simp;omega
 unfold domN
 split
 ·simp only []
  split
  ·exact part_mode hp ho (m:={ n with mode:=6,k:=0 }) ⟨rfl,rfl,rfl,rfl⟩ rfl rfl (by simp) (by simp)
  ·exact part_mode hp ho (m:={ n with k:=n.k+1 }) ⟨rfl,rfl,rfl,rfl⟩ rfl rfl (by simp only [];omega) (by simp only [];omega)
 ·rcases ch_cases n 8 with ⟨e,h1⟩ | ⟨e,h1⟩
  ·rw [e]
   exact Part.inv ⟨⟨hp.ok.nq,hp.ok.ql,chCt_ok hp.ok.ct 8⟩,hp.qv,by simp⟩ (by simp) (by simp) (by simp [h1])
  ·rw [e]
   have hq:Part { n with ct:=chCt n 8 }:=⟨⟨hp.ok.nq,hp.ok.ql,chCt_ok hp.ok.ct 8⟩,hp.qv,hp.rows⟩
   rw [if_pos rfl]
   simp only []
   split
   ·exact part_mode hq h1 (m:={ n with ct:=chCt n 8,mode:=6,k:=0 }) ⟨rfl,rfl,rfl,rfl⟩ rfl rfl (by simp) (by simp)
   ·exact part_mode hq h1 (m:={ n with ct:=chCt n 8,k:=n.k+1 }) ⟨rfl,rfl,rfl,rfl⟩ rfl rfl (by simp only [];omega) (by simp only [];omega)
theorem pas_inv {n:Nd} (h:n.Inv) (hm:n.mode=4) (b:Bool):(pasN n b).2.Inv:=by
 have hp:=h.part
 have ho:n.ct.off=false:=by rw [h.off];simp;omega
 unfold pasN
 split
 ·have hq0:Part { n with k:=pasK n b,lvl:=b,owed:=false }:=⟨⟨hp.ok.nq,hp.ok.ql,hp.ok.ct⟩,hp.qv,hp.rows⟩
  rcases ch_cases { n with k:=pasK n b,lvl:=b,owed:=false } 8 with ⟨e,h1⟩ | ⟨e,h1⟩
  ·rw [e]
   exact Part.inv ⟨⟨hp.ok.nq,hp.ok.ql,chCt_ok hq0.ok.ct 8⟩,hp.qv,by simp⟩ (by simp) (by simp) (by simp [h1])
  ·rw [e]
   have hq:Part { n with k:=pasK n b,lvl:=b,owed:=false,ct:=chCt { n with k:=pasK n b,lvl:=b,owed:=false } 8 }:=⟨⟨hp.ok.nq,hp.ok.ql,chCt_ok hq0.ok.ct 8⟩,hp.qv,hp.rows⟩
   rw [if_pos rfl]
   simp only []
   split
   ·exact part_mode hq h1 (m:={ n with k:=0,lvl:=b,owed:=false,ct:=chCt { n with k:=pasK n b,lvl:=b,owed:=false } 8,mode:=6 }) ⟨rfl,rfl,rfl,rfl⟩ rfl rfl (by simp) (by simp)
   ·exact part_mode hq h1 (m:={ n with k:=pasK n b,lvl:=b,owed:=false,ct:=chCt { n with k:=pasK n b,lvl:=b,owed:=false } 8 }) ⟨rfl,rfl,rfl,rfl⟩ rfl rfl (by simp only [];omega) (by simp only [];omega)
 ·simp only []
  split
  ·exact part_mode hp ho (m:={ n with lvl:=b,mode:=6,k:=0 }) ⟨rfl,rfl,rfl,rfl⟩ rfl rfl (by simp) (by simp)
  ·exact part_mode hp ho (m:={ n with k:=pasK n b,lvl:=b }) ⟨rfl,rfl,rfl,rfl⟩ rfl rfl (by simp only [];omega) (by simp only [];omega)
theorem wait_inv {n:Nd} (h:n.Inv) (hm:n.mode=6) (b:Bool):(waitN n b).2.Inv:=by
 have hp:=h.part
 have ho:n.ct.off=false:=by rw [h.off];simp;omega
 unfold waitN
 split
 ·exact part_mode hp ho (m:={ n with mode:=7,k:=1 }) ⟨rfl,rfl,rfl,rfl⟩ rfl rfl (by simp) (by simp)
 ·split
  ·rename_i hA
   have hoff:(chCt n 8).off=false:=by
    cases q:(chCt n 8).off
    ·rfl
    ·exact absurd ((state_two _).2 q) (rx_on hA.2.2 ho 8)
   exact part_mode (n:={ n with ct:=chCt n 8 }) ⟨⟨hp.ok.nq,hp.ok.ql,chCt_ok hp.ok.ct 8⟩,hp.qv,hp.rows⟩ hoff (m:={ n with k:=1,ct:=chCt n 8 }) ⟨rfl,rfl,rfl,rfl⟩ rfl rfl (by simp only [];omega) (by simp only [];omega)
  ·split
   ·rcases ch_cases { n with k:=n.k+1 } 8 with ⟨e,h1⟩ | ⟨e,h1⟩
    ·rw [e]
     exact Part.inv ⟨⟨hp.ok.nq,hp.ok.ql,chCt_ok (n:={ n with k:=n.k+1 }) hp.ok.ct 8⟩,hp.qv,by simp⟩ (by simp) (by simp) (by simp [h1])
    ·rw [e]
     rw [if_pos rfl]
     exact part_mode (n:={ n with ct:=chCt { n with k:=n.k+1 } 8 }) ⟨⟨hp.ok.nq,hp.ok.ql,chCt_ok (n:={ n with k:=n.k+1 }) hp.ok.ct 8⟩,hp.qv,hp.rows⟩ h1 (m:={ n with k:=n.k+1,ct:=chCt { n with k:=n.k+1 } 8 }) ⟨rfl,rfl,rfl,rfl⟩ rfl rfl (by simp only [];omega) (by simp only [];omega)
   ·exact part_mode hp ho (m:={ n with k:=n.k+1 }) ⟨rfl,rfl,rfl,rfl⟩ rfl rfl (by simp only [];omega) (by simp only [];omega)
theorem close_inv {n:Nd} (h:n.Inv) (hm:n.mode=7) (b:Bool):(closeN n b).2.Inv:=by
 have hp:=h.part
 have ho:n.ct.off=false:=by rw [h.off];simp;omega
 unfold closeN
 split
 ·simp only []
  split
  ·exact part_mode hp ho (m:={ n with mode:=8,k:=0 }) ⟨rfl,rfl,rfl,rfl⟩ rfl rfl (by simp) (by simp)
  ·exact part_mode hp ho (m:={ n with k:=n.k+1 }) ⟨rfl,rfl,rfl,rfl⟩ rfl rfl (by simp only [];omega) (by simp only [];omega)
 ·split
  ·exact over_inv hp ho
  ·exact fail_inv hp ho 7 true
theorem off_inv {n:Nd} (h:n.Inv) (hm:n.mode=10) (b:Bool):(offN n b).2.Inv:=by
 have hp:=h.part
 have ho:n.ct.off=true:=by rw [h.off];simp [hm]
 unfold offN
 split
 ·split
  ·exact Part.inv ⟨⟨hp.ok.nq,hp.ok.ql,Ct.zero_ok⟩,hp.qv,by simp⟩ (by simp) (by simp) (by simp [Ct.zero])
  ·exact Part.inv ⟨⟨hp.ok.nq,hp.ok.ql,hp.ok.ct⟩,hp.qv,by have:=h.r10 hm;simp only [];omega⟩ (by simp only [];omega) (by simp only [];omega) (by simp [ho,hm]) (fun _=>by have:=h.r10 hm;simp only [];omega)
 ·split
  ·exact Part.inv ⟨⟨hp.ok.nq,hp.ok.ql,Ct.zero_ok⟩,hp.qv,hp.rows⟩ (by simp) (by simp) (by simp [Ct.zero])
  ·exact Part.inv ⟨⟨hp.ok.nq,hp.ok.ql,hp.ok.ct⟩,hp.qv,hp.rows⟩ (by simp only [];omega) (by simp only [];omega) (by simp [ho,hm]) (fun _=>h.r10 hm)
theorem idle_inv {n:Nd} (h:n.Inv) (hm:n.mode=1) (b:Bool):(idleN n b).2.Inv:=by
 have hp:=h.part
 have ho:n.ct.off=false:=by rw [h.off];simp;omega
 unfold idleN
 split
 ·exact start_inv hp ho _ (fun e=>by simpa using e)
 ·split
  ·exact h
  ·exact fail_inv (n:={ n with tx:=true }) ⟨⟨hp.ok.nq,hp.ok.ql,hp.ok.ct⟩,hp.qv,hp.rows⟩ ho 4 true
theorem paus_inv {n:Nd} (h:n.Inv) (hm:n.mode=8) (b:Bool):(pausN n b).2.Inv:=by
 have hp:=h.part
 have ho:n.ct.off=false:=by rw [h.off];simp;omega
 unfold pausN
 split
 ·unfold pauseN
  simp only []
  split
  ·exact part_mode hp ho (m:={ n with k:=n.k+1 }) ⟨rfl,rfl,rfl,rfl⟩ rfl rfl (by simp only [];omega) (by simp only [];omega)
  ·split
   ·exact part_mode hp ho (m:={ n with mode:=9,k:=0 }) ⟨rfl,rfl,rfl,rfl⟩ rfl rfl (by simp) (by simp)
   ·exact part_mode hp ho (m:={ n with mode:=1,k:=0 }) ⟨rfl,rfl,rfl,rfl⟩ rfl rfl (by simp) (by simp)
 ·split
  ·exact over_inv hp ho
  ·exact start_inv hp ho _ (fun e=>by simp at e;exact e.1)
theorem ssp_inv {n:Nd} (h:n.Inv) (hm:n.mode=9) (b:Bool):(sspN n b).2.Inv:=by
 have hp:=h.part
 have ho:n.ct.off=false:=by rw [h.off];simp;omega
 unfold sspN
 split
 ·unfold suspN
  simp only []
  split
  ·exact part_mode hp ho (m:={ n with mode:=1,k:=0 }) ⟨rfl,rfl,rfl,rfl⟩ rfl rfl (by simp) (by simp)
  ·exact part_mode hp ho (m:={ n with k:=n.k+1 }) ⟨rfl,rfl,rfl,rfl⟩ rfl rfl (by simp only [];omega) (by simp only [];omega)
 ·exact start_inv hp ho false (fun e=>by cases e)
theorem step_modes (n:Nd) (b:Bool) (hm:n.mode≤10):(n.mode=0∧nxN n b=(joinN n b).2)∨(n.mode=1∧nxN n b=(idleN n b).2)∨(n.mode=2∧nxN n b=(inN n b).2.2)∨((n.mode=3∨n.mode=5)∧nxN n b=(domN n b).2)∨(n.mode=4∧nxN n b=(pasN n b).2)∨(n.mode=6∧nxN n b=(waitN n b).2)∨(n.mode=7∧nxN n b=(closeN n b).2)∨(n.mode=8∧nxN n b=(pausN n b).2)∨(n.mode=9∧nxN n b=(sspN n b).2)∨(n.mode=10∧nxN n b=(offN n b).2):=by
 have hcases:n.mode=0∨n.mode=1∨n.mode=2∨n.mode=3∨n.mode=4∨n.mode=5∨n.mode=6∨n.mode=7∨n.mode=8∨n.mode=9∨n.mode=10:=by omega
 rcases hcases with h | h | h | h | h | h | h | h | h | h | h<;>simp [nxN,stepN,h,noFr]
theorem inv_next {n:Nd} (h:n.Inv) (b:Bool):(nxN n b).Inv:=by
 rcases step_modes n b h.mode with ⟨m,e⟩ | ⟨m,e⟩ | ⟨m,e⟩ | ⟨m,e⟩ | ⟨m,e⟩ | ⟨m,e⟩ | ⟨m,e⟩ | ⟨m,e⟩ | ⟨m,e⟩ | ⟨m,e⟩<;>rw [e]
 ·exact join_inv h m b
 ·exact idle_inv h m b
 ·exact in_inv h m b
 ·exact dom_inv h m b
 ·exact pas_inv h m b
 ·exact wait_inv h m b
 ·exact close_inv h m b
 ·exact paus_inv h m b
 ·exact ssp_inv h m b
 ·exact off_inv h m b
theorem nd0_inv:nd0.Inv:=⟨⟨fun _=>rfl,by simp [nd0],Ct.zero_ok⟩,by simp [nd0],by simp [nd0],rfl,by simp [nd0],by simp [nd0],fun e=>by cases e⟩
end Go.AM.R1
open Go Go.AM
namespace Go.AM.R1
def KsOk (ks:List Nat):Prop:=ks=[]∨(∃ a,ks=[a])∨(∃ a,a≠1∧a≠2∧ks=[a,10])
theorem mI_same {n m:Nd} (k1:m.raw=[]↔n.raw=[]) (k2:m.nq=n.nq) (k3:m.row=[]↔n.row=[]):mI m=mI n:=by
 unfold mI wI qI
 simp only [k1,k2,k3]
end Go.AM.R1
open Go Go.AM
namespace Go.AM.R1
theorem keep_refl (n:Nd):Keep n n:=⟨rfl,rfl,rfl,rfl⟩
theorem join_keep (n:Nd) (b:Bool):Keep n (joinN n b).2:=by
 unfold joinN;simp only [];split
 ·exact ⟨rfl,rfl,rfl,rfl⟩
 ·split<;>exact ⟨rfl,rfl,rfl,rfl⟩
theorem dom_keep (n:Nd) (b:Bool):Keep n (domN n b).2:=by
 have h:=ch_keep n 8
 unfold domN
 split
 ·simp only [];split<;>exact ⟨rfl,rfl,rfl,rfl⟩
 ·split
  ·simp only [];split<;>exact ⟨h.raw,h.nq,h.row,h.q⟩
  ·exact h
theorem dom_ks (n:Nd) (b:Bool):KsOk (domN n b).1:=by
 unfold domN
 split
 ·exact .inl rfl
 ·split
  ·exact .inr (.inl ⟨4,rfl⟩)
  ·exact .inr (.inr ⟨4,by omega,by omega,rfl⟩)
theorem pas_keep (n:Nd) (b:Bool):Keep n (pasN n b).2:=by
 have h:=ch_keep { n with k:=pasK n b,lvl:=b,owed:=false } 8
 unfold pasN
 split
 ·split
  ·simp only [];split
   ·exact ⟨h.raw,h.nq,h.row,h.q⟩
   ·exact ⟨h.raw,h.nq,h.row,h.q⟩
  ·exact ⟨h.raw,h.nq,h.row,h.q⟩
 ·simp only [];split<;>exact ⟨rfl,rfl,rfl,rfl⟩
theorem pas_ks (n:Nd) (b:Bool):KsOk (pasN n b).1:=by
 unfold pasN
 split
 ·split
  ·exact .inl rfl
  ·exact .inr (.inl ⟨10,rfl⟩)
 ·exact .inl rfl
theorem wait_keep (n:Nd) (b:Bool):Keep n (waitN n b).2:=by
 have h:=ch_keep { n with k:=n.k+1 } 8
 unfold waitN
 split
 ·exact ⟨rfl,rfl,rfl,rfl⟩
 ·split
  ·exact ⟨rfl,rfl,rfl,rfl⟩
  ·split
   ·split<;>exact ⟨h.raw,h.nq,h.row,h.q⟩
   ·exact ⟨rfl,rfl,rfl,rfl⟩
theorem wait_ks (n:Nd) (b:Bool):KsOk (waitN n b).1:=by
 unfold waitN
 split
 ·exact .inl rfl
 ·split
  ·exact .inl rfl
  ·split
   ·split
    ·exact .inl rfl
    ·exact .inr (.inl ⟨10,rfl⟩)
   ·exact .inl rfl
theorem fail_ksok (n:Nd) (kind:Nat) (c:Bool) (h1:kind≠1) (h2:kind≠2):KsOk (failN n kind c).1:=by
 rcases fail_ks n kind c with h | h
 ·exact .inr (.inl ⟨_,h⟩)
 ·exact .inr (.inr ⟨_,h1,h2,h⟩)
theorem close_keep (n:Nd) (b:Bool):Keep n (closeN n b).2:=by
 unfold closeN
 split
 ·simp only [];split<;>exact ⟨rfl,rfl,rfl,rfl⟩
 ·split
  ·exact ⟨rfl,rfl,rfl,rfl⟩
  ·exact fail_keep n 7 true
theorem close_ks (n:Nd) (b:Bool):KsOk (closeN n b).1:=by
 unfold closeN
 split
 ·exact .inl rfl
 ·split
  ·exact .inr (.inl ⟨9,rfl⟩)
  ·exact fail_ksok n 7 true (by omega) (by omega)
theorem boff_keep (n:Nd) (b:Bool):Keep n (offN n b).2:=by
 unfold offN
 split
 ·split<;>exact ⟨rfl,rfl,rfl,rfl⟩
 ·split<;>exact ⟨rfl,rfl,rfl,rfl⟩
theorem off_ks (n:Nd) (b:Bool):KsOk (offN n b).1:=by
 unfold offN
 split
 ·split
  ·exact .inr (.inl ⟨11,rfl⟩)
  ·exact .inl rfl
 ·split
  ·exact .inr (.inl ⟨11,rfl⟩)
  ·exact .inl rfl
theorem pause_keep (n:Nd):Keep n (pauseN n).2:=by
 unfold pauseN;simp only [];split
 ·exact ⟨rfl,rfl,rfl,rfl⟩
 ·split<;>exact ⟨rfl,rfl,rfl,rfl⟩
theorem susp_keep (n:Nd):Keep n (suspN n).2:=by
 unfold suspN;simp only [];split<;>exact ⟨rfl,rfl,rfl,rfl⟩
end Go.AM.R1
open Go Go.AM
namespace Go.AM.R1
end Go.AM.R1
open Go Go.AM
namespace Go.AM.R1
theorem map_glob (fs:List Nat) (N:Nat):(List.range fs.length).map (toGlob fs N)=fs:=by
 apply List.ext_getElem
 ·simp
 ·intro i h1 h2
  simp only [List.getElem_map,List.getElem_range]
  exact glob_old h2
theorem glob_zero {H:Heap} {a:Nat} {n:Nd} {fs:List Nat} (h:NodeAt H a n fs) (N:Nat):toGlob fs N 0=a:=by
 obtain ⟨F,rx,qx,lx,wx,h,rfl⟩:=h
 rw [glob_old (by simp [footL])];rfl
structure Around (H H2:Heap) (fs fs2:List Nat):Prop where
 len:H.length≤H2.length
 same:∀ i,i<H.length→i ∉ fs→H2[i]?=H[i]?
 new:∀ i∈fs2,i∈fs∨H.length≤i
theorem around_back {H:Heap} {a:Nat} {n:Nd} {fs:List Nat} (h:NodeAt H a n fs) {Hn:Heap} (hk:fs.length≤Hn.length) (gs:List Nat):Around H (backH H fs Hn) fs (gs.map (toGlob fs H.length)):=by
 have hnd:=nodeAt_nodup h
 have hlt:=nodeAt_lt h
 refine ⟨by rw [back_len];omega,fun i hi hf=>back_other hnd hlt hk hi hf,fun i hi=>?_⟩
 obtain ⟨j,-,rfl⟩:=List.mem_map.1 hi
 rcases Nat.lt_or_ge j fs.length with q | q
 ·rw [glob_old q];exact .inl (List.getElem_mem q)
 ·rw [glob_new q];exact .inr (by omega)
theorem call_back {c:Callee} {H:Heap} {a:Nat} {n:Nd} {fs:List Nat} (h:NodeAt H a n fs) (f:AVal) (xs:List AVal) (hf:flatV f=true) (hx:flatL xs=true) {P:AVal→Heap→Prop} (hc:∀ F,∃v Hn,c f (.ptr 0 0::xs) (ndH n F)=some (v,Hn)∧P v Hn) :
  ∃ v Hn,callK1 c H (some (f,[])) (some (.ptr a 0::xs,[]))=some (renV (toGlob fs H.length) v,backH H fs Hn)∧P v Hn:=by
 obtain ⟨F,e⟩:=call_at c h f xs hf hx
 obtain ⟨v,Hn,h1,h2⟩:=hc F
 refine ⟨v,Hn,?_,h2⟩
 rw [e,h1,refK_some];rfl
end Go.AM.R1
open Go Go.AM
namespace Go.AM.R1
theorem sweep_get:∀ (H:Heap) (R:List Nat) (i j:Nat),i+j∈R→(sweep R i H)[j]?=H[j]?
 | [],_,_,_,_=>by simp [sweep]
 | e::H,R,i,0,hj=>by
  rw [sweep_cons,if_pos (by simpa using hj)];rfl
 | e :: H,R,i,j+1,hj=>by
  have ih:=sweep_get H R (i+1) j (by rwa [show i+1+j=i+(j+1) by omega])
  rw [sweep_cons]
  split
  ·simpa using ih
  ·split
   ·rename_i q
    rw [q] at ih
    simpa using ih
   ·simpa using ih
structure Ext (H:Heap) (fs:List Nat) (b:Nat) (e:Entry):Prop where
 get:H[b]?=some e
 out:b ∉ fs
theorem Ext.lt {H:Heap} {fs:List Nat} {b:Nat} {e:Entry} (h:Ext H fs b e):b<H.length:=lt_of_get h.get
end Go.AM.R1
open Go Go.AM
namespace Go.AM.R1
def nA:Nd:={ nd0 with q:=[Fr.zero],nq:=false }
end Go.AM.R1
open Go Go.AM
namespace Go.AM.R1
theorem mem_insP {f g:Fr} {l:List Fr}:g∈insP f l↔g=f∨g∈l:=by
 unfold insP
 have h:g∈l↔g∈l.take (ixL f l)∨g∈l.drop (ixL f l):=by rw [← List.mem_append,List.take_append_drop]
 rw [h]
 simp only [List.mem_append,List.mem_singleton]
 constructor
 ·rintro ((q | q) | q)
  ·exact .inr (.inl q)
  ·exact .inl q
  ·exact .inr (.inr q)
 ·rintro (q | q | q)
  ·exact .inl (.inr q)
  ·exact .inl (.inl q)
  ·exact .inr q
theorem inv_put {n:Nd} (h:n.Inv) {f:Fr} (hf:f.Ok):(nputN n f).2.Inv:=by
 unfold nputN
 by_cases hc:checkP f≠0
 ·rw [if_pos hc];exact h
 ·rw [if_neg hc]
  by_cases hl:16≤n.q.length
  ·rw [if_pos hl];exact h
  ·rw [if_neg hl]
   have hc:checkP f=0:=Classical.not_not.1 hc
   refine ⟨⟨fun q=>(by cases q),?_,h.ok.ct⟩,?_,h.mode,h.off,h.rows,h.r10,fun hm=>?_⟩
   ·show (insP f n.q).length≤16
    rw [insP_len];omega
   ·intro g hg
    rcases mem_insP.1 hg with q | q
    ·rw [q];exact ⟨hf,hc⟩
    ·exact h.qv g q
   ·have hi:=h.inf hm
    refine ⟨hi.ne,hi.h0,hi.ri,hi.run,hi.r58,hi.tx,fun hs=>?_⟩
    obtain ⟨-,s2,s3,s4,s5,s6⟩:=hi.se hs
    exact ⟨rfl,mem_insP.2 (.inr s2),s3,s4,s5,s6⟩
theorem chN_k (n:Nd) (w:Nat):(chN n w).2.k=0∨(chN n w).2.k=n.k:=by
 unfold chN;split
 ·exact .inl rfl
 ·exact .inr rfl
theorem fail_k (n:Nd) (kd:Nat) (c:Bool):(failN n kd c).2.k≤n.k:=by
 have:=chN_k n 1
 unfold failN
 split
 ·split
  ·exact Nat.zero_le _
  ·show (chN n 1).2.k≤n.k;omega
 ·exact Nat.zero_le _
theorem in_k (n:Nd) (b:Bool):(inN n b).2.2.k≤n.k:=by
 have h1:∀ b,(takeN n b).2.k≤n.k:=fun b=>by rw [(take_same n b).2.2.2.2.2.1];exact Nat.le_refl _
 have h2:(takeN { n with tx:=false,sends:=false } false).2.k≤n.k:=by rw [(take_same _ false).2.2.2.2.2.1];exact Nat.le_refl _
 have h3:(nackN n).2.k≤n.k:=fail_k n 8 _
 have h4:∀ kd c,(failN n kd c).2.k≤n.k:=fail_k n
 have h5:(sentN (takeN n true).2).k≤n.k:=Nat.zero_le _
 have h6:(overN n).2.k≤n.k:=Nat.zero_le _
 unfold inN
 repeat' split
 all_goals first | exact h1 _ | exact h2 | exact h3 | exact h4 _ _ | exact h5 | exact h6 | exact Nat.zero_le _
theorem k_next (n:Nd) (b:Bool) (hm:n.mode≤10):(nxN n b).k≤n.k+1:=by
 rcases step_modes n b hm with ⟨-,e⟩ | ⟨-,e⟩ | ⟨-,e⟩ | ⟨-,e⟩ | ⟨-,e⟩ | ⟨-,e⟩ | ⟨-,e⟩ | ⟨-,e⟩ | ⟨-,e⟩ | ⟨-,e⟩<;>rw [e]
 ·unfold joinN;simp only [];repeat' split
  all_goals simp
 ·unfold idleN
  have:=fail_k { n with tx:=true } 4 true
  simp only [] at this
  repeat' split
  ·exact Nat.zero_le _
  ·simp
  ·omega
 ·have:=in_k n b;omega
 ·have:=chN_k n 8
  unfold domN
  repeat' split
  all_goals first | (simp;done) | ((try simp only []);omega)
 ·have:=chN_k { n with k:=pasK n b,lvl:=b,owed:=false } 8
  have h2:pasK n b≤n.k+1:=by unfold pasK;split<;>omega
  simp only [] at this
  unfold pasN
  repeat' split
  all_goals first | (simp;done) | ((try simp only []);omega)
 ·have:=chN_k { n with k:=n.k+1 } 8
  simp only [] at this
  unfold waitN
  repeat' split
  all_goals first | (simp;done) | ((try simp only []);omega)
 ·have:=fail_k n 7 true
  unfold closeN overN
  repeat' split
  all_goals first | (simp;done) | ((try simp only []);omega)
 ·unfold pausN pauseN overN startN
  repeat' split
  all_goals first | (simp;done) | ((try simp only []);omega)
 ·unfold sspN suspN startN
  repeat' split
  all_goals first | (simp;done) | ((try simp only []);omega)
 ·have:offK n b≤n.k+1:=by unfold offK;split<;>omega
  unfold offN
  repeat' split
  all_goals first | (simp;done) | ((try simp only []);omega)
end Go.AM.R1
open Go Go.AM
namespace Go.AM.R1
end Go.AM.R1
open Go Go.AM
namespace Go.AM.R1
end Go.AM.R1
open Go Go.AM
namespace Go.AM.R1
end Go.AM.R1
open Go Go.AM
namespace Go.AM.R1
theorem renE_id (e:Entry):renE id e=e:=by
 cases e<;>simp [renE,renL_id,renLL_id,renT_id,renM_id]
end Go.AM.R1
open Go Go.AM
namespace Go.AM.R1
end Go.AM.R1
open Go Go.AM
namespace Go.AM.R1
structure NdL where
 a:Nat
 n:Nd
 fs:List Nat
def flats (L:List NdL):List Nat:=(L.map NdL.fs).flatten
def ptrsL (L:List NdL):List (List AVal):=L.map fun p=>[AVal.ptr p.a 0]
structure BusAt (H:Heap) (a na:Nat) (L:List NdL) (tk:Nat) (lkb fub:Bool):Prop where
 box:H[a]?=some (.box [.own na L.length 1 0 L.length,.lit (.int .i64 tk)])
 arr:H[na]?=some (.arr false lkb fub 1 (ptrsL L))
 nds:∀ p∈L,NodeAt H p.a p.n p.fs
 ne:a≠na
 out:∀ p∈L,a ∉ p.fs∧na ∉ p.fs
 dj:∀ (i j:Nat) (p q:NdL),L[i]?=some p→L[j]?=some q→i≠j→∀ x∈p.fs,x ∉ q.fs
theorem refs_ptrs (L:List NdL):refsLL (ptrsL L)=L.map NdL.a:=by
 induction L with
 | nil=>rfl
 | cons p L ih =>
  show refsL [AVal.ptr p.a 0]++refsLL (ptrsL L)=_
  rw [ih];rfl
theorem flats_cons (p:NdL) (L:List NdL):flats (p::L)=p.fs++flats L:=rfl
theorem mem_flats {x:Nat} {L:List NdL}:x∈flats L↔∃ p∈L,x∈p.fs:=by
 unfold flats
 rw [List.mem_flatten]
 constructor
 ·rintro ⟨l,hl,hx⟩
  obtain ⟨p,hp,rfl⟩:=List.mem_map.1 hl
  exact ⟨p,hp,hx⟩
 ·rintro ⟨p,hp,hx⟩
  exact ⟨p.fs,List.mem_map.2 ⟨p,hp,rfl⟩,hx⟩
theorem flats_nodup {H:Heap}:∀ {L:List NdL},(∀ p∈L,NodeAt H p.a p.n p.fs)→(∀ (i j:Nat) (p q:NdL),L[i]?=some p→L[j]?=some q→i≠j→∀ x∈p.fs,x ∉ q.fs)→(flats L).Nodup
 | [],_,_=>List.nodup_nil
 | p::L,hn,hd=>by
  rw [flats_cons,List.nodup_append]
  refine ⟨nodeAt_nodup (hn p (by simp)),flats_nodup (fun q hq=>hn q (by simp [hq])) (fun i j q r h1 h2 hne=>hd (i+1) (j+1) q r (by simpa using h1) (by simpa using h2) (by omega)),?_⟩
  intro x hx y hy e
  subst e
  obtain ⟨q,hq,hxq⟩:=mem_flats.1 hy
  obtain ⟨j,hj⟩:=List.getElem?_of_mem hq
  exact hd 0 (j+1) p q rfl (by simpa using hj) (by omega) x hx hxq
theorem reach_nodes {H:Heap}:∀ (L:List NdL) (k:Nat) (w acc:List Nat),(∀ p∈L,NodeAt H p.a p.n p.fs)→(acc++flats L).Nodup→reach H (k+(flats L).length) (L.map NdL.a++w) acc=reach H k w (acc++flats L)
 | [],k,w,acc,_,_=>by simp [flats]
 | p :: L,k,w,acc,hn,hd=>by
  rw [flats_cons] at hd ⊢
  rw [List.length_append,show k+(p.fs.length+(flats L).length)=(k+(flats L).length)+p.fs.length by omega,List.map_cons,List.cons_append]
  rw [reach_node (hn p (by simp)) _ _ _ (fun i hi q=>by
   have:=(List.nodup_append.1 hd).2.2 i q i (by simp [hi])
   exact this rfl)]
  rw [reach_nodes L k w (acc++p.fs) (fun q hq=>hn q (by simp [hq])) (by rw [List.append_assoc];exact hd),List.append_assoc]
theorem BusAt.nodup {H:Heap} {a na:Nat} {L:List NdL} {tk:Nat} {l f:Bool} (h:BusAt H a na L tk l f):(a::na::flats L).Nodup:=by
 rw [List.nodup_cons,List.nodup_cons]
 refine ⟨fun q=>?_,fun q=>?_,flats_nodup h.nds h.dj⟩
 ·rcases List.mem_cons.1 q with q | q
  ·exact h.ne q
  ·obtain ⟨p,hp,hx⟩:=mem_flats.1 q
   exact (h.out p hp).1 hx
 ·obtain ⟨p,hp,hx⟩:=mem_flats.1 q
  exact (h.out p hp).2 hx
theorem reach_bus {H:Heap} {a na:Nat} {L:List NdL} {tk:Nat} {l f:Bool} (h:BusAt H a na L tk l f) (k:Nat) (w acc:List Nat) (hd:(acc++a::na::flats L).Nodup):reach H (k+(flats L).length+2) (a::w) acc=reach H k w (acc++a::na::flats L):=by
 have hd1:=List.nodup_append.1 hd
 have na1:a ∉ acc:=fun q=>hd1.2.2 a q a (by simp) rfl
 have na2:na ∉ acc:=fun q=>hd1.2.2 na q na (by simp) rfl
 have r1:refsE (.box [.own na L.length 1 0 L.length,.lit (.int .i64 tk)])=[na]:=rfl
 have r2:refsE (.arr false l f 1 (ptrsL L))=L.map NdL.a:=by
  show (if false=true then [] else refsLL (ptrsL L))=_
  rw [if_neg (by simp),refs_ptrs]
 rw [reach_step na1 h.box,r1,List.singleton_append,reach_step (by simp [na2];exact fun e=>h.ne e.symm) h.arr,r2,reach_nodes L k w _ h.nds (by simpa using hd)]
 simp
theorem BusAt.same {H H2:Heap} {a na:Nat} {L:List NdL} {tk:Nat} {l f:Bool} (h:BusAt H a na L tk l f) (hs:∀ i∈a::na::flats L,H2[i]?=H[i]?):BusAt H2 a na L tk l f :=
 ⟨by rw [hs a (by simp)];exact h.box,by rw [hs na (by simp)];exact h.arr,fun p hp=>nodeAt_same (h.nds p hp) fun i hi=>hs i (by simp [mem_flats.2 ⟨p,hp,hi⟩]),h.ne,h.out,h.dj⟩
theorem BusAt.lt {H:Heap} {a na:Nat} {L:List NdL} {tk:Nat} {l f:Bool} (h:BusAt H a na L tk l f):∀ i∈a::na::flats L,i<H.length:=by
 intro i hi
 rcases List.mem_cons.1 hi with q | hi
 ·rw [q];exact lt_of_get h.box
 ·rcases List.mem_cons.1 hi with q | hi
  ·rw [q];exact lt_of_get h.arr
  ·obtain ⟨p,hp,hx⟩:=mem_flats.1 hi
   exact nodeAt_lt (h.nds p hp) i hx
theorem BusAt.len {H:Heap} {a na:Nat} {L:List NdL} {tk:Nat} {l f:Bool} (h:BusAt H a na L tk l f):(flats L).length≤5 * L.length:=by
 have hn:=h.nds
 clear h
 induction L with
 | nil=>simp [flats]
 | cons p L ih =>
  have h1:=nodeAt_len (hn p (by simp))
  have h2:=ih (fun q hq=>hn q (by simp [hq]))
  rw [flats_cons,List.length_append,List.length_cons];omega
theorem BusAt.setN {H H2:Heap} {a na:Nat} {L:List NdL} {tk:Nat} {l f:Bool} (h:BusAt H a na L tk l f) {j:Nat} {p:NdL} (hj:L[j]?=some p) {m:Nd} {fs2:List Nat} (hm:NodeAt H2 p.a m fs2) (ar:Around H H2 p.fs fs2) :
  BusAt H2 a na (L.set j ⟨p.a,m,fs2⟩) tk l f:=by
 have hjl:j<L.length:=(List.getElem?_eq_some_iff.1 hj).1
 have hp:=List.mem_of_getElem? hj
 have hlt:=h.lt
 have hm0:∀ i,i<H.length→i ∉ p.fs→H2[i]?=H[i]?:=ar.same
 have hps:ptrsL (L.set j ⟨p.a,m,fs2⟩)=ptrsL L:=by
  unfold ptrsL
  rw [List.map_set]
  have e:(L.map fun p=>[AVal.ptr p.a 0])[j]?=some [AVal.ptr p.a 0]:=by rw [List.getElem?_map,hj];rfl
  have:=List.set_getElem_self (show j<(L.map fun p=>[AVal.ptr p.a 0]).length by simpa using hjl)
  rw [(List.getElem?_eq_some_iff.1 e).2] at this
  exact this
 have old:∀ i q,(L.set j ⟨p.a,m,fs2⟩)[i]?=some q→(i=j∧q=⟨p.a,m,fs2⟩)∨(i≠j∧L[i]?=some q):=by
  intro i q hq
  by_cases e:i=j
  ·subst e
   rw [List.getElem?_set_self hjl] at hq
   exact .inl ⟨rfl,by simpa using hq.symm⟩
  ·rw [List.getElem?_set_ne (fun z=>e z.symm)] at hq
   exact .inr ⟨e,hq⟩
 have fsn:∀ x∈fs2,x∈p.fs∨H.length≤x:=ar.new
 refine ⟨?_,?_,?_,h.ne,?_,?_⟩
 ·rw [hm0 a (hlt a (by simp)) (h.out p hp).1,List.length_set];exact h.box
 ·rw [hm0 na (hlt na (by simp)) (h.out p hp).2,hps];exact h.arr
 ·intro q hq
  obtain ⟨i,hi⟩:=List.getElem?_of_mem hq
  rcases old i q hi with ⟨-,e⟩ | ⟨e,hi⟩
  ·rw [e];exact hm
  ·have hq:=List.mem_of_getElem? hi
   exact nodeAt_same (h.nds q hq) fun x hx=>hm0 x (nodeAt_lt (h.nds q hq) x hx) (h.dj i j q p hi hj e x hx)
 ·intro q hq
  obtain ⟨i,hi⟩:=List.getElem?_of_mem hq
  rcases old i q hi with ⟨-,e⟩ | ⟨e,hi⟩
  ·rw [e]
   refine ⟨fun z=>?_,fun z=>?_⟩
   ·rcases fsn a z with y | y
    ·exact (h.out p hp).1 y
    ·have:=hlt a (by simp);omega
   ·rcases fsn na z with y | y
    ·exact (h.out p hp).2 y
    ·have:=hlt na (by simp);omega
  ·exact h.out q (List.mem_of_getElem? hi)
 ·intro i k q r hi hk hne x hx hxr
  rcases old i q hi with ⟨e1,e2⟩ | ⟨e1,hi⟩
  ·rcases old k r hk with ⟨e3,e4⟩ | ⟨e3,hk⟩
   ·exact hne (e1.trans e3.symm)
   ·subst e2
    rcases fsn x hx with y | y
    ·exact h.dj j k p r hj hk (fun z=>e3 z.symm) x y hxr
    ·have:=nodeAt_lt (h.nds r (List.mem_of_getElem? hk)) x hxr;omega
  ·rcases old k r hk with ⟨e3,e4⟩ | ⟨e3,hk⟩
   ·subst e4
    rcases fsn x hxr with y | y
    ·exact h.dj i j q p hi hj e1 x hx y
    ·have:=nodeAt_lt (h.nds q (List.mem_of_getElem? hi)) x hx;omega
   ·exact h.dj i k q r hi hk hne x hx hxr
end Go.AM.R1
open Go Go.AM
namespace Go.AM.R1
def NodeAtW (H:Heap) (a:Nat) (n:Nd) (fs:List Nat) (wx:Nat):Prop:=∃ F rx qx lx,NodeAtF H a n F rx qx lx wx∧fs=footL n a rx qx lx wx
theorem NodeAtW.at {H:Heap} {a:Nat} {n:Nd} {fs:List Nat} {wx:Nat} (h:NodeAtW H a n fs wx):NodeAt H a n fs:=by
 obtain ⟨F,rx,qx,lx,h1,h2⟩:=h
 exact ⟨F,rx,qx,lx,wx,h1,h2⟩
theorem NodeAt.w {H:Heap} {a:Nat} {n:Nd} {fs:List Nat} (h:NodeAt H a n fs):∃ wx,NodeAtW H a n fs wx:=by
 obtain ⟨F,rx,qx,lx,wx,h1,h2⟩:=h
 exact ⟨wx,F,rx,qx,lx,h1,h2⟩
def RowKept (n:Nd) (w:Nat) (Hn:Heap) (m:Nd) (gs:List Nat) (wx:Nat):Prop:=n.row≠[]→(∃ lw fw,Hn[w]?=some (.arr true lw fw 1 (n.row.map encLv)))∧(w∈gs→m.row=n.row∧wx=w)
theorem nodeAt_canW (n:Nd) (F:Fl) (X:Heap):NodeAtW (ndH n F++X) 0 n (List.range (mI n)) (wI n):=by
 refine ⟨F,1,qI n,qI n+1,⟨?_,?_,?_,?_,?_,?_⟩,?_⟩ <;>
 by_cases h1:n.raw=[]<;>by_cases h2:n.nq=true<;>by_cases h3:n.row=[] <;>
 simp [ndH,rV,qI,qV,wI,wV,rE,qE,wE,Nd.cells,nilS,mI,footL,rAt,lAt,wAt,h1,h2,h3,List.range_succ]
theorem kept_can {n n':Nd} {F:Fl} {X:Heap} {gs:List Nat} (k1:n'.raw=[]↔n.raw=[]) (k2:n'.nq=n.nq) (k4:n'.row=n.row):RowKept n (wI n) (ndH n' F++X) n' gs (wI n'):=by
 intro h3
 have hw:wI n'=wI n:=by unfold wI qI;simp only [k1,k2]
 obtain ⟨F2,rx,qx,lx,h,-⟩:=nodeAt_canW n' F X
 have:=h.row (by rw [k4];exact h3)
 rw [hw,k4] at this
 exact ⟨⟨_,_,this⟩,fun _=>⟨k4,hw⟩⟩
def refsAt (H:Heap) (i:Nat):List Nat:=refsE (H.getD i .dead)
def Quiet (H:Heap) (gs:List Nat):Prop:=∀ i,i ∉ gs→refsAt H i=[]
theorem refs_out {H:Heap} {i:Nat} (h:H.length≤i):refsAt H i=[]:=by
 unfold refsAt
 rw [List.getD_eq_getElem?_getD,List.getElem?_eq_none h];rfl
theorem quiet_can (n:Nd) (F:Fl) {X:Heap} (hX:∀ e∈X,refsE e=[]):Quiet (ndH n F++X) (List.range (mI n)):=by
 intro i hi
 have hi:mI n≤i:=by simpa using hi
 unfold refsAt
 rw [List.getD_eq_getElem?_getD,List.getElem?_append_right (by rw [ndH_len];omega)]
 cases h:X[i - (ndH n F).length]? with
 | none=>rfl
 | some e=>exact hX e (List.mem_of_getElem? h)
theorem quiet_ev (es:List (Nat × Fr)):∀ e∈evE es,refsE e=[]:=by
 intro e he
 unfold evE at he
 split at he
 ·cases he
 ·simp at he;rw [he];rfl
def LiesW (Hn:Heap) (n n':Nd) (N:Nat) (es:List (Nat × Fr)) (v:AVal):Prop :=
 ∃ gs ix wx,NodeAtW Hn 0 n' gs wx∧N≤Hn.length∧v=evV ix es∧(es≠[]→Hn[ix]?=some (.arr true false false 15 (es.map encEv))∧N≤ix∧ix ∉ gs)∧RowKept n (wI n) Hn n' gs wx∧Quiet Hn gs
theorem lies_canW (n n':Nd) (F2:Fl) (es:List (Nat × Fr)) (hm:mI n'=mI n) (k1:n'.raw=[]↔n.raw=[]) (k2:n'.nq=n.nq) (k4:n'.row=n.row):LiesW (ndH n' F2++evE es) n n' (mI n) es (evV (mI n) es):=by
 refine ⟨_,mI n,_,nodeAt_canW n' F2 _,by rw [List.length_append,ndH_len];omega,rfl,fun he=>?_,kept_can k1 k2 k4,quiet_can n' F2 (quiet_ev es)⟩
 refine ⟨?_,Nat.le_refl _,by rw [hm];simp⟩
 rw [List.getElem?_append_right (by rw [ndH_len];omega),ndH_len,hm,Nat.sub_self]
 unfold evE;rw [if_neg he];rfl
theorem step_of_canW (n:Nd) (F:Fl) (b:Bool) (fid:Nat) (hm:n.mode<11) (hg:(stepF.drop n.mode)[0]?=some (.func (.func fid) [] [])) (n':Nd) (F2:Fl) (ks:List Nat) (f':Fr) (hk:KsOk ks)
  (k1:n'.raw=[]↔n.raw=[]) (k2:n'.nq=n.nq) (k4:n'.row=n.row) (hc:call E (.func (.func fid) [] []) [.ptr 0 0,.ptr (mI n) 0,.lit (.int .i64 (lv b))] (ndT n F [] Fr.zero)=some (.tup [],ndT n' F2 ks f')) :
  ∃ Hn v,call E (.func (.func 71) [] []) [.ptr 0 0,.lit (.int .i64 (lv b))] (ndH n F)=some (.tup [v,.lit (.int .i64 0)],Hn)∧LiesW Hn n n' (mI n) (evsOf ks f') v:=by
 have k3:n'.row=[]↔n.row=[]:=by rw [k4]
 have hmi:=mI_same k1 k2 k3
 rcases hk with rfl | ⟨a,rfl⟩ | ⟨a,h1,h2,rfl⟩
 ·exact ⟨_,_,nstep_can0 n F b fid hm hg n' F2 f' k1 k2 k3 hc,lies_canW n n' F2 [] hmi k1 k2 k4⟩
 ·by_cases ha:a=1∨a=2
  ·have e:evsOf [a] f'=[(a,f')]:=by simp [evsOf,ha]
   rw [e]
   exact ⟨_,_,nstep_can1f n F b fid hm hg a ha n' F2 f' k1 k2 k3 hc,lies_canW n n' F2 _ hmi k1 k2 k4⟩
  ·have e:evsOf [a] f'=[(a,Fr.zero)]:=by simp [evsOf,ha]
   rw [e]
   exact ⟨_,_,nstep_can1 n F b fid hm hg a (fun q=>ha (.inl q)) (fun q=>ha (.inr q)) n' F2 f' k1 k2 k3 hc,lies_canW n n' F2 _ hmi k1 k2 k4⟩
 ·have e:evsOf [a,10] f'=[(a,Fr.zero),(10,Fr.zero)]:=by simp [evsOf,h1,h2]
  rw [e]
  exact ⟨_,_,nstep_can2 n F b fid hm hg a h1 h2 n' F2 f' k1 k2 k3 hc,lies_canW n n' F2 _ hmi k1 k2 k4⟩
theorem nodeAt_stW (n:Nd) (F:Fl) (s:Bool):NodeAtW (stG 0 [] n (startN n s) F s) 0 (startN n s) (footL (startN n s) 0 (mI n) (qI n) (qI n+1) (if s=true then mI n+1 else wI n)) (if s=true then mI n+1 else wI n)∧mI n≤(stG 0 [] n (startN n s) F s).length ∧
  RowKept n (wI n) (stG 0 [] n (startN n s) F s) (startN n s) (footL (startN n s) 0 (mI n) (qI n) (qI n+1) (if s=true then mI n+1 else wI n)) (if s=true then mI n+1 else wI n) ∧
  Quiet (stG 0 [] n (startN n s) F s) (footL (startN n s) 0 (mI n) (qI n) (qI n+1) (if s=true then mI n+1 else wI n)):=by
 have hne:=allP_ne (n.q.head?.getD Fr.zero)
 refine ⟨⟨⟨false,false,F.fq,if s=true then false else F.lw,if s=true then false else F.fw⟩,mI n,qI n,qI n+1,⟨?_,?_,?_,?_,?_,?_⟩,rfl⟩,?_,fun h3=>⟨⟨F.lw,F.fw,?_⟩,?_⟩,?_⟩
 case refine_10 =>
  intro i hi
  rcases (by omega:i=0∨i=1∨i=2∨i=3∨i=4∨i=5∨i=6∨7≤i) with q | q | q | q | q | q | q | q
  case inr.inr.inr.inr.inr.inr.inr =>
   exact refs_out (by cases s<;>by_cases h1:n.raw=[]<;>by_cases h2:n.nq=true<;>by_cases h3:n.row=[]<;>simp [stG,startN,rE,qE,wE,h1,h2,h3]<;>omega)
  all_goals (subst q;revert hi;cases s<;>by_cases h1:n.raw=[]<;>by_cases h2:n.nq=true<;>by_cases h3:n.row=[]<;>simp [refsAt,refsE,stG,startN,ndH,rV,qI,qV,wI,wV,rE,qE,wE,Nd.cells,nilS,mI,footL,h1,h2,h3,hne])
 case refine_9 =>
  cases s
  ·exact fun _=>⟨rfl,rfl⟩
  ·intro q
   exfalso
   revert q
   by_cases h1:n.raw=[]<;>by_cases h2:n.nq=true <;>
   simp [startN,wI,qI,mI,footL,h1,h2,h3,hne]
 case refine_8 =>
  cases s<;>by_cases h1:n.raw=[]<;>by_cases h2:n.nq=true <;>
  simp [stG,startN,ndH,rV,qI,qV,wI,wV,rE,qE,wE,Nd.cells,nilS,mI,h1,h2,h3,hne]
 all_goals
 cases s<;>by_cases h1:n.raw=[]<;>by_cases h2:n.nq=true<;>by_cases h3:n.row=[] <;>
 simp [stG,startN,ndH,rV,qI,qV,wI,wV,rE,qE,wE,Nd.cells,nilS,mI,footL,rAt,lAt,wAt,h1,h2,h3,hne]
theorem step_of_startW (n:Nd) (F:Fl) (b:Bool) (fid:Nat) (hm:n.mode<11) (hg:(stepF.drop n.mode)[0]?=some (.func (.func fid) [] [])) (s:Bool)
  (hc:call E (.func (.func fid) [] []) [.ptr 0 0,.ptr (mI n) 0,.lit (.int .i64 (lv b))] (ndT n F [] Fr.zero)=some (.tup [],stG 1 (tdE (mI n) [] Fr.zero) n (startN n s) F s)) :
  ∃ Hn v,call E (.func (.func 71) [] []) [.ptr 0 0,.lit (.int .i64 (lv b))] (ndH n F)=some (.tup [v,.lit (.int .i64 0)],Hn)∧LiesW Hn n (startN n s) (mI n) [] v:=by
 have hN:=nodeAt_stW n F s
 refine ⟨stG 0 [] n (startN n s) F s,nilS,?_,_,0,_,hN.1,hN.2.1,rfl,fun q=>absurd rfl q,hN.2.2.1,hN.2.2.2⟩
 cases s
 ·exact nstep_start_f n F b fid hm hg _ hc
 ·exact nstep_start_t n F b fid hm hg _ (allP_ne _) hc
theorem step_of_sentW (n:Nd) (F:Fl) (b:Bool) (fid:Nat) (hm:n.mode<11) (hg:(stepF.drop n.mode)[0]?=some (.func (.func fid) [] [])) (h1:¬ n.raw=[]) (hq:n.nq=false) (h3:¬ n.row=[]) (m:Nd) (F2:Fl) (hm1:¬ m.raw=[]) (hm2:m.nq=false) (hm3:m.row=n.row)
  (hmem:m.own∈m.q) (hc:call E (.func (.func fid) [] []) [.ptr 0 0,.ptr (mI n) 0,.lit (.int .i64 (lv b))] (ndT n F [] Fr.zero)=some (.tup [],sentG [.box (tdC (.own 7 1 1 0 1) m.own)] [.arr true false false 1 [encK 1]] 6 m F2)) :
  ∃ Hn v,call E (.func (.func 71) [] []) [.ptr 0 0,.lit (.int .i64 (lv b))] (ndH n F)=some (.tup [v,.lit (.int .i64 0)],Hn)∧LiesW Hn n (sentN m) (mI n) [(1,m.own)] v:=by
 have hmi:mI n=5:=by simp [mI,wI,qI,h1,hq,h3]
 have hlen:=delL_len m.own m.q hmem
 have h3':¬ m.row=[]:=by rw [hm3];exact h3
 refine ⟨_,_,nstep_sent n F b fid hm hg h1 hq h3 m F2 hm1 hm2 hm3 hc,[0,1,2,5,4],6,4,?_,?_,rfl,fun _=>⟨rfl,by omega,by simp⟩,fun _=>⟨⟨F2.lw,F2.fw,?_⟩,fun _=>⟨hm3,by simp [wI,qI,h1,hq]⟩⟩,?_⟩
 ·refine ⟨{ F2 with fq:=false },1,2,5,⟨?_,?_,?_,?_,?_,?_⟩,?_⟩ <;>
  simp [sentG,sentN,footL,rAt,lAt,wAt,hm1,hm2,h3',hlen]
 ·rw [hmi];simp [sentG]
 ·simp [sentG,wI,qI,h1,hq,hm3]
 ·intro i hi
  rcases (by omega:i=0∨i=1∨i=2∨i=3∨i=4∨i=5∨i=6∨7≤i) with q | q | q | q | q | q | q | q
  case inr.inr.inr.inr.inr.inr.inr=>exact refs_out (by simp [sentG];omega)
  all_goals (subst q;simp [refsAt,refsE,sentG] at hi ⊢)
def StepsToW (n:Nd) (F:Fl) (b:Bool) (n':Nd) (es:List (Nat × Fr)):Prop :=
 ∃ Hn v,call E (.func (.func 71) [] []) [.ptr 0 0,.lit (.int .i64 (lv b))] (ndH n F)=some (.tup [v,.lit (.int .i64 0)],Hn)∧LiesW Hn n n' (mI n) es v
theorem keep_stepW (n:Nd) (F:Fl) (b:Bool) (fid:Nat) (hm:n.mode<11) (hg:(stepF.drop n.mode)[0]?=some (.func (.func fid) [] [])) (n':Nd) (F2:Fl) (ks:List Nat) (f':Fr) (hk:KsOk ks) (hp:Keep n n')
  (hc:call E (.func (.func fid) [] []) [.ptr 0 0,.ptr (mI n) 0,.lit (.int .i64 (lv b))] (ndT n F [] Fr.zero)=some (.tup [],ndT n' F2 ks f')):StepsToW n F b n' (evsOf ks f') :=
 step_of_canW n F b fid hm hg n' F2 ks f' hk (by rw [hp.raw]) hp.nq hp.row hc
theorem take_stepW (n:Nd) (F:Fl) (b:Bool) (h1:¬ n.raw=[]) (hmode:n.mode=2) (n':Nd) (F2:Fl) (ks:List Nat) (f':Fr) (hk:KsOk ks) (e1:¬ n'.raw=[]) (e2:n'.nq=n.nq) (e3:n'.row=n.row)
  (hc:call E (.func (.func 125) [] []) [.ptr 0 0,.ptr (mI n) 0,.lit (.int .i64 (lv b))] (ndT n F [] Fr.zero)=some (.tup [],ndT n' F2 ks f')):StepsToW n F b n' (evsOf ks f') :=
 step_of_canW n F b _ (by omega) (by rw [hmode];rfl) n' F2 ks f' hk ⟨fun q=>absurd q e1,fun q=>absurd q h1⟩ e2 e3 hc
theorem out_stepW (n:Nd) (F:Fl) (hI:n.Inv) (hk:n.k≤1000000000) (b:Bool) (h2:¬ n.mode=2):StepsToW n F b (nxN n b) (evN n b):=by
 have hm:=hI.mode
 have hn:=hI.ok
 have hg:∀ c,n.mode=c→∀ x,(stepF.drop c)[0]?=some x→(stepF.drop n.mode)[0]?=some x:=fun c e x h=>by rw [e];exact h
 unfold nxN evN
 have hcases:n.mode=0∨n.mode=1∨n.mode=3∨n.mode=4∨n.mode=5∨n.mode=6∨n.mode=7∨n.mode=8∨n.mode=9∨n.mode=10:=by omega
 rcases hcases with h | h | h | h | h | h | h | h | h | h
 ·rw [show stepN n b=noFr (joinN n b) by unfold stepN;simp only [h]]
  exact keep_stepW n F b _ (by omega) (hg 0 h _ rfl) _ F [] Fr.zero (.inl rfl) (join_keep n b) (njoin_spec n F hk Fr.zero b)
 ·rw [show stepN n b=noFr (idleN n b) by unfold stepN;simp only [h]]
  cases b
  ·rw [show idleN n false=([],startN n (decide (n.q≠[]))) from rfl]
   cases hq:n.q with
   | nil=>exact step_of_startW n F false _ (by omega) (hg 1 h _ rfl) false (nidle_start_no n F hn hq Fr.zero)
   | cons g r =>
    have hv:=hI.qv g (by rw [hq];simp)
    exact step_of_startW n F false _ (by omega) (hg 1 h _ rfl) true (nidle_start_yes n F hn g r hq hv.1 hv.2 Fr.zero)
  ·by_cases hq:n.q=[]
   ·rw [show idleN n true=([],n) by unfold idleN;rw [if_neg (by simp),if_pos hq]]
    exact keep_stepW n F true _ (by omega) (hg 1 h _ rfl) n F [] Fr.zero (.inl rfl) (keep_refl n) (nidle_rest n F hn hq Fr.zero)
   ·rw [show idleN n true=failN { n with tx:=true } 4 true by unfold idleN;rw [if_neg (by simp),if_neg hq]]
    have kp:=fail_keep { n with tx:=true } 4 true
    exact keep_stepW n F true _ (by omega) (hg 1 h _ rfl) _ F _ Fr.zero (fail_ksok _ 4 true (by omega) (by omega)) ⟨kp.raw,kp.nq,kp.row,kp.q⟩ (nidle_fail n F hn hq Fr.zero)
 ·rw [show stepN n b=noFr (domN n b) by unfold stepN;simp only [h]]
  exact keep_stepW n F b _ (by omega) (hg 3 h _ rfl) _ F _ Fr.zero (dom_ks n b) (dom_keep n b) (ndom_spec n F hn hk Fr.zero b)
 ·rw [show stepN n b=noFr (pasN n b) by unfold stepN;simp only [h]]
  exact keep_stepW n F b _ (by omega) (hg 4 h _ rfl) _ F _ Fr.zero (pas_ks n b) (pas_keep n b) (npas_spec n F hn hk Fr.zero b)
 ·rw [show stepN n b=noFr (domN n b) by unfold stepN;simp only [h]]
  exact keep_stepW n F b _ (by omega) (hg 5 h _ rfl) _ F _ Fr.zero (dom_ks n b) (dom_keep n b) (ndom_spec n F hn hk Fr.zero b)
 ·rw [show stepN n b=noFr (waitN n b) by unfold stepN;simp only [h]]
  have ho:n.ct.off=false:=by rw [hI.off];simp;omega
  exact keep_stepW n F b _ (by omega) (hg 6 h _ rfl) _ F _ Fr.zero (wait_ks n b) (wait_keep n b) (nwait_spec n F hn hk ho Fr.zero b)
 ·rw [show stepN n b=noFr (closeN n b) by unfold stepN;simp only [h]]
  exact keep_stepW n F b _ (by omega) (hg 7 h _ rfl) _ F _ Fr.zero (close_ks n b) (close_keep n b) (nclose_spec n F hn hk Fr.zero b)
 ·rw [show stepN n b=noFr (pausN n b) by unfold stepN;simp only [h]]
  cases b
  ·by_cases hk2:n.k<2
   ·rw [show pausN n false=overN n by unfold pausN;rw [if_neg (by simp),if_pos hk2]]
    exact keep_stepW n F false _ (by omega) (hg 8 h _ rfl) _ F [9] Fr.zero (.inr (.inl ⟨9,rfl⟩)) ⟨rfl,rfl,rfl,rfl⟩ (npause_over n F hk2 Fr.zero)
   ·rw [show pausN n false=([],startN n (decide (n.q≠[]) && !lateP n)) by unfold pausN;rw [if_neg (by simp),if_neg hk2]]
    cases hq:n.q with
    | nil=>exact step_of_startW n F false _ (by omega) (hg 8 h _ rfl) false (npause_no0 n F hn hk2 hq Fr.zero)
    | cons g r =>
     have hv:=hI.qv g (by rw [hq];simp)
     cases hl:lateP n
     ·exact step_of_startW n F false _ (by omega) (hg 8 h _ rfl) true (npause_yes n F hn hk2 g r hq hv.1 hv.2 hl Fr.zero)
     ·exact step_of_startW n F false _ (by omega) (hg 8 h _ rfl) false (npause_nol n F hn hk2 (by rw [hq];simp) hl Fr.zero)
  ·rw [show pausN n true=pauseN n by unfold pausN;rw [if_pos rfl]]
   exact keep_stepW n F true _ (by omega) (hg 8 h _ rfl) _ F [] Fr.zero (.inl rfl) (pause_keep n) (npause_rest n F hk Fr.zero)
 ·rw [show stepN n b=noFr (sspN n b) by unfold stepN;simp only [h]]
  cases b
  ·rw [show sspN n false=([],startN n false) by unfold sspN;rw [if_neg (by simp)]]
   exact step_of_startW n F false _ (by omega) (hg 9 h _ rfl) false (nsusp_start n F Fr.zero)
  ·rw [show sspN n true=suspN n by unfold sspN;rw [if_pos rfl]]
   exact keep_stepW n F true _ (by omega) (hg 9 h _ rfl) _ F [] Fr.zero (.inl rfl) (susp_keep n) (nsusp_rest n F hk Fr.zero)
 ·rw [show stepN n b=noFr (offN n b) by unfold stepN;simp only [h]]
  exact keep_stepW n F b _ (by omega) (hg 10 h _ rfl) _ F _ Fr.zero (off_ks n b) (boff_keep n b) (noff_spec n F hk (by have:=hI.rows;omega) Fr.zero b)
theorem in_sendsW (n:Nd) (F:Fl) (hI:n.Inv) (h2:n.mode=2) (hs:n.sends=true) (b:Bool):StepsToW n F b (nxN n b) (evN n b):=by
 have hn:=hI.ok
 obtain ⟨h1,h0,hri,hl5,h58,htx,hse⟩:=hI.inf h2
 have hS:=hse hs
 obtain ⟨hrl,h3,hrow,-⟩:=send_facts hS
 have hr:=hri.ok
 have hq:=hS.nq
 have hkind:=hri.kind
 have tk:=fun b=>take_keep n b h1
 unfold nxN evN
 rw [show stepN n b=inN n b by unfold stepN;simp only [h2]]
 generalize hN:nextF n.raw=kk at hkind h58 hrow
 obtain ⟨kind,k⟩:=kk
 simp only [] at hkind h58 hrow
 have ct:=fun (b:Bool) (F2:Fl) (hc:call E (.func (.func 125) [] []) [.ptr 0 0,.ptr (mI n) 0,.lit (.int .i64 (lv b))] (ndT n F [] Fr.zero)=some (.tup [],ndT (takeN n b).2 F2 [] Fr.zero)) =>
  take_stepW n F b h1 h2 (takeN n b).2 F2 [] Fr.zero (.inl rfl) (tk b).1 (tk b).2.1 (tk b).2.2.1 hc
 have cf:=fun (b:Bool) (x:List Nat × Nd) (F2:Fl) (hk:KsOk x.1) (hp:Keep n x.2) (hc:call E (.func (.func 125) [] []) [.ptr 0 0,.ptr (mI n) 0,.lit (.int .i64 (lv b))] (ndT n F [] Fr.zero)=some (.tup [],ndT x.2 F2 x.1 Fr.zero)) =>
  take_stepW n F b h1 h2 x.2 F2 x.1 Fr.zero hk (by rw [hp.raw];exact h1) hp.nq hp.row hc
 unfold inN
 rw [if_pos hs,hN]
 simp only []
 by_cases hd:b=frL n
 ·rw [if_pos hd]
  have hd':frL n=b:=hd.symm
  by_cases h5:n.run=5
  ·have hlv:¬ n.lvl=b:=by
    rw [hd];unfold frL;rw [if_pos hs,if_pos h5];cases n.lvl<;>simp
   rw [if_neg (fun e=>e.1 h5),if_neg (fun e=>e.1 h5)]
   have hk5:=h58 h5
   rcases Nat.lt_or_ge 4 kind with h4 | h4
   ·have:kind=5:=by omega
    subst this
    cases b
    ·obtain ⟨F2,hc⟩:=sin_added_hi_f n F hn hr h1 hl5 Fr.zero hs hrl hq h3 k hN hd' h5 hlv
     exact ct false F2 hc
    ·obtain ⟨F2,hc⟩:=sin_added_hi_t n F hn hr h1 hl5 Fr.zero hs hrl hq h3 k hN hd' h5 hlv
     exact ct true F2 hc
   ·cases b
    ·obtain ⟨F2,hc⟩:=sin_added_lo_f n F hn hr h1 hl5 Fr.zero hs hrl hq h3 kind k hN hd' h5 hlv h4
     exact ct false F2 hc
    ·obtain ⟨F2,hc⟩:=sin_added_lo_t n F hn hr h1 hl5 Fr.zero hs hrl hq h3 kind k hN hd' h5 hlv h4
     exact ct true F2 hc
  ·rcases Nat.lt_or_ge 4 kind with h4 | h4
   ·have hbt:b=true:=by
     rw [hd];unfold frL;rw [if_pos hs,if_neg h5,hrow h4];rfl
    subst hbt
    have hcases:kind=5∨kind=6∨kind=7∨kind=8:=by omega
    rcases hcases with rfl | rfl | rfl | rfl
    ·rw [if_neg (by simp),if_neg (by simp)]
     obtain ⟨F2,hc⟩:=sin_delim5 n F hn hr h1 hl5 Fr.zero hs hrl hq h3 k hN hd' h5
     exact ct true F2 hc
    ·rw [if_pos ⟨h5,rfl⟩]
     obtain ⟨F2,hc⟩:=sin_ack n F hn hr h1 hl5 Fr.zero hs hrl hq h3 k hN hd' h5
     have kp:=fail_keep n 8 (!decide (n.ct.state=1))
     exact cf true (nackN n) F2 (fail_ksok n 8 _ (by omega) (by omega)) ⟨kp.raw,kp.nq,kp.row,kp.q⟩ hc
    ·rw [if_neg (by simp),if_neg (by simp)]
     obtain ⟨F2,hc⟩:=sin_delim7 n F hn hr h1 hl5 Fr.zero hs hrl hq h3 k hN hd' h5
     exact ct true F2 hc
    ·by_cases hk6:k=6
     ·subst hk6
      rw [if_neg (by simp),if_pos ⟨h5,rfl⟩]
      obtain ⟨F2,hc⟩:=sin_sent n F hn hr h1 hl5 Fr.zero hs hrl hq h3 hN hd' h5 hS.mem
      have hon:(takeN n true).2.own=n.own:=(tk true).2.2.2.2.2.2.2.1
      rw [← hon] at hc
      have hst:=step_of_sentW n F true _ (by omega) (by rw [h2];rfl) h1 hq h3 (takeN n true).2 F2 (tk true).1 ((tk true).2.1.trans hq) (tk true).2.2.1 (by rw [hon,(tk true).2.2.2.1];exact hS.mem) hc
      rw [hon] at hst
      exact hst
     ·rw [if_neg (by simp),if_neg (by simp [hk6])]
      obtain ⟨F2,hc⟩:=sin_endx n F hn hr h1 hl5 Fr.zero hs hrl hq h3 k hN hd' h5 hk6
      exact ct true F2 hc
   ·rw [if_neg (by omega),if_neg (by simp;omega)]
    cases b
    ·obtain ⟨F2,hc⟩:=sin_low_f n F hn hr h1 hl5 Fr.zero hs hrl hq h3 kind k hN hd' h5 h4
     exact ct false F2 hc
    ·obtain ⟨F2,hc⟩:=sin_low_t n F hn hr h1 hl5 Fr.zero hs hrl hq h3 kind k hN hd' h5 h4
     exact ct true F2 hc
 ·rw [if_neg hd]
  cases b
  ·have hd':frL n=true:=by cases h:frL n;exact absurd h.symm hd;rfl
   rw [if_neg (by simp)]
   by_cases hk1:kind=1
   ·subst hk1
    rw [if_pos rfl]
    by_cases h5:n.run=5
    ·rw [if_pos h5]
     obtain ⟨F2,hc⟩:=sin_stuff n F hn hr h1 hl5 Fr.zero hs hrl hq h3 k hN hd' h5
     exact cf false _ F2 (fail_ksok n 5 false (by omega) (by omega)) (fail_keep n 5 false) hc
    ·rw [if_neg h5]
     obtain ⟨F2,hc⟩:=sin_lost n F hn hr h1 hl5 Fr.zero hs hrl hq h3 k hN hd' h5
     have kp:=take_keep { n with tx:=false,sends:=false } false h1
     exact take_stepW n F false h1 h2 _ F2 [3] Fr.zero (.inr (.inl ⟨3,rfl⟩)) kp.1 kp.2.1 kp.2.2.1 hc
   ·rw [if_neg hk1]
    by_cases hk6:kind=6
    ·subst hk6
     rw [if_pos rfl]
     obtain ⟨F2,hc⟩:=sin_slot n F hn hr h1 hl5 Fr.zero hs hrl hq h3 k hN hd' (fun e=>by have:=h58 e;omega)
     exact ct false F2 hc
    ·rw [if_neg hk6]
     obtain ⟨F2,hc⟩:=sin_bit0 n F hn hr h1 hl5 Fr.zero hs hrl hq h3 kind k hN hd' hk1 hk6
     exact cf false _ F2 (fail_ksok n 4 true (by omega) (by omega)) (fail_keep n 4 true) hc
  ·have hd':frL n=false:=by cases h:frL n;rfl;exact absurd h.symm hd
   rw [if_pos rfl]
   obtain ⟨F2,hc⟩:=sin_bit1 n F hn hr h1 hl5 Fr.zero hs hrl hq h3 kind k hN hd'
   exact cf true _ F2 (fail_ksok n 4 true (by omega) (by omega)) (fail_keep n 4 true) hc
theorem in_recvsW (n:Nd) (F:Fl) (hI:n.Inv) (h2:n.mode=2) (hs:n.sends=false) (b:Bool):StepsToW n F b (nxN n b) (evN n b):=by
 have hn:=hI.ok
 obtain ⟨h1,h0,hri,hl5,h58,htx,-⟩:=hI.inf h2
 have hr:=hri.ok
 have hkind:=hri.kind
 have tk:=fun b=>take_keep n b h1
 have hfr:frL n=!(decide ((nextF n.raw).1=6) && rightF n.raw):=by unfold frL;rw [if_neg (by rw [hs];simp)]
 unfold nxN evN
 rw [show stepN n b=inN n b by unfold stepN;simp only [h2]]
 generalize hN:nextF n.raw=kk at hkind h58 hfr
 obtain ⟨kind,k⟩:=kk
 simp only [] at hkind h58 hfr
 have ct:=fun (b:Bool) (F2:Fl) (hc:call E (.func (.func 125) [] []) [.ptr 0 0,.ptr (mI n) 0,.lit (.int .i64 (lv b))] (ndT n F [] Fr.zero)=some (.tup [],ndT (takeN n b).2 F2 [] Fr.zero)) =>
  take_stepW n F b h1 h2 (takeN n b).2 F2 [] Fr.zero (.inl rfl) (tk b).1 (tk b).2.1 (tk b).2.2.1 hc
 have cf:=fun (b:Bool) (x:List Nat × Nd) (F2:Fl) (hk:KsOk x.1) (hp:Keep n x.2) (hc:call E (.func (.func 125) [] []) [.ptr 0 0,.ptr (mI n) 0,.lit (.int .i64 (lv b))] (ndT n F [] Fr.zero)=some (.tup [],ndT x.2 F2 x.1 Fr.zero)) =>
  take_stepW n F b h1 h2 x.2 F2 x.1 Fr.zero hk (by rw [hp.raw];exact h1) hp.nq hp.row hc
 unfold inN
 rw [if_neg (by rw [hs];simp),hN]
 simp only []
 by_cases hd:frL n=false
 ·rw [if_pos hd]
  rw [hd] at hfr
  have hk6:kind=6:=by
   apply Classical.byContradiction
   intro q;simp [q] at hfr
  subst hk6
  cases b
  ·rw [if_neg (by simp)]
   obtain ⟨F2,hc⟩:=rin_slot_f_f n F hn hr h1 hl5 Fr.zero hs k hN hd (fun e=>by have:=h58 e;omega)
   exact ct false F2 hc
  ·rw [if_pos rfl]
   obtain ⟨F2,hc⟩:=rin_bit n F hn hr h1 hl5 Fr.zero hs k hN hd
   exact cf true _ F2 (fail_ksok n 4 true (by omega) (by omega)) (fail_keep n 4 true) hc
 ·have hd':frL n=true:=by cases h:frL n;exact absurd h hd;rfl
  rw [if_neg hd]
  by_cases h5:n.run=5
  ·rw [if_pos h5]
   have hk5:=h58 h5
   by_cases hb:b=n.lvl
   ·rw [if_pos hb]
    refine Exists.elim (?_:∃ F2,call E (.func (.func 125) [] []) [.ptr 0 0,.ptr (mI n) 0,.lit (.int .i64 (lv b))] (ndT n F [] Fr.zero)=some (.tup [],ndT (failN n 5 true).2 F2 (failN n 5 true).1 Fr.zero)) (fun F2 hc=>cf b _ F2 (fail_ksok n 5 true (by omega) (by omega)) (fail_keep n 5 true) hc)
    rcases Nat.lt_or_ge 4 kind with h4 | h4
    ·have:kind=5:=by omega
     subst this
     cases b
     ·exact rin_stuff_hi_f n F hn hr h1 hl5 Fr.zero hs k hN hd' h5 hb.symm
     ·exact rin_stuff_hi_t n F hn hr h1 hl5 Fr.zero hs k hN hd' h5 hb.symm
    ·cases b
     ·exact rin_stuff_lo_f n F hn hr h1 hl5 Fr.zero hs kind k hN hd' h5 hb.symm h4
     ·exact rin_stuff_lo_t n F hn hr h1 hl5 Fr.zero hs kind k hN hd' h5 hb.symm h4
   ·rw [if_neg hb]
    have hb':¬ n.lvl=b:=fun e=>hb e.symm
    rcases Nat.lt_or_ge 4 kind with h4 | h4
    ·have:kind=5:=by omega
     subst this
     cases b
     ·obtain ⟨F2,hc⟩:=rin_added_hi_f n F hn hr h1 hl5 Fr.zero hs k hN hd' h5 hb'
      exact ct false F2 hc
     ·obtain ⟨F2,hc⟩:=rin_added_hi_t n F hn hr h1 hl5 Fr.zero hs k hN hd' h5 hb'
      exact ct true F2 hc
    ·cases b
     ·obtain ⟨F2,hc⟩:=rin_added_lo_f n F hn hr h1 hl5 Fr.zero hs kind k hN hd' h5 hb' h4
      exact ct false F2 hc
     ·obtain ⟨F2,hc⟩:=rin_added_lo_t n F hn hr h1 hl5 Fr.zero hs kind k hN hd' h5 hb' h4
      exact ct true F2 hc
  ·rw [if_neg h5]
   rcases Nat.lt_or_ge 4 kind with h4 | h4
   ·have hcases:kind=5∨kind=6∨kind=7∨kind=8:=by omega
    rcases hcases with rfl | rfl | rfl | rfl
    ·rw [if_neg (by simp)]
     cases b
     ·rw [if_pos rfl,if_neg (by simp)]
      obtain ⟨F2,hc⟩:=rin_form5 n F hn hr h1 hl5 Fr.zero hs k hN hd' h5
      exact cf false _ F2 (fail_ksok n 7 true (by omega) (by omega)) (fail_keep n 7 true) hc
     ·rw [if_neg (by simp),if_neg (by simp),if_neg (by simp),if_neg (by simp)]
      obtain ⟨F2,hc⟩:=rin_delim n F hn hr h1 hl5 Fr.zero hs k hN hd' h5
      exact ct true F2 hc
    ·rw [if_pos (.inr rfl)]
     cases b
     ·obtain ⟨F2,hc⟩:=rin_slot_t_f n F hn hr h1 hl5 Fr.zero hs k hN hd' h5
      exact ct false F2 hc
     ·obtain ⟨F2,hc⟩:=rin_slot_t_t n F hn hr h1 hl5 Fr.zero hs k hN hd' h5
      exact ct true F2 hc
    ·rw [if_neg (by simp)]
     cases b
     ·rw [if_pos rfl,if_neg (by simp)]
      obtain ⟨F2,hc⟩:=rin_form7 n F hn hr h1 hl5 Fr.zero hs k hN hd' h5
      exact cf false _ F2 (fail_ksok n 7 true (by omega) (by omega)) (fail_keep n 7 true) hc
     ·rw [if_neg (by simp)]
      cases hri2:rightF n.raw
      ·rw [if_pos ⟨rfl,rfl⟩]
       obtain ⟨F2,hc⟩:=rin_sum n F hn hr h1 hl5 Fr.zero hs k hN hd' h5 hri2
       exact cf true _ F2 (fail_ksok n 6 true (by omega) (by omega)) (fail_keep n 6 true) hc
      ·rw [if_neg (by simp),if_neg (by simp),if_neg (by simp)]
       obtain ⟨F2,hc⟩:=rin_ack n F hn hr h1 hl5 Fr.zero hs k hN hd' h5 hri2
       exact ct true F2 hc
    ·rw [if_neg (by simp)]
     cases b
     ·rw [if_pos rfl]
      by_cases hk6:k=6
      ·subst hk6
       rw [if_pos rfl]
       obtain ⟨F2,hc⟩:=rin_over n F hn hr h1 hl5 Fr.zero hs 6 hN hd' h5 rfl
       exact cf false ([9],(overN n).2) F2 (.inr (.inl ⟨9,rfl⟩)) ⟨rfl,rfl,rfl,rfl⟩ hc
      ·rw [if_neg (by simp [hk6])]
       obtain ⟨F2,hc⟩:=rin_form8 n F hn hr h1 hl5 Fr.zero hs k hN hd' h5 hk6
       exact cf false _ F2 (fail_ksok n 7 true (by omega) (by omega)) (fail_keep n 7 true) hc
     ·rw [if_neg (by simp),if_neg (by simp)]
      by_cases hk5:k=5
      ·subst hk5
       rw [if_pos rfl]
       obtain ⟨F2,hc⟩:=rin_end5 n F hn hr h1 hl5 Fr.zero hs 5 hN hd' h5 rfl h0
       exact take_stepW n F true h1 h2 _ F2 [2] _ (.inr (.inl ⟨2,rfl⟩)) (tk true).1 (tk true).2.1 (tk true).2.2.1 hc
      ·rw [if_neg (by simp [hk5])]
       by_cases hk6:k=6
       ·subst hk6
        rw [if_pos rfl]
        obtain ⟨F2,hc⟩:=rin_end6 n F hn hr h1 hl5 Fr.zero hs 6 hN hd' h5 rfl
        exact take_stepW n F true h1 h2 _ F2 [] _ (.inl rfl) (tk true).1 (tk true).2.1 (tk true).2.2.1 hc
       ·rw [if_neg (by simp [hk6])]
        obtain ⟨F2,hc⟩:=rin_endx n F hn hr h1 hl5 Fr.zero hs k hN hd' h5 hk6 hk5
        exact ct true F2 hc
   ·rw [if_pos (.inl h4)]
    cases b
    ·obtain ⟨F2,hc⟩:=rin_low_f n F hn hr h1 hl5 Fr.zero hs kind k hN hd' h5 h4
     exact ct false F2 hc
    ·obtain ⟨F2,hc⟩:=rin_low_t n F hn hr h1 hl5 Fr.zero hs kind k hN hd' h5 h4
     exact ct true F2 hc
theorem nstep_specW (n:Nd) (F:Fl) (hI:n.Inv) (hk:n.k≤1000000000) (b:Bool):StepsToW n F b (nxN n b) (evN n b):=by
 by_cases h2:n.mode=2
 ·cases hs:n.sends
  ·exact in_recvsW n F hI h2 hs b
  ·exact in_sendsW n F hI h2 hs b
 ·exact out_stepW n F hI hk b h2
end Go.AM.R1
open Go Go.AM
namespace Go.AM.R1
end Go.AM.R1
open Go Go.AM
namespace Go.AM.R1
theorem NodeAtW.row {H:Heap} {a:Nat} {n:Nd} {fs:List Nat} {wx:Nat} (h:NodeAtW H a n fs wx) (h3:n.row≠[]):(∃ lw fw,H[wx]?=some (.arr true lw fw 1 (n.row.map encLv)))∧wx∈fs:=by
 obtain ⟨F,rx,qx,lx,h,rfl⟩:=h
 exact ⟨⟨_,_,h.row h3⟩,by simp [footL,h3]⟩
theorem NodeAtW.any {H:Heap} {a:Nat} {n:Nd} {fs:List Nat} {wx:Nat} (h:NodeAtW H a n fs wx) (h3:n.row=[]) (v:Nat):NodeAtW H a n fs v:=by
 obtain ⟨F,rx,qx,lx,h,rfl⟩:=h
 have hf:footL n a rx qx lx wx=footL n a rx qx lx v:=by simp [footL,h3]
 refine ⟨F,rx,qx,lx,⟨?_,h.raw,h.qu,h.q,fun q=>absurd h3 q,hf ▸ h.nd⟩,hf⟩
 have:=h.box
 rwa [show wAt n wx=wAt n v by simp [wAt,h3]] at this
def Sh (n:Nd) (w:Nat) (fs:List Nat) (m:Nd) (v:Nat) (gs:List Nat):Prop:=∀ i∈fs,i∈gs→n.row≠[]∧i=w∧m.row=n.row∧v=w
theorem Sh.symm {n m:Nd} {w v:Nat} {fs gs:List Nat} (h:Sh n w fs m v gs):Sh m v gs n w fs:=by
 intro i h1 h2
 obtain ⟨q1,q2,q3,q4⟩:=h i h2 h1
 exact ⟨q3 ▸ q1,by rw [q2,q4],q3.symm,q4.symm⟩
theorem glob_w {H:Heap} {a:Nat} {n:Nd} {fs:List Nat} {wx:Nat} (h:NodeAtW H a n fs wx) (h3:n.row≠[]) (N:Nat):toGlob fs N (wI n)=wx:=by
 obtain ⟨F,rx,qx,lx,h,rfl⟩:=h
 by_cases h1:n.raw=[]<;>by_cases h2:n.nq=true <;>
 simp [toGlob,footL,wI,qI,h1,h2,h3]
theorem at_backW {H:Heap} {a:Nat} {n:Nd} {fs:List Nat} {wx:Nat} (h:NodeAtW H a n fs wx) {Hn:Heap} (hk:fs.length≤Hn.length) {b:Nat} {m:Nd} {gs:List Nat} {w':Nat} (hm:NodeAtW Hn b m gs w'):NodeAtW (backH H fs Hn) (toGlob fs H.length b) m (gs.map (toGlob fs H.length)) (toGlob fs H.length w'):=by
 obtain ⟨F,rx,qx,lx,h0,rfl⟩:=hm
 have hm:NodeAt Hn b m (footL m b rx qx lx w'):=⟨F,rx,qx,lx,w',h0,rfl⟩
 have G:=fun {j e}=>back_get (H:=H) (Hn:=Hn) (nodeAt_nodup h.at) (nodeAt_lt h.at) hk (j:=j) (e:=e)
 have hinj:=fun {i j}=>glob_inj (H:=H) (nodeAt_nodup h.at) (nodeAt_lt h.at) (i:=i) (j:=j)
 have h:=h0
 generalize toGlob fs H.length=g at G hinj ⊢
 have e1:∀ x,renV g (rAt m x)=rAt m (g x):=fun x=>by unfold rAt;split<;>rfl
 have e2:∀ x,renV g (wAt m x)=wAt m (g x):=fun x=>by unfold wAt;split<;>rfl
 have e3:∀ x,renV g (lAt m x)=lAt m (g x):=fun x=>by unfold lAt;split<;>rfl
 have e4:(footL m b rx qx lx w').map g=footL m (g b) (g rx) (g qx) (g lx) (g w'):=by
  unfold footL
  by_cases h1:m.raw=[]<;>by_cases h2:m.nq=true<;>by_cases h3:m.row=[]<;>simp [h1,h2,h3]
 refine ⟨F,g rx,g qx,g lx,⟨?_,?_,?_,?_,?_,?_⟩,e4⟩
 ·rw [G h.box];simp [renE,Nd.cells,renL,renV,e1,e2]
 ·intro q;rw [G (h.raw q)];simp [renE]
 ·rw [G h.qu];simp [renE,renL,renV,e3]
 ·intro q;rw [G (h.q q)];simp [renE]
 ·intro q;rw [G (h.row q)];simp [renE]
 ·rw [← e4]
  exact h.nd.map g (fun i j hij e=>hij (hinj e))
theorem kept_back {H:Heap} {a:Nat} {n:Nd} {fs:List Nat} {wx:Nat} (h:NodeAtW H a n fs wx) {Hn:Heap} (hk:fs.length≤Hn.length) {m:Nd} {gs:List Nat} {w':Nat} (kp:RowKept n (wI n) Hn m gs w'):RowKept n wx (backH H fs Hn) m (gs.map (toGlob fs H.length)) (toGlob fs H.length w'):=by
 intro h3
 obtain ⟨⟨lw,fw,h1⟩,h2⟩:=kp h3
 have hg:=glob_w h h3 H.length
 refine ⟨⟨lw,fw,?_⟩,fun hm=>?_⟩
 ·have:=back_get (H:=H) (nodeAt_nodup h.at) (nodeAt_lt h.at) hk h1
  rw [hg] at this
  rw [this];simp [renE]
 ·obtain ⟨j,hj,e⟩:=List.mem_map.1 hm
  rw [← hg] at e
  have:=glob_inj (nodeAt_nodup h.at) (nodeAt_lt h.at) e
  subst this
  obtain ⟨k1,k2⟩:=h2 hj
  exact ⟨k1,by rw [k2];exact hg⟩
mutual
theorem refsV_ren (f:Nat→Nat):∀ v:AVal,refsV (renV f v)=(refsV v).map f
 | .lit _=>rfl
 | .any=>rfl
 | .ptr ..=>rfl
 | .eptr ..=>rfl
 | .own ..=>rfl
 | .asl ..=>rfl
 | .yld _=>rfl
 | .mref _=>rfl
 | .iptr fl es j k=>by
  rw [renV,refsV,refsV]
  cases fl
  ·exact refsLL_ren f es
  ·rfl
 | .imm n fu fl es=>by
  rw [renV,refsV,refsV]
  cases fl
  ·exact refsLL_ren f es
  ·rfl
 | .agg cs=>by rw [renV,refsV,refsV];exact refsL_ren f cs
 | .tup cs=>by rw [renV,refsV,refsV];exact refsL_ren f cs
 | .iface t v=>by rw [renV,refsV,refsV];exact refsV_ren f v
 | .func fn a b=>by rw [renV,refsV,refsV,refsL_ren f a,refsL_ren f b,List.map_append]
theorem refsL_ren (f:Nat→Nat):∀ l:List AVal,refsL (renL f l)=(refsL l).map f
 | []=>rfl
 | c::r=>by rw [renL,refsL,refsL,refsV_ren f c,refsL_ren f r,List.map_append]
theorem refsLL_ren (f:Nat→Nat):∀ l:List (List AVal),refsLL (renLL f l)=(refsLL l).map f
 | []=>rfl
 | c::r=>by rw [renLL,refsLL,refsLL,refsL_ren f c,refsLL_ren f r,List.map_append]
end
theorem refsE_ren (f:Nat→Nat) (e:Entry):refsE (renE f e)=(refsE e).map f:=by
 cases e with
 | box cs=>exact refsL_ren f cs
 | arr fl lk fu sz es =>
  cases fl
  ·exact refsLL_ren f es
  ·rfl
 | loop st p sn ps a b =>
  show refsT (renT f sn)=(refsT sn).map f
  induction sn with
  | nil=>rfl
  | cons x r ih =>
   obtain ⟨t,v⟩:=x
   rw [renT,refsT,refsT,refsV_ren f v,ih,List.map_append]
 | map es =>
  show refsM (renM f es)=(refsM es).map f
  induction es with
  | nil=>rfl
  | cons x r ih =>
   obtain ⟨t,v⟩:=x
   rw [renM,refsM,refsM,refsV_ren f v,ih,List.map_append]
 | dead=>rfl
def QuietB (H H2:Heap) (fs fs2:List Nat):Prop:=∀ i,(i∈fs∨H.length≤i)→i ∉ fs2→refsAt H2 i=[]
theorem quiet_back {H:Heap} {fs:List Nat} {Hn:Heap} (hnd:fs.Nodup) (hlt:∀ i∈fs,i<H.length) (hk:fs.length≤Hn.length) {gs:List Nat} (q:Quiet Hn gs):QuietB H (backH H fs Hn) fs (gs.map (toGlob fs H.length)):=by
 intro i hi hg
 have key:∀ j,toGlob fs H.length j=i→refsAt (backH H fs Hn) i=[]:=by
  intro j e
  have hj:j ∉ gs:=fun z=>hg (List.mem_map.2 ⟨j,z,e⟩)
  have hq:=q j hj
  cases h:Hn[j]? with
  | none =>
   have hjl:Hn.length≤j:=by
    rcases Nat.lt_or_ge j Hn.length with z | z
    ·rw [List.getElem?_eq_getElem z] at h;cases h
    ·exact z
   refine refs_out ?_
   rw [← e,glob_new (by omega),back_len];omega
  | some x =>
   have hb:=back_get (H:=H) hnd hlt hk h
   rw [e] at hb
   unfold refsAt at hq ⊢
   rw [List.getD_eq_getElem?_getD,h] at hq
   rw [List.getD_eq_getElem?_getD,hb]
   show refsE (renE _ x)=[]
   rw [refsE_ren]
   have hq:refsE x=[]:=hq
   rw [hq];rfl
 rcases hi with hi | hi
 ·obtain ⟨j,hj,e⟩:=List.getElem_of_mem hi
  exact key j (by rw [glob_old hj];exact e)
 ·exact key (fs.length+(i - H.length)) (by rw [glob_new (by omega)];omega)
theorem step_atW {H:Heap} {a:Nat} {n:Nd} {fs:List Nat} {w:Nat} (h:NodeAtW H a n fs w) (hI:n.Inv) (hk:n.k≤1000000000) (b:Bool) :
  ∃ H2 fs2 ix w2,callK1 (call E) H (some (.func (.func 71) [] [],[])) (some ([.ptr a 0,.lit (.int .i64 (lv b))],[]))=some (.tup [evV ix (evN n b),.lit (.int .i64 0)],H2)∧NodeAtW H2 a (nxN n b) fs2 w2∧Around H H2 fs fs2 ∧
   (evN n b≠[]→H2[ix]?=some (.arr true false false 15 ((evN n b).map encEv))∧H.length≤ix∧ix ∉ fs2)∧RowKept n w H2 (nxN n b) fs2 w2∧QuietB H H2 fs fs2:=by
 obtain ⟨v,Hn,h1,v0,rfl,gs,ix,wx,h2,h3,rfl,h4,h5,h6⟩:=call_back (c:=call E) h.at (.func (.func 71) [] []) [.lit (.int .i64 (lv b))] rfl rfl (P:=fun v Hn=>∃ v0,v=.tup [v0,.lit (.int .i64 0)]∧LiesW Hn n (nxN n b) (mI n) (evN n b) v0) (fun F=>by
  obtain ⟨Hn,v,e,q⟩:=nstep_specW n F hI hk b
  exact ⟨_,_,e,v,rfl,q⟩)
 have hl:=nodeAt_fl h.at
 have hkk:fs.length≤Hn.length:=by rw [hl];exact h3
 have hn2:=at_backW h hkk h2
 rw [glob_zero h.at] at hn2
 refine ⟨_,_,toGlob fs H.length ix,_,?_,hn2,around_back h.at hkk gs,fun he=>?_,kept_back h hkk h5,quiet_back (nodeAt_nodup h.at) (nodeAt_lt h.at) hkk h6⟩
 ·rw [h1]
  simp only [renV,renL]
  congr 4
  unfold evV
  split<;>rfl
 ·obtain ⟨q1,q2,q3⟩:=h4 he
  refine ⟨?_,by rw [glob_new (by omega)];omega,fun hm=>?_⟩
  ·rw [back_get (nodeAt_nodup h.at) (nodeAt_lt h.at) hkk q1];simp [renE]
  ·obtain ⟨j,hj,e⟩:=List.mem_map.1 hm
   have:=glob_inj (nodeAt_nodup h.at) (nodeAt_lt h.at) e
   exact q3 (this ▸ hj)
theorem same_back {H:Heap} {a:Nat} {n:Nd} {fs:List Nat} {w:Nat} (h:NodeAtW H a n fs w) {F:Fl} {X:Heap} (hX:∀ e∈X,refsE e=[]):NodeAtW (backH H fs (ndH n F++X)) a n fs w∧Around H (backH H fs (ndH n F++X)) fs fs∧RowKept n w (backH H fs (ndH n F++X)) n fs w∧QuietB H (backH H fs (ndH n F++X)) fs fs:=by
 have hl:=nodeAt_fl h.at
 have hk:fs.length≤(ndH n F++X).length:=by rw [List.length_append,ndH_len];omega
 have h1:=at_backW h hk (nodeAt_canW n F X)
 have h2:=around_back h.at hk (List.range (mI n))
 have h3:=kept_back h hk (kept_can (n:=n) (n':=n) (F:=F) (X:=X) (gs:=List.range (mI n)) Iff.rfl rfl rfl)
 have h4:=quiet_back (H:=H) (nodeAt_nodup h.at) (nodeAt_lt h.at) hk (quiet_can n F hX)
 rw [glob_zero h.at] at h1
 rw [← hl,map_glob] at h1 h2 h3 h4
 by_cases hrow:n.row=[]
 ·exact ⟨h1.any hrow w,h2,fun q=>absurd hrow q,h4⟩
 ·rw [glob_w h hrow] at h1 h3
  exact ⟨h1,h2,h3,h4⟩
theorem drive_atW {H:Heap} {a:Nat} {n:Nd} {fs:List Nat} {w:Nat} (h:NodeAtW H a n fs w) (hI:n.Inv) :
  ∃ H2,callK1 (call E) H (some (.func (.func 69) [] [],[])) (some ([.ptr a 0],[]))=some (.lit (.int .i64 (lv (drN n))),H2)∧NodeAtW H2 a n fs w∧Around H H2 fs fs∧RowKept n w H2 n fs w∧QuietB H H2 fs fs:=by
 obtain ⟨v,Hn,h1,F2,rfl,rfl⟩:=call_back (c:=call E) h.at (.func (.func 69) [] []) [] rfl rfl (P:=fun v Hn=>∃ F2,v=.lit (.int .i64 (lv (drN n)))∧Hn=ndH n F2++[]) (fun F=>by
  obtain ⟨F2,e⟩:=ndrive_spec n F hI
  exact ⟨_,_,e,F2,rfl,by rw [List.append_nil]⟩)
 exact ⟨_,h1,same_back h (by simp)⟩
end Go.AM.R1
open Go Go.AM
namespace Go.AM.R1
theorem nput_specW (n:Nd) (F:Fl) (hn:n.Ok) (f:Fr):∃ Hn gs wx,call E (.func (.func 45) [] []) [.ptr 0 0,.agg (encFr f)] (ndH n F)=some (.lit (.int .i64 (nputN n f).1),Hn)∧NodeAtW Hn 0 (nputN n f).2 gs wx∧mI n≤Hn.length∧RowKept n (wI n) Hn (nputN n f).2 gs wx∧Quiet Hn gs:=by
 have hl:n.q.length≤1000:=by have:=hn.ql;omega
 have hp:=quPut_spec n.nq F.fq f n.q hn.nq hl
 unfold nputN
 by_cases hc:checkP f≠0
 ·rw [if_pos hc] at hp ⊢
  refine ⟨ndH n F++[],_,_,?_,nodeAt_canW n F [],by rw [List.append_nil,ndH_len];omega,kept_can Iff.rfl rfl rfl,quiet_can n F (by simp)⟩
  rw [List.append_nil]
  rw [call_func E E45]
  by_cases h1:n.raw=[]<;>by_cases hq:n.nq=true<;>by_cases h3:n.row=[] <;>
  simp [ndH,rV,qI,qV,wI,wV,rE,qE,wE,Nd.cells,nilS,quH,encFr,u8v,h1,hq,h3] at hp <;>
  simp [go_sem,ir45,ndH,rV,qI,qV,wI,wV,rE,qE,wE,Nd.cells,nilS,encFr,u8v,h1,hq,h3,hp,purse_eq,List.range_succ]
 ·rw [if_neg hc] at hp ⊢
  by_cases h16:16≤n.q.length
  ·rw [if_pos h16] at hp ⊢
   refine ⟨ndH n F++[],_,_,?_,nodeAt_canW n F [],by rw [List.append_nil,ndH_len];omega,kept_can Iff.rfl rfl rfl,quiet_can n F (by simp)⟩
   rw [List.append_nil]
   rw [call_func E E45]
   by_cases h1:n.raw=[]<;>by_cases hq:n.nq=true<;>by_cases h3:n.row=[] <;>
   simp [ndH,rV,qI,qV,wI,wV,rE,qE,wE,Nd.cells,nilS,quH,encFr,u8v,h1,hq,h3] at hp <;>
   simp [go_sem,ir45,ndH,rV,qI,qV,wI,wV,rE,qE,wE,Nd.cells,nilS,encFr,u8v,h1,hq,h3,hp,purse_eq,List.range_succ]
  ·rw [if_neg h16] at hp ⊢
   have hil:=insP_len f n.q
   by_cases hq:n.nq=true
   ·have hq0:=hn.nq hq
    have hi1:insP f []=[f]:=rfl
    refine ⟨.box (n.cells (rV n) (.ptr (qI n) 0) (wV n))::(rE n F++.box [.own (mI n) 1 12 0 1,.lit (.int .i64 16)]::(qE n F++wE n F))++[.arr true false false 12 [encFr f]],footL { n with q:=insP f n.q,nq:=false } 0 1 (qI n) (mI n) (wI n),wI n,?_,⟨{ F with fq:=false },1,qI n,mI n,⟨?_,?_,?_,?_,?_,?_⟩,rfl⟩,?_,fun h3=>⟨⟨F.lw,F.fw,?_⟩,fun _=>⟨rfl,rfl⟩⟩,?_⟩
    ·rw [call_func E E45]
     by_cases h1:n.raw=[]<;>by_cases h3:n.row=[] <;>
     simp [ndH,rV,qI,qV,wI,wV,rE,qE,wE,Nd.cells,nilS,quH,putH,encFr,u8v,h1,hq,h3,hq0] at hp <;>
     simp [go_sem,ir45,ndH,rV,qI,qV,wI,wV,rE,qE,wE,Nd.cells,nilS,mI,encFr,u8v,h1,hq,h3,hq0,hp,purse_eq,List.range_succ]
    case refine_9=>by_cases h1:n.raw=[]<;>simp [ndH,rV,qI,qV,wI,wV,rE,qE,wE,Nd.cells,nilS,mI,footL,rAt,lAt,wAt,h1,hq,h3,hq0,hi1]
    case refine_10 =>
     intro i hi
     rcases (by omega:i=0∨i=1∨i=2∨i=3∨i=4∨i=5∨i=6∨7≤i) with q | q | q | q | q | q | q | q
     case inr.inr.inr.inr.inr.inr.inr=>exact refs_out (by by_cases h1:n.raw=[]<;>by_cases h3:n.row=[]<;>simp [rE,qE,wE,h1,hq,h3]<;>omega)
     all_goals (subst q;revert hi;by_cases h1:n.raw=[]<;>by_cases h3:n.row=[]<;>simp [refsAt,refsE,ndH,rV,qI,qV,wI,wV,rE,qE,wE,Nd.cells,nilS,mI,footL,h1,hq,h3,hq0])
    all_goals (by_cases h1:n.raw=[]<;>by_cases h3:n.row=[]<;>simp [ndH,rV,qI,qV,wI,wV,rE,qE,wE,Nd.cells,nilS,mI,footL,rAt,lAt,wAt,h1,hq,h3,hq0,hi1])
   ·have hq:n.nq=false:=by simpa using hq
    refine ⟨.box (n.cells (rV n) (.ptr (qI n) 0) (wV n))::(rE n F++.box [.own (mI n) (n.q.length+1) 12 0 (n.q.length+1),.lit (.int .i64 16)]::(.dead::wE n F))++[.arr true false false 12 ((insP f n.q).map encFr)],footL { n with q:=insP f n.q,nq:=false } 0 1 (qI n) (mI n) (wI n),wI n,?_,⟨{ F with fq:=false },1,qI n,mI n,⟨?_,?_,?_,?_,?_,?_⟩,rfl⟩,?_,fun h3=>⟨⟨F.lw,F.fw,?_⟩,fun _=>⟨rfl,rfl⟩⟩,?_⟩
    ·have hrows:=frRows (insP f n.q)
     unfold putH at hp
     generalize (insP f n.q).map encFr=rows at hp ⊢
     rw [call_func E E45]
     by_cases h1:n.raw=[]<;>by_cases h3:n.row=[] <;>
     simp [ndH,rV,qI,qV,wI,wV,rE,qE,wE,Nd.cells,nilS,quH,encFr,u8v,h1,hq,h3] at hp <;>
     simp [go_sem,ir45,ndH,rV,qI,qV,wI,wV,rE,qE,wE,Nd.cells,nilS,mI,encFr,u8v,h1,hq,h3,hp,purse_eq,List.range_succ]
    case refine_9=>by_cases h1:n.raw=[]<;>simp [ndH,rV,qI,qV,wI,wV,rE,qE,wE,Nd.cells,nilS,mI,footL,rAt,lAt,wAt,h1,hq,h3,hil]
    case refine_10 =>
     intro i hi
     rcases (by omega:i=0∨i=1∨i=2∨i=3∨i=4∨i=5∨i=6∨7≤i) with q | q | q | q | q | q | q | q
     case inr.inr.inr.inr.inr.inr.inr=>exact refs_out (by by_cases h1:n.raw=[]<;>by_cases h3:n.row=[]<;>simp [rE,qE,wE,h1,hq,h3]<;>omega)
     all_goals (subst q;revert hi;by_cases h1:n.raw=[]<;>by_cases h3:n.row=[]<;>simp [refsAt,refsE,ndH,rV,qI,qV,wI,wV,rE,qE,wE,Nd.cells,nilS,mI,footL,h1,hq,h3,hil])
    all_goals (by_cases h1:n.raw=[]<;>by_cases h3:n.row=[]<;>simp [ndH,rV,qI,qV,wI,wV,rE,qE,wE,Nd.cells,nilS,mI,footL,rAt,lAt,wAt,h1,hq,h3,hil])
theorem put_atW {H:Heap} {a:Nat} {n:Nd} {fs:List Nat} {w:Nat} (h:NodeAtW H a n fs w) (hn:n.Ok) (f:Fr) :
  ∃ H2 fs2 w2,callK1 (call E) H (some (.func (.func 45) [] [],[])) (some ([.ptr a 0,.agg (encFr f)],[]))=some (.lit (.int .i64 (nputN n f).1),H2)∧NodeAtW H2 a (nputN n f).2 fs2 w2∧Around H H2 fs fs2∧RowKept n w H2 (nputN n f).2 fs2 w2∧QuietB H H2 fs fs2:=by
 obtain ⟨v,Hn,h1,gs,wx,rfl,h2,h3,h4,h5⟩:=call_back (c:=call E) h.at (.func (.func 45) [] []) [.agg (encFr f)] rfl (by simp [flatL,flatV,encFr,u8v]) (P:=fun v Hn=>∃ gs wx,v=.lit (.int .i64 (nputN n f).1)∧NodeAtW Hn 0 (nputN n f).2 gs wx∧mI n≤Hn.length∧RowKept n (wI n) Hn (nputN n f).2 gs wx∧Quiet Hn gs) (fun F=>by
  obtain ⟨Hn,gs,wx,e,q1,q2,q3,q4⟩:=nput_specW n F hn f
  exact ⟨_,_,e,gs,wx,rfl,q1,q2,q3,q4⟩)
 have hk:fs.length≤Hn.length:=by rw [nodeAt_fl h.at];exact h3
 have hn2:=at_backW h hk h2
 rw [glob_zero h.at] at hn2
 exact ⟨_,_,_,h1,hn2,around_back h.at hk gs,kept_back h hk h4,quiet_back (nodeAt_nodup h.at) (nodeAt_lt h.at) hk h5⟩
end Go.AM.R1
