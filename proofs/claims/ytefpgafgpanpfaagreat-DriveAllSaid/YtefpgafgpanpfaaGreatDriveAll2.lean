/- The law DriveAll of package magnetolaw22 returns true for every input, and its arguments read as before. -/
import Derived.Test.YtefpgafgpanpfaaGreatDriveAll1
set_option linter.unusedVariables false
set_option linter.unusedSimpArgs false
set_option maxHeartbeats 16000000
open List (range_succ getElem?_eq_getElem getD_eq_getElem?_getD mem_of_mem_take mem_of_mem_drop getElem?_append_left nodup_cons mem_cons mem_append length_append mem_map length_map map_append)
open Go Go.AM
namespace Go.AM.R1
theorem put_spec4 (n w:Nat) (hn:n<18446744073709551616) (hw:w<=64) (hw0:w≠0) (X:List Bool) (hX:X.length<=1000000) (lk:Bool) :
  call E (.func (.func 107) [] [.ptr 0 0,.ptr 1 0]) [.lit (.int .u64 n),.lit (.int .i64 w)] [.box [.lit (.int .i64 0)],.box [.own 2 X.length 1 0 X.length],.arr true lk false 1 (X.map encLv)]
   = some (.tup [],[.box [.lit (.int .i64 0)],.box [.own 2 (X++bitsOf w n).length 1 0 (X++bitsOf w n).length],.arr true lk false 1 ((X++bitsOf w n).map encLv)]):=by
 rw [c9f E E107]
 have hb:=bof_spec n w hn hw
 have hlen:=bitsOf_length w n
 have hr:=rowsLv (bitsOf w n)
 have hr2:=rowsLv X
 have hsz:¬ (70368744177664<(X.length+w) * 8):=by omega
 generalize bitsOf w n=B at *
 have hcw:cutE (B.map encLv) 0 w=B.map encLv:=cutE_whole (by simp [hlen])
 have hB0:B≠[]:=by intro q;rw [q] at hlen;simp at hlen;omega
 simp [go_sem,ir107,hb,hlen,hr,hr2,hsz,hcw,hw0,hB0,p9q,range_succ]
def bytesP (bs:List Nat):List Bool:=bs.flatMap fun c=>bitsOf 8 c
theorem bits_loop4 (cs:List AVal) (hcr:refsL cs=[]) (bs:List Nat) (hb:∀ c∈bs,c<256) (hb8:bs.length<=8) (hcs:∀ (i:Nat) (h:i<bs.length),cs[4+i]?=some (u8v bs[i])) (k:List Item) (R:List Bool->Option (AVal × Heap))
    (hk:∀ τ X,lk 6 τ=.ptr 3 0->lk 7 τ=.ptr 4 0->finK 0 [.tmp 2,.tmp 3] (run E 0 k τ [.box cs,.dead,.arr true false false 1 (X.map encLv),.box [.own 2 X.length 1 0 X.length],.box [.lit (.int .i64 0)]])=R X) :
    ∀ (d i:Nat) (X:List Bool),i+d=bs.length->X.length<=100+8 * i ->
   finK 0 [.tmp 2,.tmp 3] (run E 0 (.code L78_0::.inLoop [6,7,8,39,40,41] L78_0::.inBlock 0::k) [(6,.ptr 3 0),(7,.ptr 4 0),(8,.func (.func 107) [] [.ptr 4 0,.ptr 3 0]),(39,.asl 0 4 1 bs.length),(40,.lit (.int .i64 bs.length)),(41,.lit (.int .i64 i))] [.box cs,.dead,.arr true false false 1 (X.map encLv),.box [.own 2 X.length 1 0 X.length],.box [.lit (.int .i64 0)]])=R (X++bytesP (bs.drop i)):=by
  intro d
  induction d with
  | zero =>
    intro i X hi hX
    have:i=bs.length:=by omega
    subst this
    rw [List.drop_length,show bytesP []=[] from rfl,List.append_nil]
    simp [go_sem,r9c E L78_0.eq_1]
    exact hk _ X rfl rfl
  | succ d ih =>
    intro i X hi hX
    have hlt:i<bs.length:=by omega
    have w:=wrapIdx (i:=i) (by omega)
    have hlen:=bitsOf_length 8 bs[i]
    have hbi:=hb _ (List.getElem_mem hlt)
    have wu:IntKind.wrap .u64 (bs[i]:Int)=bs[i]:=wrap_u64 (by omega)
    rw [List.drop_eq_getElem_cons hlt,show bytesP (bs[i]::bs.drop (i+1))=bitsOf 8 bs[i]++bytesP (bs.drop (i+1)) from rfl,<- List.append_assoc]
    have ih2:=ih (i+1) (X++bitsOf 8 bs[i]) (by omega) (by rw [length_append,hlen];omega)
    have hP:=put_spec4 bs[i] 8 (by omega) (by omega) (by omega) X (by omega) false
    have hc:=hcs i hlt
    generalize R _=Q at ih2 ⊢
    generalize X++bitsOf 8 bs[i]=X2 at *
    generalize bs[i]=c at *
    simp only [u8v] at hc
    simp at ih2 w hP
    simp [go_sem,r9c E L78_0.eq_1,hlt,w,hcr,wu,hP,hc,p9q,range_succ]
    rw [r9l]
    simp [go_sem,hcr,p9q,range_succ]
    exact ih2
def bitsP (f:Fr):List Bool:=[false]++arbP f++bitsOf (if f.ext=true then 6 else 5) f.len.toNat++(if f.rtr=true then [] else bytesP (f.bytes.take f.len.toNat))
theorem arbP_length (f:Fr):(arbP f).length=if f.ext=true then 32 else 13:=by
 unfold arbP;split<;>simp [bitsOf_length]
theorem fbits_spec (f:Fr) (hf:f.Ok) (h:checkP f=0):call E (.func (.func 78) [] []) [.agg (encFr f)] []=some (.tup [.own 0 (bitsP f).length 1 0 (bitsP f).length,.lit (.int .i64 0)],[.arr true false false 1 ((bitsP f).map encLv)]):=by
 rw [c9f E E78]
 have hA:=farb_spec f h
 obtain ⟨c1,c2,c3,c4,c5,c6⟩:=checkP_ok h
 obtain ⟨n,hn⟩:=Int.eq_ofNat_of_zero_le c4
 have wn:IntKind.wrap .u64 (n:Int)=n:=wrap_u64 (by omega)
 have hal:=arbP_length f
 have hr:=rowsLv (arbP f)
 have hane:arbP f≠[]:=by intro q;rw [q] at hal;simp at hal;split at hal<;>omega
 have hsz:¬ (70368744177664<(1+(arbP f).length) * 8):=by rw [hal];split<;>omega
 have hsz2:¬ (70368744177664<((arbP f).length+1) * 8):=by rw [hal];split<;>omega
 have hP:=put_spec4 n (if f.ext=true then 6 else 5) (by omega) (by split<;>omega) (by split<;>omega) ([false]++arbP f) (by simp;rw [hal];split<;>omega) false
 have hbl:([false]++arbP f++bitsOf (if f.ext=true then 6 else 5) n).length<=100:=by simp [bitsOf_length,hal];split<;>omega
 have hcsl:∀ (bs:List Nat),bs=f.bytes.take n->∀ (i:Nat) (hi:i<bs.length),(encFr f)[4+i]?=some (u8v bs[i]):=by
  intro bs e i hi
  subst e
  have hi8:i<8:=by simp [Fr.bytes] at hi;omega
  rw [List.getElem_take]
  have:i=0∨i=1∨i=2∨i=3∨i=4∨i=5∨i=6∨i=7:=by omega
  rcases this with rfl | rfl | rfl | rfl | rfl | rfl | rfl | rfl<;>rfl
 have hcs:=hcsl _ rfl
 have hbt:(f.bytes.take n).length=n:=by simp [Fr.bytes];omega
 have e:bitsP f=[false]++arbP f++bitsOf (if f.ext=true then 6 else 5) n++(if f.rtr=true then [] else bytesP (f.bytes.take n)):=by unfold bitsP;rw [hn];rfl
 have hnl:n<=8:=by omega
 rw [e]
 have hloop:=fun k hk=>bits_loop4 (encFr f) rfl (f.bytes.take n) (fun c hc=>hf.byte c (mem_of_mem_take hc)) (by omega) hcs k (fun X=>some (.tup [.own 0 X.length 1 0 X.length,.lit (.int .i64 0)],[.arr true false false 1 (X.map encLv)])) hk n 0 ([false]++arbP f++bitsOf (if f.ext=true then 6 else 5) n) (by omega) (by omega)
 rw [hbt,List.drop_zero] at hloop
 clear hcs hcsl hbt
 generalize f.bytes.take n=bs at *
 have hr1:rowsOk 1 [[AVal.lit (.int .i64 0)]]=true:=rfl
 have hcm:1+(arbP f).length=(arbP f).length+1:=Nat.add_comm _ _
 cases hrt:f.rtr
 ·simp only [Bool.false_eq_true,if_false]
  cases hx:f.ext
  ·simp only [hx,Bool.false_eq_true,if_false,if_true] at hP hloop ⊢
   generalize hX:[false]++arbP f++bitsOf 5 n=X at *
   simp [encFr,u8v,hx,hrt,hn,encLv,hcm,show lv false=0 from rfl] at hA hP
   simp [go_sem,ir78,encFr,u8v,hA,hx,hrt,hn,wn,hr,hane,hsz,hsz2,hP,hnl,hr1,hcm,show IntKind.wrap .i64 5=5 from rfl,show IntKind.wrap .i64 6=6 from rfl,nilS,p9q,range_succ]
   rw [r9l]
   simp [go_sem,p9q,range_succ]
   simp [encFr,u8v,hx,hrt,hn] at hloop
   refine hloop _ ?_
   intro τ Y t6 t7
   simp [go_sem,t6,t7,p9q,range_succ]
  ·simp only [hx,Bool.false_eq_true,if_false,if_true] at hP hloop ⊢
   generalize hX:[false]++arbP f++bitsOf 6 n=X at *
   simp [encFr,u8v,hx,hrt,hn,encLv,hcm,show lv false=0 from rfl] at hA hP
   simp [go_sem,ir78,encFr,u8v,hA,hx,hrt,hn,wn,hr,hane,hsz,hsz2,hP,hnl,hr1,hcm,show IntKind.wrap .i64 5=5 from rfl,show IntKind.wrap .i64 6=6 from rfl,nilS,p9q,range_succ]
   rw [r9l]
   simp [go_sem,p9q,range_succ]
   simp [encFr,u8v,hx,hrt,hn] at hloop
   refine hloop _ ?_
   intro τ Y t6 t7
   simp [go_sem,t6,t7,p9q,range_succ]
 ·simp only [if_true,List.append_nil]
  cases hx:f.ext
  ·simp only [hx,Bool.false_eq_true,if_false,if_true] at hP hloop ⊢
   generalize hX:[false]++arbP f++bitsOf 5 n=X at *
   simp [encFr,u8v,hx,hrt,hn,encLv,hcm,show lv false=0 from rfl] at hA hP
   simp [go_sem,ir78,encFr,u8v,hA,hx,hrt,hn,wn,hr,hane,hsz,hsz2,hP,hnl,hr1,hcm,show IntKind.wrap .i64 5=5 from rfl,show IntKind.wrap .i64 6=6 from rfl,nilS,p9q,range_succ]
  ·simp only [hx,Bool.false_eq_true,if_false,if_true] at hP hloop ⊢
   generalize hX:[false]++arbP f++bitsOf 6 n=X at *
   simp [encFr,u8v,hx,hrt,hn,encLv,hcm,show lv false=0 from rfl] at hA hP
   simp [go_sem,ir78,encFr,u8v,hA,hx,hrt,hn,wn,hr,hane,hsz,hsz2,hP,hnl,hr1,hcm,show IntKind.wrap .i64 5=5 from rfl,show IntKind.wrap .i64 6=6 from rfl,nilS,p9q,range_succ]
theorem bytesP_length:∀ bs:List Nat,(bytesP bs).length=8 * bs.length
 | []=>rfl
 | c::bs=>by
  show (bitsOf 8 c++bytesP bs).length=_
  rw [length_append,bitsOf_length,bytesP_length bs,List.length_cons];omega
theorem bitsP_length (f:Fr):(bitsP f).length<=103/\19<=(bitsP f).length:=by
 unfold bitsP
 have h:(f.bytes.take f.len.toNat).length<=8:=by simp [Fr.bytes];omega
 have h2:=bytesP_length (f.bytes.take f.len.toNat)
 simp only [length_append,arbP_length,bitsOf_length,List.length_singleton]
 constructor
 ·split<;>split<;>simp<;>omega
 ·split<;>split<;>simp<;>omega
def allP (f:Fr):List Bool:=bitsP f++bitsOf 15 (c15L (bitsP f))++List.replicate 10 true
theorem fall_spec (f:Fr) (hf:f.Ok) (h:checkP f=0):call E (.func (.func 51) [] []) [.agg (encFr f)] []=some (.tup [.own 0 (allP f).length 1 0 (allP f).length,.lit (.int .i64 0)],[.arr true false false 1 ((allP f).map encLv)]):=by
 rw [c9f E E51]
 have hB:=fbits_spec f hf h
 obtain ⟨hl1,hl2⟩:=bitsP_length f
 have hS:=csum_spec (bitsP f) (by omega) false false
 have hBt:=cbits_spec (c15L (bitsP f)) (c15L_lt _)
 have hO:=ones10
 have hbl:=bitsOf_length 15 (c15L (bitsP f))
 have hne:bitsP f≠[]:=by intro q;rw [q] at hl2;simp at hl2
 have hne2:bitsOf 15 (c15L (bitsP f))≠[]:=by intro q;rw [q] at hbl;simp at hbl
 have hC:=concatL3 (bitsP f) (bitsOf 15 (c15L (bitsP f))) (List.replicate 10 true) hne hne2 (by simp) (by simp;omega) true false false false false false false
 unfold allP
 generalize bitsOf 15 (c15L (bitsP f))=S at *
 generalize c15L (bitsP f)=s at *
 generalize bitsP f=B at *
 have c15:cutE (S.map encLv) 0 15=S.map encLv:=cutE_whole (by simp [hbl])
 have hr:=List.map_replicate (f:=encLv) (n:=10) (a:=true)
 rw [hr] at hC
 rw [show encLv true=[.lit (.int .i64 1)] from rfl] at hC
 generalize hRR:List.replicate 10 [AVal.lit (.int .i64 1)]=RR at *
 have hRl:RR.length=10:=by rw [<- hRR];simp
 have c10:cutE RR 0 10=RR:=cutE_whole hRl
 simp [encFr,u8v,nilS] at hB
 simp [hbl,hRR] at hC
 simp [go_sem,ir51,encFr,u8v,hB,hS,hBt,hO,hC,hbl,c15,c10,hRl,nilS,p9q,range_succ]
theorem zero_ok:Fr.zero.Ok:=⟨by simp [Fr.zero],by simp [Fr.zero],by simp [Fr.zero],by simp [Fr.zero],by simp [Fr.zero,Fr.bytes]⟩

def encScr (node first:Int) (l:List Run) (nl fu:Bool):List AVal:=[.lit (.int .i64 node),.lit (.int .i64 first),.imm nl fu true (l.map encRun)]
def okR (r:Run):Bool:=decide (1<=r.N) && decide (r.N<=1073741824) && (decide (0<=r.Bus) && decide (r.Bus<=1))
def okP (node first:Int):Bool:=decide (0<=node) && decide (node<=31) && (decide (0<=first) && decide (first<=1073741824))
def chkS (node first:Int) (l:List Run):Int:=if okP node first=true/\l.all okR=true then (if 1073741824<sumN l then 12 else 0) else 10
theorem okR_N {r:Run} (h:okR r=true):(1<=r.N/\r.N<=1073741824)/\(0<=r.Bus/\r.Bus<=1):=by
 simp [okR] at h;omega
theorem fits_spec (n lo hi:Int):call E (.func (.func 63) [] []) [.lit (.int .i64 n),.lit (.int .i64 lo),.lit (.int .i64 hi)] []=some (.lit (.bool (decide (lo<=n) && decide (n<=hi))),[]):=by
 rw [c9f E E63]
 by_cases h:lo<=n<;>simp [go_sem,ir63,h]
theorem place_spec (node first:Int):call E (.func (.func 91) [] []) [.lit (.int .i64 node),.lit (.int .i64 first)] []=some (.lit (.bool (okP node first)),[]):=by
 rw [c9f E E91]
 have h1:=fits_spec node 0 31
 have h2:=fits_spec first 0 1073741824
 unfold okP
 generalize (decide (0<=node) && decide (node<=31))=a at *
 generalize (decide (0<=first) && decide (first<=1073741824))=b at *
 cases a<;>simp [go_sem,ir91,h1,h2]
theorem wrongR_spec (r:Run):call E (.func (.func 94) [] []) [.agg (encRun r)] []=some (.lit (.bool (!okR r)),[]):=by
 rw [c9f E E94]
 have h1:=fits_spec r.N 1 1073741824
 have h2:=fits_spec r.Bus 0 1
 unfold okR
 generalize (decide (1<=r.N) && decide (r.N<=1073741824))=a at *
 generalize (decide (0<=r.Bus) && decide (r.Bus<=1))=b at *
 cases a<;>simp [go_sem,ir94,encRun,h1,h2]
def findI {α:Type} (p:α->Bool):Nat->List α->Int
 | _,[]=>-1
 | i,r::l=>if p r=true then (i:Int) else findI p (i+1) l
theorem findI_ge {α:Type} (p:α->Bool):∀ (l:List α) (i:Nat),(decide ((0:Int)<=findI p i l))=l.any p
 | [],i=>by simp [findI]
 | r::l,i=>by
  rw [findI,List.any_cons]
  cases hp:p r with
  | true=>simp
  | false=>simp [findI_ge p l]
theorem idxF_loop (id:Nat) (p:Run->Bool) (l:List Run) (hl:l.length<=1099511627775) (hp:∀ r:Run,call E (.func (.func id) [] []) [.agg (encRun r)] []=some (.lit (.bool (p r)),[])) (nl fu:Bool) :
    ∀ (d i:Nat),i+d=l.length ->
   finK 0 [.tmp 4] (run E 0 (.code L120_0::.inLoop [0,1,7,8] L120_0::.inBlock 0::[.code (.seq (.reg [⟨none,some 4,.copy (.c (.lit (.int .i64 (-1))))⟩] [] []) .ret)])
     [(0,.imm nl fu true (l.map encRun)),(1,.func (.func id) [] []),(7,.lit (.int .i64 l.length)),(8,.lit (.int .i64 i))] [])=some (.lit (.int .i64 (findI p i (l.drop i))),[]):=by
  intro d
  induction d with
  | zero =>
    intro i hi
    have:i=l.length:=by omega
    subst this
    simp [go_sem,r9c E L120_0.eq_1,findI]
  | succ d ih =>
    intro i hi
    have hlt:i<l.length:=by omega
    have w2:=wrapIdx (i:=i) (by omega)
    have hs:=hp l[i]
    simp only [encRun] at hs
    rw [List.drop_eq_getElem_cons hlt,findI]
    cases hrt:p l[i] with
    | true=>simp [go_sem,r9c E L120_0.eq_1,hlt,getElem?_eq_getElem hlt,encRun,hs,hrt]
    | false =>
      simp [go_sem,r9c E L120_0.eq_1,hlt,getElem?_eq_getElem hlt,encRun,hs,hrt,w2]
      rw [r9l]
      simp [go_sem,p9q]
      exact ih (i+1) (by omega)
theorem idxF_spec (id:Nat) (p:Run->Bool) (l:List Run) (hl:l.length<=1099511627775) (hp:∀ r:Run,call E (.func (.func id) [] []) [.agg (encRun r)] []=some (.lit (.bool (p r)),[])) (nl fu:Bool) :
  call E (.func (.func 120) [] []) [.imm nl fu true (l.map encRun),.func (.func id) [] []] []=some (.lit (.int .i64 (findI p 0 l)),[]):=by
 rw [c9f E E120]
 simp [go_sem,ir120]
 rw [r9l]
 simp [go_sem,p9q]
 have:=idxF_loop id p l hl hp nl fu l.length 0 (by omega)
 simpa using this
theorem contF_spec (id:Nat) (p:Run->Bool) (l:List Run) (hl:l.length<=1099511627775) (hp:∀ r:Run,call E (.func (.func id) [] []) [.agg (encRun r)] []=some (.lit (.bool (p r)),[])) (nl fu:Bool) :
  call E (.func (.func 95) [] []) [.imm nl fu true (l.map encRun),.func (.func id) [] []] []=some (.lit (.bool (l.any p)),[]):=by
 rw [c9f E E95]
 have:=idxF_spec id p l hl hp nl fu
 have h2:=findI_ge p l 0
 simp [go_sem,ir95,this,h2]
theorem scheck_loop (l:List Run) (hl:l.length<=1048576) (hN:∀ r∈l,1<=r.N/\r.N<=1073741824) (nl fu:Bool) (k:List Item) (R:Int->Option (AVal × Heap))
    (hk:∀ τ,finK 0 [.tmp 2] (run E 0 k τ [])=R 0) (hn:R 12=some (.lit (.int .i64 12),[])) :
    ∀ (d i:Nat) (left:Int),i+d=l.length->0<=left->left<=1073741824 ->
   finK 0 [.tmp 2] (run E 0 (.code L65_0::.inLoop [4,20,21,22] L65_0::.inBlock 0::k) [(4,.lit (.int .i64 left)),(20,.imm nl fu true (l.map encRun)),(21,.lit (.int .i64 l.length)),(22,.lit (.int .i64 i))] [])=R (if left<sumN (l.drop i) then 12 else 0):=by
  intro d
  induction d with
  | zero =>
    intro i left hi h0 h1
    have:i=l.length:=by omega
    subst this
    simp [go_sem,r9c E L65_0.eq_1,sumN,Int.not_lt.2 h0]
    exact hk _
  | succ d ih =>
    intro i left hi h0 h1
    have hlt:i<l.length:=by omega
    have w2:=wrapIdx (i:=i) (by omega)
    have hn':=hN _ (List.getElem_mem hlt)
    rw [List.drop_eq_getElem_cons hlt,sumN]
    have hs:0<=sumN (l.drop (i+1)):=by
      have:∀ m:List Run,(∀ r∈m,1<=r.N/\r.N<=1073741824)->0<=sumN m:=by
        intro m;induction m with
        | nil=>intro _;simp [sumN]
        | cons x xs ih=>intro h;have:=h x (by simp);have:=ih fun r hr=>h r (by simp [hr]);simp only [sumN];omega
      exact this _ fun r hr=>hN r (mem_of_mem_drop hr)
    by_cases hq:left<l[i].N
    · rw [if_pos (by omega),hn]
      simp [go_sem,r9c E L65_0.eq_1,hlt,getElem?_eq_getElem hlt,encRun,hq]
    · have w1:IntKind.wrap .i64 (left - l[i].N)=left - l[i].N:=wrap64 (by omega) (by omega)
      simp [go_sem,r9c E L65_0.eq_1,hlt,getElem?_eq_getElem hlt,encRun,hq,w1,w2]
      rw [r9l]
      simp [go_sem,p9q]
      have:=ih (i+1) (left - l[i].N) (by omega) (by omega) (by omega)
      simp only [Int.natCast_add,Int.natCast_one] at this
      rw [this]
      congr 1
      split<;>split<;>first | rfl | omega
theorem any_not {α:Type} (p:α->Bool) (l:List α):(l.any fun x=>!p x)=!(l.all p):=by
 induction l with
 | nil=>rfl
 | cons x r ih=>simp [List.any_cons,List.all_cons,ih,Bool.not_and]
theorem scheck_spec (node first:Int) (l:List Run) (hl:l.length<=1048576) (nl fu:Bool) :
  call E (.func (.func 65) [] []) [.agg (encScr node first l nl fu)] []=some (.lit (.int .i64 (chkS node first l)),[]):=by
 rw [c9f E E65]
 have hP:=place_spec node first
 have hC:=contF_spec 94 (fun r=>!okR r) l (by omega) wrongR_spec nl fu
 rw [any_not] at hC
 unfold chkS
 cases ho:okP node first with
 | false=>simp [go_sem,ir65,encScr,hP,ho]
 | true =>
  cases ha:l.all okR with
  | false =>
   rw [ha] at hC
   simp [go_sem,ir65,encScr,hP,ho,hC]
  | true =>
   rw [ha] at hC
   have hN:∀ r∈l,1<=r.N/\r.N<=1073741824:=fun r hr=>(okR_N (List.all_eq_true.1 ha r hr)).1
   simp [go_sem,ir65,encScr,hP,ho,hC]
   rw [r9l]
   simp [go_sem,p9q]
   have:=scheck_loop l hl hN nl fu [.code (.seq (.reg [⟨none,some 2,.copy (.c (.lit (.int .i64 0)))⟩] [] []) .ret)] (fun n=>some (.lit (.int .i64 n),[])) ?_ rfl l.length 0 1073741824 (by omega) (by omega) (by omega)
   ·simpa using this
   ·intro τ;simp [go_sem]

theorem okN_of_chk {node first:Int} {l:List Run} (h:chkS node first l=0):(0<=node/\node<=31)/\(0<=first/\first<=1073741824)/\(∀ r∈l,(1<=r.N/\r.N<=1073741824)/\(0<=r.Bus/\r.Bus<=1))/\sumN l<=1073741824:=by
 unfold chkS at h
 split at h
 ·rename_i h1
  have hp:=h1.1
  simp [okP] at hp
  refine ⟨by omega,by omega,fun r hr=>okR_N (List.all_eq_true.1 h1.2 r hr),?_⟩
  split at h
  ·omega
  ·omega
 ·omega
def busAt:Int->List Run->Int
 | _,[]=>1
 | t,r::l=>if t<r.N then r.Bus else busAt (t - r.N) l
def atS (node first:Int) (l:List Run) (tick:Int):Int:=if chkS node first l≠0∨tick<first then 1 else busAt (tick - first) l
def endsS (node first:Int) (l:List Run):Int:=if chkS node first l≠0 then 0 else first+sumN l
theorem sat_loop (l:List Run) (hl:l.length<=1048576) (hN:∀ r∈l,1<=r.N/\r.N<=1073741824) (nl fu:Bool) :
    ∀ (d i:Nat) (t:Int),i+d=l.length->0<=t->t<=9223372036854775807 ->
   finK 0 [.tmp 4] (run E 0 (.code L39_0::.inLoop [1,21,22,23] L39_0::.inBlock 0::[.code (.seq (.reg [⟨none,some 4,.copy (.c (.lit (.int .i64 1)))⟩] [] []) .ret)]) [(1,.lit (.int .i64 t)),(21,.imm nl fu true (l.map encRun)),(22,.lit (.int .i64 l.length)),(23,.lit (.int .i64 i))] [])=some (.lit (.int .i64 (busAt t (l.drop i))),[]):=by
  intro d
  induction d with
  | zero =>
    intro i t hi h0 h1
    have:i=l.length:=by omega
    subst this
    simp [go_sem,r9c E L39_0.eq_1,busAt]
  | succ d ih =>
    intro i t hi h0 h1
    have hlt:i<l.length:=by omega
    have w2:=wrapIdx (i:=i) (by omega)
    have hn':=hN _ (List.getElem_mem hlt)
    rw [List.drop_eq_getElem_cons hlt,busAt]
    by_cases hq:t<l[i].N
    · simp [go_sem,r9c E L39_0.eq_1,hlt,getElem?_eq_getElem hlt,encRun,hq]
    · have w1:IntKind.wrap .i64 (t - l[i].N)=t - l[i].N:=wrap64 (by omega) (by omega)
      simp [go_sem,r9c E L39_0.eq_1,hlt,getElem?_eq_getElem hlt,encRun,hq,w1,w2]
      rw [r9l]
      simp [go_sem,p9q]
      exact ih (i+1) (t - l[i].N) (by omega) (by omega) (by omega)
theorem sat_spec (node first:Int) (l:List Run) (hl:l.length<=1048576) (nl fu:Bool) (tick:Int) (ht:-9223372036854775808<=tick/\tick<=9223372036854775807) :
  call E (.func (.func 39) [] []) [.agg (encScr node first l nl fu),.lit (.int .i64 tick)] []=some (.lit (.int .i64 (atS node first l tick)),[]):=by
 rw [c9f E E39]
 have hC:=scheck_spec node first l hl nl fu
 simp only [encScr] at hC
 unfold atS
 by_cases hc:chkS node first l=0
 ·obtain ⟨h1,h2,h3,h4⟩:=okN_of_chk hc
  by_cases hq:tick<first
  ·simp [go_sem,ir39,encScr,hC,hc,hq]
  ·have w1:IntKind.wrap .i64 (tick - first)=tick - first:=wrap64 (by omega) (by omega)
   simp [go_sem,ir39,encScr,hC,hc,hq,w1]
   rw [r9l]
   simp [go_sem,p9q]
   have:=sat_loop l hl (fun r hr=>(h3 r hr).1) nl fu l.length 0 (tick - first) (by omega) (by omega) (by omega)
   simpa using this
 ·simp [go_sem,ir39,encScr,hC,hc]
theorem sends_loop (l:List Run) (hl:l.length<=1048576) (hN:∀ r∈l,1<=r.N/\r.N<=1073741824) (nl fu:Bool) :
    ∀ (d i:Nat) (n:Int),i+d=l.length->0<=n->n<=1073741824 * (i+1) ->
   finK 0 [.tmp 2] (run E 0 (.code L38_0::.inLoop [3,12,13,14] L38_0::.inBlock 0::[.code (.seq (.reg [⟨none,some 23,.copy (.t 3)⟩,⟨none,some 2,.copy (.t 23)⟩] [] []) .ret)]) [(3,.lit (.int .i64 n)),(12,.imm nl fu true (l.map encRun)),(13,.lit (.int .i64 l.length)),(14,.lit (.int .i64 i))] [])=some (.lit (.int .i64 (n+sumN (l.drop i))),[]):=by
  intro d
  induction d with
  | zero =>
    intro i n hi h0 h1
    have:i=l.length:=by omega
    subst this
    simp [go_sem,r9c E L38_0.eq_1,sumN]
  | succ d ih =>
    intro i n hi h0 h1
    have hlt:i<l.length:=by omega
    have w2:=wrapIdx (i:=i) (by omega)
    have hn':=hN _ (List.getElem_mem hlt)
    have w1:IntKind.wrap .i64 (n+l[i].N)=n+l[i].N:=wrap64 (by omega) (by omega)
    rw [List.drop_eq_getElem_cons hlt,sumN]
    simp [go_sem,r9c E L38_0.eq_1,hlt,getElem?_eq_getElem hlt,encRun,w1,w2]
    rw [r9l]
    simp [go_sem,p9q]
    have:=ih (i+1) (n+l[i].N) (by omega) (by omega) (by omega)
    simp only [Int.natCast_add,Int.natCast_one] at this
    rw [this,Int.add_assoc]
theorem sends_spec (node first:Int) (l:List Run) (hl:l.length<=1048576) (nl fu:Bool) :
  call E (.func (.func 38) [] []) [.agg (encScr node first l nl fu)] []=some (.lit (.int .i64 (endsS node first l)),[]):=by
 rw [c9f E E38]
 have hC:=scheck_spec node first l hl nl fu
 simp only [encScr] at hC
 unfold endsS
 by_cases hc:chkS node first l=0
 ·obtain ⟨h1,h2,h3,h4⟩:=okN_of_chk hc
  simp [go_sem,ir38,encScr,hC,hc]
  rw [r9l]
  simp [go_sem,p9q]
  have:=sends_loop l hl (fun r hr=>(h3 r hr).1) nl fu l.length 0 first (by omega) (by omega) (by omega)
  simpa using this
 ·simp [go_sem,ir38,encScr,hC,hc]


def pushL (out:List Run) (x:Int):List Run :=
 match out.getLast? with
 | none=>[⟨1,x,0⟩]
 | some r=>if r.Bus=x then out.dropLast++[⟨r.N+1,r.Bus,r.Drive⟩] else out++[⟨1,x,0⟩]
theorem pushL_nil (x:Int):pushL [] x=[⟨1,x,0⟩]:=rfl
theorem pushL_snoc (o:List Run) (r:Run) (x:Int):pushL (o++[r]) x=if r.Bus=x then o++[⟨r.N+1,r.Bus,r.Drive⟩] else o++[r,⟨1,x,0⟩]:=by
 simp [pushL]
def rowsA:List Run->List Int->List Run:=List.foldl pushL
theorem rows_loop (l:List Int) (hl:l.length<=1048576) (nl fu:Bool) (k:List Item) (R:List Run->Option (AVal × Heap))
    (hk:∀ (out:List Run) τ,lk 3 τ=resV 1 (out.map encRun)->finK 0 [.tmp 2] (run E 0 k τ (resH [.dead] (out.map encRun)))=R out) :
    ∀ (d i:Nat) (out:List Run),i+d=l.length->out.length<=i->(∀ x∈out,1<=x.N/\x.N<=i) ->
   finK 0 [.tmp 2] (run E 0 (.code L64_0::.inLoop [3,7,8,9] L64_0::.inBlock 0::k)
     [(3,resV 1 (out.map encRun)),(7,.imm nl fu true (l.map encI)),(8,.lit (.int .i64 l.length)),(9,.lit (.int .i64 i))]
     (resH [.dead] (out.map encRun)))
   = R (rowsA out (l.drop i)):=by
  intro d
  induction d with
  | zero =>
    intro i out hi h4 h5
    have:i=l.length:=by omega
    subst this
    simp [go_sem,r9c E L64_0.eq_1,rowsA]
    exact hk out _ rfl
  | succ d ih =>
    intro i out hi h4 h5
    have hlt:i<l.length:=by omega
    have w2:=wrapIdx (i:=i) (by omega)
    rw [List.drop_eq_getElem_cons hlt,rowsA,List.foldl_cons]
    rcases snoc_cases out with rfl | ⟨o,x,rfl⟩
    · have ih2:=ih (i+1) (pushL [] l[i]) (by omega) (by simp [pushL]) (by
        intro y hy;simp [pushL_nil] at hy;subst hy;simp;omega)
      rw [rowsA] at ih2
      generalize R _=Q at ih2 ⊢
      rw [pushL_nil] at ih2
      simp [resV,resH,encRun,nilS] at ih2
      simp [go_sem,r9c E L64_0.eq_1,hlt,getElem?_eq_getElem hlt,encRun,encI,w2,resV,resH,p9q,nilS]
      rw [r9l]
      simp [go_sem,p9q]
      simpa [encI] using ih2
    · have hx:=h5 x (by simp)
      simp at h4
      have ih2:=ih (i+1) (pushL (o++[x]) l[i]) (by omega) (by
        rw [pushL_snoc];split<;>simp<;>omega) (by
        intro y hy
        rw [pushL_snoc] at hy
        split at hy
        · simp at hy
          rcases hy with hy | rfl
          · have:=h5 y (by simp [hy]);omega
          · simp;omega
        · simp at hy
          rcases hy with hy | rfl | rfl
          · have:=h5 y (by simp [hy]);omega
          · omega
          · simp;omega)
      rw [rowsA] at ih2
      generalize R _=Q at ih2 ⊢
      have wl:IntKind.wrap .i64 (o.length:Int)=o.length:=wrap64 (by omega) (by omega)
      have wl1:IntKind.wrap .i64 ((o.length:Int)+1 - 1)=o.length:=by rw [show (o.length:Int)+1 - 1=o.length by omega];exact wl
      have wx:IntKind.wrap .i64 (x.N+1)=x.N+1:=wrap64 (by omega) (by omega)
      have hg:=get_snoc (o:=o) (x:=x)
      simp only [encRun] at hg
      have hb:¬ ((o.length+1+1) * 24 > 70368744177664):=by omega
      rw [pushL_snoc] at ih2
      by_cases ha:x.Bus=l[i]
      · rw [if_pos ha] at ih2
        simp [resV,resH,encRun] at ih2
        simp [go_sem,r9c E L64_0.eq_1,hlt,getElem?_eq_getElem hlt,encRun,encI,w2,wl,wl1,wx,resV,resH,p9q,hg,ha,set_snoc]
        rw [r9l]
        simp [go_sem,p9q]
        simpa [encI,ha] using ih2
      · rw [if_neg ha] at ih2
        simp [resV,resH,encRun] at ih2
        simp [go_sem,r9c E L64_0.eq_1,hlt,getElem?_eq_getElem hlt,encRun,encI,w2,wl,wl1,wx,resV,resH,p9q,hg,ha,hb]
        rw [r9l]
        simp [go_sem,p9q]
        simpa [encI] using ih2
theorem rows_spec (l:List Int) (hl:l.length<=1048576) (nl fu:Bool) :
  call E (.func (.func 64) [] []) [.imm nl fu true (l.map encI)] []=some (resV 0 ((rowsA [] l).map encRun),resH [] ((rowsA [] l).map encRun)):=by
 rw [c9f E E64]
 simp [go_sem,ir64,p9q]
 rw [r9l]
 simp [go_sem,p9q]
 have h:=rows_loop l hl nl fu [.code (.seq (.reg [⟨none,some 42,.copy (.t 3)⟩,⟨none,some 2,.copy (.t 42)⟩] [] []) .ret)] (fun out=>some (resV 0 (out.map encRun),resH [] (out.map encRun))) ?_ l.length 0 [] (by omega) (by simp) (by simp)
 ·simpa [resV,resH,nilS] using h
 ·intro out τ h
  cases out with
  | nil=>simp [go_sem,h,resV,resH,nilS]
  | cons x xs=>simp [go_sem,h,resV,resH,p9q]
def nodeE (l:List Run) (node:Int):Int:=if chk l≠0 then chk l else if node<0∨32<=node then 10 else if 1048576<sumN l then 12 else 0
def nodeLs (l:List Run) (node:Int):List Int:=(expand l).map (nodeLv node)
theorem nodeV_eq (l:List Run) (node:Int):nodeV l node=if nodeE l node≠0 then .tup [nilS,.lit (.int .i64 (nodeE l node))] else .tup [.own 0 (nodeLs l node).length 1 0 (nodeLs l node).length,.lit (.int .i64 0)]:=by
 unfold nodeV nodeE nodeLs levelsV
 by_cases h:chk l=0
 ·by_cases h1:node<0∨32<=node
  ·simp [h,h1]
  ·by_cases h2:1048576<sumN l<;>simp [h,h1,h2]
 ·simp [h]
theorem nodeHp_eq (l:List Run) (node:Int):nodeHp l node=if nodeE l node≠0 then [] else [.arr true false false 1 ((nodeLs l node).map encI)]:=by
 unfold nodeHp nodeE nodeLs levelsH
 by_cases h:chk l=0
 ·by_cases h1:node<0∨32<=node
  ·simp [h,h1]
  ·by_cases h2:1048576<sumN l
   ·simp [h,h1,h2]
   ·simp [h,h1,h2]
 ·simp [h]
theorem nodeLs_len {l:List Run} {node:Int} (h:nodeE l node=0):(nodeLs l node).length<=1048576:=by
 unfold nodeE at h
 split at h
 ·rename_i h1;exact absurd h h1
 ·rename_i h1
  split at h
  ·omega
  ·split at h
   ·omega
   ·rename_i h3
    obtain ⟨hN,h0,h1'⟩:=chk_right (l:=l) (by simpa using h1)
    unfold nodeLs
    rw [length_map]
    have:=expand_length l (fun r hr=>by have:=hN r hr;omega)
    omega
def dofE (l:List Run) (node first:Int):Int:=if nodeE l node≠0 then nodeE l node else if first<0∨(nodeLs l node).length<first then 10 else 0
def dofR (l:List Run) (node first:Int):List Run:=rowsA [] ((nodeLs l node).drop first.toNat)
theorem dof_spec (l:List Run) (hdr:∀ r∈l,0<=r.Drive/\r.Drive<=4294967295) (hl:l.length<=1048576) (hl2:∀ r∈l,r.Ok) (nl fu:Bool) (node first:Int) (h:dofE l node first=0) :
  call E (.func (.func 37) [] []) [.imm nl fu true (l.map encRun),.lit (.int .i64 node),.lit (.int .i64 first)] []=some (.tup [.agg [.lit (.int .i64 node),.lit (.int .i64 first),resV 0 ((dofR l node first).map encRun)],.lit (.int .i64 0)],resH [] ((dofR l node first).map encRun)):=by
 rw [c9f E E37]
 have hN:=node_spec node l hdr hl hl2 nl fu
 rw [nodeV_eq,nodeHp_eq] at hN
 unfold dofE at h
 by_cases h1:nodeE l node=0
 ·simp only [h1,ne_eq,not_true_eq_false,if_false,if_true] at h hN ⊢
  have hlen:=nodeLs_len h1
  have hF:=fits_spec first 0 ((nodeLs l node).length:Int)
  by_cases h2:first<0∨(nodeLs l node).length<first
  ·rw [if_pos h2] at h;cases h
  ·have hb:(decide (0<=first) && decide (first<=((nodeLs l node).length:Int)))=true:=by
    simp;omega
   rw [hb] at hF
   have hR:=rows_spec ((nodeLs l node).drop first.toNat) (by simp;omega) false false
   have hR2:=rows_spec ((nodeLs l node).drop first.toNat) (by simp;omega) false true
   unfold dofR
   have hce:cutE ((nodeLs l node).map encI) first.toNat ((nodeLs l node).length - first.toNat)=((nodeLs l node).drop first.toNat).map encI:=by
    unfold cutE
    rw [List.take_of_length_le (by simp;omega),List.map_drop]
   have hi0:0<=first:=by omega
   have hi1:first.toNat<=(nodeLs l node).length:=by omega
   generalize nodeLs l node=L at *
   generalize rowsA [] (L.drop first.toNat)=Q at *
   generalize hfj:first.toNat=j at *
   cases Q with
   | nil =>
    simp [resV,resH,nilS] at hR hR2
    simp [go_sem,ir37,hN,hF,nilS,encScr,p9q,hi0,hi1,hfj,hce,hR,hR2,resV,resH]
   | cons x xs =>
    simp [resV,resH] at hR hR2
    simp [go_sem,ir37,hN,hF,nilS,encScr,p9q,hi0,hi1,hfj,hce,hR,hR2,resV,resH]
 ·simp only [h1,ne_eq,not_false_eq_true,if_true] at h
theorem sumN_app:∀ (a b:List Run),sumN (a++b)=sumN a+sumN b
 | [],b=>by simp [sumN]
 | r::a,b=>by simp only [List.cons_append,sumN,sumN_app a b];omega
theorem sumN_ge:∀ (l:List Run),(∀ r∈l,1<=r.N)->(l.length:Int)<=sumN l
 | [],_=>by simp [sumN]
 | r::l,h=>by
  have h1:=h r (by simp)
  have h2:=sumN_ge l (fun x hx=>h x (by simp [hx]))
  simp only [sumN,List.length_cons];omega
theorem busAt_append:∀ (o m:List Run) (t:Int),(∀ r∈o,1<=r.N)->0<=t->busAt t (o++m)=if t<sumN o then busAt t o else busAt (t - sumN o) m
 | [],m,t,_,h0=>by
  rw [show sumN []=0 from rfl,if_neg (by omega),Int.sub_zero];rfl
 | r :: o,m,t,hp,h0=>by
  have h1:=hp r (by simp)
  have h2:=sumN_ge o (fun x hx=>hp x (by simp [hx]))
  show (if t<r.N then r.Bus else busAt (t - r.N) (o++m))=if t<r.N+sumN o then (if t<r.N then r.Bus else busAt (t - r.N) o) else busAt (t - (r.N+sumN o)) m
  by_cases h:t<r.N
  ·rw [if_pos h,if_pos (by omega),if_pos h]
  ·rw [if_neg h,busAt_append o m (t - r.N) (fun x hx=>hp x (by simp [hx])) (by omega)]
   by_cases h3:t - r.N<sumN o
   ·rw [if_pos h3,if_pos (by omega),if_neg h]
   ·rw [if_neg h3,if_neg (by omega)]
    congr 1;omega
structure RowF (l:List Int) (R:List Run):Prop where
 sum:sumN R=l.length
 at_:∀ (i:Nat) (h:i<l.length),busAt i R=l[i]
 beyond:∀ t:Int,l.length<=t->busAt t R=1
 pos:∀ r∈R,1<=r.N
 bus:∀ r∈R,r.Bus=0∨r.Bus=1
 adj:∀ (i:Nat) (a b:Run),R[i]?=some a->R[i+1]?=some b->b.Bus≠a.Bus
theorem rowF_nil:RowF [] []:=⟨rfl,fun i h=>by simp at h,fun t _=>rfl,by simp,by simp,fun i a b h=>by simp at h⟩
theorem rowF_new {l:List Int} {R:List Run} (h:RowF l R) (x:Int) (hx:x=0∨x=1) (hl:∀ a,R.getLast?=some a->a.Bus≠x):RowF (l++[x]) (R++[⟨1,x,0⟩]):=by
 obtain ⟨h1,h2,h3,h4,h5,h6⟩:=h
 refine ⟨?_,?_,?_,?_,?_,?_⟩
 ·rw [sumN_app,h1];simp [sumN]
 ·intro i hi
  rw [busAt_append _ _ _ h4 (by omega),h1]
  by_cases h:i<l.length
  ·rw [if_pos (by omega),h2 i h,List.getElem_append_left h]
  ·have e:i=l.length:=by simp at hi;omega
   subst e
   rw [if_neg (by omega)]
   simp [busAt]
 ·intro t ht
  simp only [length_append,List.length_singleton] at ht
  rw [busAt_append _ _ _ h4 (by omega),h1,if_neg (by omega)]
  simp only [busAt]
  rw [if_neg (by omega)]
 ·intro r hr
  rcases mem_append.1 hr with q | q
  ·exact h4 r q
  ·simp at q;subst q;simp
 ·intro r hr
  rcases mem_append.1 hr with q | q
  ·exact h5 r q
  ·simp at q;subst q;exact hx
 ·intro i a b ha hb
  rcases Nat.lt_trichotomy (i+1) R.length with q | q | q
  ·rw [getElem?_append_left (by omega)] at ha hb
   exact h6 i a b ha hb
  ·rw [getElem?_append_left (by omega)] at ha
   rw [List.getElem?_append_right (by omega),q] at hb
   simp at hb
   subst hb
   have:=hl a (by rw [List.getLast?_eq_getElem?,<- ha];congr 1;omega)
   exact fun e=>this e.symm
  ·rw [List.getElem?_append_right (by omega)] at hb
   have:i+1 - R.length≠0:=by omega
   cases hq:i+1 - R.length with
   | zero=>omega
   | succ n=>rw [hq] at hb;simp at hb
theorem rowF_more {l:List Int} {o:List Run} {r:Run} (h:RowF l (o++[r])):RowF (l++[r.Bus]) (o++[⟨r.N+1,r.Bus,r.Drive⟩]):=by
 obtain ⟨h1,h2,h3,h4,h5,h6⟩:=h
 have hpo:∀ x∈o,1<=x.N:=fun x hx=>h4 x (by simp [hx])
 have hr:=h4 r (by simp)
 have hso:sumN o+r.N=l.length:=by rw [sumN_app] at h1;simpa [sumN] using h1
 have hsg:=sumN_ge o hpo
 refine ⟨?_,?_,?_,?_,?_,?_⟩
 ·rw [sumN_app];simp [sumN];omega
 ·intro i hi
  rw [busAt_append _ _ _ hpo (by omega)]
  by_cases h:i<l.length
  ·have:=h2 i h
   rw [busAt_append _ _ _ hpo (by omega)] at this
   rw [List.getElem_append_left h,<- this]
   split
   ·rfl
   ·simp only [busAt];rw [if_pos (by omega),if_pos (by omega)]
  ·have e:i=l.length:=by simp at hi;omega
   subst e
   rw [if_neg (by omega)]
   simp only [busAt];rw [if_pos (by omega)];simp
 ·intro t ht
  simp only [length_append,List.length_singleton] at ht
  rw [busAt_append _ _ _ hpo (by omega),if_neg (by omega)]
  simp only [busAt]
  rw [if_neg (by omega)]
 ·intro x hx
  rcases mem_append.1 hx with q | q
  ·exact hpo x q
  ·simp at q;subst q;show 1<=r.N+1;omega
 ·intro x hx
  rcases mem_append.1 hx with q | q
  ·exact h5 x (by simp [q])
  ·simp at q;subst q;exact h5 r (by simp)
 ·intro i a b ha hb
  have hcon:∀ (j:Nat) (a:Run),(o++[⟨r.N+1,r.Bus,r.Drive⟩])[j]?=some a->∃ a',(o++[r])[j]?=some a'/\a'.Bus=a.Bus:=by
   intro j a ha
   rcases Nat.lt_or_ge j o.length with q | q
   ·rw [getElem?_append_left q] at ha ⊢;exact ⟨a,ha,rfl⟩
   ·rw [List.getElem?_append_right q] at ha ⊢
    cases hq:j - o.length with
    | zero=>rw [hq] at ha;simp at ha;exact ⟨r,rfl,by rw [<- ha]⟩
    | succ n=>rw [hq] at ha;simp at ha
  obtain ⟨a',ha',e1⟩:=hcon i a ha
  obtain ⟨b',hb',e2⟩:=hcon (i+1) b hb
  rw [<- e1,<- e2]
  exact h6 i a' b' ha' hb'
theorem rowF_push {l:List Int} {R:List Run} (ih:RowF l R) (x:Int) (hx:x=0∨x=1):RowF (l++[x]) (pushL R x):=by
 rcases List.eq_nil_or_concat R with q | ⟨o,r,q⟩
 ·rw [q] at ih ⊢
  rw [pushL_nil]
  exact rowF_new ih x hx (by simp)
 ·rw [List.concat_eq_append] at q
  rw [q] at ih ⊢
  rw [pushL_snoc]
  split
  ·rename_i hb;subst hb;exact rowF_more ih
  ·rename_i hb
   have:=rowF_new ih x hx (fun a ha=>by simp at ha;subst ha;exact hb)
   simpa using this
theorem rowF_fold:∀ (m l:List Int) (R:List Run),RowF l R->(∀ x∈m,x=0∨x=1)->RowF (l++m) (m.foldl pushL R)
 | [],l,R,h,_=>by simpa using h
 | x::m,l,R,h,hm=>by
  have:=rowF_fold m (l++[x]) (pushL R x) (rowF_push h x (hm x (by simp))) (fun y hy=>hm y (by simp [hy]))
  simpa using this
theorem rowF_rows (l:List Int) (h:∀ x∈l,x=0∨x=1):RowF l (rowsA [] l):=by
 have:=rowF_fold l [] [] rowF_nil h
 simpa [rowsA] using this
theorem rowF_chk {l:List Int} {R:List Run} (h:RowF l R) (node first:Int) (hp:okP node first=true) (hl:l.length<=1000000):chkS node first R=0:=by
 obtain ⟨h1,h2,h3,h4,h5,h6⟩:=h
 have hle:∀ r∈R,r.N<=sumN R:=by
  intro r hr
  obtain ⟨a,b,rfl⟩:=List.append_of_mem hr
  have ha:=sumN_ge a (fun x hx=>h4 x (by simp [hx]))
  have hb:=sumN_ge b (fun x hx=>h4 x (by simp [hx]))
  rw [sumN_app];simp only [sumN];omega
 have hall:R.all okR=true:=by
  rw [List.all_eq_true]
  intro r hr
  have a1:=h4 r hr
  have a2:=hle r hr
  unfold okR
  simp only [Bool.and_eq_true,decide_eq_true_eq]
  rcases h5 r hr with q | q<;>omega
 unfold chkS
 rw [if_pos ⟨hp,hall⟩,if_neg (by omega)]
theorem valGo_bits:∀ (w a n:Nat),valGo a (bitsOf w n)=a * 2 ^ w+n % 2 ^ w
 | 0,a,n=>by simp [bitsOf,valGo,Nat.mod_one]
 | w + 1,a,n=>by
  rw [bitsOf,valGo,valGo_bits w]
  have hb:(decide (n / 2 ^ w % 2=1)).toNat=n / 2 ^ w % 2:=by
   by_cases q:n / 2 ^ w % 2=1
   ·rw [decide_eq_true q,q];rfl
   ·rw [decide_eq_false q]
    have:n / 2 ^ w % 2=0:=by omega
    rw [this];rfl
  have hm:n % 2 ^ (w+1)=2 ^ w * (n / 2 ^ w % 2)+n % 2 ^ w:=by
   rw [Nat.pow_succ,Nat.mod_mul];omega
  rw [hb,hm,Nat.pow_succ,Nat.add_mul,Nat.mul_comm 2 a,Nat.mul_assoc,Nat.mul_comm 2 (2 ^ w),Nat.mul_comm (n / 2 ^ w % 2)]
  omega
theorem valB_bits (w n:Nat):valB (bitsOf w n)=n % 2 ^ w:=by
 unfold valB;rw [valGo_bits];omega
def headS (id n:Nat) (rtr:Bool) (X:List Bool):List Bool:=false::(bitsOf 11 id++(rtr::false::(bitsOf 5 n++X)))
def headE (id n:Nat) (rtr:Bool) (X:List Bool):List Bool:=false::(bitsOf 11 (id / 262144)++(true::true::(bitsOf 18 id++(rtr::(bitsOf 6 n++X)))))
theorem headS_facts (id n:Nat) (rtr:Bool) (X:List Bool):extF (headS id n rtr X)=false/\dataF (headS id n rtr X)=19/\rtrF (headS id n rtr X)=rtr/\sizeF (headS id n rtr X)=min (n % 16) 8/\((headS id n rtr X).take 12).drop 1=bitsOf 11 id:=by
 have h1:extF (headS id n rtr X)=false:=rfl
 have h2:dataF (headS id n rtr X)=19:=by unfold dataF;rw [h1];rfl
 refine ⟨h1,h2,?_,?_,rfl⟩
 ·unfold rtrF;rw [h1];rfl
 ·unfold sizeF;rw [h2]
  rw [show ((headS id n rtr X).take 19).drop (19 - 4)=bitsOf 4 n from rfl,valB_bits]
theorem headE_facts (id n:Nat) (rtr:Bool) (X:List Bool):extF (headE id n rtr X)=true/\dataF (headE id n rtr X)=39/\rtrF (headE id n rtr X)=rtr/\sizeF (headE id n rtr X)=min (n % 16) 8/\((headE id n rtr X).take 12).drop 1=bitsOf 11 (id / 262144)/\((headE id n rtr X).take 32).drop 14=bitsOf 18 id:=by
 have h1:extF (headE id n rtr X)=true:=rfl
 have h2:dataF (headE id n rtr X)=39:=by unfold dataF;rw [h1];rfl
 refine ⟨h1,h2,?_,?_,rfl,rfl⟩
 ·unfold rtrF;rw [h1];rfl
 ·unfold sizeF;rw [h2]
  rw [show ((headE id n rtr X).take 39).drop (39 - 4)=bitsOf 4 n from rfl,valB_bits]
def dataP (f:Fr):List Bool:=if f.rtr=true then [] else bytesP (f.bytes.take f.len.toNat)
theorem bitsP_head (f:Fr) (r:List Bool):bitsP f++r=if f.ext=true then headE f.id.toNat f.len.toNat f.rtr (dataP f++r) else headS f.id.toNat f.len.toNat f.rtr (dataP f++r):=by
 unfold bitsP arbP headE headS dataP
 cases f.ext<;>simp
theorem dataP_length (f:Fr) (h:checkP f=0):(dataP f).length=if f.rtr=true then 0 else 8 * f.len.toNat:=by
 obtain ⟨-,-,-,c4,c5,-⟩:=checkP_ok h
 unfold dataP
 split
 ·rfl
 ·rw [bytesP_length,List.length_take]
  simp [Fr.bytes];omega
theorem bitsP_facts (f:Fr) (h:checkP f=0) (r:List Bool):extF (bitsP f++r)=f.ext/\dataF (bitsP f++r)=(if f.ext=true then 39 else 19)/\rtrF (bitsP f++r)=f.rtr/\sizeF (bitsP f++r)=f.len.toNat/\sumF (bitsP f++r)=(bitsP f).length:=by
 obtain ⟨c1,c2,c3,c4,c5,c6⟩:=checkP_ok h
 have hdl:=dataP_length f h
 have hlen:(bitsP f).length=(if f.ext=true then 39 else 19)+(dataP f).length:=by
  have:=congrArg List.length (bitsP_head f [])
  rw [List.append_nil] at this
  rw [this]
  unfold headE headS
  cases f.ext<;>simp [bitsOf_length]<;>omega
 have hm:min (f.len.toNat % 16) 8=f.len.toNat:=by omega
 have hall:extF (bitsP f++r)=f.ext/\dataF (bitsP f++r)=(if f.ext=true then 39 else 19)/\rtrF (bitsP f++r)=f.rtr/\sizeF (bitsP f++r)=f.len.toNat:=by
  rw [bitsP_head]
  cases hx:f.ext
  ·obtain ⟨q1,q2,q3,q4,-⟩:=headS_facts f.id.toNat f.len.toNat f.rtr (dataP f++r)
   exact ⟨q1,q2,q3,q4.trans hm⟩
  ·obtain ⟨q1,q2,q3,q4,-⟩:=headE_facts f.id.toNat f.len.toNat f.rtr (dataP f++r)
   exact ⟨q1,q2,q3,q4.trans hm⟩
 refine ⟨hall.1,hall.2.1,hall.2.2.1,hall.2.2.2,?_⟩
 unfold sumF
 rw [hall.2.2.1,hall.2.1,hall.2.2.2,hlen,hdl]
 split<;>rename_i q<;>omega
def onP (w:Wt) (b:Bool):Option Sg × Wt:=endP (takeP (countP w b) b)
theorem seeP_onP {w:Wt} (b:Bool) (h:w.on=true):seeP w b=onP w b:=by
 have hst:startP w b=w:=by unfold startP;rw [if_neg (by rw [h];simp)]
 unfold seeP onP;rw [hst,if_neg (by rw [h];simp)]
theorem nextF_gt {m:List Bool} (h:4<(nextF m).1):dataF m<=m.length/\sumF m+15<=m.length:=by
 have hs:=sumF_ge m
 unfold nextF at h
 split at h;· simp at h
 split at h;· simp at h
 split at h;· simp at h
 split at h;· simp at h
 split at h;· simp at h
 omega
theorem nextF_gt' {m:List Bool} (h1:dataF m<=m.length) (h2:sumF m+15<=m.length):4<(nextF m).1:=by
 have hs:=sumF_ge m
 unfold nextF
 rw [if_neg (by omega),if_neg (by
  rintro (q | ⟨q1,q2⟩)
  ·omega
  ·have:dataF m=39:=by unfold dataF;rw [if_pos q1]
   omega),if_neg (by omega),if_neg (by omega),if_neg (by omega)]
 repeat (first | split | omega)
theorem nextF_mono {m:List Bool} (h:4<(nextF m).1) (b:Bool):4<(nextF (m++[b])).1:=by
 obtain ⟨h1,h2⟩:=nextF_gt h
 refine nextF_gt' ?_ ?_
 ·rw [dataF_append h1];simp;omega
 ·rw [sumF_append h1];simp;omega
structure RI (m:List Bool) (frm i:Nat) (w:Wt):Prop where
 run5:w.run<=5
 tick:w.tick=i
 from_:w.frm=frm
 on:w.on=true
 raw:RawIn w.raw
 raw0:w.raw≠[]->w.raw[0]?=some false
 le:frm<=i
 init:w.raw=[]->i=frm/\w.run=0
 run0:w.raw≠[]->(nextF w.raw).1<=4->0<w.run
 later:w.raw≠[]->frm<i
 prev:0<w.run->m[i - 1]?=some w.last
theorem ri_append {m:List Bool} {frm i:Nat} {w:Wt} (h:RI m frm i w) {b:Bool} (hb:m[i]?=some b) (hb0:w.raw=[]->b=false) (w':Wt)
  (e1:w'.run<=5) (e2:w'.tick=i+1) (e3:w'.frm=w.frm) (e4:w'.on=true) (e5:w'.raw=w.raw++[b]) (hend:nextF w.raw≠(8,5)) (e6:(nextF w.raw).1<=4->0<w'.run) (e7:0<w'.run->w'.last=b):RI m frm (i+1) w':=by
 obtain ⟨h1,h2,h3,h4,h5,h6,h7,h8,h9,h10,h11⟩:=h
 have hne:w'.raw≠[]:=by rw [e5];simp
 refine ⟨e1,e2,by omega,e4,?_,?_,by omega,fun q=>absurd q hne,?_,fun _=>by omega,?_⟩
 ·rw [e5];exact rawIn_append h5 (fun q=>hend (nextF_end q.1 q.2)) b
 ·intro _
  rw [e5]
  by_cases q:w.raw=[]
  ·rw [q,hb0 q];rfl
  ·rw [getElem?_append_left (List.length_pos_iff.2 q)];exact h6 q
 ·intro _ hk
  rw [e5] at hk
  apply e6
  apply Classical.byContradiction
  intro q
  have:=nextF_mono (m:=w.raw) (by omega) b
  omega
 ·intro q
  rw [e7 q];simpa using hb
theorem ri_take {m:List Bool} {frm i:Nat} {w:Wt} (h:RI m frm i w) {b:Bool} (hb:m[i]?=some b) (hb0:w.raw=[]->b=false) (W:Wt) (e1:W.raw=w.raw) (e2:W.run=w.run) (e3:W.last=w.last) (e4:W.tick=i+1) (e5:W.frm=w.frm) (e6:W.on=true) (ht2:(takeP W b).1=0):RI m frm (i+1) (takeP W b).2:=by
 have hk:=takeP_keep W b
 have hr:=takeP_run W b (by rw [e2];exact h.run5)
 have k1:(takeP W b).2.frm=w.frm:=by rw [hk.1,e5]
 have k2:(takeP W b).2.tick=i+1:=by rw [hk.2.1,e4]
 have k3:(takeP W b).2.on=true:=by rw [hk.2.2.1,e6]
 clear hk
 unfold takeP at ht2 hr k1 k2 k3 ⊢
 rw [e2,e3,e1] at *
 by_cases h5:w.run=5
 ·simp only [if_pos h5] at *
  by_cases hbl:b=w.last
  ·rw [if_pos hbl] at ht2;cases ht2
  ·rw [if_neg hbl] at hr k1 k2 k3 ⊢
   obtain ⟨g1,g2,g3,g4,g5,g6,g7,g8,g9,g10,g11⟩:=h
   have hne:w.raw≠[]:=fun q=>by have:=(g8 q).2;omega
   refine ⟨by show 1<=5;omega,k2,by rw [<- g3];exact k1,k3,g5,g6,by omega,fun q=>absurd q hne,fun _ _=>by show 0<1;omega,fun _=>by have:=g10 hne;omega,fun _=>?_⟩
   show m[i+1 - 1]?=some b
   simpa using hb
 ·simp only [if_neg h5] at *
  by_cases q6:(nextF w.raw).1=6
  ·simp only [if_pos q6] at *
   refine ri_append h hb hb0 _ hr k2 k1 k3 rfl ?_ (fun q=>by omega) ?_
   ·intro e;rw [e] at q6;simp at q6
   ·intro q
    simp only [if_pos (by omega:4<(nextF w.raw).1)] at q
    cases q
  ·simp only [if_neg q6] at *
   by_cases qb:(nextF w.raw).1=5/\rightF w.raw=false∨4<(nextF w.raw).1/\b=false
   ·rw [if_pos qb] at ht2;cases ht2
   ·simp only [if_neg qb] at *
    by_cases q8:(nextF w.raw).1=8/\(nextF w.raw).2=5
    ·rw [if_pos q8] at ht2;cases ht2
    ·simp only [if_neg q8] at *
     refine ri_append h hb hb0 _ hr k2 k1 k3 rfl ?_ ?_ ?_
     ·intro e;exact q8 ⟨by rw [e],by rw [e]⟩
     ·intro q
      simp only [if_neg (by omega:¬ 4<(nextF w.raw).1)]
      split<;>simp
     ·intro q
      by_cases q4:4<(nextF w.raw).1
      ·simp only [if_pos q4] at q;cases q
      ·simp only [if_neg q4]
       split
       ·rename_i q5;exact q5.2.symm
       ·rfl
theorem RI.step {m:List Bool} {frm i:Nat} {w:Wt} (h:RI m frm i w) {b:Bool} (hb:m[i]?=some b) (hb0:w.raw=[]->b=false) (hn:(onP w b).1=none):RI m frm (i+1) (onP w b).2:=by
 have ht:(onP w b).2=(takeP (countP w b) b).2/\(takeP (countP w b) b).1=0:=by
  unfold onP endP at hn ⊢
  split
  ·rename_i q;exact ⟨rfl,q⟩
  ·rename_i q
   rw [if_neg q] at hn
   split at hn<;>cases hn
 rw [ht.1]
 exact ri_take h hb hb0 _ rfl rfl rfl (by show w.tick+1=_;rw [h.tick]) rfl h.on ht.2
def onW (w:Wt) (frm:Nat):Wt:={ w with on:=true,frm:=frm,tick:=frm,raw:=[],last:=false,run:=0,acked:=false }
theorem onP_facts (w:Wt) (b:Bool):(onP w b).2.tick=w.tick+1/\(onP w b).2.ones=(if b=true then w.ones+1 else 0)/\(∀ s,(onP w b).1=some s->s.to=w.tick+1/\(onP w b).2.on=false)/\((onP w b).1=none->(onP w b).2.on=w.on):=by
 have hk:=takeP_keep (countP w b) b
 unfold onP endP
 by_cases h0:(takeP (countP w b) b).1=0
 ·rw [if_pos h0]
  exact ⟨hk.2.1,hk.2.2.2,fun s h=>(by simp at h),fun _=>hk.2.2.1⟩
 ·rw [if_neg h0]
  by_cases h2:(takeP (countP w b) b).1=2
  ·rw [if_pos h2]
   exact ⟨hk.2.1,hk.2.2.2,fun s h=>(by simp only [Option.some.injEq] at h;subst h;exact ⟨hk.2.1,rfl⟩),fun h=>(by simp at h)⟩
  ·rw [if_neg h2]
   exact ⟨hk.2.1,hk.2.2.2,fun s h=>(by simp only [Option.some.injEq] at h;subst h;exact ⟨hk.2.1,rfl⟩),fun h=>(by simp at h)⟩
def sentP (f:Fr):List Bool:=bitsP f++bitsOf 15 (c15L (bitsP f))
theorem sentP_sum (f:Fr) (h:checkP f=0) (r:List Bool):sumF (sentP f++r)=(bitsP f).length/\dataF (sentP f++r)<=(bitsP f).length/\(sentP f).length=(bitsP f).length+15:=by
 unfold sentP
 rw [List.append_assoc]
 obtain ⟨b1,b2,b3,b4,b5⟩:=bitsP_facts f h (bitsOf 15 (c15L (bitsP f))++r)
 have:=sumF_ge (bitsP f++(bitsOf 15 (c15L (bitsP f))++r))
 exact ⟨b5,by omega,by rw [length_append,bitsOf_length]⟩
theorem prefix_kind (f:Fr) (h:checkP f=0) (p q:List Bool) (hq:q≠[]) (e:p++q=sentP f):(nextF p).1<=4:=by
 apply Classical.byContradiction
 intro hk
 obtain ⟨g1,g2⟩:=nextF_gt (m:=p) (by omega)
 have h1:=sumF_append g1 q
 obtain ⟨s1,-,s3⟩:=sentP_sum f h []
 rw [List.append_nil,<- e,h1] at s1
 rw [<- e,length_append] at s3
 have:=List.length_pos_iff.2 hq
 omega
theorem nextF_sent (f:Fr) (h:checkP f=0) (t:List Bool) (ht:t.length<=9):nextF (sentP f++t)=if t.length=0 then (5,0) else if t.length=1 then (6,0) else if t.length=2 then (7,0) else (8,t.length - 3):=by
 obtain ⟨s1,s2,s3⟩:=sentP_sum f h t
 have hs:=sumF_ge (sentP f++t)
 have hl:(sentP f++t).length=(bitsP f).length+15+t.length:=by rw [length_append,s3]
 unfold nextF
 rw [s1] at *
 rw [hl]
 rw [if_neg (by omega),if_neg (by
  rintro (q | ⟨q1,q2⟩)
  ·omega
  ·have:dataF (sentP f++t)=39:=by unfold dataF;rw [if_pos q1]
   omega),if_neg (by omega),if_neg (by omega),if_neg (by omega)]
 by_cases t0:t.length=0
 ·rw [if_pos (by omega),if_pos t0]
 ·rw [if_neg (by omega),if_neg t0]
  by_cases t1:t.length=1
  ·rw [if_pos (by omega),if_pos t1]
  ·rw [if_neg (by omega),if_neg t1]
   by_cases t2:t.length=2
   ·rw [if_pos (by omega),if_pos t2]
   ·rw [if_neg (by omega),if_neg t2,if_pos (by omega)]
    congr 1;omega
def shW (δ o:Nat) (w:Wt):Wt:={ w with tick:=w.tick+δ,frm:=w.frm+δ,ones:=o }
def shS (δ:Nat) (s:Sg):Sg:={ s with frm:=s.frm+δ,to:=s.to+δ }
theorem takeP_sh (δ o:Nat) (w:Wt) (b:Bool):takeP (shW δ o w) b=((takeP w b).1,shW δ o (takeP w b).2):=by
 unfold takeP
 by_cases h5:w.run=5
 ·rw [if_pos (show (shW δ o w).run=5 from h5),if_pos h5]
  by_cases hb:b=w.last
  ·rw [if_pos (show b=(shW δ o w).last from hb),if_pos hb]
  ·rw [if_neg (show ¬ b=(shW δ o w).last from hb),if_neg hb];rfl
 ·rw [if_neg (show ¬ (shW δ o w).run=5 from h5),if_neg h5]
  have hw:∀ (c d:Prop) [Decidable c] [Decidable d] (x y z:Wt),(if c then shW δ o x else if d then shW δ o y else shW δ o z)=shW δ o (if c then x else if d then y else z):=by
   intro c d _ _ x y z
   split
   ·rfl
   ·split<;>rfl
  simp only []
  have e:=hw (4<(nextF w.raw).1) (0<w.run/\b=w.last) { w with run:=0 } { w with run:=w.run+1 } { w with last:=b,run:=1 }
  have e':(if 4<(nextF (shW δ o w).raw).1 then { shW δ o w with run:=0 } else if 0<(shW δ o w).run/\b=(shW δ o w).last then { shW δ o w with run:=(shW δ o w).run+1 } else { shW δ o w with last:=b,run:=1 })=shW δ o (if 4<(nextF w.raw).1 then { w with run:=0 } else if 0<w.run/\b=w.last then { w with run:=w.run+1 } else { w with last:=b,run:=1 }):=e
  rw [e']
  generalize (if 4<(nextF w.raw).1 then { w with run:=0 } else if 0<w.run/\b=w.last then { w with run:=w.run+1 } else { w with last:=b,run:=1 })=w1
  show (if (nextF w.raw).1=6 then _ else if (nextF w.raw).1=5/\rightF w.raw=false∨4<(nextF w.raw).1/\b=false then _ else if (nextF w.raw).1=8/\(nextF w.raw).2=5 then _ else _)=_
  split
  ·rfl
  ·split
   ·rfl
   ·split<;>rfl
structure SR (δ:Nat) (w w':Wt):Prop where
 on:w'.on=w.on
 tick:w'.tick=w.tick+δ
 ones:w'.ones=w.ones∨10<=w.ones/\10<=w'.ones
 same:w.on=true->w'=shW δ w'.ones w
theorem endP_sh (δ o:Nat) (r:Nat × Wt):endP (r.1,shW δ o r.2)=((endP r).1.map (shS δ),shW δ o (endP r).2):=by
 unfold endP
 simp only []
 split
 ·rfl
 ·split<;>rfl
theorem onP_sh (δ o:Nat) (w:Wt) (b:Bool):onP (shW δ o w) b=((onP w b).1.map (shS δ),shW δ (if b=true then o+1 else 0) (onP w b).2):=by
 unfold onP
 have e:countP (shW δ o w) b=shW δ (if b=true then o+1 else 0) (countP w b):=by
  unfold countP shW
  simp only [Wt.mk.injEq,true_and,and_true]
  omega
 rw [e,takeP_sh,endP_sh]
theorem SR.see {δ:Nat} {w w':Wt} (h:SR δ w w') (b:Bool):(seeP w' b).1=(seeP w b).1.map (shS δ)/\SR δ (seeP w b).2 (seeP w' b).2:=by
 obtain ⟨h1,h2,h3,h4⟩:=h
 have key:∀ (v v':Wt),v.on=true->v'=shW δ v'.ones v->(v'.ones=v.ones∨10<=v.ones/\10<=v'.ones)->(onP v' b).1=(onP v b).1.map (shS δ)/\SR δ (onP v b).2 (onP v' b).2:=by
  intro v v' hv he ho
  rw [he,onP_sh]
  refine ⟨rfl,rfl,rfl,?_,fun _=>rfl⟩
  show (if b=true then v'.ones+1 else 0)=(onP v b).2.ones∨10<=(onP v b).2.ones/\10<=(if b=true then v'.ones+1 else 0)
  rw [(onP_facts v b).2.1]
  cases b
  ·exact .inl rfl
  ·simp only [if_true];omega
 by_cases hon:w.on=true
 ·rw [seeP_onP b hon,seeP_onP b (by rw [h1];exact hon)]
  exact key w w' hon (h4 hon) h3
 ·have hon:w.on=false:=by simpa using hon
  have hon':w'.on=false:=by rw [h1];exact hon
  by_cases hst:b=false/\10<=w.ones
  ·have e:startP w b=onW w w.tick:=by unfold startP onW;rw [if_pos ⟨hon,hst⟩]
   have e':startP w' b=onW w' w'.tick:=by unfold startP onW;rw [if_pos ⟨hon',hst.1,by omega⟩]
   have s:seeP w b=onP (onW w w.tick) b:=by unfold seeP;rw [e,if_neg (by simp [onW])];rfl
   have s':seeP w' b=onP (onW w' w'.tick) b:=by unfold seeP;rw [e',if_neg (by simp [onW])];rfl
   rw [s,s']
   refine key _ _ rfl ?_ h3
   unfold onW shW
   simp only [Wt.mk.injEq,true_and,and_true]
   exact ⟨h2,h2⟩
  ·have e:startP w b=w:=by unfold startP;rw [if_neg (by rintro ⟨-,q⟩;exact hst q)]
   have e':startP w' b=w':=by unfold startP;rw [if_neg (by rintro ⟨-,q1,q2⟩;exact hst ⟨q1,by omega⟩)]
   have s:seeP w b=(none,countP w b):=by unfold seeP;rw [e,if_pos hon]
   have s':seeP w' b=(none,countP w' b):=by unfold seeP;rw [e',if_pos hon']
   rw [s,s']
   refine ⟨rfl,h1,?_,?_,fun q=>?_⟩
   ·show w'.tick+1=w.tick+1+δ;omega
   ·show (if b=true then w'.ones+1 else 0)=(if b=true then w.ones+1 else 0)∨_/\_
    cases b
    ·exact .inl rfl
    ·show w'.ones+1=w.ones+1∨10<=w.ones+1/\10<=w'.ones+1
     omega
   ·have:w.on=true:=q
    rw [hon] at this;cases this
theorem SR.go {δ:Nat}:∀ (m:List Bool) (w w':Wt),SR δ w w'->sgGo w' m=(sgGo w m).map (shS δ)
 | [],_,_,_=>rfl
 | b::m,w,w',h=>by
  obtain ⟨h1,h2⟩:=h.see b
  rw [sgGo,sgGo,map_append,SR.go m _ _ h2,h1]
  cases (seeP w b).1<;>rfl
structure Ct where
 te:Nat
 re:Nat
 off:Bool
def Ct.cells (c:Ct):List AVal:=[.lit (.int .i64 c.te),.lit (.int .i64 c.re),.lit (.bool c.off)]
structure Ct.Ok (c:Ct):Prop where
 t:c.te<=256
 r:c.re<=255
 o:c.off=decide (255<c.te)
def Ct.zero:Ct:=⟨0,0,false⟩
def Ct.sent (c:Ct):Ct:=if c.off=true then c else ⟨c.te - 1,c.re,c.off⟩
def Ct.recv (c:Ct):Ct:=if c.off=true then c else ⟨c.te,if 127<c.re then 119 else c.re - 1,c.off⟩
def Ct.txE (c:Ct):Ct:=if c.off=true then c else if 247<c.te then ⟨256,c.re,true⟩ else ⟨c.te+8,c.re,c.off⟩
def Ct.rxE (c:Ct) (w:Nat):Ct:=if c.off=true then c else ⟨c.te,min (c.re+w) 255,c.off⟩
def Ct.state (c:Ct):Int:=if c.off=true then 2 else if 127<c.te∨127<c.re then 1 else 0
theorem Ct.zero_ok:Ct.zero.Ok:=⟨by decide,by decide,rfl⟩
theorem Ct.sent_ok {c:Ct} (h:c.Ok):c.sent.Ok:=by
 obtain ⟨a,b,d⟩:=h
 unfold Ct.sent
 split
 ·exact ⟨a,b,d⟩
 ·rename_i h1
  have h1:c.off=false:=by simpa using h1
  rw [h1] at d
  have:¬ 255<c.te:=by simpa using d.symm
  exact ⟨by simp only [];omega,b,by simp only [h1];simp;omega⟩
theorem Ct.recv_ok {c:Ct} (h:c.Ok):c.recv.Ok:=by
 obtain ⟨a,b,d⟩:=h
 unfold Ct.recv
 split
 ·exact ⟨a,b,d⟩
 ·exact ⟨a,by simp only [];split<;>omega,d⟩
theorem Ct.txE_ok {c:Ct} (h:c.Ok):c.txE.Ok:=by
 obtain ⟨a,b,d⟩:=h
 unfold Ct.txE
 split
 ·exact ⟨a,b,d⟩
 ·rename_i h1
  have h1:c.off=false:=by simpa using h1
  split
  ·exact ⟨by simp,b,by simp⟩
  ·exact ⟨by simp only [];omega,b,by simp only [h1];simp;omega⟩
theorem Ct.rxE_ok {c:Ct} (h:c.Ok) (w:Nat):(c.rxE w).Ok:=by
 obtain ⟨a,b,d⟩:=h
 unfold Ct.rxE
 split
 ·exact ⟨a,b,d⟩
 ·exact ⟨a,by simp only [];omega,d⟩
theorem within_spec (n m:Int):call E (.func (.func 173) [] []) [.lit (.int .i64 n),.lit (.int .i64 m)] []=some (.lit (.bool (decide (0<=n/\n<=m))),[]):=by
 rw [c9f E E173]
 by_cases h:0<=n<;>simp [go_sem,ir173,h]
theorem ccheck_spec (c:Ct) (h:c.Ok):call E (.func (.func 170) [] []) [.agg c.cells] []=some (.lit (.int .i64 0),[]):=by
 obtain ⟨t,r,o⟩:=c
 obtain ⟨a,b,d⟩:=h
 simp only [] at a b d
 rw [c9f E E170]
 have h1:(r:Int)<=255:=by omega
 have h01:(0:Int)<=r:=by omega
 have h02:(0:Int)<=t:=by omega
 have h2:(t:Int)<=256:=by omega
 by_cases h3:255<t
 ·have h4:(255:Int)<t:=by omega
  simp [h3] at d
  simp [go_sem,ir170,Ct.cells,within_spec,h1,h2,h01,h02,d,h4]
 ·have h4:¬ (255:Int)<t:=by omega
  simp [h3] at d
  simp [go_sem,ir170,Ct.cells,within_spec,h1,h2,h01,h02,d,h4]
theorem cstate_spec (c:Ct):call E (.func (.func 31) [] []) [.agg c.cells] []=some (.lit (.int .i64 c.state),[]):=by
 obtain ⟨t,r,o⟩:=c
 rw [c9f E E31]
 cases o
 ·by_cases h1:127<t
  ·have h2:(127:Int)<t:=by omega
   simp [go_sem,ir31,Ct.cells,Ct.state,h1,h2]
  ·have h2:¬ (127:Int)<t:=by omega
   by_cases h3:127<r
   ·have h4:(127:Int)<r:=by omega
    simp [go_sem,ir31,Ct.cells,Ct.state,h1,h2,h3,h4]
   ·have h4:¬ (127:Int)<r:=by omega
    simp [go_sem,ir31,Ct.cells,Ct.state,h1,h2,h3,h4]
 ·simp [go_sem,ir31,Ct.cells,Ct.state]
theorem cback_spec (c:Ct):call E (.func (.func 153) [] []) [.agg c.cells] []=some (.agg Ct.zero.cells,[]):=by
 rw [c9f E E153]
 simp [go_sem,ir153,Ct.cells,Ct.zero]
theorem csent1 (t r:Nat) (h:t<=256):call E (.func (.func 165) [.ptr 0 0] []) [] [.box (Ct.cells ⟨t,r,false⟩)]=some (.tup [],[.box (Ct.cells ⟨t - 1,r,false⟩)]):=by
 rw [c9f E E165]
 have w1:IntKind.wrap .i64 ((t:Int) - 1)=t - 1:=wrap64 (by omega) (by omega)
 by_cases h0:t=0
 ·subst h0
  simp [go_sem,ir165,Ct.cells,range_succ,p9q]
  decide
 ·have h1:((t:Int) - 1)=((t - 1:Nat):Int):=by omega
  have h2:¬ (0:Int) > ((t - 1:Nat):Int):=by omega
  simp [go_sem,ir165,Ct.cells,range_succ,p9q,w1]
  omega
theorem crecv1 (t r:Nat) (h:r<=256):call E (.func (.func 164) [.ptr 0 0] []) [] [.box (Ct.cells ⟨t,r,false⟩)]=some (.tup [],[.box (Ct.cells ⟨t,if 127<r then 119 else r - 1,false⟩)]):=by
 rw [c9f E E164]
 have w1:IntKind.wrap .i64 ((r:Int) - 1)=r - 1:=wrap64 (by omega) (by omega)
 by_cases h3:127<r
 ·have h4:(127:Int)<r:=by omega
  simp [go_sem,ir164,Ct.cells,range_succ,p9q,h3,h4]
 ·have h4:¬ (127:Int)<r:=by omega
  simp [go_sem,ir164,Ct.cells,range_succ,p9q,h3,h4,w1]
  omega
theorem ctx1 (t r:Nat) (h:t<=256):call E (.func (.func 167) [.ptr 0 0] []) [] [.box (Ct.cells ⟨t,r,false⟩)]=some (.tup [],[.box (Ct.cells (if 247<t then ⟨256,r,true⟩ else ⟨t+8,r,false⟩))]):=by
 rw [c9f E E167]
 have w1:IntKind.wrap .i64 ((t:Int)+8)=t+8:=wrap64 (by omega) (by omega)
 by_cases h3:247<t
 ·have h4:(255:Int)<t+8:=by omega
  simp [go_sem,ir167,Ct.cells,range_succ,p9q,h3,h4,w1]
 ·have h4:¬ (255:Int)<t+8:=by omega
  simp [go_sem,ir167,Ct.cells,range_succ,p9q,h3,h4,w1]
theorem crx1 (t r w:Nat) (h:r<=256) (hw:w<=100):call E (.func (.func 168) [] [.ptr 0 0,.ptr 2 0]) [] [.box [.ptr 1 0],.box (Ct.cells ⟨t,r,false⟩),.box [.lit (.int .i64 w)]]=some (.tup [],[.box [.ptr 1 0],.box (Ct.cells ⟨t,min (r+w) 255,false⟩),.box [.lit (.int .i64 w)]]):=by
 rw [c9f E E168]
 have w1:IntKind.wrap .i64 ((r:Int)+w)=r+w:=wrap64 (by omega) (by omega)
 simp [go_sem,ir168,Ct.cells,range_succ,p9q,w1]
 omega
theorem ct_eta (c:Ct):(⟨c.te,c.re,c.off⟩:Ct)=c:=rfl
theorem runs_gen (c c':Ct) (h:c.Ok) (fn:AVal) (hs:∀ H,snapV H fn=some (fn,[])) (hr:refsV fn=[0]) (hn:∀ f:Nat->Nat,f 0=0->renV f fn=fn)
  (hc:c.off=false->call E fn [] [.box c.cells]=some (.tup [],[.box c'.cells])) (h2:c.off=true->c'=c) :
  call E (.func (.func 163) [] []) [.ptr 0 0,fn] [.box c.cells]=some (.agg c'.cells,[.box c'.cells]):=by
 rw [c9f E E163]
 have hk:=ccheck_spec c h
 obtain ⟨t,r,o⟩:=c
 obtain ⟨t',r',o'⟩:=c'
 cases o
 ·have hc:=hc rfl
  simp [Ct.cells] at hc hk
  simp [go_sem,ir163,Ct.cells,hk,hc,hs,hr,hn,p9q,range_succ]
 ·have h2:=h2 rfl
  cases h2
  simp [Ct.cells] at hk
  simp [go_sem,ir163,Ct.cells,hk,p9q,range_succ]
theorem csent_spec (c:Ct) (h:c.Ok):call E (.func (.func 158) [] []) [.agg c.cells] []=some (.agg c.sent.cells,[]):=by
 have h1:=runs_gen c c.sent h (.func (.func 165) [.ptr 0 0] []) (fun H=>by simp [go_sem]) (by simp [refsV,refsL]) (fun f hf=>by simp [renV,renL,hf]) (fun ho=>by
  have:=csent1 c.te c.re h.t
  unfold Ct.sent
  rw [ho,if_neg (by simp)]
  rw [<- ho,ct_eta] at this
  rw [this,ho]) (fun ho=>by unfold Ct.sent;rw [if_pos ho])
 rw [c9f E E158]
 generalize c.sent=c' at h1
 obtain ⟨t,r,o⟩:=c
 obtain ⟨t',r',o'⟩:=c'
 simp [Ct.cells] at h1
 simp [go_sem,ir158,Ct.cells,h1,p9q,range_succ]
theorem crecv_spec (c:Ct) (h:c.Ok):call E (.func (.func 157) [] []) [.agg c.cells] []=some (.agg c.recv.cells,[]):=by
 have h1:=runs_gen c c.recv h (.func (.func 164) [.ptr 0 0] []) (fun H=>by simp [go_sem]) (by simp [refsV,refsL]) (fun f hf=>by simp [renV,renL,hf]) (fun ho=>by
  have:=crecv1 c.te c.re (by have:=h.r;omega)
  unfold Ct.recv
  rw [ho,if_neg (by simp)]
  rw [<- ho,ct_eta] at this
  rw [this,ho]) (fun ho=>by unfold Ct.recv;rw [if_pos ho])
 rw [c9f E E157]
 generalize c.recv=c' at h1
 obtain ⟨t,r,o⟩:=c
 obtain ⟨t',r',o'⟩:=c'
 simp [Ct.cells] at h1
 simp [go_sem,ir157,Ct.cells,h1,p9q,range_succ]
theorem ctx_spec (c:Ct) (h:c.Ok):call E (.func (.func 160) [] []) [.agg c.cells] []=some (.agg c.txE.cells,[]):=by
 have h1:=runs_gen c c.txE h (.func (.func 167) [.ptr 0 0] []) (fun H=>by simp [go_sem]) (by simp [refsV,refsL]) (fun f hf=>by simp [renV,renL,hf]) (fun ho=>by
  have:=ctx1 c.te c.re h.t
  unfold Ct.txE
  rw [ho,if_neg (by simp)]
  rw [<- ho,ct_eta] at this
  rw [this]
  simp only [ho]) (fun ho=>by unfold Ct.txE;rw [if_pos ho])
 rw [c9f E E160]
 generalize c.txE=c' at h1
 obtain ⟨t,r,o⟩:=c
 obtain ⟨t',r',o'⟩:=c'
 simp [Ct.cells] at h1
 simp [go_sem,ir160,Ct.cells,h1,p9q,range_succ]
theorem runs_rx (c:Ct) (h:c.Ok) (w:Nat) (hw:w<=100) :
  call E (.func (.func 163) [] []) [.ptr 0 0,.func (.func 168) [] [.ptr 1 0,.ptr 2 0]] [.box c.cells,.box [.ptr 0 0],.box [.lit (.int .i64 w)]]=some (.agg (c.rxE w).cells,[.box (c.rxE w).cells,.box [.ptr 0 0],.box [.lit (.int .i64 w)]]):=by
 rw [c9f E E163]
 have hk:=ccheck_spec c h
 have hr:=h.r
 obtain ⟨t,r,o⟩:=c
 simp only [] at hr
 cases o
 ·have hc:=crx1 t r w (by omega) hw
  generalize hm:min (r+w) 255=m at hc
  simp [Ct.cells] at hc hk
  simp [go_sem,ir163,Ct.cells,Ct.rxE,hk,hc,hm,p9q,range_succ]
 ·simp [Ct.cells] at hk
  simp [go_sem,ir163,Ct.cells,Ct.rxE,hk,p9q,range_succ]
theorem crx_spec (c:Ct) (h:c.Ok) (w:Nat) (hw:w=1∨w=8):call E (.func (.func 161) [] []) [.agg c.cells,.lit (.int .i64 w)] []=some (.agg (c.rxE w).cells,[]):=by
 have h1:=runs_rx c h w (by omega)
 rw [c9f E E161]
 generalize c.rxE w=c' at h1
 obtain ⟨t,r,o⟩:=c
 obtain ⟨t',r',o'⟩:=c'
 simp [Ct.cells] at h1
 rcases hw with rfl | rfl
 ·simp at h1
  simp [go_sem,ir161,Ct.cells,h1,p9q,range_succ]
 ·simp at h1
  simp [go_sem,ir161,Ct.cells,h1,p9q,range_succ]
def cmpL:List Bool->List Bool->Int
 | [],[]=>0
 | [],_::_=>-1
 | _::_,[]=>1
 | x::a,y::b=>if x=y then cmpL a b else if y=true then -1 else 1
theorem isNaN_spec (n:Int):call E (.func (.func 141) [] []) [.lit (.int .i64 n)] []=some (.lit (.bool false),[]):=by
 rw [c9f E E141]
 simp [go_sem,ir141]
theorem ccompare_spec (x y:Bool):call E (.func (.func 115) [] []) [.lit (.int .i64 (lv x)),.lit (.int .i64 (lv y))] []=some (.lit (.int .i64 (if x=y then 0 else if y=true then -1 else 1)),[]):=by
 rw [c9f E E115]
 cases x<;>cases y<;>simp [go_sem,ir115,isNaN_spec,lv]
theorem scompare_loop (l m:List Bool) (hl:l.length<=1000000) (hm:m.length<=1000000) (n1 f1 n2 f2:Bool) (k:List Item) (R:Int->Option (AVal × Heap))
    (hk:∀ τ,lk 0 τ=.imm n1 f1 true (l.map encLv)->lk 1 τ=.imm n2 f2 true (m.map encLv)->l.length<=m.length->finK 0 [.tmp 4] (run E 0 k τ [])=R (if l.length<m.length then -1 else 0)) (hR:∀ c,R c=some (.lit (.int .i64 c),[])) :
    ∀ (d i:Nat),i+d=l.length->i<=m.length ->
   finK 0 [.tmp 4] (run E 0 (.code L84_0::.inLoop [0,1,9,10,11] L84_0::.inBlock 0::k) [(0,.imm n1 f1 true (l.map encLv)),(1,.imm n2 f2 true (m.map encLv)),(9,.imm n1 f1 true (l.map encLv)),(10,.lit (.int .i64 l.length)),(11,.lit (.int .i64 i))] [])=R (cmpL (l.drop i) (m.drop i)):=by
  intro d
  induction d with
  | zero =>
    intro i hi him
    have:i=l.length:=by omega
    subst this
    have e:cmpL (l.drop l.length) (m.drop l.length)=if l.length<m.length then -1 else 0:=by
      rw [List.drop_length]
      by_cases h:l.length<m.length
      · rw [if_pos h,List.drop_eq_getElem_cons h];rfl
      · rw [if_neg h,List.drop_of_length_le (by omega)];rfl
    rw [e]
    simp [go_sem,r9c E L84_0.eq_1]
    exact hk _ (by simp [lk]) (by simp [lk]) him
  | succ d ih =>
    intro i hi him
    have hlt:i<l.length:=by omega
    have w:=wrapIdx (i:=i) (by omega)
    rw [List.drop_eq_getElem_cons hlt]
    by_cases hlt2:i<m.length
    · rw [List.drop_eq_getElem_cons hlt2]
      have hmi:¬ ((m.length:Int)<=i):=by omega
      have hcc:=ccompare_spec l[i] m[i]
      by_cases h:l[i]=m[i]
      · have e:cmpL (l[i]::l.drop (i+1)) (m[i]::m.drop (i+1))=cmpL (l.drop (i+1)) (m.drop (i+1)):=by rw [cmpL,if_pos h]
        rw [e]
        rw [if_pos h] at hcc
        have ih2:=ih (i+1) (by omega) (by omega)
        generalize R (cmpL (l.drop (i+1)) (m.drop (i+1)))=Q at ih2 ⊢
        simp at ih2 w
        simp [go_sem,r9c E L84_0.eq_1,hlt,hlt2,getElem?_eq_getElem hlt,getElem?_eq_getElem hlt2,encLv,hmi,hcc,w,p9q]
        rw [r9l]
        simp [go_sem,p9q]
        exact ih2
      · have e:cmpL (l[i]::l.drop (i+1)) (m[i]::m.drop (i+1))=if m[i]=true then -1 else 1:=by rw [cmpL,if_neg h]
        rw [e,hR]
        rw [if_neg h] at hcc
        cases hmv:m[i]
        · rw [hmv] at hcc
          simp at hcc
          simp [go_sem,r9c E L84_0.eq_1,hlt,hlt2,getElem?_eq_getElem hlt,getElem?_eq_getElem hlt2,encLv,hmi,hmv,hcc,w,p9q]
        · rw [hmv] at hcc
          simp at hcc
          simp [go_sem,r9c E L84_0.eq_1,hlt,hlt2,getElem?_eq_getElem hlt,getElem?_eq_getElem hlt2,encLv,hmi,hmv,hcc,w,p9q]
    · have:i=m.length:=by omega
      have e:cmpL (l[i]::l.drop (i+1)) (m.drop i)=1:=by rw [List.drop_of_length_le (l:=m) (by omega)];rfl
      rw [e,hR]
      have hmi:(m.length:Int)<=i:=by omega
      simp [go_sem,r9c E L84_0.eq_1,hlt,getElem?_eq_getElem hlt,encLv,hmi,w,p9q]
theorem scompare_spec (l m:List Bool) (hl:l.length<=1000000) (hm:m.length<=1000000) (n1 f1 n2 f2:Bool):call E (.func (.func 84) [] []) [.imm n1 f1 true (l.map encLv),.imm n2 f2 true (m.map encLv)] []=some (.lit (.int .i64 (cmpL l m)),[]):=by
 rw [c9f E E84]
 have h:=fun k hk=>scompare_loop l m hl hm n1 f1 n2 f2 k (fun c=>some (.lit (.int .i64 c),[])) hk (fun _=>rfl) l.length 0 (by omega) (by omega)
 simp at h
 simp [go_sem,ir84,p9q]
 rw [r9l]
 simp [go_sem,p9q]
 refine h _ ?_
 intro τ h0 h1 hlm
 by_cases hlt:l.length<m.length
 ·simp [go_sem,h0,h1,hlt]
 ·simp [go_sem,h0,h1,hlt]
def arbQ (f:Fr):List Bool:=if checkP f=0 then arbP f else []
def bothOk (f g:Fr):Bool:=decide (checkP f=0) && decide (checkP g=0)
theorem arbQ_len (f:Fr):(arbQ f).length<=32:=by
 unfold arbQ
 split
 ·rw [arbP_length];split<;>omega
 ·simp
theorem fcompare_spec (f g:Fr):call E (.func (.func 54) [] []) [.agg (encFr f),.agg (encFr g)] []=some (.tup [.lit (.int .i64 (cmpL (arbQ f) (arbQ g))),.lit (.bool (bothOk f g))],[]):=by
 have hs:=fun n1 f1 n2 f2=>scompare_spec (arbQ f) (arbQ g) (by have:=arbQ_len f;omega) (by have:=arbQ_len g;omega) n1 f1 n2 f2
 generalize hc:cmpL (arbQ f) (arbQ g)=c at hs
 rw [c9f E E54]
 by_cases hf:checkP f=0
 ·have h1:=farb_spec f hf
  have e1:arbQ f=arbP f:=by unfold arbQ;rw [if_pos hf]
  rw [e1] at hs
  by_cases hg:checkP g=0
  ·have h2:=farb_spec g hg
   have e2:arbQ g=arbP g:=by unfold arbQ;rw [if_pos hg]
   rw [e2] at hs
   simp [encFr,u8v] at h1 h2
   simp [go_sem,ir54,encFr,u8v,bothOk,hf,hg,h1,h2,hs,p9q,range_succ]
  ·have h2:=farb_err g hg
   have e2:arbQ g=[]:=by unfold arbQ;rw [if_neg hg]
   rw [e2] at hs
   simp [encFr,u8v,nilS] at h1 h2 hs
   simp [go_sem,ir54,encFr,u8v,bothOk,hf,hg,h1,h2,hs,p9q,range_succ]
 ·have h1:=farb_err f hf
  have e1:arbQ f=[]:=by unfold arbQ;rw [if_neg hf]
  rw [e1] at hs
  by_cases hg:checkP g=0
  ·have h2:=farb_spec g hg
   have e2:arbQ g=arbP g:=by unfold arbQ;rw [if_pos hg]
   rw [e2] at hs
   simp [encFr,u8v,nilS] at h1 h2 hs
   simp [go_sem,ir54,encFr,u8v,bothOk,hf,hg,h1,h2,hs,p9q,range_succ]
  ·have h2:=farb_err g hg
   have e2:arbQ g=[]:=by unfold arbQ;rw [if_neg hg]
   rw [e2] at hs
   simp [encFr,u8v,nilS] at h1 h2 hs
   simp [go_sem,ir54,encFr,u8v,bothOk,hf,hg,h1,h2,hs,p9q,range_succ]
def lessP (f g:Fr):Bool:=bothOk f g && decide (cmpL (arbQ f) (arbQ g)<0)
theorem less_spec (f g:Fr):call E (.func (.func 26) [] []) [.agg (encFr f),.agg (encFr g)] []=some (.lit (.bool (lessP f g)),[]):=by
 have h:=fcompare_spec f g
 rw [c9f E E26]
 unfold lessP
 generalize bothOk f g=b at h ⊢
 generalize cmpL (arbQ f) (arbQ g)=c at h ⊢
 simp [encFr,u8v] at h
 cases b<;>simp [go_sem,ir26,encFr,u8v,h,p9q,range_succ]
theorem aleaves_fr (f g:Fr):aleaves [.lit (.int .i64 f.id),.lit (.bool f.ext),.lit (.bool f.rtr),.lit (.int .i64 f.len),.lit (.int .u8 f.d0),.lit (.int .u8 f.d1),.lit (.int .u8 f.d2),.lit (.int .u8 f.d3),.lit (.int .u8 f.d4),.lit (.int .u8 f.d5),.lit (.int .u8 f.d6),.lit (.int .u8 f.d7)]
  [.lit (.int .i64 g.id),.lit (.bool g.ext),.lit (.bool g.rtr),.lit (.int .i64 g.len),.lit (.int .u8 g.d0),.lit (.int .u8 g.d1),.lit (.int .u8 g.d2),.lit (.int .u8 g.d3),.lit (.int .u8 g.d4),.lit (.int .u8 g.d5),.lit (.int .u8 g.d6),.lit (.int .u8 g.d7)]
  [(0,.i),(1,.b),(2,.b),(3,.i),(4,.i),(5,.i),(6,.i),(7,.i),(8,.i),(9,.i),(10,.i),(11,.i)]=some (decide (f=g)):=by
 obtain ⟨a1,a2,a3,a4,a5,a6,a7,a8,a9,a10,a11,a12⟩:=f
 obtain ⟨b1,b2,b3,b4,b5,b6,b7,b8,b9,b10,b11,b12⟩:=g
 have hn:∀ a b:Nat,((a:Int)=(b:Int))=(a=b):=fun a b=>propext Int.ofNat_inj
 simp [aleaves,aleaf,Fr.mk.injEq,Bool.decide_and,Bool.beq_eq_decide_eq,hn]
theorem frRows (l:List Fr):rowsOk 12 (l.map encFr)=true:=rowsOk_map (f:=encFr) (fun _=>rfl) l
def ixL (f:Fr):List Fr->Nat
 | []=>0
 | g::r=>if lessP f g=true then 0 else ixL f r+1
def insP (f:Fr) (l:List Fr):List Fr:=l.take (ixL f l)++[f]++l.drop (ixL f l)
theorem ixL_le (f:Fr):∀ l:List Fr,ixL f l<=l.length
 | []=>Nat.le_refl _
 | g::r=>by
  have:=ixL_le f r
  rw [ixL]
  split<;>simp<;>omega
theorem ahead_fspec (f g:Fr):call E (.func (.func 133) [] [.ptr 0 0]) [.agg (encFr g)] [.box (encFr f)]=some (.lit (.bool (lessP f g)),[.box (encFr f)]):=by
 have h:=less_spec f g
 rw [c9f E E133]
 simp [encFr,u8v] at h
 simp [go_sem,ir133,encFr,u8v,h,p9q,range_succ]
theorem frIxf_loop (f:Fr) (l:List Fr) (hl:l.length<=1000000) (nl fu:Bool) (k:List Item) (R:Option (AVal × Heap))
    (hk:∀ τ,finK 1 [.tmp 4] (run E 1 k τ [.box (encFr f)])=some (.lit (.int .i64 (-1)),[.box (encFr f)])) :
    ∀ (d i:Nat),i+d=l.length ->
   finK 1 [.tmp 4] (run E 1 (.code L134_0::.inLoop [0,1,7,8] L134_0::.inBlock 0::k) [(0,.imm nl fu true (l.map encFr)),(1,.func (.func 133) [] [.ptr 0 0]),(7,.lit (.int .i64 l.length)),(8,.lit (.int .i64 i))] [.box (encFr f)])
      = some (.lit (.int .i64 (if ixL f (l.drop i)=l.length - i then -1 else ((i+ixL f (l.drop i):Nat):Int))),[.box (encFr f)]):=by
  intro d
  induction d with
  | zero =>
    intro i hi
    have:i=l.length:=by omega
    subst this
    rw [List.drop_length]
    simp [go_sem,r9c E L134_0.eq_1,ixL]
    exact hk _
  | succ d ih =>
    intro i hi
    have hlt:i<l.length:=by omega
    have w:=wrapIdx (i:=i) (by omega)
    have ha:=ahead_fspec f l[i]
    rw [List.drop_eq_getElem_cons hlt]
    by_cases h:lessP f l[i]=true
    · have e:ixL f (l[i]::l.drop (i+1))=0:=by rw [ixL,if_pos h]
      rw [e,if_neg (by omega)]
      rw [h] at ha
      simp [encFr,u8v] at ha
      simp [go_sem,r9c E L134_0.eq_1,hlt,getElem?_eq_getElem hlt,encFr,u8v,ha,p9q,range_succ]
    · have h:lessP f l[i]=false:=by simpa using h
      have e:ixL f (l[i]::l.drop (i+1))=ixL f (l.drop (i+1))+1:=by rw [ixL,if_neg (by rw [h];simp)]
      have ih2:=ih (i+1) (by omega)
      rw [e]
      have e2:(if ixL f (l.drop (i+1))+1=l.length - i then (-1:Int) else ((i+(ixL f (l.drop (i+1))+1):Nat):Int))=(if ixL f (l.drop (i+1))=l.length - (i+1) then (-1:Int) else ((i+1+ixL f (l.drop (i+1)):Nat):Int)):=by
        by_cases q:ixL f (l.drop (i+1))=l.length - (i+1)
        · rw [if_pos q,if_pos (by omega)]
        · rw [if_neg q,if_neg (by omega),show i+(ixL f (l.drop (i+1))+1)=i+1+ixL f (l.drop (i+1)) by omega]
      rw [e2]
      generalize (if ixL f (l.drop (i+1))=l.length - (i+1) then (-1:Int) else ((i+1+ixL f (l.drop (i+1)):Nat):Int))=z at ih2 ⊢
      rw [h] at ha
      simp [encFr,u8v] at ih2 w ha
      simp [go_sem,r9c E L134_0.eq_1,hlt,getElem?_eq_getElem hlt,encFr,u8v,ha,w,p9q,range_succ]
      rw [r9l]
      simp [go_sem,p9q,range_succ]
      exact ih2
theorem frIxf_spec (f:Fr) (l:List Fr) (hl:l.length<=1000000) (nl fu:Bool):call E (.func (.func 134) [] []) [.imm nl fu true (l.map encFr),.func (.func 133) [] [.ptr 0 0]] [.box (encFr f)]
  = some (.lit (.int .i64 (if ixL f l=l.length then -1 else (ixL f l:Int))),[.box (encFr f)]):=by
 rw [c9f E E134]
 have h:=fun k hk=>frIxf_loop f l hl nl fu k none hk l.length 0 (by omega)
 simp only [List.drop_zero,Nat.sub_zero,Nat.zero_add] at h
 generalize (if ixL f l=l.length then (-1:Int) else (ixL f l:Int))=z at h ⊢
 simp [encFr,u8v] at h
 simp [go_sem,ir134,encFr,u8v,p9q,range_succ]
 rw [r9l]
 simp [go_sem,p9q,range_succ]
 refine h _ ?_
 intro τ
 simp [go_sem,encFr,u8v,p9q,range_succ]
def posL (f:Fr):List Fr->Nat
 | []=>0
 | g::r=>if f=g then 0 else posL f r+1
theorem posL_mem (f:Fr):∀ l:List Fr,f∈l↔posL f l<l.length
 | []=>by simp [posL]
 | g::r=>by
  rw [posL,mem_cons,posL_mem f r]
  by_cases h:f=g
  ·simp [h]
  ·simp [h]
theorem frIx_loop (f:Fr) (l:List Fr) (hl:l.length<=1000000) (nl fu:Bool) (k:List Item)
    (hk:∀ τ,finK 0 [.tmp 4] (run E 0 k τ [.box (encFr f)])=some (.lit (.int .i64 (-1)),[])) :
    ∀ (d i:Nat),i+d=l.length ->
   finK 0 [.tmp 4] (run E 0 (.code L171_0::.inLoop [0,3,7,8] L171_0::.inBlock 0::k) [(0,.imm nl fu true (l.map encFr)),(3,.ptr 0 0),(7,.lit (.int .i64 l.length)),(8,.lit (.int .i64 i))] [.box (encFr f)])
      = some (.lit (.int .i64 (if posL f (l.drop i)=l.length - i then -1 else ((i+posL f (l.drop i):Nat):Int))),[]):=by
  intro d
  induction d with
  | zero =>
    intro i hi
    have:i=l.length:=by omega
    subst this
    rw [List.drop_length]
    simp [go_sem,r9c E L171_0.eq_1,posL]
    exact hk _
  | succ d ih =>
    intro i hi
    have hlt:i<l.length:=by omega
    have w:=wrapIdx (i:=i) (by omega)
    rw [List.drop_eq_getElem_cons hlt]
    by_cases h:f=l[i]
    · have e:posL f (l[i]::l.drop (i+1))=0:=by rw [posL,if_pos h]
      rw [e,if_neg (by omega)]
      simp [go_sem,r9c E L171_0.eq_1,hlt,getElem?_eq_getElem hlt,encFr,u8v,↓aleaves_fr,h,p9q,range_succ]
    · have e:posL f (l[i]::l.drop (i+1))=posL f (l.drop (i+1))+1:=by rw [posL,if_neg h]
      have ih2:=ih (i+1) (by omega)
      rw [e]
      have e2:(if posL f (l.drop (i+1))+1=l.length - i then (-1:Int) else ((i+(posL f (l.drop (i+1))+1):Nat):Int))=(if posL f (l.drop (i+1))=l.length - (i+1) then (-1:Int) else ((i+1+posL f (l.drop (i+1)):Nat):Int)):=by
        by_cases q:posL f (l.drop (i+1))=l.length - (i+1)
        · rw [if_pos q,if_pos (by omega)]
        · rw [if_neg q,if_neg (by omega),show i+(posL f (l.drop (i+1))+1)=i+1+posL f (l.drop (i+1)) by omega]
      rw [e2]
      generalize (if posL f (l.drop (i+1))=l.length - (i+1) then (-1:Int) else ((i+1+posL f (l.drop (i+1)):Nat):Int))=z at ih2 ⊢
      simp [encFr,u8v] at ih2 w
      simp [go_sem,r9c E L171_0.eq_1,hlt,getElem?_eq_getElem hlt,encFr,u8v,↓aleaves_fr,h,w,p9q,range_succ]
      rw [r9l]
      simp [go_sem,p9q,range_succ]
      exact ih2
theorem frIx_spec (f:Fr) (l:List Fr) (hl:l.length<=1000000) (nl fu:Bool):call E (.func (.func 171) [] []) [.imm nl fu true (l.map encFr),.agg (encFr f)] []
  = some (.lit (.int .i64 (if posL f l=l.length then -1 else (posL f l:Int))),[]):=by
 rw [c9f E E171]
 have h:=fun k hk=>frIx_loop f l hl nl fu k hk l.length 0 (by omega)
 simp only [List.drop_zero,Nat.sub_zero,Nat.zero_add] at h
 generalize (if posL f l=l.length then (-1:Int) else (posL f l:Int))=z at h ⊢
 simp [encFr,u8v] at h
 simp [go_sem,ir171,encFr,u8v,p9q,range_succ]
 rw [r9l]
 simp [go_sem,p9q,range_succ]
 refine h _ ?_
 intro τ
 simp [go_sem,encFr,u8v,p9q,range_succ]
def quH (nq fu:Bool) (l:List Fr):Heap:=if nq=true then [.box [nilS,.lit (.int .i64 16)]] else [.box [.own 1 l.length 12 0 l.length,.lit (.int .i64 16)],.arr true false fu 12 (l.map encFr)]
theorem quSize_spec (nq fu:Bool) (l:List Fr) (hn:nq=true->l=[]):call E (.func (.func 101) [] []) [.ptr 0 0] (quH nq fu l)=some (.lit (.int .i64 l.length),quH nq fu l):=by
 rw [c9f E E101]
 cases nq
 ·simp [go_sem,ir101,quH,p9q,range_succ]
 ·simp [go_sem,ir101,quH,hn rfl,p9q,range_succ]
theorem quLen_spec (nq fu:Bool) (l:List Fr) (hn:nq=true->l=[]):call E (.func (.func 72) [] []) [.ptr 0 0] (quH nq fu l)=some (.lit (.int .i64 l.length),quH nq fu l):=by
 have h:=quSize_spec nq fu l hn
 rw [c9f E E72]
 cases nq
 ·simp [quH] at h
  simp [go_sem,ir72,quH,h,p9q,range_succ]
 ·simp [quH,hn rfl,nilS] at h
  simp [go_sem,ir72,quH,h,hn rfl,p9q,range_succ]
theorem qnew_spec:call E (.func (.func 77) [] []) [.lit (.int .i64 16)] []=some (.tup [.ptr 0 0,.lit (.int .i64 0)],quH true true []):=by
 rw [c9f E E77]
 simp [go_sem,ir77,quH,p9q,range_succ]
def putH (nq:Bool) (f:Fr) (l:List Fr):Heap:=if nq=true then [.box [.own 1 1 12 0 1,.lit (.int .i64 16)],.arr true false false 12 [encFr f]] else
 [.box [.own 2 (l.length+1) 12 0 (l.length+1),.lit (.int .i64 16)],.dead,.arr true false false 12 ((insP f l).map encFr)]
theorem insP_map (f:Fr) (l:List Fr):(insP f l).map encFr=List.take (ixL f l) (l.map encFr)++[encFr f]++List.drop (ixL f l) (l.map encFr):=by
 simp [insP,List.map_take,List.map_drop]
theorem quRowPut_spec (nq fu:Bool) (f:Fr) (l:List Fr) (hn:nq=true->l=[]) (hl:l.length<=1000):call E (.func (.func 102) [] []) [.ptr 0 0,.agg (encFr f)] (quH nq fu l)=some (.tup [],putH nq f l):=by
 have hb:(l.length+1) * 32<=70368744177664:=by omega
 have hle:=ixL_le f l
 rw [c9f E E102]
 cases nq
 ·have hx:=frIxf_spec f l (by omega) false fu
  have hx2:=frIxf_spec f l (by omega) false false
  simp only [putH,insP_map]
  by_cases h:ixL f l=l.length
  ·rw [if_pos h] at hx hx2
   rw [h]
   simp [encFr,u8v] at hx hx2
   simp [go_sem,ir102,quH,encFr,u8v,hx,hx2,libV,oneRow,insV,hb,p9q,range_succ]
  ·rw [if_neg h] at hx hx2
   have hlt:¬ ((ixL f l:Int)<0):=by omega
   simp [encFr,u8v] at hx hx2
   simp [go_sem,ir102,quH,encFr,u8v,hx,hx2,hlt,hle,libV,oneRow,insV,hb,p9q,range_succ]
 ·have hl0:=hn rfl
  subst hl0
  have hx:=frIxf_spec f [] (by simp) true true
  simp [encFr,u8v,ixL,nilS] at hx
  simp [go_sem,ir102,quH,putH,encFr,u8v,hx,libV,oneRow,insV,p9q,range_succ]
theorem quPut_spec (nq fu:Bool) (f:Fr) (l:List Fr) (hn:nq=true->l=[]) (hl:l.length<=1000):call E (.func (.func 73) [] []) [.ptr 0 0,.agg (encFr f)] (quH nq fu l)
  = if checkP f≠0 then some (.lit (.int .i64 (checkP f)),quH nq fu l) else if 16<=l.length then some (.lit (.int .i64 15),quH nq fu l) else some (.lit (.int .i64 0),putH nq f l):=by
 have hc:=fcheck_spec f
 have hs:=quSize_spec nq fu l hn
 have hp:=quRowPut_spec nq fu f l hn hl
 rw [c9f E E73]
 cases nq
 ·by_cases h:checkP f=0
  ·rw [if_neg (by simp [h])]
   rw [h] at hc
   by_cases h2:16<=l.length
   ·have h3:(16:Int)<=l.length:=by omega
    rw [if_pos h2]
    simp [quH,encFr,u8v] at hc hs
    simp [go_sem,ir73,quH,encFr,u8v,hc,hs,h2,h3,p9q,range_succ]
   ·have h3:¬ (16:Int)<=l.length:=by omega
    rw [if_neg h2]
    have hr:=frRows (insP f l)
    generalize (insP f l).map encFr=rows at hp
    simp only [putH] at hp ⊢
    simp [quH,encFr,u8v] at hc hs hp
    simp [go_sem,ir73,quH,encFr,u8v,hc,hs,hp,h2,h3,p9q,range_succ]
  ·rw [if_pos h]
   simp [quH,encFr,u8v] at hc hs
   simp [go_sem,ir73,quH,encFr,u8v,hc,hs,h,p9q,range_succ]
 ·have hl0:=hn rfl
  subst hl0
  by_cases h:checkP f=0
  ·rw [if_neg (by simp [h]),if_neg (by simp)]
   rw [h] at hc
   simp [quH,putH,encFr,u8v,nilS] at hc hs hp
   simp [go_sem,ir73,quH,putH,encFr,u8v,nilS,hc,hs,hp,p9q,range_succ]
  ·rw [if_pos h]
   simp [quH,encFr,u8v] at hc hs
   simp [go_sem,ir73,quH,encFr,u8v,hc,hs,h,p9q,range_succ]
theorem quFirst_spec (nq fu:Bool) (l:List Fr) (hn:nq=true->l=[]):call E (.func (.func 156) [] []) [.ptr 0 0] (quH nq fu l)
  = some (.tup [.agg (encFr (l.head?.getD Fr.zero)),.lit (.bool (decide (l≠[])))],quH nq fu l):=by
 have hs:=quSize_spec nq fu l hn
 rw [c9f E E156]
 cases nq
 ·cases l with
  | nil =>
   simp [quH] at hs
   simp [go_sem,ir156,quH,encFr,u8v,Fr.zero,hs,p9q,range_succ]
  | cons f r =>
   have h0:¬ ((r.length:Int)+1=0):=by omega
   simp [quH,encFr,u8v] at hs
   simp [go_sem,ir156,quH,encFr,u8v,hs,h0,p9q,range_succ]
 ·have hl0:=hn rfl
  subst hl0
  simp [quH,nilS] at hs
  simp [go_sem,ir156,quH,encFr,u8v,Fr.zero,nilS,hs,p9q,range_succ]
def delL (f:Fr) (l:List Fr):List Fr:=l.take (posL f l)++l.drop (posL f l+1)
theorem delL_map (f:Fr) (l:List Fr):(delL f l).map encFr=List.take (posL f l) (l.map encFr)++List.drop (posL f l+1) (l.map encFr):=by
 simp [delL,List.map_take,List.map_drop]
theorem delL_len (f:Fr) (l:List Fr) (h:f∈l):(delL f l).length=l.length - 1:=by
 have:=(posL_mem f l).1 h
 simp [delL];omega
def dropH (f:Fr) (l:List Fr):Heap:=[.box [.own 2 (l.length - 1) 12 0 (l.length - 1),.lit (.int .i64 16)],.dead,.arr true false false 12 ((delL f l).map encFr)]
theorem quRowDrop_spec (fu:Bool) (f:Fr) (l:List Fr) (hf:f∈l) (hl:l.length<=1000):call E (.func (.func 166) [] []) [.ptr 0 0,.agg (encFr f)] (quH false fu l)=some (.lit (.bool true),dropH f l):=by
 have hp:=(posL_mem f l).1 hf
 have hx:=frIx_spec f l (by omega) false fu
 have hx2:=frIx_spec f l (by omega) false false
 rw [if_neg (by omega)] at hx hx2
 have w:=wrapIdx (i:=posL f l) (by omega)
 have h1:¬ ((posL f l:Int)<0):=by omega
 have h2:(0:Int)<=(posL f l:Int)+1:=by omega
 have h3:((posL f l:Int)+1).toNat=posL f l+1:=by omega
 have h4:posL f l+1 - posL f l=1:=by omega
 have h5:posL f l+1<=l.length:=by omega
 rw [c9f E E166]
 simp only [dropH,delL_map]
 simp [encFr,u8v] at hx hx2 w
 simp [go_sem,ir166,quH,encFr,u8v,hx,hx2,w,h1,h2,h3,h4,h5,libV,delV,p9q,range_succ]
theorem quDrop_spec (fu:Bool) (f:Fr) (l:List Fr) (hf:f∈l) (hl:l.length<=1000):call E (.func (.func 159) [] []) [.ptr 0 0,.agg (encFr f)] (quH false fu l)=some (.lit (.int .i64 0),dropH f l):=by
 have h:=quRowDrop_spec fu f l hf hl
 rw [c9f E E159]
 generalize hr:(delL f l).map encFr=rows
 simp only [dropH,hr] at h ⊢
 simp [quH,encFr,u8v] at h
 simp [go_sem,ir159,quH,encFr,u8v,h,p9q,range_succ]
structure Nd where
 raw:List Bool
 lvl:Bool
 run:Nat
 mode:Nat
 k:Nat
 rows:Nat
 tx:Bool
 sends:Bool
 owed:Bool
 wrong:Bool
 ct:Ct
 own:Fr
 row:List Bool
 nq:Bool
 q:List Fr
structure Fl where
 lr:Bool
 fr:Bool
 fq:Bool
 lw:Bool
 fw:Bool
def Nd.cells (n:Nd) (rv qv wv:AVal):List AVal :=
  [rv,.lit (.int .i64 (lv n.lvl)),.lit (.int .i64 n.run),qv,.lit (.int .i64 n.mode),.lit (.int .i64 n.k),.lit (.int .i64 n.rows),.lit (.bool n.tx),.lit (.bool n.sends),.lit (.bool n.owed),.lit (.bool n.wrong),
   .lit (.int .i64 n.ct.te),.lit (.int .i64 n.ct.re),.lit (.bool n.ct.off),
   .lit (.int .i64 n.own.id),.lit (.bool n.own.ext),.lit (.bool n.own.rtr),.lit (.int .i64 n.own.len),.lit (.int .u8 n.own.d0),.lit (.int .u8 n.own.d1),.lit (.int .u8 n.own.d2),.lit (.int .u8 n.own.d3),.lit (.int .u8 n.own.d4),.lit (.int .u8 n.own.d5),.lit (.int .u8 n.own.d6),.lit (.int .u8 n.own.d7),wv]
def rV (n:Nd):AVal:=if n.raw=[] then nilS else .own 1 n.raw.length 1 0 n.raw.length
def qI (n:Nd):Nat:=if n.raw=[] then 1 else 2
def qV (n:Nd):AVal:=if n.nq=true then nilS else .own (qI n+1) n.q.length 12 0 n.q.length
def wI (n:Nd):Nat:=if n.nq=true then qI n+1 else qI n+2
def wV (n:Nd):AVal:=if n.row=[] then nilS else .own (wI n) n.row.length 1 0 n.row.length
def rE (n:Nd) (F:Fl):Heap:=if n.raw=[] then [] else [.arr true F.lr F.fr 1 (n.raw.map encLv)]
def qE (n:Nd) (F:Fl):Heap:=if n.nq=true then [] else [.arr true false F.fq 12 (n.q.map encFr)]
def wE (n:Nd) (F:Fl):Heap:=if n.row=[] then [] else [.arr true F.lw F.fw 1 (n.row.map encLv)]
def ndH (n:Nd) (F:Fl):Heap:=.box (n.cells (rV n) (.ptr (qI n) 0) (wV n))::(rE n F++.box [qV n,.lit (.int .i64 16)]::(qE n F++wE n F))
def Fl.lock (F:Fl):Fl:={ F with lr:=true }
structure Nd.Ok (n:Nd):Prop where
 nq:n.nq=true->n.q=[]
 ql:n.q.length<=16
 ct:n.ct.Ok
theorem nturn_spec (n:Nd) (F:Fl) (m:Nat):call E (.func (.func 143) [] []) [.ptr 0 0,.lit (.int .i64 m)] (ndH n F)=some (.tup [],ndH { n with mode:=m,k:=0 } F):=by
 rw [c9f E E143]
 by_cases h1:n.raw=[]<;>cases h2:n.nq<;>by_cases h3:n.row=[] <;>
 simp [go_sem,ir143,ndH,rV,qI,qV,wI,wV,rE,qE,wE,Nd.cells,nilS,h1,h2,h3,p9q,range_succ]
theorem lenPosN {α:Type} (l:List α):(0<l.length)=¬ (l=[]):=by
 cases l with
 | nil=>simp
 | cons a r=>simp
theorem npend_spec (n:Nd) (F:Fl) (hn:n.Ok):call E (.func (.func 98) [] []) [.ptr 0 0] (ndH n F)=some (.lit (.bool (decide (n.q≠[]))),ndH n F):=by
 rw [c9f E E98]
 have hq:=quLen_spec n.nq F.fq n.q hn.nq
 by_cases h1:n.raw=[]<;>cases h2:n.nq<;>by_cases h3:n.row=[] <;>
 simp [quH,h2,nilS] at hq <;>
 simp [go_sem,ir98,ndH,rV,qI,qV,wI,wV,rE,qE,wE,Nd.cells,nilS,h1,h2,h3,hq,lenPosN,p9q,range_succ]
theorem nlate_spec (n:Nd) (F:Fl):call E (.func (.func 152) [] []) [.ptr 0 0] (ndH n F)=some (.lit (.bool (n.tx && decide (n.ct.state=1))),ndH n F):=by
 rw [c9f E E152]
 have hs:=cstate_spec n.ct
 generalize n.ct.state=st at hs ⊢
 simp [Ct.cells] at hs
 cases ht:n.tx<;>by_cases h1:n.raw=[]<;>cases h2:n.nq<;>by_cases h3:n.row=[] <;>
 simp [go_sem,ir152,ndH,rV,qI,qV,wI,wV,rE,qE,wE,Nd.cells,nilS,h1,h2,h3,ht,hs,p9q,range_succ]
def nxV (n:Nd):AVal:=.tup [.lit (.int .i64 (nextF n.raw).1),.lit (.int .i64 (nextF n.raw).2),.lit (.bool (decide (n.run=5)))]
theorem nnext_spec (n:Nd) (F:Fl) (hr:RawOk n.raw):call E (.func (.func 121) [] []) [.ptr 0 0] (ndH n F)=some (nxV n,ndH n F.lock):=by
 rw [c9f E E121]
 have hN:=fun nl fu=>fnext_spec n.raw hr nl fu
 have h5:((n.run:Int)=5)=(n.run=5):=by apply propext;omega
 by_cases h1:n.raw=[]
 ·have hN:=hN true true
  rw [h1] at hN
  simp at hN
  cases h2:n.nq<;>by_cases h3:n.row=[] <;>
  simp [go_sem,ir121,ndH,rV,qI,qV,wI,wV,rE,qE,wE,Nd.cells,nilS,nxV,Fl.lock,h1,h2,h3,h5,hN,p9q,range_succ]
 ·have hN1:=hN false false
  have hN2:=hN false F.fr
  cases h2:n.nq<;>by_cases h3:n.row=[] <;>
  simp [go_sem,ir121,ndH,rV,qI,qV,wI,wV,rE,qE,wE,Nd.cells,nilS,nxV,Fl.lock,h1,h2,h3,h5,hN1,hN2,p9q,range_succ]
theorem nright_spec (n:Nd) (F:Fl) (h:dataF n.raw<=n.raw.length) (h2:sumF n.raw+15<=n.raw.length) (hl:n.raw.length<=1000):call E (.func (.func 122) [] []) [.ptr 0 0] (ndH n F)=some (.lit (.bool (rightF n.raw)),ndH n F.lock):=by
 rw [c9f E E122]
 have hN:=fright_spec n.raw h h2 (by omega) false F.fr
 have h1:¬ n.raw=[]:=by intro e;rw [e] at h2;simp at h2
 generalize rightF n.raw=b at hN ⊢
 cases b<;>cases hq:n.nq<;>by_cases h3:n.row=[] <;>
 simp [go_sem,ir122,ndH,rV,qI,qV,wI,wV,rE,qE,wE,Nd.cells,nilS,Fl.lock,h1,hq,h3,hN,p9q,range_succ]
def takeN (n:Nd) (b:Bool):Bool × Nd :=
 if n.run=5 then (if b=n.lvl then (false,n) else (true,{ n with lvl:=b,run:=1 }))
 else if 4<(nextF n.raw).1 then (true,{ n with run:=0,raw:=n.raw++[b] })
 else if 0<n.run/\b=n.lvl then (true,{ n with run:=n.run+1,raw:=n.raw++[b] })
 else (true,{ n with lvl:=b,run:=1,raw:=n.raw++[b] })
theorem lvT:lv true=1:=rfl
theorem lvF:lv false=0:=rfl
theorem lv_eq (a b:Bool):(lv a=lv b)=(a=b):=by cases a<;>cases b<;>simp [lv]
theorem ntake_spec (n:Nd) (F:Fl) (hr:RawOk n.raw) (h1:¬ n.raw=[]) (h5:n.run<=5) (b:Bool):∃ F',call E (.func (.func 148) [] []) [.ptr 0 0,.lit (.int .i64 (lv b))] (ndH n F)=some (.lit (.bool (takeN n b).1),ndH (takeN n b).2 F'):=by
 have hN:=nnext_spec n F hr
 have hl:=hr.1
 have hby:¬ (70368744177664<(n.raw.length+1) * 8):=by omega
 have w1:IntKind.wrap .i64 ((n.run:Int)+1)=n.run+1:=wrap64 (by omega) (by omega)
 rw [c9f E E148]
 by_cases r5:n.run=5
 ·refine ⟨F.lock,?_⟩
  by_cases hb:b=n.lvl
  ·cases h2:n.nq<;>by_cases h3:n.row=[] <;>
   simp [ndH,rV,qI,qV,wI,wV,rE,qE,wE,Nd.cells,nilS,nxV,Fl.lock,h1,h2,h3,r5] at hN <;>
   simp [go_sem,ir148,ndH,rV,qI,qV,wI,wV,rE,qE,wE,Nd.cells,nilS,takeN,Fl.lock,h1,h2,h3,r5,hN,lv_eq,hb,p9q,range_succ]
  ·cases h2:n.nq<;>by_cases h3:n.row=[] <;>
   simp [ndH,rV,qI,qV,wI,wV,rE,qE,wE,Nd.cells,nilS,nxV,Fl.lock,h1,h2,h3,r5] at hN <;>
   simp [go_sem,ir148,ndH,rV,qI,qV,wI,wV,rE,qE,wE,Nd.cells,nilS,takeN,Fl.lock,h1,h2,h3,r5,hN,lv_eq,hb,p9q,range_succ]
 ·refine ⟨{ F with lr:=true,fr:=false },?_⟩
  by_cases hk:4<(nextF n.raw).1
  ·have hk':(4:Int)<(nextF n.raw).1:=by omega
   cases h2:n.nq<;>by_cases h3:n.row=[] <;>
   simp [ndH,rV,qI,qV,wI,wV,rE,qE,wE,Nd.cells,nilS,nxV,Fl.lock,h1,h2,h3,r5] at hN <;>
   simp [go_sem,ir148,ndH,rV,qI,qV,wI,wV,rE,qE,wE,Nd.cells,nilS,takeN,Fl.lock,h1,h2,h3,r5,hN,hk,hk',hby,encLv,p9q,range_succ]
  ·have hk':¬ (4:Int)<(nextF n.raw).1:=by omega
   by_cases h0:0<n.run/\b=n.lvl
   ·have h01:=h0.1
    have h02:=h0.2
    cases h2:n.nq<;>by_cases h3:n.row=[] <;>
    simp [ndH,rV,qI,qV,wI,wV,rE,qE,wE,Nd.cells,nilS,nxV,Fl.lock,h1,h2,h3,r5] at hN <;>
    simp [go_sem,ir148,ndH,rV,qI,qV,wI,wV,rE,qE,wE,Nd.cells,nilS,takeN,Fl.lock,h1,h2,h3,r5,hN,hk,hk',h01,h02,w1,lv_eq,hby,encLv,p9q,range_succ]
   ·by_cases h01:0<n.run
    ·have h02:¬ b=n.lvl:=fun e=>h0 ⟨h01,e⟩
     cases h2:n.nq<;>by_cases h3:n.row=[] <;>
     simp [ndH,rV,qI,qV,wI,wV,rE,qE,wE,Nd.cells,nilS,nxV,Fl.lock,h1,h2,h3,r5] at hN <;>
     simp [go_sem,ir148,ndH,rV,qI,qV,wI,wV,rE,qE,wE,Nd.cells,nilS,takeN,Fl.lock,h1,h2,h3,r5,hN,hk,hk',h01,h02,w1,lv_eq,hby,encLv,p9q,range_succ]
    ·have h02:n.run=0:=by omega
     cases h2:n.nq<;>by_cases h3:n.row=[] <;>
     simp [ndH,rV,qI,qV,wI,wV,rE,qE,wE,Nd.cells,nilS,nxV,Fl.lock,h1,h2,h3,h02] at hN <;>
     simp [go_sem,ir148,ndH,rV,qI,qV,wI,wV,rE,qE,wE,Nd.cells,nilS,takeN,Fl.lock,h1,h2,h3,hN,hk,hk',h02,w1,lv_eq,hby,encLv,p9q,range_succ]
def frL (n:Nd):Bool:=if n.sends=true then (if n.run=5 then !n.lvl else (n.row[n.raw.length]?).getD true) else !(decide ((nextF n.raw).1=6) && rightF n.raw)
theorem nextF_six {m:List Bool} (h:6<=(nextF m).1/\(nextF m).1<=8):dataF m<=m.length/\sumF m+16<=m.length:=by
 unfold nextF at h
 repeat' split at h
 all_goals first | (simp at h;done) | (constructor<;>omega)
theorem nframe_spec (n:Nd) (F:Fl) (hr:RawOk n.raw) (hs:n.sends=true->n.raw.length<n.row.length):call E (.func (.func 99) [] []) [.ptr 0 0] (ndH n F)=some (.lit (.int .i64 (lv (frL n))),ndH n F.lock):=by
 have hN:=nnext_spec n F hr
 rw [c9f E E99]
 cases hsn:n.sends
 ·by_cases hk:(nextF n.raw).1=6
  ·have hk':((nextF n.raw).1:Int)=6:=by omega
   have h6:=nextF_six (m:=n.raw) (by omega)
   have h1:¬ n.raw=[]:=by intro e;rw [e] at h6;simp at h6
   have hR:=nright_spec n F.lock h6.1 (by omega) hr.1
   cases hb:rightF n.raw<;>cases h2:n.nq<;>by_cases h3:n.row=[] <;>
   simp [ndH,rV,qI,qV,wI,wV,rE,qE,wE,Nd.cells,nilS,nxV,Fl.lock,h1,h2,h3,hb,hsn] at hN hR <;>
   simp [go_sem,ir99,ndH,rV,qI,qV,wI,wV,rE,qE,wE,Nd.cells,nilS,frL,Fl.lock,h1,h2,h3,hsn,hN,hR,hk,hb,lvT,lvF,p9q,range_succ]
  ·have hk':¬ ((nextF n.raw).1:Int)=6:=by omega
   by_cases h1:n.raw=[]<;>cases h2:n.nq<;>by_cases h3:n.row=[] <;>
   simp [ndH,rV,qI,qV,wI,wV,rE,qE,wE,Nd.cells,nilS,nxV,Fl.lock,h1,h2,h3,hsn] at hN hk hk' <;>
   simp [go_sem,ir99,ndH,rV,qI,qV,wI,wV,rE,qE,wE,Nd.cells,nilS,frL,Fl.lock,h1,h2,h3,hsn,hN,hk,hk',lvT,lvF,p9q,range_succ]
 ·have hlt:=hs hsn
  have h3:¬ n.row=[]:=by intro e;rw [e] at hlt;simp at hlt
  by_cases r5:n.run=5
  ·by_cases h1:n.raw=[]<;>cases h2:n.nq<;>cases hlv:n.lvl <;>
   simp [ndH,rV,qI,qV,wI,wV,rE,qE,wE,Nd.cells,nilS,nxV,Fl.lock,h1,h2,h3,r5,hlv,hsn,lvT,lvF] at hN <;>
   simp [go_sem,ir99,ndH,rV,qI,qV,wI,wV,rE,qE,wE,Nd.cells,nilS,frL,Fl.lock,h1,h2,h3,hsn,hN,r5,hlv,lvT,lvF,p9q,range_succ]
   all_goals decide
  ·by_cases h1:n.raw=[]
   ·have hlt0:0<n.row.length:=by rw [h1] at hlt;simpa using hlt
    have hg:n.row[0]?=some n.row[0]:=getElem?_eq_getElem hlt0
    cases h2:n.nq <;>
    simp [ndH,rV,qI,qV,wI,wV,rE,qE,wE,Nd.cells,nilS,nxV,Fl.lock,h1,h2,h3,r5,hsn] at hN <;>
    simp [go_sem,ir99,ndH,rV,qI,qV,wI,wV,rE,qE,wE,Nd.cells,nilS,frL,Fl.lock,h1,h2,h3,hsn,hN,r5,hlt0,hg,encLv,p9q,range_succ]
   ·have hg:n.row[n.raw.length]?=some n.row[n.raw.length]:=getElem?_eq_getElem hlt
    cases h2:n.nq <;>
    simp [ndH,rV,qI,qV,wI,wV,rE,qE,wE,Nd.cells,nilS,nxV,Fl.lock,h1,h2,h3,r5,hsn] at hN <;>
    simp [go_sem,ir99,ndH,rV,qI,qV,wI,wV,rE,qE,wE,Nd.cells,nilS,frL,Fl.lock,h1,h2,h3,hsn,hN,r5,hlt,hg,encLv,p9q,range_succ]
def encK (k:Nat):List AVal:=[.lit (.int .i64 k)]
def mI (n:Nd):Nat:=if n.row=[] then wI n else wI n+1
def tdV (T:Nat) (ks:List Nat):AVal:=if ks=[] then nilS else .own (T+1) ks.length 1 0 ks.length
def tdC (v:AVal) (f:Fr):List AVal:=[v,.lit (.int .i64 f.id),.lit (.bool f.ext),.lit (.bool f.rtr),.lit (.int .i64 f.len),.lit (.int .u8 f.d0),.lit (.int .u8 f.d1),.lit (.int .u8 f.d2),.lit (.int .u8 f.d3),.lit (.int .u8 f.d4),.lit (.int .u8 f.d5),.lit (.int .u8 f.d6),.lit (.int .u8 f.d7)]
def tdE (T:Nat) (ks:List Nat) (f:Fr):Heap:=.box (tdC (tdV T ks) f)::(if ks=[] then [] else [.arr true false false 1 (ks.map encK)])
def ndT (n:Nd) (F:Fl) (ks:List Nat) (f:Fr):Heap:=ndH n F++tdE (mI n) ks f
theorem tell_nil (f:Fr) (k:Nat):call E (.func (.func 150) [] []) [.ptr 0 0,.lit (.int .i64 k)] (tdE 0 [] f)=some (.tup [],tdE 0 [k] f):=by
 rw [c9f E E150]
 simp [go_sem,ir150,ndH,rV,qI,qV,wI,wV,rE,qE,wE,Nd.cells,nilS,ndT,tdE,tdV,tdC,mI,encK,p9q,range_succ]
theorem tell_one (f:Fr) (k j:Nat):call E (.func (.func 150) [] []) [.ptr 0 0,.lit (.int .i64 k)] (tdE 0 [j] f)=some (.tup [],tdE 0 [j,k] f):=by
 rw [c9f E E150]
 simp [go_sem,ir150,ndH,rV,qI,qV,wI,wV,rE,qE,wE,Nd.cells,nilS,ndT,tdE,tdV,tdC,mI,encK,p9q,range_succ]
def chCt (n:Nd) (w:Nat):Ct:=if n.tx=true then n.ct.txE else n.ct.rxE w
def chN (n:Nd) (w:Nat):Bool × Nd:=if (chCt n w).state=2 then (false,{ n with ct:=chCt n w,mode:=10,k:=0,rows:=0 }) else (true,{ n with ct:=chCt n w })
theorem ncharge_nil_off (n:Nd) (F:Fl) (hn:n.Ok) (f:Fr) (w:Nat) (hw:w=1∨w=8) (c:Ct) (hc:c=chCt n w) (h2:c.state=2):call E (.func (.func 151) [] []) [.ptr 0 0,.ptr (mI n) 0,.lit (.int .i64 w)] (ndT n F [] f)
  = some (.lit (.bool false),ndT { n with ct:=c,mode:=10,k:=0,rows:=0 } F [10] f):=by
 have hs:=cstate_spec c
 have ht:=ctx_spec n.ct hn.ct
 have hr:=crx_spec n.ct hn.ct w hw
 have hT:=tell_nil f 10
 have hu:=nturn_spec { n with ct:=c } F 10
 rw [h2] at hs
 rw [c9f E E151]
 by_cases htx:n.tx=true
 case neg =>
  have htx:n.tx=false:=by simpa using htx
  rw [show n.ct.rxE w=c by rw [hc];unfold chCt;rw [htx];rfl] at hr
  clear ht hc
  by_cases h1:n.raw=[]<;>by_cases hq:n.nq=true<;>by_cases h3:n.row=[] <;>
  simp [ndH,rV,qI,qV,wI,wV,rE,qE,wE,Nd.cells,nilS,ndT,tdE,tdV,tdC,mI,encK,Ct.cells,h1,hq,h3,htx] at hs hr hT hu <;>
  simp [go_sem,ir151,ndH,rV,qI,qV,wI,wV,rE,qE,wE,Nd.cells,nilS,ndT,tdE,tdV,tdC,mI,encK,Ct.cells,h1,hq,h3,htx,h2,hs,hr,hT,hu,p9q,range_succ]
 case pos =>
  rw [show n.ct.txE=c by rw [hc];unfold chCt;rw [htx];rfl] at ht
  clear hr hc
  by_cases h1:n.raw=[]<;>by_cases hq:n.nq=true<;>by_cases h3:n.row=[] <;>
  simp [ndH,rV,qI,qV,wI,wV,rE,qE,wE,Nd.cells,nilS,ndT,tdE,tdV,tdC,mI,encK,Ct.cells,h1,hq,h3,htx] at hs ht hT hu <;>
  simp [go_sem,ir151,ndH,rV,qI,qV,wI,wV,rE,qE,wE,Nd.cells,nilS,ndT,tdE,tdV,tdC,mI,encK,Ct.cells,h1,hq,h3,htx,h2,hs,ht,hT,hu,p9q,range_succ]
theorem ncharge_nil_on (n:Nd) (F:Fl) (hn:n.Ok) (f:Fr) (w:Nat) (hw:w=1∨w=8) (c:Ct) (hc:c=chCt n w) (h2:¬ c.state=2):call E (.func (.func 151) [] []) [.ptr 0 0,.ptr (mI n) 0,.lit (.int .i64 w)] (ndT n F [] f)
  = some (.lit (.bool true),ndT { n with ct:=c } F [] f):=by
 have hs:=cstate_spec c
 have ht:=ctx_spec n.ct hn.ct
 have hr:=crx_spec n.ct hn.ct w hw
 rw [c9f E E151]
 by_cases htx:n.tx=true
 case neg =>
  have htx:n.tx=false:=by simpa using htx
  rw [show n.ct.rxE w=c by rw [hc];unfold chCt;rw [htx];rfl] at hr
  clear ht hc
  by_cases h1:n.raw=[]<;>by_cases hq:n.nq=true<;>by_cases h3:n.row=[] <;>
  simp [ndH,rV,qI,qV,wI,wV,rE,qE,wE,Nd.cells,nilS,ndT,tdE,tdV,tdC,mI,encK,Ct.cells,h1,hq,h3,htx] at hs hr <;>
  simp [go_sem,ir151,ndH,rV,qI,qV,wI,wV,rE,qE,wE,Nd.cells,nilS,ndT,tdE,tdV,tdC,mI,encK,Ct.cells,h1,hq,h3,htx,h2,hs,hr,p9q,range_succ]
 case pos =>
  rw [show n.ct.txE=c by rw [hc];unfold chCt;rw [htx];rfl] at ht
  clear hr hc
  by_cases h1:n.raw=[]<;>by_cases hq:n.nq=true<;>by_cases h3:n.row=[] <;>
  simp [ndH,rV,qI,qV,wI,wV,rE,qE,wE,Nd.cells,nilS,ndT,tdE,tdV,tdC,mI,encK,Ct.cells,h1,hq,h3,htx] at hs ht <;>
  simp [go_sem,ir151,ndH,rV,qI,qV,wI,wV,rE,qE,wE,Nd.cells,nilS,ndT,tdE,tdV,tdC,mI,encK,Ct.cells,h1,hq,h3,htx,h2,hs,ht,p9q,range_succ]
theorem ncharge_one_off (n:Nd) (F:Fl) (hn:n.Ok) (f:Fr) (j:Nat) (w:Nat) (hw:w=1∨w=8) (c:Ct) (hc:c=chCt n w) (h2:c.state=2):call E (.func (.func 151) [] []) [.ptr 0 0,.ptr (mI n) 0,.lit (.int .i64 w)] (ndT n F [j] f)
  = some (.lit (.bool false),ndT { n with ct:=c,mode:=10,k:=0,rows:=0 } F [j,10] f):=by
 have hs:=cstate_spec c
 have ht:=ctx_spec n.ct hn.ct
 have hr:=crx_spec n.ct hn.ct w hw
 have hT:=tell_one f 10 j
 have hu:=nturn_spec { n with ct:=c } F 10
 rw [h2] at hs
 rw [c9f E E151]
 by_cases htx:n.tx=true
 case neg =>
  have htx:n.tx=false:=by simpa using htx
  rw [show n.ct.rxE w=c by rw [hc];unfold chCt;rw [htx];rfl] at hr
  clear ht hc
  by_cases h1:n.raw=[]<;>by_cases hq:n.nq=true<;>by_cases h3:n.row=[] <;>
  simp [ndH,rV,qI,qV,wI,wV,rE,qE,wE,Nd.cells,nilS,ndT,tdE,tdV,tdC,mI,encK,Ct.cells,h1,hq,h3,htx] at hs hr hT hu <;>
  simp [go_sem,ir151,ndH,rV,qI,qV,wI,wV,rE,qE,wE,Nd.cells,nilS,ndT,tdE,tdV,tdC,mI,encK,Ct.cells,h1,hq,h3,htx,h2,hs,hr,hT,hu,p9q,range_succ]
 case pos =>
  rw [show n.ct.txE=c by rw [hc];unfold chCt;rw [htx];rfl] at ht
  clear hr hc
  by_cases h1:n.raw=[]<;>by_cases hq:n.nq=true<;>by_cases h3:n.row=[] <;>
  simp [ndH,rV,qI,qV,wI,wV,rE,qE,wE,Nd.cells,nilS,ndT,tdE,tdV,tdC,mI,encK,Ct.cells,h1,hq,h3,htx] at hs ht hT hu <;>
  simp [go_sem,ir151,ndH,rV,qI,qV,wI,wV,rE,qE,wE,Nd.cells,nilS,ndT,tdE,tdV,tdC,mI,encK,Ct.cells,h1,hq,h3,htx,h2,hs,ht,hT,hu,p9q,range_succ]
theorem ncharge_one_on (n:Nd) (F:Fl) (hn:n.Ok) (f:Fr) (j:Nat) (w:Nat) (hw:w=1∨w=8) (c:Ct) (hc:c=chCt n w) (h2:¬ c.state=2):call E (.func (.func 151) [] []) [.ptr 0 0,.ptr (mI n) 0,.lit (.int .i64 w)] (ndT n F [j] f)
  = some (.lit (.bool true),ndT { n with ct:=c } F [j] f):=by
 have hs:=cstate_spec c
 have ht:=ctx_spec n.ct hn.ct
 have hr:=crx_spec n.ct hn.ct w hw
 rw [c9f E E151]
 by_cases htx:n.tx=true
 case neg =>
  have htx:n.tx=false:=by simpa using htx
  rw [show n.ct.rxE w=c by rw [hc];unfold chCt;rw [htx];rfl] at hr
  clear ht hc
  by_cases h1:n.raw=[]<;>by_cases hq:n.nq=true<;>by_cases h3:n.row=[] <;>
  simp [ndH,rV,qI,qV,wI,wV,rE,qE,wE,Nd.cells,nilS,ndT,tdE,tdV,tdC,mI,encK,Ct.cells,h1,hq,h3,htx] at hs hr <;>
  simp [go_sem,ir151,ndH,rV,qI,qV,wI,wV,rE,qE,wE,Nd.cells,nilS,ndT,tdE,tdV,tdC,mI,encK,Ct.cells,h1,hq,h3,htx,h2,hs,hr,p9q,range_succ]
 case pos =>
  rw [show n.ct.txE=c by rw [hc];unfold chCt;rw [htx];rfl] at ht
  clear hr hc
  by_cases h1:n.raw=[]<;>by_cases hq:n.nq=true<;>by_cases h3:n.row=[] <;>
  simp [ndH,rV,qI,qV,wI,wV,rE,qE,wE,Nd.cells,nilS,ndT,tdE,tdV,tdC,mI,encK,Ct.cells,h1,hq,h3,htx] at hs ht <;>
  simp [go_sem,ir151,ndH,rV,qI,qV,wI,wV,rE,qE,wE,Nd.cells,nilS,ndT,tdE,tdV,tdC,mI,encK,Ct.cells,h1,hq,h3,htx,h2,hs,ht,p9q,range_succ]
def flagN (n:Nd) (st:Int):Nd:={ n with wrong:=true,owed:=false,mode:=if st=0 then 3 else 4,k:=0 }
def failN (n:Nd) (kind:Nat) (counted:Bool):List Nat × Nd :=
 if counted=true∨n.tx=false then
  (if (chN n 1).1=true then ([kind],flagN (chN n 1).2 n.ct.state) else ([kind,10],(chN n 1).2))
 else ([kind],flagN n n.ct.state)
def overN (n:Nd):List Nat × Nd:=([9],{ n with wrong:=false,mode:=5,k:=0 })
theorem nover_spec (n:Nd) (F:Fl) (f:Fr):call E (.func (.func 147) [] []) [.ptr 0 0,.ptr (mI n) 0] (ndT n F [] f)=some (.tup [],ndT (overN n).2 F [9] f):=by
 have hT:=tell_nil f 9
 have hu:=nturn_spec { n with wrong:=false } F 5
 rw [c9f E E147]
 simp only [overN]
 by_cases h1:n.raw=[]<;>by_cases hq:n.nq=true<;>by_cases h3:n.row=[] <;>
 simp [ndH,rV,qI,qV,wI,wV,rE,qE,wE,Nd.cells,nilS,ndT,tdE,tdV,tdC,mI,encK,h1,hq,h3] at hT hu <;>
 simp [go_sem,ir147,ndH,rV,qI,qV,wI,wV,rE,qE,wE,Nd.cells,nilS,ndT,tdE,tdV,tdC,mI,encK,h1,hq,h3,hT,hu,p9q,range_succ]
theorem nfail_none (n:Nd) (F:Fl) (f:Fr) (kind:Nat) (st:Int) (hst:n.ct.state=st) (htx:n.tx=true):call E (.func (.func 145) [] []) [.ptr 0 0,.ptr (mI n) 0,.lit (.int .i64 kind),.lit (.bool false)] (ndT n F [] f)=some (.tup [],ndT (flagN n st) F [kind] f):=by
 have hT:=tell_nil f kind
 have hs:=cstate_spec n.ct
 rw [hst] at hs
 clear hst
 rw [c9f E E145]
 by_cases h0:st=0
 ·have hu:=nturn_spec { n with wrong:=true,owed:=false } F 3
  by_cases h1:n.raw=[]<;>by_cases hq:n.nq=true<;>by_cases h3:n.row=[] <;>
  simp [ndH,rV,qI,qV,wI,wV,rE,qE,wE,Nd.cells,nilS,ndT,tdE,tdV,tdC,mI,encK,Ct.cells,h1,hq,h3,htx,h0] at hT hu hs <;>
  simp [go_sem,ir145,ndH,rV,qI,qV,wI,wV,rE,qE,wE,Nd.cells,nilS,ndT,tdE,tdV,tdC,mI,encK,Ct.cells,flagN,h1,hq,h3,htx,h0,hT,hu,hs,p9q,range_succ]
 ·have hu:=nturn_spec { n with wrong:=true,owed:=false } F 4
  by_cases h1:n.raw=[]<;>by_cases hq:n.nq=true<;>by_cases h3:n.row=[] <;>
  simp [ndH,rV,qI,qV,wI,wV,rE,qE,wE,Nd.cells,nilS,ndT,tdE,tdV,tdC,mI,encK,Ct.cells,h1,hq,h3,htx,h0] at hT hu hs <;>
  simp [go_sem,ir145,ndH,rV,qI,qV,wI,wV,rE,qE,wE,Nd.cells,nilS,ndT,tdE,tdV,tdC,mI,encK,Ct.cells,flagN,h1,hq,h3,htx,h0,hT,hu,hs,p9q,range_succ]
theorem nfail_off (n:Nd) (F:Fl) (hn:n.Ok) (f:Fr) (kind:Nat) (ctd:Bool) (st:Int) (hst:n.ct.state=st) (hct:ctd=true∨n.tx=false) (c:Ct) (hc:c=chCt n 1) (h2:c.state=2):call E (.func (.func 145) [] []) [.ptr 0 0,.ptr (mI n) 0,.lit (.int .i64 kind),.lit (.bool ctd)] (ndT n F [] f)
  = some (.tup [],ndT { n with ct:=c,mode:=10,k:=0,rows:=0 } F [kind,10] f):=by
 have hT:=tell_nil f kind
 have hs:=cstate_spec n.ct
 have hch:=ncharge_one_off n F hn f kind 1 (.inl rfl) c hc h2
 rw [hst] at hs
 clear hst hc
 rw [c9f E E145]
 cases ctd
 ·have htx:n.tx=false:=by simpa using hct
  by_cases h1:n.raw=[]<;>by_cases hq:n.nq=true<;>by_cases h3:n.row=[] <;>
  simp [ndH,rV,qI,qV,wI,wV,rE,qE,wE,Nd.cells,nilS,ndT,tdE,tdV,tdC,mI,encK,Ct.cells,h1,hq,h3,htx] at hT hch hs <;>
  simp [go_sem,ir145,ndH,rV,qI,qV,wI,wV,rE,qE,wE,Nd.cells,nilS,ndT,tdE,tdV,tdC,mI,encK,Ct.cells,h1,hq,h3,htx,hT,hch,hs,p9q,range_succ]
 ·by_cases h1:n.raw=[]<;>by_cases hq:n.nq=true<;>by_cases h3:n.row=[] <;>
  simp [ndH,rV,qI,qV,wI,wV,rE,qE,wE,Nd.cells,nilS,ndT,tdE,tdV,tdC,mI,encK,Ct.cells,h1,hq,h3] at hT hch hs <;>
  simp [go_sem,ir145,ndH,rV,qI,qV,wI,wV,rE,qE,wE,Nd.cells,nilS,ndT,tdE,tdV,tdC,mI,encK,Ct.cells,h1,hq,h3,hT,hch,hs,p9q,range_succ]
theorem nfail_on (n:Nd) (F:Fl) (hn:n.Ok) (f:Fr) (kind:Nat) (ctd:Bool) (st:Int) (hst:n.ct.state=st) (hct:ctd=true∨n.tx=false) (c:Ct) (hc:c=chCt n 1) (h2:¬ c.state=2):call E (.func (.func 145) [] []) [.ptr 0 0,.ptr (mI n) 0,.lit (.int .i64 kind),.lit (.bool ctd)] (ndT n F [] f)
  = some (.tup [],ndT (flagN { n with ct:=c } st) F [kind] f):=by
 have hT:=tell_nil f kind
 have hs:=cstate_spec n.ct
 have hch:=ncharge_one_on n F hn f kind 1 (.inl rfl) c hc h2
 rw [hst] at hs
 clear hst hc
 rw [c9f E E145]
 by_cases h0:st=0
 case pos =>
  have hu:=nturn_spec { n with ct:=c,wrong:=true,owed:=false } F 3
  cases ctd
  ·have htx:n.tx=false:=by simpa using hct
   by_cases h1:n.raw=[]<;>by_cases hq:n.nq=true<;>by_cases h3:n.row=[] <;>
   simp [ndH,rV,qI,qV,wI,wV,rE,qE,wE,Nd.cells,nilS,ndT,tdE,tdV,tdC,mI,encK,Ct.cells,h1,hq,h3,htx,h0] at hT hch hs hu <;>
   simp [go_sem,ir145,ndH,rV,qI,qV,wI,wV,rE,qE,wE,Nd.cells,nilS,ndT,tdE,tdV,tdC,mI,encK,Ct.cells,flagN,h1,hq,h3,htx,h0,hT,hch,hs,hu,p9q,range_succ]
  ·by_cases h1:n.raw=[]<;>by_cases hq:n.nq=true<;>by_cases h3:n.row=[] <;>
   simp [ndH,rV,qI,qV,wI,wV,rE,qE,wE,Nd.cells,nilS,ndT,tdE,tdV,tdC,mI,encK,Ct.cells,h1,hq,h3,h0] at hT hch hs hu <;>
   simp [go_sem,ir145,ndH,rV,qI,qV,wI,wV,rE,qE,wE,Nd.cells,nilS,ndT,tdE,tdV,tdC,mI,encK,Ct.cells,flagN,h1,hq,h3,h0,hT,hch,hs,hu,p9q,range_succ]
 case neg =>
  have hu:=nturn_spec { n with ct:=c,wrong:=true,owed:=false } F 4
  cases ctd
  ·have htx:n.tx=false:=by simpa using hct
   by_cases h1:n.raw=[]<;>by_cases hq:n.nq=true<;>by_cases h3:n.row=[] <;>
   simp [ndH,rV,qI,qV,wI,wV,rE,qE,wE,Nd.cells,nilS,ndT,tdE,tdV,tdC,mI,encK,Ct.cells,h1,hq,h3,htx,h0] at hT hch hs hu <;>
   simp [go_sem,ir145,ndH,rV,qI,qV,wI,wV,rE,qE,wE,Nd.cells,nilS,ndT,tdE,tdV,tdC,mI,encK,Ct.cells,flagN,h1,hq,h3,htx,h0,hT,hch,hs,hu,p9q,range_succ]
  ·by_cases h1:n.raw=[]<;>by_cases hq:n.nq=true<;>by_cases h3:n.row=[] <;>
   simp [ndH,rV,qI,qV,wI,wV,rE,qE,wE,Nd.cells,nilS,ndT,tdE,tdV,tdC,mI,encK,Ct.cells,h1,hq,h3,h0] at hT hch hs hu <;>
   simp [go_sem,ir145,ndH,rV,qI,qV,wI,wV,rE,qE,wE,Nd.cells,nilS,ndT,tdE,tdV,tdC,mI,encK,Ct.cells,flagN,h1,hq,h3,h0,hT,hch,hs,hu,p9q,range_succ]
theorem nfail_spec (n:Nd) (F:Fl) (hn:n.Ok) (f:Fr) (kind:Nat) (ctd:Bool):call E (.func (.func 145) [] []) [.ptr 0 0,.ptr (mI n) 0,.lit (.int .i64 kind),.lit (.bool ctd)] (ndT n F [] f)=some (.tup [],ndT (failN n kind ctd).2 F (failN n kind ctd).1 f):=by
 by_cases hc:ctd=true∨n.tx=false
 ·by_cases h:(chCt n 1).state=2
  ·rw [nfail_off n F hn f kind ctd _ rfl hc _ rfl h,show failN n kind ctd=([kind,10],{ n with ct:=chCt n 1,mode:=10,k:=0,rows:=0 }) by
    unfold failN;rw [if_pos hc,show chN n 1=(false,{ n with ct:=chCt n 1,mode:=10,k:=0,rows:=0 }) by unfold chN;rw [if_pos h]];simp]
  ·rw [nfail_on n F hn f kind ctd _ rfl hc _ rfl h,show failN n kind ctd=([kind],flagN { n with ct:=chCt n 1 } n.ct.state) by
    unfold failN;rw [if_pos hc,show chN n 1=(true,{ n with ct:=chCt n 1 }) by unfold chN;rw [if_neg h]];simp]
 ·have h1:ctd=false:=by cases ctd;rfl;exact absurd (.inl rfl) hc
  have h2:n.tx=true:=by cases h:n.tx;exact absurd (.inr h) hc;rfl
  rw [h1,nfail_none n F f kind _ rfl h2,show failN n kind false=([kind],flagN n n.ct.state) by unfold failN;rw [if_neg (by rw [h2];simp)]]
theorem k1w {k:Nat} (h:k<=1000000000):IntKind.wrap .i64 ((k:Int)+1)=k+1:=wrap64 (by omega) (by omega)
theorem w11:IntKind.wrap .i64 11=11:=by decide
theorem w8:IntKind.wrap .i64 8=8:=by decide
theorem w6:IntKind.wrap .i64 6=6:=by decide
theorem w7:IntKind.wrap .i64 7=7:=by decide
theorem w1c:IntKind.wrap .i64 1=1:=by decide
theorem w128:IntKind.wrap .i64 128=128:=by decide
def joinN (n:Nd) (b:Bool):List Nat × Nd:=([],if b=false then { n with k:=0 } else if n.k+1=11 then { n with mode:=1,k:=0 } else { n with k:=n.k+1 })
def domN (n:Nd) (b:Bool):List Nat × Nd :=
 if b=false then ([],if n.k+1=6 then { n with mode:=6,k:=0 } else { n with k:=n.k+1 })
 else if (chN n 8).1=true then ([4],if n.k+1=6 then { (chN n 8).2 with mode:=6,k:=0 } else { (chN n 8).2 with k:=n.k+1 })
 else ([4,10],(chN n 8).2)
def pasK (n:Nd) (b:Bool):Nat:=if 0<n.k/\b≠n.lvl then 1 else n.k+1
def pasN (n:Nd) (b:Bool):List Nat × Nd :=
 if n.owed=true/\b=false then
  (if (chN { n with k:=pasK n b,lvl:=b,owed:=false } 8).1=true then
   ([],if pasK n b=6 then { (chN { n with k:=pasK n b,lvl:=b,owed:=false } 8).2 with mode:=6,k:=0 } else (chN { n with k:=pasK n b,lvl:=b,owed:=false } 8).2)
  else ([10],(chN { n with k:=pasK n b,lvl:=b,owed:=false } 8).2))
 else ([],if pasK n b=6 then { n with lvl:=b,mode:=6,k:=0 } else { n with k:=pasK n b,lvl:=b })
theorem njoin_spec (n:Nd) (F:Fl) (hk:n.k<=1000000000) (f:Fr) (b:Bool):call E (.func (.func 123) [] []) [.ptr 0 0,.ptr (mI n) 0,.lit (.int .i64 (lv b))] (ndT n F [] f)=some (.tup [],ndT (joinN n b).2 F (joinN n b).1 f):=by
 have w1:=k1w hk
 rw [c9f E E123]
 cases b
 case false =>
  rw [show joinN n false=([],{ n with k:=0 }) from rfl]
  by_cases h1:n.raw=[]<;>by_cases hq:n.nq=true<;>by_cases h3:n.row=[] <;>
  simp [go_sem,ir123,ndH,rV,qI,qV,wI,wV,rE,qE,wE,Nd.cells,nilS,ndT,tdE,tdV,tdC,mI,encK,h1,hq,h3,lvF,w1,p9q,range_succ]
 case true =>
  by_cases hk2:n.k+1=11
  case pos =>
   rw [show joinN n true=([],{ n with mode:=1,k:=0 }) by unfold joinN;rw [if_neg (by simp),if_pos hk2]]
   have hk3:(n.k:Int)+1=11:=by omega
   have hu:=nturn_spec { n with k:=11 } F 1
   by_cases h1:n.raw=[]<;>by_cases hq:n.nq=true<;>by_cases h3:n.row=[] <;>
   simp [ndH,rV,qI,qV,wI,wV,rE,qE,wE,Nd.cells,nilS,ndT,tdE,tdV,tdC,mI,encK,h1,hq,h3,lvT] at hu <;>
   simp [go_sem,ir123,ndH,rV,qI,qV,wI,wV,rE,qE,wE,Nd.cells,nilS,ndT,tdE,tdV,tdC,mI,encK,h1,hq,h3,lvT,hk3,w11,hu,p9q,range_succ]
  case neg =>
   rw [show joinN n true=([],{ n with k:=n.k+1 }) by unfold joinN;rw [if_neg (by simp),if_neg hk2]]
   have hk3:¬ ((n.k:Int)+1=11):=by omega
   by_cases h1:n.raw=[]<;>by_cases hq:n.nq=true<;>by_cases h3:n.row=[] <;>
   simp [go_sem,ir123,ndH,rV,qI,qV,wI,wV,rE,qE,wE,Nd.cells,nilS,ndT,tdE,tdV,tdC,mI,encK,h1,hq,h3,lvT,w1,hk3,p9q,range_succ]
theorem ndom_spec (n:Nd) (F:Fl) (hn:n.Ok) (hk:n.k<=1000000000) (f:Fr) (b:Bool):call E (.func (.func 126) [] []) [.ptr 0 0,.ptr (mI n) 0,.lit (.int .i64 (lv b))] (ndT n F [] f)=some (.tup [],ndT (domN n b).2 F (domN n b).1 f):=by
 have w1:=k1w hk
 rw [c9f E E126]
 cases b
 case false =>
  by_cases hk2:n.k+1=6
  case pos =>
   rw [show domN n false=([],{ n with mode:=6,k:=0 }) by unfold domN;rw [if_pos rfl,if_pos hk2]]
   have hk3:(n.k:Int)+1=6:=by omega
   have hu:=nturn_spec { n with k:=6 } F 6
   by_cases h1:n.raw=[]<;>by_cases hq:n.nq=true<;>by_cases h3:n.row=[] <;>
   simp [ndH,rV,qI,qV,wI,wV,rE,qE,wE,Nd.cells,nilS,ndT,tdE,tdV,tdC,mI,encK,h1,hq,h3,lvF] at hu <;>
   simp [go_sem,ir126,ndH,rV,qI,qV,wI,wV,rE,qE,wE,Nd.cells,nilS,ndT,tdE,tdV,tdC,mI,encK,h1,hq,h3,lvF,hk3,w6,hu,p9q,range_succ]
  case neg =>
   rw [show domN n false=([],{ n with k:=n.k+1 }) by unfold domN;rw [if_pos rfl,if_neg hk2]]
   have hk3:¬ ((n.k:Int)+1=6):=by omega
   by_cases h1:n.raw=[]<;>by_cases hq:n.nq=true<;>by_cases h3:n.row=[] <;>
   simp [go_sem,ir126,ndH,rV,qI,qV,wI,wV,rE,qE,wE,Nd.cells,nilS,ndT,tdE,tdV,tdC,mI,encK,h1,hq,h3,lvF,w1,hk3,p9q,range_succ]
 case true =>
  have hT:=tell_nil f 4
  by_cases h2:(chCt n 8).state=2
  case pos =>
   have hc:=ncharge_one_off n F hn f 4 8 (.inr rfl) _ rfl h2
   rw [show domN n true=([4,10],{ n with ct:=chCt n 8,mode:=10,k:=0,rows:=0 }) by
    unfold domN;rw [show chN n 8=(false,{ n with ct:=chCt n 8,mode:=10,k:=0,rows:=0 }) by unfold chN;rw [if_pos h2]];simp]
   generalize chCt n 8=c at hc ⊢
   by_cases h1:n.raw=[]<;>by_cases hq:n.nq=true<;>by_cases h3:n.row=[] <;>
   simp [ndH,rV,qI,qV,wI,wV,rE,qE,wE,Nd.cells,nilS,ndT,tdE,tdV,tdC,mI,encK,h1,hq,h3,lvT] at hT hc <;>
   simp [go_sem,ir126,ndH,rV,qI,qV,wI,wV,rE,qE,wE,Nd.cells,nilS,ndT,tdE,tdV,tdC,mI,encK,h1,hq,h3,lvT,hT,hc,p9q,range_succ]
  case neg =>
   have hc:=ncharge_one_on n F hn f 4 8 (.inr rfl) _ rfl h2
   by_cases hk2:n.k+1=6
   case pos =>
    rw [show domN n true=([4],{ n with ct:=chCt n 8,mode:=6,k:=0 }) by
     unfold domN;rw [show chN n 8=(true,{ n with ct:=chCt n 8 }) by unfold chN;rw [if_neg h2]];simp [hk2]]
    have hk3:(n.k:Int)+1=6:=by omega
    generalize chCt n 8=c at hc ⊢
    have hu:=nturn_spec { n with ct:=c,k:=6 } F 6
    by_cases h1:n.raw=[]<;>by_cases hq:n.nq=true<;>by_cases h3:n.row=[] <;>
    simp [ndH,rV,qI,qV,wI,wV,rE,qE,wE,Nd.cells,nilS,ndT,tdE,tdV,tdC,mI,encK,h1,hq,h3,lvT] at hT hc hu <;>
    simp [go_sem,ir126,ndH,rV,qI,qV,wI,wV,rE,qE,wE,Nd.cells,nilS,ndT,tdE,tdV,tdC,mI,encK,h1,hq,h3,lvT,hT,hc,hk3,w6,hu,p9q,range_succ]
   case neg =>
    rw [show domN n true=([4],{ n with ct:=chCt n 8,k:=n.k+1 }) by
     unfold domN;rw [show chN n 8=(true,{ n with ct:=chCt n 8 }) by unfold chN;rw [if_neg h2]];rw [if_neg (by simp),if_pos rfl,if_neg hk2]]
    have hk3:¬ ((n.k:Int)+1=6):=by omega
    generalize chCt n 8=c at hc ⊢
    by_cases h1:n.raw=[]<;>by_cases hq:n.nq=true<;>by_cases h3:n.row=[] <;>
    simp [ndH,rV,qI,qV,wI,wV,rE,qE,wE,Nd.cells,nilS,ndT,tdE,tdV,tdC,mI,encK,h1,hq,h3,lvT] at hT hc <;>
    simp [go_sem,ir126,ndH,rV,qI,qV,wI,wV,rE,qE,wE,Nd.cells,nilS,ndT,tdE,tdV,tdC,mI,encK,h1,hq,h3,lvT,hT,hc,w1,hk3,p9q,range_succ]
theorem lvNe {a b:Bool} (h:a≠b):¬ (lv a=lv b):=by rw [lv_eq];exact h
theorem natCastS (k:Nat):((k+1:Nat):Int)=(k:Int)+1:=rfl
theorem npas_spec (n:Nd) (F:Fl) (hn:n.Ok) (hk:n.k<=1000000000) (f:Fr) (b:Bool):call E (.func (.func 127) [] []) [.ptr 0 0,.ptr (mI n) 0,.lit (.int .i64 (lv b))] (ndT n F [] f)=some (.tup [],ndT (pasN n b).2 F (pasN n b).1 f):=by
 have w1:=k1w hk
 rw [c9f E E127]
 by_cases ho:n.owed=true/\b=false
 case neg =>
  by_cases hp:0<n.k
  case pos =>
   have hp':(0:Int)<n.k:=by omega
   by_cases hb:n.lvl=b
   case pos =>
    have ek:pasK n b=n.k+1:=by unfold pasK;rw [if_neg (by simp [hb])]
    by_cases hk2:n.k+1=6
    case pos =>
     rw [show pasN n b=([],{ n with lvl:=b,mode:=6,k:=0 }) by unfold pasN;rw [if_neg ho,ek,if_pos hk2]]
     have hk3:(n.k:Int)+1=6:=by omega
     have hu:=nturn_spec { n with k:=6,lvl:=b } F 6
     by_cases hw:n.owed=true
     case pos =>
      have hbt:b=true:=by cases b;exact absurd ⟨hw,rfl⟩ ho;rfl
      subst hbt
      by_cases h1:n.raw=[]<;>by_cases hq:n.nq=true<;>by_cases h3:n.row=[] <;>
      simp [ndH,rV,qI,qV,wI,wV,rE,qE,wE,Nd.cells,nilS,ndT,tdE,tdV,tdC,mI,encK,h1,hq,h3,hw,lvT,lvF,hp,hb] at hu <;>
      simp [go_sem,ir127,ndH,rV,qI,qV,wI,wV,rE,qE,wE,Nd.cells,nilS,ndT,tdE,tdV,tdC,mI,encK,h1,hq,h3,hw,lvT,lvF,hp,hb,hk3,w6,hu,p9q,range_succ]
     case neg =>
      by_cases h1:n.raw=[]<;>by_cases hq:n.nq=true<;>by_cases h3:n.row=[] <;>
      simp [ndH,rV,qI,qV,wI,wV,rE,qE,wE,Nd.cells,nilS,ndT,tdE,tdV,tdC,mI,encK,h1,hq,h3,hw,lv_eq,hp,hb] at hu <;>
      simp [go_sem,ir127,ndH,rV,qI,qV,wI,wV,rE,qE,wE,Nd.cells,nilS,ndT,tdE,tdV,tdC,mI,encK,h1,hq,h3,hw,lv_eq,hp,hb,hk3,w6,hu,p9q,range_succ]
    case neg =>
     rw [show pasN n b=([],{ n with k:=n.k+1,lvl:=b }) by unfold pasN;rw [if_neg ho,ek,if_neg hk2]]
     have hk3:¬ ((n.k:Int)+1=6):=by omega
     by_cases hw:n.owed=true
     case pos =>
      have hbt:b=true:=by cases b;exact absurd ⟨hw,rfl⟩ ho;rfl
      subst hbt
      by_cases h1:n.raw=[]<;>by_cases hq:n.nq=true<;>by_cases h3:n.row=[] <;>
      simp [go_sem,ir127,ndH,rV,qI,qV,wI,wV,rE,qE,wE,Nd.cells,nilS,ndT,tdE,tdV,tdC,mI,encK,h1,hq,h3,hw,lvT,lvF,hp,hb,w1,hk3,p9q,range_succ]
     case neg =>
      by_cases h1:n.raw=[]<;>by_cases hq:n.nq=true<;>by_cases h3:n.row=[] <;>
      simp [go_sem,ir127,ndH,rV,qI,qV,wI,wV,rE,qE,wE,Nd.cells,nilS,ndT,tdE,tdV,tdC,mI,encK,h1,hq,h3,hw,lv_eq,hp,hb,w1,hk3,p9q,range_succ]
   case neg =>
    have ek:pasK n b=1:=by unfold pasK;rw [if_pos ⟨hp,fun e=>hb e.symm⟩]
    have hbl:=lvNe (fun e:b=n.lvl=>hb e.symm)
    rw [show pasN n b=([],{ n with k:=1,lvl:=b }) by unfold pasN;rw [if_neg ho,ek];rfl]
    by_cases hw:n.owed=true
    case pos =>
     have hbt:b=true:=by cases b;exact absurd ⟨hw,rfl⟩ ho;rfl
     subst hbt
     by_cases h1:n.raw=[]<;>by_cases hq:n.nq=true<;>by_cases h3:n.row=[] <;>
     simp [go_sem,ir127,ndH,rV,qI,qV,wI,wV,rE,qE,wE,Nd.cells,nilS,ndT,tdE,tdV,tdC,mI,encK,h1,hq,h3,hw,lvT,lvF,hp,hb,hbl,w1c,w1c,p9q,range_succ]
    case neg =>
     by_cases h1:n.raw=[]<;>by_cases hq:n.nq=true<;>by_cases h3:n.row=[] <;>
     simp [go_sem,ir127,ndH,rV,qI,qV,wI,wV,rE,qE,wE,Nd.cells,nilS,ndT,tdE,tdV,tdC,mI,encK,h1,hq,h3,hw,lv_eq,hp,hb,hbl,w1c,w1c,p9q,range_succ]
  case neg =>
   have hp':¬ (0:Int)<n.k:=by omega
   have ek:pasK n b=n.k+1:=by unfold pasK;rw [if_neg (by simp [hp])]
   by_cases hk2:n.k+1=6
   case pos =>
    rw [show pasN n b=([],{ n with lvl:=b,mode:=6,k:=0 }) by unfold pasN;rw [if_neg ho,ek,if_pos hk2]]
    have hk3:(n.k:Int)+1=6:=by omega
    have hu:=nturn_spec { n with k:=6,lvl:=b } F 6
    by_cases hw:n.owed=true
    case pos =>
     have hbt:b=true:=by cases b;exact absurd ⟨hw,rfl⟩ ho;rfl
     subst hbt
     by_cases h1:n.raw=[]<;>by_cases hq:n.nq=true<;>by_cases h3:n.row=[] <;>
     simp [ndH,rV,qI,qV,wI,wV,rE,qE,wE,Nd.cells,nilS,ndT,tdE,tdV,tdC,mI,encK,h1,hq,h3,hw,lvT,lvF,hp] at hu <;>
     simp [go_sem,ir127,ndH,rV,qI,qV,wI,wV,rE,qE,wE,Nd.cells,nilS,ndT,tdE,tdV,tdC,mI,encK,h1,hq,h3,hw,lvT,lvF,hp,hk3,w6,hu,p9q,range_succ]
    case neg =>
     by_cases h1:n.raw=[]<;>by_cases hq:n.nq=true<;>by_cases h3:n.row=[] <;>
     simp [ndH,rV,qI,qV,wI,wV,rE,qE,wE,Nd.cells,nilS,ndT,tdE,tdV,tdC,mI,encK,h1,hq,h3,hw,lv_eq,hp] at hu <;>
     simp [go_sem,ir127,ndH,rV,qI,qV,wI,wV,rE,qE,wE,Nd.cells,nilS,ndT,tdE,tdV,tdC,mI,encK,h1,hq,h3,hw,lv_eq,hp,hk3,w6,hu,p9q,range_succ]
   case neg =>
    rw [show pasN n b=([],{ n with k:=n.k+1,lvl:=b }) by unfold pasN;rw [if_neg ho,ek,if_neg hk2]]
    have hk3:¬ ((n.k:Int)+1=6):=by omega
    by_cases hw:n.owed=true
    case pos =>
     have hbt:b=true:=by cases b;exact absurd ⟨hw,rfl⟩ ho;rfl
     subst hbt
     by_cases h1:n.raw=[]<;>by_cases hq:n.nq=true<;>by_cases h3:n.row=[] <;>
     simp [go_sem,ir127,ndH,rV,qI,qV,wI,wV,rE,qE,wE,Nd.cells,nilS,ndT,tdE,tdV,tdC,mI,encK,h1,hq,h3,hw,lvT,lvF,hp,w1,hk3,p9q,range_succ]
    case neg =>
     by_cases h1:n.raw=[]<;>by_cases hq:n.nq=true<;>by_cases h3:n.row=[] <;>
     simp [go_sem,ir127,ndH,rV,qI,qV,wI,wV,rE,qE,wE,Nd.cells,nilS,ndT,tdE,tdV,tdC,mI,encK,h1,hq,h3,hw,lv_eq,hp,w1,hk3,p9q,range_succ]
 case pos =>
  have hw:=ho.1
  have hbf:=ho.2
  subst hbf
  by_cases hp:0<n.k
  case pos =>
   have hp':(0:Int)<n.k:=by omega
   by_cases hb:n.lvl=false
   case pos =>
    have ek:pasK n false=n.k+1:=by unfold pasK;rw [if_neg (by simp [hb])]
    have hnM:({ n with k:=n.k+1,lvl:=false,owed:=false }:Nd).Ok:=⟨hn.nq,hn.ql,hn.ct⟩
    have hcc:chCt ({ n with k:=n.k+1,lvl:=false,owed:=false }:Nd) 8=chCt n 8:=rfl
    by_cases h2:(chCt n 8).state=2
    case pos =>
     have hc:=ncharge_nil_off ({ n with k:=n.k+1,lvl:=false,owed:=false }:Nd) F hnM f 8 (.inr rfl) _ hcc.symm h2
     rw [show pasN n false=([10],{ n with lvl:=false,owed:=false,ct:=chCt n 8,mode:=10,k:=0,rows:=0 }) by
      unfold pasN;rw [if_pos ho,ek,show chN ({ n with k:=n.k+1,lvl:=false,owed:=false }:Nd) 8=(false,{ n with lvl:=false,owed:=false,ct:=chCt n 8,mode:=10,k:=0,rows:=0 }) by unfold chN;rw [hcc,if_pos h2]];simp]
     generalize chCt n 8=c at hc ⊢
     by_cases h1:n.raw=[]<;>by_cases hq:n.nq=true<;>by_cases h3:n.row=[] <;>
     simp [ndH,rV,qI,qV,wI,wV,rE,qE,wE,Nd.cells,nilS,ndT,tdE,tdV,tdC,mI,encK,h1,hq,h3,hw,lvT,lvF,hp,hb] at hc <;>
     simp [go_sem,ir127,ndH,rV,qI,qV,wI,wV,rE,qE,wE,Nd.cells,nilS,ndT,tdE,tdV,tdC,mI,encK,h1,hq,h3,hw,lvT,lvF,hp,hb,hc,w1,natCastS,p9q,range_succ]
    case neg =>
     have hc:=ncharge_nil_on ({ n with k:=n.k+1,lvl:=false,owed:=false }:Nd) F hnM f 8 (.inr rfl) _ hcc.symm h2
     have hch:chN ({ n with k:=n.k+1,lvl:=false,owed:=false }:Nd) 8=(true,{ n with k:=n.k+1,lvl:=false,owed:=false,ct:=chCt n 8 }):=by unfold chN;rw [hcc,if_neg h2]
     by_cases hk2:n.k+1=6
     case pos =>
      rw [show pasN n false=([],{ n with lvl:=false,owed:=false,ct:=chCt n 8,mode:=6,k:=0 }) by unfold pasN;rw [if_pos ho,ek,hch];simp [hk2]]
      have hk3:(n.k:Int)+1=6:=by omega
      rw [hk2] at hc
      generalize chCt n 8=c at hc ⊢
      have hu:=nturn_spec { n with k:=6,lvl:=false,owed:=false,ct:=c } F 6
      by_cases h1:n.raw=[]<;>by_cases hq:n.nq=true<;>by_cases h3:n.row=[] <;>
      simp [ndH,rV,qI,qV,wI,wV,rE,qE,wE,Nd.cells,nilS,ndT,tdE,tdV,tdC,mI,encK,h1,hq,h3,hw,lvT,lvF,hp,hb] at hc hu <;>
      simp [go_sem,ir127,ndH,rV,qI,qV,wI,wV,rE,qE,wE,Nd.cells,nilS,ndT,tdE,tdV,tdC,mI,encK,h1,hq,h3,hw,lvT,lvF,hp,hb,hc,hu,hk3,w6,p9q,range_succ]
     case neg =>
      rw [show pasN n false=([],{ n with k:=n.k+1,lvl:=false,owed:=false,ct:=chCt n 8 }) by unfold pasN;rw [if_pos ho,ek,hch];rw [if_pos rfl,if_neg hk2]]
      have hk3:¬ ((n.k:Int)+1=6):=by omega
      generalize chCt n 8=c at hc ⊢
      by_cases h1:n.raw=[]<;>by_cases hq:n.nq=true<;>by_cases h3:n.row=[] <;>
      simp [ndH,rV,qI,qV,wI,wV,rE,qE,wE,Nd.cells,nilS,ndT,tdE,tdV,tdC,mI,encK,h1,hq,h3,hw,lvT,lvF,hp,hb] at hc <;>
      simp [go_sem,ir127,ndH,rV,qI,qV,wI,wV,rE,qE,wE,Nd.cells,nilS,ndT,tdE,tdV,tdC,mI,encK,h1,hq,h3,hw,lvT,lvF,hp,hb,hc,w1,hk3,natCastS,p9q,range_succ]
   case neg =>
    have ek:pasK n false=1:=by unfold pasK;rw [if_pos ⟨hp,fun e=>hb e.symm⟩]
    have hbl:=lvNe (fun e:false=n.lvl=>hb e.symm)
    have hnM:({ n with k:=1,lvl:=false,owed:=false }:Nd).Ok:=⟨hn.nq,hn.ql,hn.ct⟩
    have hcc:chCt ({ n with k:=1,lvl:=false,owed:=false }:Nd) 8=chCt n 8:=rfl
    by_cases h2:(chCt n 8).state=2
    case pos =>
     have hc:=ncharge_nil_off ({ n with k:=1,lvl:=false,owed:=false }:Nd) F hnM f 8 (.inr rfl) _ hcc.symm h2
     rw [show pasN n false=([10],{ n with lvl:=false,owed:=false,ct:=chCt n 8,mode:=10,k:=0,rows:=0 }) by
      unfold pasN;rw [if_pos ho,ek,show chN ({ n with k:=1,lvl:=false,owed:=false }:Nd) 8=(false,{ n with lvl:=false,owed:=false,ct:=chCt n 8,mode:=10,k:=0,rows:=0 }) by unfold chN;rw [hcc,if_pos h2]];simp]
     generalize chCt n 8=c at hc ⊢
     by_cases h1:n.raw=[]<;>by_cases hq:n.nq=true<;>by_cases h3:n.row=[] <;>
     simp [ndH,rV,qI,qV,wI,wV,rE,qE,wE,Nd.cells,nilS,ndT,tdE,tdV,tdC,mI,encK,h1,hq,h3,hw,lvT,lvF,hp,hb,hbl,w1c] at hc <;>
     simp [go_sem,ir127,ndH,rV,qI,qV,wI,wV,rE,qE,wE,Nd.cells,nilS,ndT,tdE,tdV,tdC,mI,encK,h1,hq,h3,hw,lvT,lvF,hp,hb,hbl,w1c,hc,natCastS,p9q,range_succ]
    case neg =>
     have hc:=ncharge_nil_on ({ n with k:=1,lvl:=false,owed:=false }:Nd) F hnM f 8 (.inr rfl) _ hcc.symm h2
     have hch:chN ({ n with k:=1,lvl:=false,owed:=false }:Nd) 8=(true,{ n with k:=1,lvl:=false,owed:=false,ct:=chCt n 8 }):=by unfold chN;rw [hcc,if_neg h2]
     rw [show pasN n false=([],{ n with k:=1,lvl:=false,owed:=false,ct:=chCt n 8 }) by unfold pasN;rw [if_pos ho,ek,hch];simp]
     generalize chCt n 8=c at hc ⊢
     by_cases h1:n.raw=[]<;>by_cases hq:n.nq=true<;>by_cases h3:n.row=[] <;>
     simp [ndH,rV,qI,qV,wI,wV,rE,qE,wE,Nd.cells,nilS,ndT,tdE,tdV,tdC,mI,encK,h1,hq,h3,hw,lvT,lvF,hp,hb,hbl,w1c] at hc <;>
     simp [go_sem,ir127,ndH,rV,qI,qV,wI,wV,rE,qE,wE,Nd.cells,nilS,ndT,tdE,tdV,tdC,mI,encK,h1,hq,h3,hw,lvT,lvF,hp,hb,hbl,w1c,hc,natCastS,p9q,range_succ]
  case neg =>
   have hp':¬ (0:Int)<n.k:=by omega
   have ek:pasK n false=n.k+1:=by unfold pasK;rw [if_neg (by simp [hp])]
   have hnM:({ n with k:=n.k+1,lvl:=false,owed:=false }:Nd).Ok:=⟨hn.nq,hn.ql,hn.ct⟩
   have hcc:chCt ({ n with k:=n.k+1,lvl:=false,owed:=false }:Nd) 8=chCt n 8:=rfl
   by_cases h2:(chCt n 8).state=2
   case pos =>
    have hc:=ncharge_nil_off ({ n with k:=n.k+1,lvl:=false,owed:=false }:Nd) F hnM f 8 (.inr rfl) _ hcc.symm h2
    rw [show pasN n false=([10],{ n with lvl:=false,owed:=false,ct:=chCt n 8,mode:=10,k:=0,rows:=0 }) by
     unfold pasN;rw [if_pos ho,ek,show chN ({ n with k:=n.k+1,lvl:=false,owed:=false }:Nd) 8=(false,{ n with lvl:=false,owed:=false,ct:=chCt n 8,mode:=10,k:=0,rows:=0 }) by unfold chN;rw [hcc,if_pos h2]];simp]
    generalize chCt n 8=c at hc ⊢
    by_cases h1:n.raw=[]<;>by_cases hq:n.nq=true<;>by_cases h3:n.row=[] <;>
    simp [ndH,rV,qI,qV,wI,wV,rE,qE,wE,Nd.cells,nilS,ndT,tdE,tdV,tdC,mI,encK,h1,hq,h3,hw,lvT,lvF,hp] at hc <;>
    simp [go_sem,ir127,ndH,rV,qI,qV,wI,wV,rE,qE,wE,Nd.cells,nilS,ndT,tdE,tdV,tdC,mI,encK,h1,hq,h3,hw,lvT,lvF,hp,hc,w1,natCastS,p9q,range_succ]
   case neg =>
    have hc:=ncharge_nil_on ({ n with k:=n.k+1,lvl:=false,owed:=false }:Nd) F hnM f 8 (.inr rfl) _ hcc.symm h2
    have hch:chN ({ n with k:=n.k+1,lvl:=false,owed:=false }:Nd) 8=(true,{ n with k:=n.k+1,lvl:=false,owed:=false,ct:=chCt n 8 }):=by unfold chN;rw [hcc,if_neg h2]
    by_cases hk2:n.k+1=6
    case pos =>
     rw [show pasN n false=([],{ n with lvl:=false,owed:=false,ct:=chCt n 8,mode:=6,k:=0 }) by unfold pasN;rw [if_pos ho,ek,hch];simp [hk2]]
     have hk3:(n.k:Int)+1=6:=by omega
     rw [hk2] at hc
     generalize chCt n 8=c at hc ⊢
     have hu:=nturn_spec { n with k:=6,lvl:=false,owed:=false,ct:=c } F 6
     by_cases h1:n.raw=[]<;>by_cases hq:n.nq=true<;>by_cases h3:n.row=[] <;>
     simp [ndH,rV,qI,qV,wI,wV,rE,qE,wE,Nd.cells,nilS,ndT,tdE,tdV,tdC,mI,encK,h1,hq,h3,hw,lvT,lvF,hp] at hc hu <;>
     simp [go_sem,ir127,ndH,rV,qI,qV,wI,wV,rE,qE,wE,Nd.cells,nilS,ndT,tdE,tdV,tdC,mI,encK,h1,hq,h3,hw,lvT,lvF,hp,hc,hu,hk3,w6,p9q,range_succ]
    case neg =>
     rw [show pasN n false=([],{ n with k:=n.k+1,lvl:=false,owed:=false,ct:=chCt n 8 }) by unfold pasN;rw [if_pos ho,ek,hch];rw [if_pos rfl,if_neg hk2]]
     have hk3:¬ ((n.k:Int)+1=6):=by omega
     generalize chCt n 8=c at hc ⊢
     by_cases h1:n.raw=[]<;>by_cases hq:n.nq=true<;>by_cases h3:n.row=[] <;>
     simp [ndH,rV,qI,qV,wI,wV,rE,qE,wE,Nd.cells,nilS,ndT,tdE,tdV,tdC,mI,encK,h1,hq,h3,hw,lvT,lvF,hp] at hc <;>
     simp [go_sem,ir127,ndH,rV,qI,qV,wI,wV,rE,qE,wE,Nd.cells,nilS,ndT,tdE,tdV,tdC,mI,encK,h1,hq,h3,hw,lvT,lvF,hp,hc,w1,hk3,natCastS,p9q,range_succ]
def stepF:List AVal:=[.func (.func 123) [] [],.func (.func 124) [] [],.func (.func 125) [] [],.func (.func 126) [] [],.func (.func 127) [] [],.func (.func 126) [] [],
 .func (.func 128) [] [],.func (.func 129) [] [],.func (.func 130) [] [],.func (.func 131) [] [],.func (.func 132) [] []]
theorem csteps_spec:call E (.func (.func 100) [] []) [] []=some (.agg stepF,[]):=by
 rw [c9f E E100]
 simp [go_sem,ir100,stepF,p9q,range_succ]
theorem w2c:IntKind.wrap .i64 2=2:=by decide
def encEv (e:Nat × Fr):List AVal:=[.lit (.int .i64 0),.lit (.int .i64 0),.lit (.int .i64 e.1),.lit (.int .i64 e.2.id),.lit (.bool e.2.ext),.lit (.bool e.2.rtr),.lit (.int .i64 e.2.len),.lit (.int .u8 e.2.d0),.lit (.int .u8 e.2.d1),.lit (.int .u8 e.2.d2),.lit (.int .u8 e.2.d3),.lit (.int .u8 e.2.d4),.lit (.int .u8 e.2.d5),.lit (.int .u8 e.2.d6),.lit (.int .u8 e.2.d7)]
def evV (ix:Nat) (es:List (Nat × Fr)):AVal:=if es=[] then nilS else .own ix es.length 15 0 es.length
def evE (es:List (Nat × Fr)):Heap:=if es=[] then [] else [.arr true false false 15 (es.map encEv)]
def evsOf (ks:List Nat) (f:Fr):List (Nat × Fr):=ks.map fun k=>(k,if k=1∨k=2 then f else Fr.zero)
theorem nstep_can0 (n:Nd) (F:Fl) (b:Bool) (fid:Nat) (hm:n.mode<11) (hg:(stepF.drop n.mode)[0]?=some (.func (.func fid) [] [])) (n':Nd) (F2:Fl) (f':Fr) (k1:n'.raw=[]↔n.raw=[]) (k2:n'.nq=n.nq) (k3:n'.row=[]↔n.row=[]) (hc:call E (.func (.func fid) [] []) [.ptr 0 0,.ptr (mI n) 0,.lit (.int .i64 (lv b))] (ndT n F [] Fr.zero)=some (.tup [],ndT n' F2 [] f')):call E (.func (.func 71) [] []) [.ptr 0 0,.lit (.int .i64 (lv b))] (ndH n F)=some (.tup [evV (mI n) [],.lit (.int .i64 0)],ndH n' F2++evE []):=by
 have hs:=csteps_spec
 have hlv:¬ (¬ lv b=0/\¬ lv b=1):=by cases b<;>simp [lv]
 rw [c9f E E71]
 have hrn:∀ g,renL g stepF=stepF:=fun g=>rfl
 have hrf:refsL stepF=[]:=rfl
 generalize stepF=sf at hs hg hrn hrf
 simp at hg
 cases b <;>
 by_cases h1:n.raw=[]<;>by_cases hq:n.nq=true<;>by_cases h3:n.row=[] <;>
 simp [ndH,rV,qI,qV,wI,wV,rE,qE,wE,Nd.cells,nilS,ndT,tdE,tdV,tdC,mI,encK,h1,hq,h3,k1,k2,k3,lvT,lvF,Fr.zero] at hc <;>
 simp [go_sem,ir71,r9c E L71_0.eq_1,r9l,ndH,rV,qI,qV,wI,wV,rE,qE,wE,Nd.cells,nilS,ndT,tdE,tdV,tdC,mI,encK,evV,evE,encEv,Fr.zero,h1,hq,h3,k1,k2,k3,lvT,lvF,Fr.zero,hs,hc,hg,hm,hlv,hrn,hrf,aop_idxV,idxVG_agg,w1c,w2c,p9q,range_succ]
theorem nstep_can1f (n:Nd) (F:Fl) (b:Bool) (fid:Nat) (hm:n.mode<11) (hg:(stepF.drop n.mode)[0]?=some (.func (.func fid) [] [])) (a:Nat) (ha:a=1∨a=2) (n':Nd) (F2:Fl) (f':Fr) (k1:n'.raw=[]↔n.raw=[]) (k2:n'.nq=n.nq) (k3:n'.row=[]↔n.row=[]) (hc:call E (.func (.func fid) [] []) [.ptr 0 0,.ptr (mI n) 0,.lit (.int .i64 (lv b))] (ndT n F [] Fr.zero)=some (.tup [],ndT n' F2 [a] f')):call E (.func (.func 71) [] []) [.ptr 0 0,.lit (.int .i64 (lv b))] (ndH n F)=some (.tup [evV (mI n) [(a,f')],.lit (.int .i64 0)],ndH n' F2++evE [(a,f')]):=by
 have hs:=csteps_spec
 have hlv:¬ (¬ lv b=0/\¬ lv b=1):=by cases b<;>simp [lv]
 rw [c9f E E71]
 have hrn:∀ g,renL g stepF=stepF:=fun g=>rfl
 have hrf:refsL stepF=[]:=rfl
 generalize stepF=sf at hs hg hrn hrf
 simp at hg
 have ha1:(a:Int)=1∨(a:Int)=2:=by omega
 rcases ha with rfl | rfl
 ·cases b <;>
  by_cases h1:n.raw=[]<;>by_cases hq:n.nq=true<;>by_cases h3:n.row=[] <;>
  simp [ndH,rV,qI,qV,wI,wV,rE,qE,wE,Nd.cells,nilS,ndT,tdE,tdV,tdC,mI,encK,h1,hq,h3,k1,k2,k3,lvT,lvF,Fr.zero] at hc <;>
  simp [go_sem,ir71,r9c E L71_0.eq_1,r9l,ndH,rV,qI,qV,wI,wV,rE,qE,wE,Nd.cells,nilS,ndT,tdE,tdV,tdC,mI,encK,evV,evE,encEv,Fr.zero,h1,hq,h3,k1,k2,k3,lvT,lvF,Fr.zero,hs,hc,hg,hm,hlv,hrn,hrf,aop_idxV,idxVG_agg,w1c,w2c,p9q,range_succ]
 ·cases b <;>
  by_cases h1:n.raw=[]<;>by_cases hq:n.nq=true<;>by_cases h3:n.row=[] <;>
  simp [ndH,rV,qI,qV,wI,wV,rE,qE,wE,Nd.cells,nilS,ndT,tdE,tdV,tdC,mI,encK,h1,hq,h3,k1,k2,k3,lvT,lvF,Fr.zero] at hc <;>
  simp [go_sem,ir71,r9c E L71_0.eq_1,r9l,ndH,rV,qI,qV,wI,wV,rE,qE,wE,Nd.cells,nilS,ndT,tdE,tdV,tdC,mI,encK,evV,evE,encEv,Fr.zero,h1,hq,h3,k1,k2,k3,lvT,lvF,Fr.zero,hs,hc,hg,hm,hlv,hrn,hrf,aop_idxV,idxVG_agg,w1c,w2c,p9q,range_succ]
theorem nstep_can1 (n:Nd) (F:Fl) (b:Bool) (fid:Nat) (hm:n.mode<11) (hg:(stepF.drop n.mode)[0]?=some (.func (.func fid) [] [])) (a:Nat) (ha1:¬ a=1) (ha2:¬ a=2) (n':Nd) (F2:Fl) (f':Fr) (k1:n'.raw=[]↔n.raw=[]) (k2:n'.nq=n.nq) (k3:n'.row=[]↔n.row=[]) (hc:call E (.func (.func fid) [] []) [.ptr 0 0,.ptr (mI n) 0,.lit (.int .i64 (lv b))] (ndT n F [] Fr.zero)=some (.tup [],ndT n' F2 [a] f')):call E (.func (.func 71) [] []) [.ptr 0 0,.lit (.int .i64 (lv b))] (ndH n F)=some (.tup [evV (mI n) [(a,Fr.zero)],.lit (.int .i64 0)],ndH n' F2++evE [(a,Fr.zero)]):=by
 have hs:=csteps_spec
 have hlv:¬ (¬ lv b=0/\¬ lv b=1):=by cases b<;>simp [lv]
 rw [c9f E E71]
 have hrn:∀ g,renL g stepF=stepF:=fun g=>rfl
 have hrf:refsL stepF=[]:=rfl
 generalize stepF=sf at hs hg hrn hrf
 simp at hg
 have ha1':¬ (a:Int)=1:=by omega
 have ha2':¬ (a:Int)=2:=by omega
 cases b <;>
 by_cases h1:n.raw=[]<;>by_cases hq:n.nq=true<;>by_cases h3:n.row=[] <;>
 simp [ndH,rV,qI,qV,wI,wV,rE,qE,wE,Nd.cells,nilS,ndT,tdE,tdV,tdC,mI,encK,h1,hq,h3,k1,k2,k3,lvT,lvF,Fr.zero] at hc <;>
 simp [go_sem,ir71,r9c E L71_0.eq_1,r9l,ndH,rV,qI,qV,wI,wV,rE,qE,wE,Nd.cells,nilS,ndT,tdE,tdV,tdC,mI,encK,evV,evE,encEv,Fr.zero,h1,hq,h3,k1,k2,k3,lvT,lvF,Fr.zero,hs,hc,hg,hm,hlv,hrn,hrf,aop_idxV,idxVG_agg,w1c,w2c,ha1,ha2,ha1',ha2',p9q,range_succ]
theorem nstep_can2 (n:Nd) (F:Fl) (b:Bool) (fid:Nat) (hm:n.mode<11) (hg:(stepF.drop n.mode)[0]?=some (.func (.func fid) [] [])) (a:Nat) (ha1:¬ a=1) (ha2:¬ a=2) (n':Nd) (F2:Fl) (f':Fr) (k1:n'.raw=[]↔n.raw=[]) (k2:n'.nq=n.nq) (k3:n'.row=[]↔n.row=[]) (hc:call E (.func (.func fid) [] []) [.ptr 0 0,.ptr (mI n) 0,.lit (.int .i64 (lv b))] (ndT n F [] Fr.zero)=some (.tup [],ndT n' F2 [a,10] f')):call E (.func (.func 71) [] []) [.ptr 0 0,.lit (.int .i64 (lv b))] (ndH n F)=some (.tup [evV (mI n) [(a,Fr.zero),(10,Fr.zero)],.lit (.int .i64 0)],ndH n' F2++evE [(a,Fr.zero),(10,Fr.zero)]):=by
 have hs:=csteps_spec
 have hlv:¬ (¬ lv b=0/\¬ lv b=1):=by cases b<;>simp [lv]
 rw [c9f E E71]
 have hrn:∀ g,renL g stepF=stepF:=fun g=>rfl
 have hrf:refsL stepF=[]:=rfl
 generalize stepF=sf at hs hg hrn hrf
 simp at hg
 have ha1':¬ (a:Int)=1:=by omega
 have ha2':¬ (a:Int)=2:=by omega
 cases b <;>
 by_cases h1:n.raw=[]<;>by_cases hq:n.nq=true<;>by_cases h3:n.row=[] <;>
 simp [ndH,rV,qI,qV,wI,wV,rE,qE,wE,Nd.cells,nilS,ndT,tdE,tdV,tdC,mI,encK,h1,hq,h3,k1,k2,k3,lvT,lvF,Fr.zero] at hc <;>
 simp [go_sem,ir71,r9c E L71_0.eq_1,r9l,ndH,rV,qI,qV,wI,wV,rE,qE,wE,Nd.cells,nilS,ndT,tdE,tdV,tdC,mI,encK,evV,evE,encEv,Fr.zero,h1,hq,h3,k1,k2,k3,lvT,lvF,Fr.zero,hs,hc,hg,hm,hlv,hrn,hrf,aop_idxV,idxVG_agg,w1c,w2c,ha1,ha2,ha1',ha2',p9q,range_succ]
def startN (n:Nd) (s:Bool):Nd:={ n with mode:=2,k:=0,raw:=[false],lvl:=false,run:=1,tx:=s,sends:=s,own:=if s=true then n.q.head?.getD Fr.zero else n.own,row:=if s=true then allP (n.q.head?.getD Fr.zero) else n.row }
def stG (d:Nat) (mid:Heap) (n n':Nd) (F:Fl) (s:Bool):Heap :=
 .box (n'.cells (.own (mI n+d) 1 1 0 1) (.ptr (qI n) 0) (if s=true then .own (mI n+d+1) n'.row.length 1 0 n'.row.length else wV n))::(rE n F++.box [qV n,.lit (.int .i64 16)]::(qE n F++wE n F))++mid
  ++ ([.arr true false false 1 [encLv false]]++(if s=true then [.arr true false false 1 (n'.row.map encLv)] else []))
theorem ntake_first (n:Nd) (F:Fl) (h1:n.raw=[]) (hr:n.run=0):call E (.func (.func 148) [] []) [.ptr 0 0,.lit (.int .i64 0)] (ndH n F)
  = some (.lit (.bool true),.box ({ n with lvl:=false,run:=1 }.cells (.own (mI n) 1 1 0 1) (.ptr 1 0) (wV n))::(.box [qV n,.lit (.int .i64 16)]::(qE n F++wE n F))++[.arr true false false 1 [encLv false]]):=by
 have hN:=nnext_spec n F (by rw [h1];exact ⟨by simp,by simp [dataF]⟩)
 rw [c9f E E148]
 rw [show nxV n=.tup [.lit (.int .i64 0),.lit (.int .i64 0),.lit (.bool false)] by unfold nxV;rw [h1,hr];rfl] at hN
 by_cases hq:n.nq=true<;>by_cases h3:n.row=[] <;>
 simp [ndH,rV,qI,qV,wI,wV,rE,qE,wE,Nd.cells,nilS,Fl.lock,h1,hq,h3,hr] at hN <;>
 simp [go_sem,ir148,ndH,rV,qI,qV,wI,wV,rE,qE,wE,Nd.cells,nilS,mI,h1,hq,h3,hr,hN,encLv,lvF,p9q,range_succ]
theorem allP_ne (f:Fr):¬ allP f=[]:=by
 intro e
 have:=congrArg List.length e
 simp [allP] at this
theorem nstart_no (n:Nd) (F:Fl):call E (.func (.func 144) [] []) [.ptr 0 0,.lit (.bool false)] (ndH n F)=some (.tup [],stG 0 [] n (startN n false) F false):=by
 have hu:=nturn_spec n F 2
 have hk:=ntake_first { n with mode:=2,k:=0,raw:=[],lvl:=false,run:=0 } F rfl rfl
 rw [c9f E E144]
 by_cases h1:n.raw=[]<;>by_cases hq:n.nq=true<;>by_cases h3:n.row=[] <;>
 simp [ndH,rV,qI,qV,wI,wV,rE,qE,wE,Nd.cells,nilS,mI,lvF,h1,hq,h3] at hu hk <;>
 simp [go_sem,ir144,ndH,rV,qI,qV,wI,wV,rE,qE,wE,Nd.cells,nilS,mI,stG,startN,lvF,encLv,h1,hq,h3,hu,hk,p9q,range_succ]
theorem nstart_yes (n:Nd) (F:Fl) (hn:n.Ok) (g:Fr) (r:List Fr) (hg:n.q=g::r) (hok:g.Ok) (hc:checkP g=0):call E (.func (.func 144) [] []) [.ptr 0 0,.lit (.bool true)] (ndH n F)=some (.tup [],stG 0 [] n (startN n true) F true):=by
 have hu:=nturn_spec n F 2
 have hk:=ntake_first { n with mode:=2,k:=0,raw:=[],lvl:=false,run:=0 } F rfl rfl
 have hf:=quFirst_spec n.nq F.fq n.q hn.nq
 have hA:=fall_spec g hok hc
 have hne:=allP_ne g
 have hq:n.nq=false:=by
  cases h:n.nq
  ·rfl
  ·have:=hn.nq h;rw [hg] at this;cases this
 rw [hg] at hf
 have e:startN n true={ n with mode:=2,k:=0,raw:=[false],lvl:=false,run:=1,tx:=true,sends:=true,own:=g,row:=allP g }:=by unfold startN;rw [hg];rfl
 rw [e]
 clear e
 generalize allP g=rw0 at hA hne ⊢
 rw [c9f E E144]
 by_cases h1:n.raw=[]<;>by_cases h3:n.row=[] <;>
 simp [ndH,rV,qI,qV,wI,wV,rE,qE,wE,Nd.cells,nilS,mI,lvF,h1,hq,h3,hg,quH,encFr,u8v] at hu hk hf hA <;>
 simp [go_sem,ir144,ndH,rV,qI,qV,wI,wV,rE,qE,wE,Nd.cells,nilS,mI,stG,lvF,encLv,encFr,u8v,h1,hq,h3,hg,hu,hk,hf,hA,hne,p9q,range_succ]
structure Keep (n m:Nd):Prop where
 raw:m.raw=n.raw
 nq:m.nq=n.nq
 row:m.row=n.row
 q:m.q=n.q
theorem ch_keep (n:Nd) (w:Nat):Keep n (chN n w).2:=by unfold chN;split<;>exact ⟨rfl,rfl,rfl,rfl⟩
theorem flag_keep {n m:Nd} (h:Keep n m) (st:Int):Keep n (flagN m st):=⟨h.raw,h.nq,h.row,h.q⟩
theorem fail_keep (n:Nd) (kind:Nat) (c:Bool):Keep n (failN n kind c).2:=by
 unfold failN
 split
 ·split
  ·exact flag_keep (ch_keep n 1) _
  ·exact ch_keep n 1
 ·exact flag_keep ⟨rfl,rfl,rfl,rfl⟩ _
theorem fail_ks (n:Nd) (kind:Nat) (c:Bool):(failN n kind c).1=[kind]∨(failN n kind c).1=[kind,10]:=by
 unfold failN
 split
 ·split
  ·exact .inl rfl
  ·exact .inr rfl
 ·exact .inl rfl
theorem rx_on {n:Nd} (htx:n.tx=false) (ho:n.ct.off=false) (w:Nat):¬ (chCt n w).state=2:=by
 have:(chCt n w).off=false:=by
  unfold chCt Ct.rxE
  rw [htx,ho];simp
 unfold Ct.state
 rw [this]
 simp only [Bool.false_eq_true,if_false]
 split<;>omega
def waitN (n:Nd) (b:Bool):List Nat × Nd :=
 if b=true then ([],{ n with mode:=7,k:=1 })
 else if n.k=0/\n.wrong=true/\n.tx=false then ([],{ n with k:=1,ct:=chCt n 8 })
 else if (n.k+1) % 8=0 then (if (chN { n with k:=n.k+1 } 8).1=true then ([],(chN { n with k:=n.k+1 } 8).2) else ([10],(chN { n with k:=n.k+1 } 8).2))
 else ([],{ n with k:=n.k+1 })
def closeN (n:Nd) (b:Bool):List Nat × Nd :=
 if b=true then ([],if n.k+1=8 then { n with mode:=8,k:=0 } else { n with k:=n.k+1 })
 else if n.k=7 then overN n else failN n 7 true
def offK (n:Nd) (b:Bool):Nat:=if b=true then n.k+1 else 0
def offN (n:Nd) (b:Bool):List Nat × Nd :=
 if offK n b=11 then (if n.rows+1=128 then ([11],{ n with ct:=Ct.zero,tx:=false,mode:=1,k:=0,rows:=128 }) else ([],{ n with k:=0,rows:=n.rows+1 }))
 else if n.rows=128 then ([11],{ n with ct:=Ct.zero,tx:=false,mode:=1,k:=0 }) else ([],{ n with k:=offK n b })
theorem tm1:¬ ((1:Int).tmod 8=0):=by decide
theorem tmod8 (k:Nat):(((k:Int)+1).tmod 8=0)=((k+1) % 8=0):=by
 apply propext
 rw [show (k:Int)+1=((k+1:Nat):Int) from rfl,Int.tmod_eq_emod_of_nonneg (by omega)]
 omega
theorem nwait_spec (n:Nd) (F:Fl) (hn:n.Ok) (hk:n.k<=1000000000) (ho:n.ct.off=false) (f:Fr) (b:Bool):call E (.func (.func 128) [] []) [.ptr 0 0,.ptr (mI n) 0,.lit (.int .i64 (lv b))] (ndT n F [] f)=some (.tup [],ndT (waitN n b).2 F (waitN n b).1 f):=by
 have w1:=k1w hk
 have htm:=tmod8 n.k
 cases b
 case true =>
  rw [show waitN n true=([],{ n with mode:=7,k:=1 }) from rfl]
  have hu:=nturn_spec n F 7
  rw [c9f E E128]
  by_cases h1:n.raw=[]<;>by_cases hq:n.nq=true<;>by_cases h3:n.row=[] <;>
  simp [ndH,rV,qI,qV,wI,wV,rE,qE,wE,Nd.cells,nilS,ndT,tdE,tdV,tdC,mI,encK,h1,hq,h3,lvT] at hu <;>
  simp [go_sem,ir128,ndH,rV,qI,qV,wI,wV,rE,qE,wE,Nd.cells,nilS,ndT,tdE,tdV,tdC,mI,encK,h1,hq,h3,lvT,hu,p9q,range_succ]
 case false =>
  by_cases hA:n.k=0/\n.wrong=true/\n.tx=false
  case pos =>
   obtain ⟨a1,a2,a3⟩:=hA
   have hnM:({ n with k:=1 }:Nd).Ok:=⟨hn.nq,hn.ql,hn.ct⟩
   have hc:=ncharge_nil_on ({ n with k:=1 }:Nd) F hnM f 8 (.inr rfl) (chCt n 8) rfl (rx_on a3 ho 8)
   rw [show waitN n false=([],{ n with k:=1,ct:=chCt n 8 }) by unfold waitN;rw [if_neg (by simp),if_pos ⟨a1,a2,a3⟩]]
   generalize chCt n 8=c at hc ⊢
   rw [c9f E E128]
   by_cases h1:n.raw=[]<;>by_cases hq:n.nq=true<;>by_cases h3:n.row=[] <;>
   simp [ndH,rV,qI,qV,wI,wV,rE,qE,wE,Nd.cells,nilS,ndT,tdE,tdV,tdC,mI,encK,h1,hq,h3,lvF,a1,a2,a3] at hc <;>
   simp [go_sem,ir128,ndH,rV,qI,qV,wI,wV,rE,qE,wE,Nd.cells,nilS,ndT,tdE,tdV,tdC,mI,encK,h1,hq,h3,lvF,a1,a2,a3,hc,w1c,tm1,p9q,range_succ]
  case neg =>
   have hA':(n.k=0->n.wrong=true->n.tx=true):=fun x y=>by cases h:n.tx;exact absurd ⟨x,y,h⟩ hA;rfl
   by_cases hB:(n.k+1) % 8=0
   case pos =>
    have k0:¬ n.k=0:=by omega
    have k0':¬ ((n.k:Int)+1=1):=by omega
    have hnM:({ n with k:=n.k+1 }:Nd).Ok:=⟨hn.nq,hn.ql,hn.ct⟩
    have hcc:chCt ({ n with k:=n.k+1 }:Nd) 8=chCt n 8:=rfl
    have hB':((n.k:Int)+1).tmod 8=0:=by rw [htm];exact hB
    by_cases h2:(chCt n 8).state=2
    case pos =>
     have hc:=ncharge_nil_off ({ n with k:=n.k+1 }:Nd) F hnM f 8 (.inr rfl) _ hcc.symm h2
     rw [show waitN n false=([10],{ n with ct:=chCt n 8,mode:=10,k:=0,rows:=0 }) by
      unfold waitN;rw [if_neg (by simp),if_neg hA,if_pos hB,show chN ({ n with k:=n.k+1 }:Nd) 8=(false,{ n with ct:=chCt n 8,mode:=10,k:=0,rows:=0 }) by unfold chN;rw [hcc,if_pos h2]];simp]
     generalize chCt n 8=c at hc ⊢
     rw [c9f E E128]
     by_cases h1:n.raw=[]<;>by_cases hq:n.nq=true<;>by_cases h3:n.row=[] <;>
     simp [ndH,rV,qI,qV,wI,wV,rE,qE,wE,Nd.cells,nilS,ndT,tdE,tdV,tdC,mI,encK,h1,hq,h3,lvF] at hc <;>
     simp [go_sem,ir128,ndH,rV,qI,qV,wI,wV,rE,qE,wE,Nd.cells,nilS,ndT,tdE,tdV,tdC,mI,encK,h1,hq,h3,lvF,hc,w1,k0',hB',natCastS,p9q,range_succ]
    case neg =>
     have hc:=ncharge_nil_on ({ n with k:=n.k+1 }:Nd) F hnM f 8 (.inr rfl) _ hcc.symm h2
     rw [show waitN n false=([],{ n with ct:=chCt n 8,k:=n.k+1 }) by
      unfold waitN;rw [if_neg (by simp),if_neg hA,if_pos hB,show chN ({ n with k:=n.k+1 }:Nd) 8=(true,{ n with ct:=chCt n 8,k:=n.k+1 }) by unfold chN;rw [hcc,if_neg h2]];simp]
     generalize chCt n 8=c at hc ⊢
     rw [c9f E E128]
     by_cases h1:n.raw=[]<;>by_cases hq:n.nq=true<;>by_cases h3:n.row=[] <;>
     simp [ndH,rV,qI,qV,wI,wV,rE,qE,wE,Nd.cells,nilS,ndT,tdE,tdV,tdC,mI,encK,h1,hq,h3,lvF] at hc <;>
     simp [go_sem,ir128,ndH,rV,qI,qV,wI,wV,rE,qE,wE,Nd.cells,nilS,ndT,tdE,tdV,tdC,mI,encK,h1,hq,h3,lvF,hc,w1,k0',hB',natCastS,p9q,range_succ]
   case neg =>
    rw [show waitN n false=([],{ n with k:=n.k+1 }) by unfold waitN;rw [if_neg (by simp),if_neg hA,if_neg hB]]
    have hB':¬ ((n.k:Int)+1).tmod 8=0:=by rw [htm];exact hB
    rw [c9f E E128]
    by_cases k0:n.k=0
    case pos =>
     by_cases hw:n.wrong=true
     case pos =>
      have htx:=hA' k0 hw
      by_cases h1:n.raw=[]<;>by_cases hq:n.nq=true<;>by_cases h3:n.row=[] <;>
      simp [go_sem,ir128,ndH,rV,qI,qV,wI,wV,rE,qE,wE,Nd.cells,nilS,ndT,tdE,tdV,tdC,mI,encK,h1,hq,h3,lvF,k0,hw,htx,w1c,tm1,p9q,range_succ]
     case neg =>
      by_cases h1:n.raw=[]<;>by_cases hq:n.nq=true<;>by_cases h3:n.row=[] <;>
      simp [go_sem,ir128,ndH,rV,qI,qV,wI,wV,rE,qE,wE,Nd.cells,nilS,ndT,tdE,tdV,tdC,mI,encK,h1,hq,h3,lvF,k0,hw,w1c,tm1,p9q,range_succ]
    case neg =>
     have k0':¬ ((n.k:Int)+1=1):=by omega
     by_cases h1:n.raw=[]<;>by_cases hq:n.nq=true<;>by_cases h3:n.row=[] <;>
     simp [go_sem,ir128,ndH,rV,qI,qV,wI,wV,rE,qE,wE,Nd.cells,nilS,ndT,tdE,tdV,tdC,mI,encK,h1,hq,h3,lvF,w1,k0,k0',hB',p9q,range_succ]
theorem nclose_spec (n:Nd) (F:Fl) (hn:n.Ok) (hk:n.k<=1000000000) (f:Fr) (b:Bool):call E (.func (.func 129) [] []) [.ptr 0 0,.ptr (mI n) 0,.lit (.int .i64 (lv b))] (ndT n F [] f)=some (.tup [],ndT (closeN n b).2 F (closeN n b).1 f):=by
 have w1:=k1w hk
 cases b
 case true =>
  rw [c9f E E129]
  by_cases hk2:n.k+1=8
  case pos =>
   rw [show closeN n true=([],{ n with mode:=8,k:=0 }) by unfold closeN;rw [if_pos rfl,if_pos hk2]]
   have hk3:(n.k:Int)+1=8:=by omega
   have hu:=nturn_spec { n with k:=8 } F 8
   by_cases h1:n.raw=[]<;>by_cases hq:n.nq=true<;>by_cases h3:n.row=[] <;>
   simp [ndH,rV,qI,qV,wI,wV,rE,qE,wE,Nd.cells,nilS,ndT,tdE,tdV,tdC,mI,encK,h1,hq,h3,lvT] at hu <;>
   simp [go_sem,ir129,ndH,rV,qI,qV,wI,wV,rE,qE,wE,Nd.cells,nilS,ndT,tdE,tdV,tdC,mI,encK,h1,hq,h3,lvT,hk3,w8,hu,p9q,range_succ]
  case neg =>
   rw [show closeN n true=([],{ n with k:=n.k+1 }) by unfold closeN;rw [if_pos rfl,if_neg hk2]]
   have hk3:¬ ((n.k:Int)+1=8):=by omega
   by_cases h1:n.raw=[]<;>by_cases hq:n.nq=true<;>by_cases h3:n.row=[] <;>
   simp [go_sem,ir129,ndH,rV,qI,qV,wI,wV,rE,qE,wE,Nd.cells,nilS,ndT,tdE,tdV,tdC,mI,encK,h1,hq,h3,lvT,w1,hk3,p9q,range_succ]
 case false =>
  by_cases h7:n.k=7
  case pos =>
   have ho:=nover_spec n F f
   rw [show closeN n false=overN n by unfold closeN;rw [if_neg (by simp),if_pos h7]]
   rw [c9f E E129]
   simp only [overN] at ho ⊢
   by_cases h1:n.raw=[]<;>by_cases hq:n.nq=true<;>by_cases h3:n.row=[] <;>
   simp [ndH,rV,qI,qV,wI,wV,rE,qE,wE,Nd.cells,nilS,ndT,tdE,tdV,tdC,mI,encK,h1,hq,h3,lvF,h7] at ho <;>
   simp [go_sem,ir129,ndH,rV,qI,qV,wI,wV,rE,qE,wE,Nd.cells,nilS,ndT,tdE,tdV,tdC,mI,encK,h1,hq,h3,lvF,h7,ho,p9q,range_succ]
  case neg =>
   have h7':¬ ((n.k:Int)=7):=by omega
   have hf:=nfail_spec n F hn f 7 true
   rw [show closeN n false=failN n 7 true by unfold closeN;rw [if_neg (by simp),if_neg h7]]
   rw [c9f E E129]
   have hkp:=fail_keep n 7 true
   have hks:=fail_ks n 7 true
   generalize failN n 7 true=z at hf hkp hks ⊢
   obtain ⟨ks,m⟩:=z
   obtain ⟨e1,e2,e3,-⟩:=hkp
   simp only [] at hf hks e1 e2 e3 ⊢
   rcases hks with rfl | rfl
   ·skip
    by_cases h1:n.raw=[]<;>by_cases hq:n.nq=true<;>by_cases h3:n.row=[] <;>
    simp [ndH,rV,qI,qV,wI,wV,rE,qE,wE,Nd.cells,nilS,ndT,tdE,tdV,tdC,mI,encK,h1,hq,h3,lvF,h7',e1,e2,e3] at hf <;>
    simp [go_sem,ir129,ndH,rV,qI,qV,wI,wV,rE,qE,wE,Nd.cells,nilS,ndT,tdE,tdV,tdC,mI,encK,h1,hq,h3,lvF,h7',e1,e2,e3,hf,p9q,range_succ]
   ·skip
    by_cases h1:n.raw=[]<;>by_cases hq:n.nq=true<;>by_cases h3:n.row=[] <;>
    simp [ndH,rV,qI,qV,wI,wV,rE,qE,wE,Nd.cells,nilS,ndT,tdE,tdV,tdC,mI,encK,h1,hq,h3,lvF,h7',e1,e2,e3] at hf <;>
    simp [go_sem,ir129,ndH,rV,qI,qV,wI,wV,rE,qE,wE,Nd.cells,nilS,ndT,tdE,tdV,tdC,mI,encK,h1,hq,h3,lvF,h7',e1,e2,e3,hf,p9q,range_succ]
def lateP (n:Nd):Bool:=n.tx && decide (n.ct.state=1)
def pauseN (n:Nd):List Nat × Nd:=([],if n.k+1<3 then { n with k:=n.k+1 } else if lateP n=true then { n with mode:=9,k:=0 } else { n with mode:=1,k:=0 })
def suspN (n:Nd):List Nat × Nd:=([],if n.k+1=8 then { n with mode:=1,k:=0 } else { n with k:=n.k+1 })
theorem noff_spec (n:Nd) (F:Fl) (hk:n.k<=1000000000) (hr:n.rows<=1000000000) (f:Fr) (b:Bool):call E (.func (.func 132) [] []) [.ptr 0 0,.ptr (mI n) 0,.lit (.int .i64 (lv b))] (ndT n F [] f)=some (.tup [],ndT (offN n b).2 F (offN n b).1 f):=by
 have w1:=k1w hk
 have w2:=k1w hr
 have hT:=tell_nil f 11
 have hb0:=cback_spec n.ct
 cases b
 case false =>
  have ek:¬ offK n false=11:=by simp [offK]
  by_cases hr2:n.rows=128
  case pos =>
   have hu:=nturn_spec { n with ct:=Ct.zero,tx:=false,k:=0 } F 1
   rw [show offN n false=([11],{ n with ct:=Ct.zero,tx:=false,mode:=1,k:=0 }) by unfold offN;rw [if_neg ek,if_pos hr2]]
   rw [c9f E E132]
   by_cases h1:n.raw=[]<;>by_cases hq:n.nq=true<;>by_cases h3:n.row=[] <;>
   simp [ndH,rV,qI,qV,wI,wV,rE,qE,wE,Nd.cells,nilS,ndT,tdE,tdV,tdC,mI,encK,h1,hq,h3,lvF,Ct.cells,Ct.zero,hr2] at hT hb0 hu <;>
   simp [go_sem,ir132,ndH,rV,qI,qV,wI,wV,rE,qE,wE,Nd.cells,nilS,ndT,tdE,tdV,tdC,mI,encK,h1,hq,h3,lvF,Ct.cells,Ct.zero,hr2,hT,hb0,hu,w1,p9q,range_succ]
  case neg =>
   have hr3:¬ ((n.rows:Int)=128):=by omega
   rw [show offN n false=([],{ n with k:=0 }) by unfold offN;rw [if_neg ek,if_neg hr2];rfl]
   rw [c9f E E132]
   by_cases h1:n.raw=[]<;>by_cases hq:n.nq=true<;>by_cases h3:n.row=[] <;>
   simp [go_sem,ir132,ndH,rV,qI,qV,wI,wV,rE,qE,wE,Nd.cells,nilS,ndT,tdE,tdV,tdC,mI,encK,h1,hq,h3,lvF,w1,hr3,p9q,range_succ]
 case true =>
  by_cases hk2:n.k+1=11
  case pos =>
   have hk3:(n.k:Int)+1=11:=by omega
   have ek:offK n true=11:=hk2
   by_cases hr2:n.rows+1=128
   case pos =>
    have hr3:(n.rows:Int)+1=128:=by omega
    have hu:=nturn_spec { n with ct:=Ct.zero,tx:=false,k:=0,rows:=128 } F 1
    rw [show offN n true=([11],{ n with ct:=Ct.zero,tx:=false,mode:=1,k:=0,rows:=128 }) by unfold offN;rw [if_pos ek,if_pos hr2]]
    rw [c9f E E132]
    by_cases h1:n.raw=[]<;>by_cases hq:n.nq=true<;>by_cases h3:n.row=[] <;>
    simp [ndH,rV,qI,qV,wI,wV,rE,qE,wE,Nd.cells,nilS,ndT,tdE,tdV,tdC,mI,encK,h1,hq,h3,lvT,Ct.cells,Ct.zero] at hT hb0 hu <;>
    simp [go_sem,ir132,ndH,rV,qI,qV,wI,wV,rE,qE,wE,Nd.cells,nilS,ndT,tdE,tdV,tdC,mI,encK,h1,hq,h3,lvT,Ct.cells,Ct.zero,hT,hb0,hu,hk3,w11,hr3,w128,p9q,range_succ]
   case neg =>
    have hr3:¬ ((n.rows:Int)+1=128):=by omega
    rw [show offN n true=([],{ n with k:=0,rows:=n.rows+1 }) by unfold offN;rw [if_pos ek,if_neg hr2]]
    rw [c9f E E132]
    by_cases h1:n.raw=[]<;>by_cases hq:n.nq=true<;>by_cases h3:n.row=[] <;>
    simp [go_sem,ir132,ndH,rV,qI,qV,wI,wV,rE,qE,wE,Nd.cells,nilS,ndT,tdE,tdV,tdC,mI,encK,h1,hq,h3,lvT,hk3,w11,w2,hr3,p9q,range_succ]
  case neg =>
   have hk3:¬ ((n.k:Int)+1=11):=by omega
   have ek:¬ offK n true=11:=hk2
   by_cases hr2:n.rows=128
   case pos =>
    have hu:=nturn_spec { n with ct:=Ct.zero,tx:=false,k:=n.k+1 } F 1
    rw [show offN n true=([11],{ n with ct:=Ct.zero,tx:=false,mode:=1,k:=0 }) by unfold offN;rw [if_neg ek,if_pos hr2]]
    rw [c9f E E132]
    by_cases h1:n.raw=[]<;>by_cases hq:n.nq=true<;>by_cases h3:n.row=[] <;>
    simp [ndH,rV,qI,qV,wI,wV,rE,qE,wE,Nd.cells,nilS,ndT,tdE,tdV,tdC,mI,encK,h1,hq,h3,lvT,Ct.cells,Ct.zero,hr2] at hT hb0 hu <;>
    simp [go_sem,ir132,ndH,rV,qI,qV,wI,wV,rE,qE,wE,Nd.cells,nilS,ndT,tdE,tdV,tdC,mI,encK,h1,hq,h3,lvT,Ct.cells,Ct.zero,hr2,hT,hb0,hu,hk3,w1,natCastS,p9q,range_succ]
   case neg =>
    have hr3:¬ ((n.rows:Int)=128):=by omega
    rw [show offN n true=([],{ n with k:=n.k+1 }) by unfold offN;rw [if_neg ek,if_neg hr2];rfl]
    rw [c9f E E132]
    by_cases h1:n.raw=[]<;>by_cases hq:n.nq=true<;>by_cases h3:n.row=[] <;>
    simp [go_sem,ir132,ndH,rV,qI,qV,wI,wV,rE,qE,wE,Nd.cells,nilS,ndT,tdE,tdV,tdC,mI,encK,h1,hq,h3,lvT,hk3,w1,hr3,p9q,range_succ]
theorem nidle_rest (n:Nd) (F:Fl) (hn:n.Ok) (hq0:n.q=[]) (f:Fr):call E (.func (.func 124) [] []) [.ptr 0 0,.ptr (mI n) 0,.lit (.int .i64 1)] (ndT n F [] f)=some (.tup [],ndT n F [] f):=by
 have hp:=npend_spec n F hn
 rw [hq0] at hp
 rw [c9f E E124]
 by_cases h1:n.raw=[]<;>by_cases hq:n.nq=true<;>by_cases h3:n.row=[] <;>
 simp [ndH,rV,qI,qV,wI,wV,rE,qE,wE,Nd.cells,nilS,ndT,tdE,tdV,tdC,mI,encK,h1,hq,h3,hq0] at hp <;>
 simp [go_sem,ir124,ndH,rV,qI,qV,wI,wV,rE,qE,wE,Nd.cells,nilS,ndT,tdE,tdV,tdC,mI,encK,h1,hq,h3,hq0,hp,p9q,range_succ]
theorem nidle_fail (n:Nd) (F:Fl) (hn:n.Ok) (hq0:¬ n.q=[]) (f:Fr):call E (.func (.func 124) [] []) [.ptr 0 0,.ptr (mI n) 0,.lit (.int .i64 1)] (ndT n F [] f)=some (.tup [],ndT (failN { n with tx:=true } 4 true).2 F (failN { n with tx:=true } 4 true).1 f):=by
 have hp:=npend_spec n F hn
 have hnM:({ n with tx:=true }:Nd).Ok:=⟨hn.nq,hn.ql,hn.ct⟩
 have hf:=nfail_spec { n with tx:=true } F hnM f 4 true
 have hkp:=fail_keep { n with tx:=true } 4 true
 have hks:=fail_ks { n with tx:=true } 4 true
 generalize failN { n with tx:=true } 4 true=z at hf hkp hks ⊢
 obtain ⟨ks,m⟩:=z
 obtain ⟨e1,e2,e3,-⟩:=hkp
 simp only [] at hf hks e1 e2 e3 ⊢
 rw [c9f E E124]
 rcases hks with rfl | rfl
 ·skip
  by_cases h1:n.raw=[]<;>by_cases hq:n.nq=true<;>by_cases h3:n.row=[] <;>
  simp [ndH,rV,qI,qV,wI,wV,rE,qE,wE,Nd.cells,nilS,ndT,tdE,tdV,tdC,mI,encK,h1,hq,h3,hq0,e1,e2,e3] at hp hf <;>
  simp [go_sem,ir124,ndH,rV,qI,qV,wI,wV,rE,qE,wE,Nd.cells,nilS,ndT,tdE,tdV,tdC,mI,encK,h1,hq,h3,hq0,e1,e2,e3,hp,hf,p9q,range_succ]
 ·skip
  by_cases h1:n.raw=[]<;>by_cases hq:n.nq=true<;>by_cases h3:n.row=[] <;>
  simp [ndH,rV,qI,qV,wI,wV,rE,qE,wE,Nd.cells,nilS,ndT,tdE,tdV,tdC,mI,encK,h1,hq,h3,hq0,e1,e2,e3] at hp hf <;>
  simp [go_sem,ir124,ndH,rV,qI,qV,wI,wV,rE,qE,wE,Nd.cells,nilS,ndT,tdE,tdV,tdC,mI,encK,h1,hq,h3,hq0,e1,e2,e3,hp,hf,p9q,range_succ]
theorem nidle_start_no (n:Nd) (F:Fl) (hn:n.Ok) (hq0:n.q=[]) (f:Fr):call E (.func (.func 124) [] []) [.ptr 0 0,.ptr (mI n) 0,.lit (.int .i64 0)] (ndT n F [] f)=some (.tup [],stG 1 (tdE (mI n) [] f) n (startN n false) F false):=by
 have hp:=npend_spec n F hn
 have hs:=nstart_no n F
 rw [hq0] at hp
 rw [c9f E E124]
 by_cases h1:n.raw=[]<;>by_cases hq:n.nq=true<;>by_cases h3:n.row=[] <;>
 simp [ndH,rV,qI,qV,wI,wV,rE,qE,wE,Nd.cells,nilS,ndT,tdE,tdV,tdC,mI,encK,h1,hq,h3,hq0,stG,startN,encLv,lvF] at hp hs <;>
 simp [go_sem,ir124,ndH,rV,qI,qV,wI,wV,rE,qE,wE,Nd.cells,nilS,ndT,tdE,tdV,tdC,mI,encK,h1,hq,h3,hq0,stG,startN,encLv,lvF,hp,hs,p9q,range_succ]
theorem nidle_start_yes (n:Nd) (F:Fl) (hn:n.Ok) (g:Fr) (r:List Fr) (hg:n.q=g::r) (hok:g.Ok) (hc:checkP g=0) (f:Fr):call E (.func (.func 124) [] []) [.ptr 0 0,.ptr (mI n) 0,.lit (.int .i64 0)] (ndT n F [] f)=some (.tup [],stG 1 (tdE (mI n) [] f) n (startN n true) F true):=by
 have hp:=npend_spec n F hn
 have hs:=nstart_yes n F hn g r hg hok hc
 rw [hg] at hp
 have hq:n.nq=false:=by
  cases h:n.nq
  ·rfl
  ·have:=hn.nq h;rw [hg] at this;cases this
 rw [c9f E E124]
 have hne:=allP_ne g
 have e:startN n true={ n with mode:=2,k:=0,raw:=[false],lvl:=false,run:=1,tx:=true,sends:=true,own:=g,row:=allP g }:=by unfold startN;rw [hg];rfl
 rw [e] at hs ⊢
 clear e
 generalize allP g=rw0 at hs hne ⊢
 by_cases h1:n.raw=[]<;>by_cases h3:n.row=[] <;>
 simp [ndH,rV,qI,qV,wI,wV,rE,qE,wE,Nd.cells,nilS,ndT,tdE,tdV,tdC,mI,encK,stG,encLv,lvF,h1,hq,h3,hg] at hp hs <;>
 simp [go_sem,ir124,ndH,rV,qI,qV,wI,wV,rE,qE,wE,Nd.cells,nilS,ndT,tdE,tdV,tdC,mI,encK,stG,encLv,lvF,h1,hq,h3,hg,hp,hs,hne,p9q,range_succ]
theorem nnextT (n:Nd) (F:Fl) (kind k:Nat) (hN:nextF n.raw=(kind,k)) (hr:RawOk n.raw):call E (.func (.func 121) [] []) [.ptr 0 0] (ndH n F)=some (.tup [.lit (.int .i64 kind),.lit (.int .i64 k),.lit (.bool (decide (n.run=5)))],ndH n F.lock):=by
 have h:=nnext_spec n F hr
 unfold nxV at h
 rw [hN] at h
 exact h
theorem ndiff_lost (n:Nd) (F:Fl) (hr:RawOk n.raw) (h1:¬ n.raw=[]) (hq:n.nq=false) (h3:¬ n.row=[]) (f:Fr) (k:Nat) (hN:nextF n.raw=(1,k)) (h5:¬ n.run=5):call E (.func (.func 146) [] []) [.ptr 0 0,.ptr (mI n) 0,.lit (.int .i64 0)] (ndT n F [] f)=some (.lit (.bool true),ndT { n with tx:=false,sends:=false } F.lock [3] f):=by
 have hx:=nnextT n F 1 k hN hr
 have hT:=tell_nil f 3
 rw [c9f E E146]
 simp [ndH,rV,qI,qV,wI,wV,rE,qE,wE,Nd.cells,nilS,ndT,tdE,tdV,tdC,mI,encK,Fl.lock,h1,hq,h3,h5] at hx hT
 simp [go_sem,ir146,ndH,rV,qI,qV,wI,wV,rE,qE,wE,Nd.cells,nilS,ndT,tdE,tdV,tdC,mI,encK,Fl.lock,h1,hq,h3,h5,hx,hT,p9q,range_succ]
theorem ndiff_slot (n:Nd) (F:Fl) (hr:RawOk n.raw) (h1:¬ n.raw=[]) (hq:n.nq=false) (h3:¬ n.row=[]) (f:Fr) (k:Nat) (hN:nextF n.raw=(6,k)):call E (.func (.func 146) [] []) [.ptr 0 0,.ptr (mI n) 0,.lit (.int .i64 0)] (ndT n F [] f)=some (.lit (.bool true),ndT n F.lock [] f):=by
 have hx:=nnextT n F 6 k hN hr
 rw [c9f E E146]
 simp [ndH,rV,qI,qV,wI,wV,rE,qE,wE,Nd.cells,nilS,ndT,tdE,tdV,tdC,mI,encK,Fl.lock,h1,hq,h3] at hx
 simp [go_sem,ir146,ndH,rV,qI,qV,wI,wV,rE,qE,wE,Nd.cells,nilS,ndT,tdE,tdV,tdC,mI,encK,Fl.lock,h1,hq,h3,hx,p9q,range_succ]
theorem ndiff_stuff (n:Nd) (F:Fl) (hr:RawOk n.raw) (h1:¬ n.raw=[]) (hq:n.nq=false) (h3:¬ n.row=[]) (hn:n.Ok) (f:Fr) (k:Nat) (hN:nextF n.raw=(1,k)) (h5:n.run=5):call E (.func (.func 146) [] []) [.ptr 0 0,.ptr (mI n) 0,.lit (.int .i64 0)] (ndT n F [] f)=some (.lit (.bool false),ndT (failN n 5 false).2 F.lock (failN n 5 false).1 f):=by
 have hx:=nnextT n F 1 k hN hr
 have hf:=nfail_spec n F.lock hn f 5 false
 have hkp:=fail_keep n 5 false
 have hks:=fail_ks n 5 false
 generalize failN n 5 false=z at hf hkp hks ⊢
 obtain ⟨ks,m⟩:=z
 obtain ⟨e1,e2,e3,-⟩:=hkp
 simp only [] at hf hks e1 e2 e3 ⊢
 rw [c9f E E146]
 rcases hks with rfl | rfl
 ·skip
  simp [ndH,rV,qI,qV,wI,wV,rE,qE,wE,Nd.cells,nilS,ndT,tdE,tdV,tdC,mI,encK,Fl.lock,h1,hq,h3,h5,e1,e2,e3] at hx hf
  simp [go_sem,ir146,ndH,rV,qI,qV,wI,wV,rE,qE,wE,Nd.cells,nilS,ndT,tdE,tdV,tdC,mI,encK,Fl.lock,h1,hq,h3,h5,e1,e2,e3,hx,hf,p9q,range_succ]
 ·skip
  simp [ndH,rV,qI,qV,wI,wV,rE,qE,wE,Nd.cells,nilS,ndT,tdE,tdV,tdC,mI,encK,Fl.lock,h1,hq,h3,h5,e1,e2,e3] at hx hf
  simp [go_sem,ir146,ndH,rV,qI,qV,wI,wV,rE,qE,wE,Nd.cells,nilS,ndT,tdE,tdV,tdC,mI,encK,Fl.lock,h1,hq,h3,h5,e1,e2,e3,hx,hf,p9q,range_succ]
theorem ndiff_bit1 (n:Nd) (F:Fl) (hr:RawOk n.raw) (h1:¬ n.raw=[]) (hq:n.nq=false) (h3:¬ n.row=[]) (hn:n.Ok) (f:Fr) (kind k:Nat) (hN:nextF n.raw=(kind,k)) :call E (.func (.func 146) [] []) [.ptr 0 0,.ptr (mI n) 0,.lit (.int .i64 1)] (ndT n F [] f)=some (.lit (.bool false),ndT (failN n 4 true).2 F.lock (failN n 4 true).1 f):=by
 have hx:=nnextT n F kind k hN hr
 have hf:=nfail_spec n F.lock hn f 4 true
 have hkp:=fail_keep n 4 true
 have hks:=fail_ks n 4 true
 generalize failN n 4 true=z at hf hkp hks ⊢
 obtain ⟨ks,m⟩:=z
 obtain ⟨e1,e2,e3,-⟩:=hkp
 simp only [] at hf hks e1 e2 e3 ⊢
 rw [c9f E E146]
 rcases hks with rfl | rfl
 ·skip
  simp [ndH,rV,qI,qV,wI,wV,rE,qE,wE,Nd.cells,nilS,ndT,tdE,tdV,tdC,mI,encK,Fl.lock,h1,hq,h3,e1,e2,e3] at hx hf
  simp [go_sem,ir146,ndH,rV,qI,qV,wI,wV,rE,qE,wE,Nd.cells,nilS,ndT,tdE,tdV,tdC,mI,encK,Fl.lock,h1,hq,h3,e1,e2,e3,hx,hf,p9q,range_succ]
 ·skip
  simp [ndH,rV,qI,qV,wI,wV,rE,qE,wE,Nd.cells,nilS,ndT,tdE,tdV,tdC,mI,encK,Fl.lock,h1,hq,h3,e1,e2,e3] at hx hf
  simp [go_sem,ir146,ndH,rV,qI,qV,wI,wV,rE,qE,wE,Nd.cells,nilS,ndT,tdE,tdV,tdC,mI,encK,Fl.lock,h1,hq,h3,e1,e2,e3,hx,hf,p9q,range_succ]
theorem ndiff_bit0 (n:Nd) (F:Fl) (hr:RawOk n.raw) (h1:¬ n.raw=[]) (hq:n.nq=false) (h3:¬ n.row=[]) (hn:n.Ok) (f:Fr) (kind k:Nat) (hN:nextF n.raw=(kind,k)) (hk1:¬ kind=1) (hk6:¬ kind=6):call E (.func (.func 146) [] []) [.ptr 0 0,.ptr (mI n) 0,.lit (.int .i64 0)] (ndT n F [] f)=some (.lit (.bool false),ndT (failN n 4 true).2 F.lock (failN n 4 true).1 f):=by
 have hx:=nnextT n F kind k hN hr
 have hk1':¬ (kind:Int)=1:=by omega
 have hk6':¬ (kind:Int)=6:=by omega
 have hf:=nfail_spec n F.lock hn f 4 true
 have hkp:=fail_keep n 4 true
 have hks:=fail_ks n 4 true
 generalize failN n 4 true=z at hf hkp hks ⊢
 obtain ⟨ks,m⟩:=z
 obtain ⟨e1,e2,e3,-⟩:=hkp
 simp only [] at hf hks e1 e2 e3 ⊢
 rw [c9f E E146]
 rcases hks with rfl | rfl
 ·skip
  simp [ndH,rV,qI,qV,wI,wV,rE,qE,wE,Nd.cells,nilS,ndT,tdE,tdV,tdC,mI,encK,Fl.lock,h1,hq,h3,e1,e2,e3] at hx hf
  simp [go_sem,ir146,ndH,rV,qI,qV,wI,wV,rE,qE,wE,Nd.cells,nilS,ndT,tdE,tdV,tdC,mI,encK,Fl.lock,h1,hq,h3,e1,e2,e3,hx,hf,hk1',hk6',hk1,hk6,p9q,range_succ]
 ·skip
  simp [ndH,rV,qI,qV,wI,wV,rE,qE,wE,Nd.cells,nilS,ndT,tdE,tdV,tdC,mI,encK,Fl.lock,h1,hq,h3,e1,e2,e3] at hx hf
  simp [go_sem,ir146,ndH,rV,qI,qV,wI,wV,rE,qE,wE,Nd.cells,nilS,ndT,tdE,tdV,tdC,mI,encK,Fl.lock,h1,hq,h3,e1,e2,e3,hx,hf,hk1',hk6',hk1,hk6,p9q,range_succ]
theorem nend_recv (n:Nd) (F:Fl) (hn:n.Ok) (h1:¬ n.raw=[]) (hs:n.sends=false) (hd:dataF n.raw<=n.raw.length) (h2:sumF n.raw<=n.raw.length) (h0:n.raw[0]?=some false) (hl:n.raw.length<=1001) (f:Fr):call E (.func (.func 149) [] []) [.ptr 0 0,.ptr (mI n) 0,.lit (.int .i64 5)] (ndT n F [] f)=some (.tup [],ndT { n with ct:=n.ct.recv } F.lock [2] (frameOf n.raw)):=by
 have hc:=crecv_spec n.ct hn.ct
 have hT:=tell_nil (frameOf n.raw) 2
 have hF:=fframe_spec n.raw hd h2 h0 (by omega) false F.fr
 generalize frameOf n.raw=g at hT hF ⊢
 generalize n.ct.recv=c at hc ⊢
 rw [c9f E E149]
 by_cases hq:n.nq=true<;>by_cases h3:n.row=[] <;>
 simp [ndH,rV,qI,qV,wI,wV,rE,qE,wE,Nd.cells,nilS,ndT,tdE,tdV,tdC,mI,encK,Fl.lock,h1,hq,h3,hs,Ct.cells,encFr,u8v] at hc hT hF <;>
 simp [go_sem,ir149,ndH,rV,qI,qV,wI,wV,rE,qE,wE,Nd.cells,nilS,ndT,tdE,tdV,tdC,mI,encK,Fl.lock,h1,hq,h3,hs,Ct.cells,encFr,u8v,hc,hT,hF,p9q,range_succ]
theorem nend_last (n:Nd) (F:Fl) (h1:¬ n.raw=[]) (hs:n.sends=false) (f:Fr):call E (.func (.func 149) [] []) [.ptr 0 0,.ptr (mI n) 0,.lit (.int .i64 6)] (ndT n F [] f)=some (.tup [],ndT { n with mode:=8,k:=0 } F [] f):=by
 have hu:=nturn_spec n F 8
 rw [c9f E E149]
 by_cases hq:n.nq=true<;>by_cases h3:n.row=[] <;>
 simp [ndH,rV,qI,qV,wI,wV,rE,qE,wE,Nd.cells,nilS,ndT,tdE,tdV,tdC,mI,encK,Fl.lock,h1,hq,h3,hs] at hu <;>
 simp [go_sem,ir149,ndH,rV,qI,qV,wI,wV,rE,qE,wE,Nd.cells,nilS,ndT,tdE,tdV,tdC,mI,encK,Fl.lock,h1,hq,h3,hs,hu,p9q,range_succ]
theorem nend_none (n:Nd) (F:Fl) (h1:¬ n.raw=[]) (k:Nat) (hk6:¬ k=6) (hk5:¬ k=5∨n.sends=true) (f:Fr):call E (.func (.func 149) [] []) [.ptr 0 0,.ptr (mI n) 0,.lit (.int .i64 k)] (ndT n F [] f)=some (.tup [],ndT n F [] f):=by
 have hk6':¬ (k:Int)=6:=by omega
 rw [c9f E E149]
 by_cases h5:k=5
 case pos =>
  have hs:n.sends=true:=by rcases hk5 with h | h;exact absurd h5 h;exact h
  subst h5
  by_cases hq:n.nq=true<;>by_cases h3:n.row=[] <;>
  simp [go_sem,ir149,ndH,rV,qI,qV,wI,wV,rE,qE,wE,Nd.cells,nilS,ndT,tdE,tdV,tdC,mI,encK,Fl.lock,h1,hq,h3,hs,p9q,range_succ]
 case neg =>
  have h5':¬ (k:Int)=5:=by omega
  by_cases hq:n.nq=true<;>by_cases h3:n.row=[] <;>
  simp [go_sem,ir149,ndH,rV,qI,qV,wI,wV,rE,qE,wE,Nd.cells,nilS,ndT,tdE,tdV,tdC,mI,encK,Fl.lock,h1,hq,h3,h5',hk6',h5,hk6,p9q,range_succ]
theorem nturn_any (n:Nd) (F:Fl) (rows:List (List AVal)) (ql:Nat) (m:Nat) (h1:¬ n.raw=[]) (h3:¬ n.row=[]):call E (.func (.func 143) [] []) [.ptr 0 0,.lit (.int .i64 m)]
  [.box (n.cells (.own 1 n.raw.length 1 0 n.raw.length) (.ptr 2 0) (.own 4 n.row.length 1 0 n.row.length)),.arr true F.lr F.fr 1 (n.raw.map encLv),.box [.own 3 ql 12 0 ql,.lit (.int .i64 16)],.arr true false false 12 rows,.arr true F.lw F.fw 1 (n.row.map encLv)]
  = some (.tup [],[.box ({ n with mode:=m,k:=0 }.cells (.own 1 n.raw.length 1 0 n.raw.length) (.ptr 2 0) (.own 4 n.row.length 1 0 n.row.length)),.arr true F.lr F.fr 1 (n.raw.map encLv),.box [.own 3 ql 12 0 ql,.lit (.int .i64 16)],.arr true false false 12 rows,.arr true F.lw F.fw 1 (n.row.map encLv)]):=by
 rw [c9f E E143]
 simp [go_sem,ir143,Nd.cells,h1,h3,p9q,range_succ]
def sentN (n:Nd):Nd:={ n with ct:=n.ct.sent,q:=delL n.own n.q,mode:=8,k:=0 }
def sentG (mid:Heap) (tail:Heap) (ql:Nat) (n:Nd) (F:Fl):Heap :=
 .box ((sentN n).cells (.own 1 n.raw.length 1 0 n.raw.length) (.ptr 2 0) (.own 4 n.row.length 1 0 n.row.length))::.arr true F.lr F.fr 1 (n.raw.map encLv)::.box [.own ql (n.q.length - 1) 12 0 (n.q.length - 1),.lit (.int .i64 16)]::.dead
  :: .arr true F.lw F.fw 1 (n.row.map encLv)::(mid++.arr true false false 12 ((delL n.own n.q).map encFr)::tail)
theorem nend_sent (n:Nd) (F:Fl) (hn:n.Ok) (h1:¬ n.raw=[]) (hq:n.nq=false) (h3:¬ n.row=[]) (hs:n.sends=true) (ho:n.own∈n.q) (f:Fr):call E (.func (.func 149) [] []) [.ptr 0 0,.ptr (mI n) 0,.lit (.int .i64 6)] (ndT n F [] f)=some (.tup [],sentG [.box (tdC (.own 7 1 1 0 1) n.own)] [.arr true false false 1 [encK 1]] 6 n F):=by
 have hc:=csent_spec n.ct hn.ct
 have hT:=tell_nil n.own 1
 have hD:=quDrop_spec F.fq n.own n.q ho (by have:=hn.ql;omega)
 have hlen:=delL_len n.own n.q ho
 have hrows:=frRows (delL n.own n.q)
 unfold sentG sentN
 unfold dropH at hD
 generalize hrw:(delL n.own n.q).map encFr=rows at hD ⊢
 generalize n.ct.sent=c at hc ⊢
 clear hrw
 rw [c9f E E149]
 have hu:=nturn_any { n with ct:=c } F rows (n.q.length - 1) 8 h1 h3
 simp [ndH,rV,qI,qV,wI,wV,rE,qE,wE,Nd.cells,nilS,ndT,tdE,tdV,tdC,mI,encK,Fl.lock,h1,hq,h3,hs,Ct.cells,encFr,u8v,quH] at hc hT hD hu
 simp [go_sem,ir149,ndH,rV,qI,qV,wI,wV,rE,qE,wE,Nd.cells,nilS,ndT,tdE,tdV,tdC,mI,encK,Fl.lock,h1,hq,h3,hs,Ct.cells,encFr,u8v,quH,hc,hT,hD,hu,p9q,range_succ]
theorem head_app {m:List Bool} (h:dataF m<=m.length) (r:List Bool):dataF (m++r)=dataF m/\(sumF m<=m.length->sumF (m++r)=sumF m):=by
 have hd:=(sumF_ge m).2.2
 have he:extF (m++r)=extF m:=by
  unfold extF
  rw [getElem?_append_left (by omega)]
 have h1:dataF (m++r)=dataF m:=by unfold dataF;rw [he]
 have h2:rtrF (m++r)=rtrF m:=by
  unfold rtrF
  rw [he,getElem?_append_left]
  unfold dataF at h
  split at h<;>(rename_i q;simp only [q];simp;omega)
 have h3:sizeF (m++r)=sizeF m:=by
  unfold sizeF
  rw [h1,List.take_append_of_le_length h]
 exact ⟨h1,fun _=>by unfold sumF;rw [h1,h2,h3]⟩
theorem take_keep (n:Nd) (b:Bool) (h1:¬ n.raw=[]):¬ (takeN n b).2.raw=[]/\(takeN n b).2.nq=n.nq/\(takeN n b).2.row=n.row/\(takeN n b).2.q=n.q/\(takeN n b).2.sends=n.sends/\(takeN n b).2.tx=n.tx/\(takeN n b).2.ct=n.ct/\(takeN n b).2.own=n.own/\(takeN n b).2.mode=n.mode:=by
 unfold takeN
 split
 ·split<;>exact ⟨h1,rfl,rfl,rfl,rfl,rfl,rfl,rfl,rfl⟩
 ·split
  ·exact ⟨by simp,rfl,rfl,rfl,rfl,rfl,rfl,rfl,rfl⟩
  ·split<;>exact ⟨by simp,rfl,rfl,rfl,rfl,rfl,rfl,rfl,rfl⟩
theorem take_ok (n:Nd) (b:Bool) (h:¬ (n.run=5/\b=n.lvl)):(takeN n b).1=true:=by
 unfold takeN
 by_cases h5:n.run=5
 ·rw [if_pos h5,if_neg (fun e=>h ⟨h5,e⟩)]
 ·rw [if_neg h5]
  split
  ·rfl
  ·split<;>rfl
theorem nframeT (n:Nd) (F:Fl) (d:Bool) (hd:frL n=d) (hr:RawOk n.raw) (hs:n.sends=true->n.raw.length<n.row.length):call E (.func (.func 99) [] []) [.ptr 0 0] (ndH n F.lock)=some (.lit (.int .i64 (lv d)),ndH n F.lock):=by
 have h:=nframe_spec n F.lock hr hs
 rw [hd] at h
 exact h
theorem end_facts (n:Nd) (hr:RawOk n.raw) (h1:¬ n.raw=[]) (k:Nat) (hN:nextF n.raw=(8,k)) (h0:n.raw[0]?=some false) :
  dataF (n.raw++[true])<=(n.raw++[true]).length/\sumF (n.raw++[true])<=(n.raw++[true]).length/\(n.raw++[true])[0]?=some false/\(n.raw++[true]).length<=1001:=by
 have h6:=nextF_six (m:=n.raw) (by rw [hN];simp)
 have hh:=head_app (m:=n.raw) h6.1 [true]
 refine ⟨by rw [hh.1,length_append];omega,?_,?_,by rw [length_append];have:=hr.1;simp;omega⟩
 ·rw [hh.2 (by omega),length_append];omega
 ·rw [getElem?_append_left (List.length_pos_iff.2 h1)];exact h0
def nackN (n:Nd):List Nat × Nd:=((failN n 8 (!decide (n.ct.state=1))).1,{ (failN n 8 (!decide (n.ct.state=1))).2 with owed:=decide (n.ct.state=1) })
theorem rin_bit (n:Nd) (F:Fl) (hn:n.Ok) (hr:RawOk n.raw) (h1:¬ n.raw=[]) (hl5:n.run<=5) (f:Fr) (hs:n.sends=false) (k:Nat) (hN:nextF n.raw=(6,k)) (hd:frL n=false) :∃ F2,call E (.func (.func 125) [] []) [.ptr 0 0,.ptr (mI n) 0,.lit (.int .i64 (lv true))] (ndT n F [] f)=some (.tup [],ndT (failN n 4 true).2 F2 (failN n 4 true).1 f):=by
 have hx:=nnextT n F 6 k hN hr
 have hfr:=nframeT n F false hd hr (fun e=>by rw [hs] at e;cases e)
 have hf:=nfail_spec n F.lock hn f 4 true
 have hkp:=fail_keep n 4 true
 have hks:=fail_ks n 4 true
 generalize failN n 4 true=z at hf hkp hks ⊢
 obtain ⟨ks,m⟩:=z
 obtain ⟨e1,e2,e3,-⟩:=hkp
 simp only [] at hf hks e1 e2 e3 ⊢
 refine ⟨F.lock,?_⟩
 rw [c9f E E125]
 rcases hks with rfl | rfl
 ·skip
  by_cases hq:n.nq=true<;>by_cases h3:n.row=[] <;>
  simp [ndH,rV,qI,qV,wI,wV,rE,qE,wE,Nd.cells,nilS,ndT,tdE,tdV,tdC,mI,encK,Fl.lock,h1,hq,h3,hs,e1,e2,e3,lvT,lvF] at hx hfr hf <;>
  simp [go_sem,ir125,ndH,rV,qI,qV,wI,wV,rE,qE,wE,Nd.cells,nilS,ndT,tdE,tdV,tdC,mI,encK,Fl.lock,h1,hq,h3,hs,e1,e2,e3,lvT,lvF,hx,hfr,hf,p9q,range_succ]
 ·skip
  by_cases hq:n.nq=true<;>by_cases h3:n.row=[] <;>
  simp [ndH,rV,qI,qV,wI,wV,rE,qE,wE,Nd.cells,nilS,ndT,tdE,tdV,tdC,mI,encK,Fl.lock,h1,hq,h3,hs,e1,e2,e3,lvT,lvF] at hx hfr hf <;>
  simp [go_sem,ir125,ndH,rV,qI,qV,wI,wV,rE,qE,wE,Nd.cells,nilS,ndT,tdE,tdV,tdC,mI,encK,Fl.lock,h1,hq,h3,hs,e1,e2,e3,lvT,lvF,hx,hfr,hf,p9q,range_succ]
theorem rin_added_lo_t (n:Nd) (F:Fl) (hn:n.Ok) (hr:RawOk n.raw) (h1:¬ n.raw=[]) (hl5:n.run<=5) (f:Fr) (hs:n.sends=false) (kind k:Nat) (hN:nextF n.raw=(kind,k)) (hd:frL n=true) (h5:n.run=5) (hb:¬ n.lvl=true) (h4:kind<=4):∃ F2,call E (.func (.func 125) [] []) [.ptr 0 0,.ptr (mI n) 0,.lit (.int .i64 (lv true))] (ndT n F [] f)=some (.tup [],ndT (takeN n true).2 F2 [] f):=by
 have hx:=nnextT n F kind k hN hr
 have hfr:=nframeT n F true hd hr (fun e=>by rw [hs] at e;cases e)
 have h4':(kind:Int)<=4:=by omega
 have h8:¬ kind=8:=by omega
 have h8':¬ (kind:Int)=8:=by omega
 obtain ⟨F2,ht⟩:=ntake_spec n F.lock hr h1 hl5 true
 have hok:=take_ok n true (fun e=>hb e.2.symm)
 have htk:=take_keep n true h1
 rw [hok] at ht
 clear hok
 generalize (takeN n true).2=m at ht htk ⊢
 obtain ⟨t1,t2,t3,-,t4,-⟩:=htk
 refine ⟨F2,?_⟩
 rw [c9f E E125]
 by_cases hq:n.nq=true<;>by_cases h3:n.row=[] <;>
 simp [ndH,rV,qI,qV,wI,wV,rE,qE,wE,Nd.cells,nilS,ndT,tdE,tdV,tdC,mI,encK,Fl.lock,h1,hq,h3,hs,h5,t1,t2,t3,t4,lvT,lvF] at hx hfr ht <;>
 simp [go_sem,ir125,ndH,rV,qI,qV,wI,wV,rE,qE,wE,Nd.cells,nilS,ndT,tdE,tdV,tdC,mI,encK,Fl.lock,h1,hq,h3,hs,h5,t1,t2,t3,t4,lvT,lvF,hx,hfr,ht,h4,h4',h8,h8',p9q,range_succ]
theorem rin_stuff_lo_t (n:Nd) (F:Fl) (hn:n.Ok) (hr:RawOk n.raw) (h1:¬ n.raw=[]) (hl5:n.run<=5) (f:Fr) (hs:n.sends=false) (kind k:Nat) (hN:nextF n.raw=(kind,k)) (hd:frL n=true) (h5:n.run=5) (hb:n.lvl=true) (h4:kind<=4):∃ F2,call E (.func (.func 125) [] []) [.ptr 0 0,.ptr (mI n) 0,.lit (.int .i64 (lv true))] (ndT n F [] f)=some (.tup [],ndT (failN n 5 true).2 F2 (failN n 5 true).1 f):=by
 have hx:=nnextT n F kind k hN hr
 have hfr:=nframeT n F true hd hr (fun e=>by rw [hs] at e;cases e)
 have h4':(kind:Int)<=4:=by omega
 have h8:¬ kind=8:=by omega
 have h8':¬ (kind:Int)=8:=by omega
 obtain ⟨F2,ht⟩:=ntake_spec n F.lock hr h1 hl5 true
 rw [show takeN n true=(false,n) by unfold takeN;rw [if_pos h5,if_pos hb.symm]] at ht
 clear hb
 have hf:=nfail_spec n F2 hn f 5 true
 have hkp:=fail_keep n 5 true
 have hks:=fail_ks n 5 true
 generalize failN n 5 true=z at hf hkp hks ⊢
 obtain ⟨ks,m⟩:=z
 obtain ⟨e1,e2,e3,-⟩:=hkp
 simp only [] at hf hks e1 e2 e3 ⊢
 refine ⟨F2,?_⟩
 rw [c9f E E125]
 rcases hks with rfl | rfl
 ·skip
  by_cases hq:n.nq=true<;>by_cases h3:n.row=[] <;>
  simp [ndH,rV,qI,qV,wI,wV,rE,qE,wE,Nd.cells,nilS,ndT,tdE,tdV,tdC,mI,encK,Fl.lock,h1,hq,h3,hs,h5,e1,e2,e3,lvT,lvF] at hx hfr ht hf <;>
  simp [go_sem,ir125,ndH,rV,qI,qV,wI,wV,rE,qE,wE,Nd.cells,nilS,ndT,tdE,tdV,tdC,mI,encK,Fl.lock,h1,hq,h3,hs,h5,e1,e2,e3,lvT,lvF,hx,hfr,ht,hf,h4,h4',h8,h8',p9q,range_succ]
 ·skip
  by_cases hq:n.nq=true<;>by_cases h3:n.row=[] <;>
  simp [ndH,rV,qI,qV,wI,wV,rE,qE,wE,Nd.cells,nilS,ndT,tdE,tdV,tdC,mI,encK,Fl.lock,h1,hq,h3,hs,h5,e1,e2,e3,lvT,lvF] at hx hfr ht hf <;>
  simp [go_sem,ir125,ndH,rV,qI,qV,wI,wV,rE,qE,wE,Nd.cells,nilS,ndT,tdE,tdV,tdC,mI,encK,Fl.lock,h1,hq,h3,hs,h5,e1,e2,e3,lvT,lvF,hx,hfr,ht,hf,h4,h4',h8,h8',p9q,range_succ]
theorem rin_added_hi_t (n:Nd) (F:Fl) (hn:n.Ok) (hr:RawOk n.raw) (h1:¬ n.raw=[]) (hl5:n.run<=5) (f:Fr) (hs:n.sends=false) (k:Nat) (hN:nextF n.raw=(5,k)) (hd:frL n=true) (h5:n.run=5) (hb:¬ n.lvl=true):∃ F2,call E (.func (.func 125) [] []) [.ptr 0 0,.ptr (mI n) 0,.lit (.int .i64 (lv true))] (ndT n F [] f)=some (.tup [],ndT (takeN n true).2 F2 [] f):=by
 have hx:=nnextT n F 5 k hN hr
 have hfr:=nframeT n F true hd hr (fun e=>by rw [hs] at e;cases e)
 obtain ⟨F2,ht⟩:=ntake_spec n F.lock hr h1 hl5 true
 have hok:=take_ok n true (fun e=>hb e.2.symm)
 have htk:=take_keep n true h1
 rw [hok] at ht
 clear hok
 generalize (takeN n true).2=m at ht htk ⊢
 obtain ⟨t1,t2,t3,-,t4,-⟩:=htk
 refine ⟨F2,?_⟩
 rw [c9f E E125]
 by_cases hq:n.nq=true<;>by_cases h3:n.row=[] <;>
 simp [ndH,rV,qI,qV,wI,wV,rE,qE,wE,Nd.cells,nilS,ndT,tdE,tdV,tdC,mI,encK,Fl.lock,h1,hq,h3,hs,h5,t1,t2,t3,t4,lvT,lvF] at hx hfr ht <;>
 simp [go_sem,ir125,ndH,rV,qI,qV,wI,wV,rE,qE,wE,Nd.cells,nilS,ndT,tdE,tdV,tdC,mI,encK,Fl.lock,h1,hq,h3,hs,h5,t1,t2,t3,t4,lvT,lvF,hx,hfr,ht,p9q,range_succ]
theorem rin_stuff_hi_t (n:Nd) (F:Fl) (hn:n.Ok) (hr:RawOk n.raw) (h1:¬ n.raw=[]) (hl5:n.run<=5) (f:Fr) (hs:n.sends=false) (k:Nat) (hN:nextF n.raw=(5,k)) (hd:frL n=true) (h5:n.run=5) (hb:n.lvl=true):∃ F2,call E (.func (.func 125) [] []) [.ptr 0 0,.ptr (mI n) 0,.lit (.int .i64 (lv true))] (ndT n F [] f)=some (.tup [],ndT (failN n 5 true).2 F2 (failN n 5 true).1 f):=by
 have hx:=nnextT n F 5 k hN hr
 have hfr:=nframeT n F true hd hr (fun e=>by rw [hs] at e;cases e)
 obtain ⟨F2,ht⟩:=ntake_spec n F.lock hr h1 hl5 true
 rw [show takeN n true=(false,n) by unfold takeN;rw [if_pos h5,if_pos hb.symm]] at ht
 clear hb
 have hf:=nfail_spec n F2 hn f 5 true
 have hkp:=fail_keep n 5 true
 have hks:=fail_ks n 5 true
 generalize failN n 5 true=z at hf hkp hks ⊢
 obtain ⟨ks,m⟩:=z
 obtain ⟨e1,e2,e3,-⟩:=hkp
 simp only [] at hf hks e1 e2 e3 ⊢
 refine ⟨F2,?_⟩
 rw [c9f E E125]
 rcases hks with rfl | rfl
 ·skip
  by_cases hq:n.nq=true<;>by_cases h3:n.row=[] <;>
  simp [ndH,rV,qI,qV,wI,wV,rE,qE,wE,Nd.cells,nilS,ndT,tdE,tdV,tdC,mI,encK,Fl.lock,h1,hq,h3,hs,h5,e1,e2,e3,lvT,lvF] at hx hfr ht hf <;>
  simp [go_sem,ir125,ndH,rV,qI,qV,wI,wV,rE,qE,wE,Nd.cells,nilS,ndT,tdE,tdV,tdC,mI,encK,Fl.lock,h1,hq,h3,hs,h5,e1,e2,e3,lvT,lvF,hx,hfr,ht,hf,p9q,range_succ]
 ·skip
  by_cases hq:n.nq=true<;>by_cases h3:n.row=[] <;>
  simp [ndH,rV,qI,qV,wI,wV,rE,qE,wE,Nd.cells,nilS,ndT,tdE,tdV,tdC,mI,encK,Fl.lock,h1,hq,h3,hs,h5,e1,e2,e3,lvT,lvF] at hx hfr ht hf <;>
  simp [go_sem,ir125,ndH,rV,qI,qV,wI,wV,rE,qE,wE,Nd.cells,nilS,ndT,tdE,tdV,tdC,mI,encK,Fl.lock,h1,hq,h3,hs,h5,e1,e2,e3,lvT,lvF,hx,hfr,ht,hf,p9q,range_succ]
theorem rin_low_t (n:Nd) (F:Fl) (hn:n.Ok) (hr:RawOk n.raw) (h1:¬ n.raw=[]) (hl5:n.run<=5) (f:Fr) (hs:n.sends=false) (kind k:Nat) (hN:nextF n.raw=(kind,k)) (hd:frL n=true) (h5:¬ n.run=5) (h4:kind<=4):∃ F2,call E (.func (.func 125) [] []) [.ptr 0 0,.ptr (mI n) 0,.lit (.int .i64 (lv true))] (ndT n F [] f)=some (.tup [],ndT (takeN n true).2 F2 [] f):=by
 have hx:=nnextT n F kind k hN hr
 have hfr:=nframeT n F true hd hr (fun e=>by rw [hs] at e;cases e)
 have h4':(kind:Int)<=4:=by omega
 have h8:¬ kind=8:=by omega
 have h8':¬ (kind:Int)=8:=by omega
 obtain ⟨F2,ht⟩:=ntake_spec n F.lock hr h1 hl5 true
 have hok:=take_ok n true (fun e=>h5 e.1)
 have htk:=take_keep n true h1
 rw [hok] at ht
 clear hok
 generalize (takeN n true).2=m at ht htk ⊢
 obtain ⟨t1,t2,t3,-,t4,-⟩:=htk
 refine ⟨F2,?_⟩
 rw [c9f E E125]
 by_cases hq:n.nq=true<;>by_cases h3:n.row=[] <;>
 simp [ndH,rV,qI,qV,wI,wV,rE,qE,wE,Nd.cells,nilS,ndT,tdE,tdV,tdC,mI,encK,Fl.lock,h1,hq,h3,hs,h5,t1,t2,t3,t4,lvT,lvF] at hx hfr ht <;>
 simp [go_sem,ir125,ndH,rV,qI,qV,wI,wV,rE,qE,wE,Nd.cells,nilS,ndT,tdE,tdV,tdC,mI,encK,Fl.lock,h1,hq,h3,hs,h5,t1,t2,t3,t4,lvT,lvF,hx,hfr,ht,h4,h4',h8,h8',p9q,range_succ]
theorem rin_added_lo_f (n:Nd) (F:Fl) (hn:n.Ok) (hr:RawOk n.raw) (h1:¬ n.raw=[]) (hl5:n.run<=5) (f:Fr) (hs:n.sends=false) (kind k:Nat) (hN:nextF n.raw=(kind,k)) (hd:frL n=true) (h5:n.run=5) (hb:¬ n.lvl=false) (h4:kind<=4):∃ F2,call E (.func (.func 125) [] []) [.ptr 0 0,.ptr (mI n) 0,.lit (.int .i64 (lv false))] (ndT n F [] f)=some (.tup [],ndT (takeN n false).2 F2 [] f):=by
 have hx:=nnextT n F kind k hN hr
 have hfr:=nframeT n F true hd hr (fun e=>by rw [hs] at e;cases e)
 have h4':(kind:Int)<=4:=by omega
 have h8:¬ kind=8:=by omega
 have h8':¬ (kind:Int)=8:=by omega
 obtain ⟨F2,ht⟩:=ntake_spec n F.lock hr h1 hl5 false
 have hok:=take_ok n false (fun e=>hb e.2.symm)
 have htk:=take_keep n false h1
 rw [hok] at ht
 clear hok
 generalize (takeN n false).2=m at ht htk ⊢
 obtain ⟨t1,t2,t3,-,t4,-⟩:=htk
 refine ⟨F2,?_⟩
 rw [c9f E E125]
 by_cases hq:n.nq=true<;>by_cases h3:n.row=[] <;>
 simp [ndH,rV,qI,qV,wI,wV,rE,qE,wE,Nd.cells,nilS,ndT,tdE,tdV,tdC,mI,encK,Fl.lock,h1,hq,h3,hs,h5,t1,t2,t3,t4,lvT,lvF] at hx hfr ht <;>
 simp [go_sem,ir125,ndH,rV,qI,qV,wI,wV,rE,qE,wE,Nd.cells,nilS,ndT,tdE,tdV,tdC,mI,encK,Fl.lock,h1,hq,h3,hs,h5,t1,t2,t3,t4,lvT,lvF,hx,hfr,ht,h4,h4',h8,h8',p9q,range_succ]
theorem rin_stuff_lo_f (n:Nd) (F:Fl) (hn:n.Ok) (hr:RawOk n.raw) (h1:¬ n.raw=[]) (hl5:n.run<=5) (f:Fr) (hs:n.sends=false) (kind k:Nat) (hN:nextF n.raw=(kind,k)) (hd:frL n=true) (h5:n.run=5) (hb:n.lvl=false) (h4:kind<=4):∃ F2,call E (.func (.func 125) [] []) [.ptr 0 0,.ptr (mI n) 0,.lit (.int .i64 (lv false))] (ndT n F [] f)=some (.tup [],ndT (failN n 5 true).2 F2 (failN n 5 true).1 f):=by
 have hx:=nnextT n F kind k hN hr
 have hfr:=nframeT n F true hd hr (fun e=>by rw [hs] at e;cases e)
 have h4':(kind:Int)<=4:=by omega
 have h8:¬ kind=8:=by omega
 have h8':¬ (kind:Int)=8:=by omega
 obtain ⟨F2,ht⟩:=ntake_spec n F.lock hr h1 hl5 false
 rw [show takeN n false=(false,n) by unfold takeN;rw [if_pos h5,if_pos hb.symm]] at ht
 clear hb
 have hf:=nfail_spec n F2 hn f 5 true
 have hkp:=fail_keep n 5 true
 have hks:=fail_ks n 5 true
 generalize failN n 5 true=z at hf hkp hks ⊢
 obtain ⟨ks,m⟩:=z
 obtain ⟨e1,e2,e3,-⟩:=hkp
 simp only [] at hf hks e1 e2 e3 ⊢
 refine ⟨F2,?_⟩
 rw [c9f E E125]
 rcases hks with rfl | rfl
 ·skip
  by_cases hq:n.nq=true<;>by_cases h3:n.row=[] <;>
  simp [ndH,rV,qI,qV,wI,wV,rE,qE,wE,Nd.cells,nilS,ndT,tdE,tdV,tdC,mI,encK,Fl.lock,h1,hq,h3,hs,h5,e1,e2,e3,lvT,lvF] at hx hfr ht hf <;>
  simp [go_sem,ir125,ndH,rV,qI,qV,wI,wV,rE,qE,wE,Nd.cells,nilS,ndT,tdE,tdV,tdC,mI,encK,Fl.lock,h1,hq,h3,hs,h5,e1,e2,e3,lvT,lvF,hx,hfr,ht,hf,h4,h4',h8,h8',p9q,range_succ]
 ·skip
  by_cases hq:n.nq=true<;>by_cases h3:n.row=[] <;>
  simp [ndH,rV,qI,qV,wI,wV,rE,qE,wE,Nd.cells,nilS,ndT,tdE,tdV,tdC,mI,encK,Fl.lock,h1,hq,h3,hs,h5,e1,e2,e3,lvT,lvF] at hx hfr ht hf <;>
  simp [go_sem,ir125,ndH,rV,qI,qV,wI,wV,rE,qE,wE,Nd.cells,nilS,ndT,tdE,tdV,tdC,mI,encK,Fl.lock,h1,hq,h3,hs,h5,e1,e2,e3,lvT,lvF,hx,hfr,ht,hf,h4,h4',h8,h8',p9q,range_succ]
theorem rin_added_hi_f (n:Nd) (F:Fl) (hn:n.Ok) (hr:RawOk n.raw) (h1:¬ n.raw=[]) (hl5:n.run<=5) (f:Fr) (hs:n.sends=false) (k:Nat) (hN:nextF n.raw=(5,k)) (hd:frL n=true) (h5:n.run=5) (hb:¬ n.lvl=false):∃ F2,call E (.func (.func 125) [] []) [.ptr 0 0,.ptr (mI n) 0,.lit (.int .i64 (lv false))] (ndT n F [] f)=some (.tup [],ndT (takeN n false).2 F2 [] f):=by
 have hx:=nnextT n F 5 k hN hr
 have hfr:=nframeT n F true hd hr (fun e=>by rw [hs] at e;cases e)
 obtain ⟨F2,ht⟩:=ntake_spec n F.lock hr h1 hl5 false
 have hok:=take_ok n false (fun e=>hb e.2.symm)
 have htk:=take_keep n false h1
 rw [hok] at ht
 clear hok
 generalize (takeN n false).2=m at ht htk ⊢
 obtain ⟨t1,t2,t3,-,t4,-⟩:=htk
 refine ⟨F2,?_⟩
 rw [c9f E E125]
 by_cases hq:n.nq=true<;>by_cases h3:n.row=[] <;>
 simp [ndH,rV,qI,qV,wI,wV,rE,qE,wE,Nd.cells,nilS,ndT,tdE,tdV,tdC,mI,encK,Fl.lock,h1,hq,h3,hs,h5,t1,t2,t3,t4,lvT,lvF] at hx hfr ht <;>
 simp [go_sem,ir125,ndH,rV,qI,qV,wI,wV,rE,qE,wE,Nd.cells,nilS,ndT,tdE,tdV,tdC,mI,encK,Fl.lock,h1,hq,h3,hs,h5,t1,t2,t3,t4,lvT,lvF,hx,hfr,ht,p9q,range_succ]
theorem rin_stuff_hi_f (n:Nd) (F:Fl) (hn:n.Ok) (hr:RawOk n.raw) (h1:¬ n.raw=[]) (hl5:n.run<=5) (f:Fr) (hs:n.sends=false) (k:Nat) (hN:nextF n.raw=(5,k)) (hd:frL n=true) (h5:n.run=5) (hb:n.lvl=false):∃ F2,call E (.func (.func 125) [] []) [.ptr 0 0,.ptr (mI n) 0,.lit (.int .i64 (lv false))] (ndT n F [] f)=some (.tup [],ndT (failN n 5 true).2 F2 (failN n 5 true).1 f):=by
 have hx:=nnextT n F 5 k hN hr
 have hfr:=nframeT n F true hd hr (fun e=>by rw [hs] at e;cases e)
 obtain ⟨F2,ht⟩:=ntake_spec n F.lock hr h1 hl5 false
 rw [show takeN n false=(false,n) by unfold takeN;rw [if_pos h5,if_pos hb.symm]] at ht
 clear hb
 have hf:=nfail_spec n F2 hn f 5 true
 have hkp:=fail_keep n 5 true
 have hks:=fail_ks n 5 true
 generalize failN n 5 true=z at hf hkp hks ⊢
 obtain ⟨ks,m⟩:=z
 obtain ⟨e1,e2,e3,-⟩:=hkp
 simp only [] at hf hks e1 e2 e3 ⊢
 refine ⟨F2,?_⟩
 rw [c9f E E125]
 rcases hks with rfl | rfl
 ·skip
  by_cases hq:n.nq=true<;>by_cases h3:n.row=[] <;>
  simp [ndH,rV,qI,qV,wI,wV,rE,qE,wE,Nd.cells,nilS,ndT,tdE,tdV,tdC,mI,encK,Fl.lock,h1,hq,h3,hs,h5,e1,e2,e3,lvT,lvF] at hx hfr ht hf <;>
  simp [go_sem,ir125,ndH,rV,qI,qV,wI,wV,rE,qE,wE,Nd.cells,nilS,ndT,tdE,tdV,tdC,mI,encK,Fl.lock,h1,hq,h3,hs,h5,e1,e2,e3,lvT,lvF,hx,hfr,ht,hf,p9q,range_succ]
 ·skip
  by_cases hq:n.nq=true<;>by_cases h3:n.row=[] <;>
  simp [ndH,rV,qI,qV,wI,wV,rE,qE,wE,Nd.cells,nilS,ndT,tdE,tdV,tdC,mI,encK,Fl.lock,h1,hq,h3,hs,h5,e1,e2,e3,lvT,lvF] at hx hfr ht hf <;>
  simp [go_sem,ir125,ndH,rV,qI,qV,wI,wV,rE,qE,wE,Nd.cells,nilS,ndT,tdE,tdV,tdC,mI,encK,Fl.lock,h1,hq,h3,hs,h5,e1,e2,e3,lvT,lvF,hx,hfr,ht,hf,p9q,range_succ]
theorem rin_low_f (n:Nd) (F:Fl) (hn:n.Ok) (hr:RawOk n.raw) (h1:¬ n.raw=[]) (hl5:n.run<=5) (f:Fr) (hs:n.sends=false) (kind k:Nat) (hN:nextF n.raw=(kind,k)) (hd:frL n=true) (h5:¬ n.run=5) (h4:kind<=4):∃ F2,call E (.func (.func 125) [] []) [.ptr 0 0,.ptr (mI n) 0,.lit (.int .i64 (lv false))] (ndT n F [] f)=some (.tup [],ndT (takeN n false).2 F2 [] f):=by
 have hx:=nnextT n F kind k hN hr
 have hfr:=nframeT n F true hd hr (fun e=>by rw [hs] at e;cases e)
 have h4':(kind:Int)<=4:=by omega
 have h8:¬ kind=8:=by omega
 have h8':¬ (kind:Int)=8:=by omega
 obtain ⟨F2,ht⟩:=ntake_spec n F.lock hr h1 hl5 false
 have hok:=take_ok n false (fun e=>h5 e.1)
 have htk:=take_keep n false h1
 rw [hok] at ht
 clear hok
 generalize (takeN n false).2=m at ht htk ⊢
 obtain ⟨t1,t2,t3,-,t4,-⟩:=htk
 refine ⟨F2,?_⟩
 rw [c9f E E125]
 by_cases hq:n.nq=true<;>by_cases h3:n.row=[] <;>
 simp [ndH,rV,qI,qV,wI,wV,rE,qE,wE,Nd.cells,nilS,ndT,tdE,tdV,tdC,mI,encK,Fl.lock,h1,hq,h3,hs,h5,t1,t2,t3,t4,lvT,lvF] at hx hfr ht <;>
 simp [go_sem,ir125,ndH,rV,qI,qV,wI,wV,rE,qE,wE,Nd.cells,nilS,ndT,tdE,tdV,tdC,mI,encK,Fl.lock,h1,hq,h3,hs,h5,t1,t2,t3,t4,lvT,lvF,hx,hfr,ht,h4,h4',h8,h8',p9q,range_succ]
theorem rin_slot_t_t (n:Nd) (F:Fl) (hn:n.Ok) (hr:RawOk n.raw) (h1:¬ n.raw=[]) (hl5:n.run<=5) (f:Fr) (hs:n.sends=false) (k:Nat) (hN:nextF n.raw=(6,k)) (hd:frL n=true) (h5:¬ n.run=5):∃ F2,call E (.func (.func 125) [] []) [.ptr 0 0,.ptr (mI n) 0,.lit (.int .i64 (lv true))] (ndT n F [] f)=some (.tup [],ndT (takeN n true).2 F2 [] f):=by
 have hx:=nnextT n F 6 k hN hr
 have hfr:=nframeT n F true hd hr (fun e=>by rw [hs] at e;cases e)
 obtain ⟨F2,ht⟩:=ntake_spec n F.lock hr h1 hl5 true
 have hok:=take_ok n true (fun e=>h5 e.1)
 have htk:=take_keep n true h1
 rw [hok] at ht
 clear hok
 generalize (takeN n true).2=m at ht htk ⊢
 obtain ⟨t1,t2,t3,-,t4,-⟩:=htk
 refine ⟨F2,?_⟩
 rw [c9f E E125]
 by_cases hq:n.nq=true<;>by_cases h3:n.row=[] <;>
 simp [ndH,rV,qI,qV,wI,wV,rE,qE,wE,Nd.cells,nilS,ndT,tdE,tdV,tdC,mI,encK,Fl.lock,h1,hq,h3,hs,h5,t1,t2,t3,t4,lvT,lvF] at hx hfr ht <;>
 simp [go_sem,ir125,ndH,rV,qI,qV,wI,wV,rE,qE,wE,Nd.cells,nilS,ndT,tdE,tdV,tdC,mI,encK,Fl.lock,h1,hq,h3,hs,h5,t1,t2,t3,t4,lvT,lvF,hx,hfr,ht,p9q,range_succ]
theorem rin_slot_t_f (n:Nd) (F:Fl) (hn:n.Ok) (hr:RawOk n.raw) (h1:¬ n.raw=[]) (hl5:n.run<=5) (f:Fr) (hs:n.sends=false) (k:Nat) (hN:nextF n.raw=(6,k)) (hd:frL n=true) (h5:¬ n.run=5):∃ F2,call E (.func (.func 125) [] []) [.ptr 0 0,.ptr (mI n) 0,.lit (.int .i64 (lv false))] (ndT n F [] f)=some (.tup [],ndT (takeN n false).2 F2 [] f):=by
 have hx:=nnextT n F 6 k hN hr
 have hfr:=nframeT n F true hd hr (fun e=>by rw [hs] at e;cases e)
 obtain ⟨F2,ht⟩:=ntake_spec n F.lock hr h1 hl5 false
 have hok:=take_ok n false (fun e=>h5 e.1)
 have htk:=take_keep n false h1
 rw [hok] at ht
 clear hok
 generalize (takeN n false).2=m at ht htk ⊢
 obtain ⟨t1,t2,t3,-,t4,-⟩:=htk
 refine ⟨F2,?_⟩
 rw [c9f E E125]
 by_cases hq:n.nq=true<;>by_cases h3:n.row=[] <;>
 simp [ndH,rV,qI,qV,wI,wV,rE,qE,wE,Nd.cells,nilS,ndT,tdE,tdV,tdC,mI,encK,Fl.lock,h1,hq,h3,hs,h5,t1,t2,t3,t4,lvT,lvF] at hx hfr ht <;>
 simp [go_sem,ir125,ndH,rV,qI,qV,wI,wV,rE,qE,wE,Nd.cells,nilS,ndT,tdE,tdV,tdC,mI,encK,Fl.lock,h1,hq,h3,hs,h5,t1,t2,t3,t4,lvT,lvF,hx,hfr,ht,p9q,range_succ]
theorem rin_slot_f_f (n:Nd) (F:Fl) (hn:n.Ok) (hr:RawOk n.raw) (h1:¬ n.raw=[]) (hl5:n.run<=5) (f:Fr) (hs:n.sends=false) (k:Nat) (hN:nextF n.raw=(6,k)) (hd:frL n=false) (h5:¬ n.run=5):∃ F2,call E (.func (.func 125) [] []) [.ptr 0 0,.ptr (mI n) 0,.lit (.int .i64 (lv false))] (ndT n F [] f)=some (.tup [],ndT (takeN n false).2 F2 [] f):=by
 have hx:=nnextT n F 6 k hN hr
 have hfr:=nframeT n F false hd hr (fun e=>by rw [hs] at e;cases e)
 obtain ⟨F2,ht⟩:=ntake_spec n F.lock hr h1 hl5 false
 have hok:=take_ok n false (fun e=>h5 e.1)
 have htk:=take_keep n false h1
 rw [hok] at ht
 clear hok
 generalize (takeN n false).2=m at ht htk ⊢
 obtain ⟨t1,t2,t3,-,t4,-⟩:=htk
 refine ⟨F2,?_⟩
 rw [c9f E E125]
 by_cases hq:n.nq=true<;>by_cases h3:n.row=[] <;>
 simp [ndH,rV,qI,qV,wI,wV,rE,qE,wE,Nd.cells,nilS,ndT,tdE,tdV,tdC,mI,encK,Fl.lock,h1,hq,h3,hs,h5,t1,t2,t3,t4,lvT,lvF] at hx hfr ht <;>
 simp [go_sem,ir125,ndH,rV,qI,qV,wI,wV,rE,qE,wE,Nd.cells,nilS,ndT,tdE,tdV,tdC,mI,encK,Fl.lock,h1,hq,h3,hs,h5,t1,t2,t3,t4,lvT,lvF,hx,hfr,ht,p9q,range_succ]
theorem rin_delim (n:Nd) (F:Fl) (hn:n.Ok) (hr:RawOk n.raw) (h1:¬ n.raw=[]) (hl5:n.run<=5) (f:Fr) (hs:n.sends=false) (k:Nat) (hN:nextF n.raw=(5,k)) (hd:frL n=true) (h5:¬ n.run=5):∃ F2,call E (.func (.func 125) [] []) [.ptr 0 0,.ptr (mI n) 0,.lit (.int .i64 (lv true))] (ndT n F [] f)=some (.tup [],ndT (takeN n true).2 F2 [] f):=by
 have hx:=nnextT n F 5 k hN hr
 have hfr:=nframeT n F true hd hr (fun e=>by rw [hs] at e;cases e)
 obtain ⟨F2,ht⟩:=ntake_spec n F.lock hr h1 hl5 true
 have hok:=take_ok n true (fun e=>h5 e.1)
 have htk:=take_keep n true h1
 rw [hok] at ht
 clear hok
 generalize (takeN n true).2=m at ht htk ⊢
 obtain ⟨t1,t2,t3,-,t4,-⟩:=htk
 refine ⟨F2,?_⟩
 rw [c9f E E125]
 by_cases hq:n.nq=true<;>by_cases h3:n.row=[] <;>
 simp [ndH,rV,qI,qV,wI,wV,rE,qE,wE,Nd.cells,nilS,ndT,tdE,tdV,tdC,mI,encK,Fl.lock,h1,hq,h3,hs,h5,t1,t2,t3,t4,lvT,lvF] at hx hfr ht <;>
 simp [go_sem,ir125,ndH,rV,qI,qV,wI,wV,rE,qE,wE,Nd.cells,nilS,ndT,tdE,tdV,tdC,mI,encK,Fl.lock,h1,hq,h3,hs,h5,t1,t2,t3,t4,lvT,lvF,hx,hfr,ht,p9q,range_succ]
theorem rin_ack (n:Nd) (F:Fl) (hn:n.Ok) (hr:RawOk n.raw) (h1:¬ n.raw=[]) (hl5:n.run<=5) (f:Fr) (hs:n.sends=false) (k:Nat) (hN:nextF n.raw=(7,k)) (hd:frL n=true) (h5:¬ n.run=5) (hri:rightF n.raw=true):∃ F2,call E (.func (.func 125) [] []) [.ptr 0 0,.ptr (mI n) 0,.lit (.int .i64 (lv true))] (ndT n F [] f)=some (.tup [],ndT (takeN n true).2 F2 [] f):=by
 have hx:=nnextT n F 7 k hN hr
 have hfr:=nframeT n F true hd hr (fun e=>by rw [hs] at e;cases e)
 have h7:=nextF_six (m:=n.raw) (by rw [hN];simp)
 have hR:=nright_spec n F.lock h7.1 (by omega) hr.1
 rw [hri] at hR
 obtain ⟨F2,ht⟩:=ntake_spec n F.lock hr h1 hl5 true
 have hok:=take_ok n true (fun e=>h5 e.1)
 have htk:=take_keep n true h1
 rw [hok] at ht
 clear hok
 generalize (takeN n true).2=m at ht htk ⊢
 obtain ⟨t1,t2,t3,-,t4,-⟩:=htk
 refine ⟨F2,?_⟩
 rw [c9f E E125]
 by_cases hq:n.nq=true<;>by_cases h3:n.row=[] <;>
 simp [ndH,rV,qI,qV,wI,wV,rE,qE,wE,Nd.cells,nilS,ndT,tdE,tdV,tdC,mI,encK,Fl.lock,h1,hq,h3,hs,h5,t1,t2,t3,t4,lvT,lvF] at hx hfr ht hR <;>
 simp [go_sem,ir125,ndH,rV,qI,qV,wI,wV,rE,qE,wE,Nd.cells,nilS,ndT,tdE,tdV,tdC,mI,encK,Fl.lock,h1,hq,h3,hs,h5,t1,t2,t3,t4,lvT,lvF,hx,hfr,ht,hR,p9q,range_succ]
theorem rin_sum (n:Nd) (F:Fl) (hn:n.Ok) (hr:RawOk n.raw) (h1:¬ n.raw=[]) (hl5:n.run<=5) (f:Fr) (hs:n.sends=false) (k:Nat) (hN:nextF n.raw=(7,k)) (hd:frL n=true) (h5:¬ n.run=5) (hri:rightF n.raw=false):∃ F2,call E (.func (.func 125) [] []) [.ptr 0 0,.ptr (mI n) 0,.lit (.int .i64 (lv true))] (ndT n F [] f)=some (.tup [],ndT (failN n 6 true).2 F2 (failN n 6 true).1 f):=by
 have hx:=nnextT n F 7 k hN hr
 have hfr:=nframeT n F true hd hr (fun e=>by rw [hs] at e;cases e)
 have h7:=nextF_six (m:=n.raw) (by rw [hN];simp)
 have hR:=nright_spec n F.lock h7.1 (by omega) hr.1
 rw [hri] at hR
 have hf:=nfail_spec n F.lock hn f 6 true
 have hkp:=fail_keep n 6 true
 have hks:=fail_ks n 6 true
 generalize failN n 6 true=z at hf hkp hks ⊢
 obtain ⟨ks,m⟩:=z
 obtain ⟨e1,e2,e3,-⟩:=hkp
 simp only [] at hf hks e1 e2 e3 ⊢
 refine ⟨F.lock,?_⟩
 rw [c9f E E125]
 rcases hks with rfl | rfl
 ·skip
  by_cases hq:n.nq=true<;>by_cases h3:n.row=[] <;>
  simp [ndH,rV,qI,qV,wI,wV,rE,qE,wE,Nd.cells,nilS,ndT,tdE,tdV,tdC,mI,encK,Fl.lock,h1,hq,h3,hs,h5,e1,e2,e3,lvT,lvF] at hx hfr hR hf <;>
  simp [go_sem,ir125,ndH,rV,qI,qV,wI,wV,rE,qE,wE,Nd.cells,nilS,ndT,tdE,tdV,tdC,mI,encK,Fl.lock,h1,hq,h3,hs,h5,e1,e2,e3,lvT,lvF,hx,hfr,hR,hf,p9q,range_succ]
 ·skip
  by_cases hq:n.nq=true<;>by_cases h3:n.row=[] <;>
  simp [ndH,rV,qI,qV,wI,wV,rE,qE,wE,Nd.cells,nilS,ndT,tdE,tdV,tdC,mI,encK,Fl.lock,h1,hq,h3,hs,h5,e1,e2,e3,lvT,lvF] at hx hfr hR hf <;>
  simp [go_sem,ir125,ndH,rV,qI,qV,wI,wV,rE,qE,wE,Nd.cells,nilS,ndT,tdE,tdV,tdC,mI,encK,Fl.lock,h1,hq,h3,hs,h5,e1,e2,e3,lvT,lvF,hx,hfr,hR,hf,p9q,range_succ]
theorem rin_form5 (n:Nd) (F:Fl) (hn:n.Ok) (hr:RawOk n.raw) (h1:¬ n.raw=[]) (hl5:n.run<=5) (f:Fr) (hs:n.sends=false) (k:Nat) (hN:nextF n.raw=(5,k)) (hd:frL n=true) (h5:¬ n.run=5):∃ F2,call E (.func (.func 125) [] []) [.ptr 0 0,.ptr (mI n) 0,.lit (.int .i64 (lv false))] (ndT n F [] f)=some (.tup [],ndT (failN n 7 true).2 F2 (failN n 7 true).1 f):=by
 have hx:=nnextT n F 5 k hN hr
 have hfr:=nframeT n F true hd hr (fun e=>by rw [hs] at e;cases e)
 have hf:=nfail_spec n F.lock hn f 7 true
 have hkp:=fail_keep n 7 true
 have hks:=fail_ks n 7 true
 generalize failN n 7 true=z at hf hkp hks ⊢
 obtain ⟨ks,m⟩:=z
 obtain ⟨e1,e2,e3,-⟩:=hkp
 simp only [] at hf hks e1 e2 e3 ⊢
 refine ⟨F.lock,?_⟩
 rw [c9f E E125]
 rcases hks with rfl | rfl
 ·skip
  by_cases hq:n.nq=true<;>by_cases h3:n.row=[] <;>
  simp [ndH,rV,qI,qV,wI,wV,rE,qE,wE,Nd.cells,nilS,ndT,tdE,tdV,tdC,mI,encK,Fl.lock,h1,hq,h3,hs,h5,e1,e2,e3,lvT,lvF] at hx hfr hf <;>
  simp [go_sem,ir125,ndH,rV,qI,qV,wI,wV,rE,qE,wE,Nd.cells,nilS,ndT,tdE,tdV,tdC,mI,encK,Fl.lock,h1,hq,h3,hs,h5,e1,e2,e3,lvT,lvF,hx,hfr,hf,p9q,range_succ]
 ·skip
  by_cases hq:n.nq=true<;>by_cases h3:n.row=[] <;>
  simp [ndH,rV,qI,qV,wI,wV,rE,qE,wE,Nd.cells,nilS,ndT,tdE,tdV,tdC,mI,encK,Fl.lock,h1,hq,h3,hs,h5,e1,e2,e3,lvT,lvF] at hx hfr hf <;>
  simp [go_sem,ir125,ndH,rV,qI,qV,wI,wV,rE,qE,wE,Nd.cells,nilS,ndT,tdE,tdV,tdC,mI,encK,Fl.lock,h1,hq,h3,hs,h5,e1,e2,e3,lvT,lvF,hx,hfr,hf,p9q,range_succ]
theorem rin_form7 (n:Nd) (F:Fl) (hn:n.Ok) (hr:RawOk n.raw) (h1:¬ n.raw=[]) (hl5:n.run<=5) (f:Fr) (hs:n.sends=false) (k:Nat) (hN:nextF n.raw=(7,k)) (hd:frL n=true) (h5:¬ n.run=5):∃ F2,call E (.func (.func 125) [] []) [.ptr 0 0,.ptr (mI n) 0,.lit (.int .i64 (lv false))] (ndT n F [] f)=some (.tup [],ndT (failN n 7 true).2 F2 (failN n 7 true).1 f):=by
 have hx:=nnextT n F 7 k hN hr
 have hfr:=nframeT n F true hd hr (fun e=>by rw [hs] at e;cases e)
 have hf:=nfail_spec n F.lock hn f 7 true
 have hkp:=fail_keep n 7 true
 have hks:=fail_ks n 7 true
 generalize failN n 7 true=z at hf hkp hks ⊢
 obtain ⟨ks,m⟩:=z
 obtain ⟨e1,e2,e3,-⟩:=hkp
 simp only [] at hf hks e1 e2 e3 ⊢
 refine ⟨F.lock,?_⟩
 rw [c9f E E125]
 rcases hks with rfl | rfl
 ·skip
  by_cases hq:n.nq=true<;>by_cases h3:n.row=[] <;>
  simp [ndH,rV,qI,qV,wI,wV,rE,qE,wE,Nd.cells,nilS,ndT,tdE,tdV,tdC,mI,encK,Fl.lock,h1,hq,h3,hs,h5,e1,e2,e3,lvT,lvF] at hx hfr hf <;>
  simp [go_sem,ir125,ndH,rV,qI,qV,wI,wV,rE,qE,wE,Nd.cells,nilS,ndT,tdE,tdV,tdC,mI,encK,Fl.lock,h1,hq,h3,hs,h5,e1,e2,e3,lvT,lvF,hx,hfr,hf,p9q,range_succ]
 ·skip
  by_cases hq:n.nq=true<;>by_cases h3:n.row=[] <;>
  simp [ndH,rV,qI,qV,wI,wV,rE,qE,wE,Nd.cells,nilS,ndT,tdE,tdV,tdC,mI,encK,Fl.lock,h1,hq,h3,hs,h5,e1,e2,e3,lvT,lvF] at hx hfr hf <;>
  simp [go_sem,ir125,ndH,rV,qI,qV,wI,wV,rE,qE,wE,Nd.cells,nilS,ndT,tdE,tdV,tdC,mI,encK,Fl.lock,h1,hq,h3,hs,h5,e1,e2,e3,lvT,lvF,hx,hfr,hf,p9q,range_succ]
theorem rin_form8 (n:Nd) (F:Fl) (hn:n.Ok) (hr:RawOk n.raw) (h1:¬ n.raw=[]) (hl5:n.run<=5) (f:Fr) (hs:n.sends=false) (k:Nat) (hN:nextF n.raw=(8,k)) (hd:frL n=true) (h5:¬ n.run=5) (hk6:¬ k=6):∃ F2,call E (.func (.func 125) [] []) [.ptr 0 0,.ptr (mI n) 0,.lit (.int .i64 (lv false))] (ndT n F [] f)=some (.tup [],ndT (failN n 7 true).2 F2 (failN n 7 true).1 f):=by
 have hx:=nnextT n F 8 k hN hr
 have hfr:=nframeT n F true hd hr (fun e=>by rw [hs] at e;cases e)
 have hk6':¬ (k:Int)=6:=by omega
 have hf:=nfail_spec n F.lock hn f 7 true
 have hkp:=fail_keep n 7 true
 have hks:=fail_ks n 7 true
 generalize failN n 7 true=z at hf hkp hks ⊢
 obtain ⟨ks,m⟩:=z
 obtain ⟨e1,e2,e3,-⟩:=hkp
 simp only [] at hf hks e1 e2 e3 ⊢
 refine ⟨F.lock,?_⟩
 rw [c9f E E125]
 rcases hks with rfl | rfl
 ·skip
  by_cases hq:n.nq=true<;>by_cases h3:n.row=[] <;>
  simp [ndH,rV,qI,qV,wI,wV,rE,qE,wE,Nd.cells,nilS,ndT,tdE,tdV,tdC,mI,encK,Fl.lock,h1,hq,h3,hs,h5,e1,e2,e3,lvT,lvF] at hx hfr hf <;>
  simp [go_sem,ir125,ndH,rV,qI,qV,wI,wV,rE,qE,wE,Nd.cells,nilS,ndT,tdE,tdV,tdC,mI,encK,Fl.lock,h1,hq,h3,hs,h5,e1,e2,e3,lvT,lvF,hx,hfr,hf,hk6,hk6',p9q,range_succ]
 ·skip
  by_cases hq:n.nq=true<;>by_cases h3:n.row=[] <;>
  simp [ndH,rV,qI,qV,wI,wV,rE,qE,wE,Nd.cells,nilS,ndT,tdE,tdV,tdC,mI,encK,Fl.lock,h1,hq,h3,hs,h5,e1,e2,e3,lvT,lvF] at hx hfr hf <;>
  simp [go_sem,ir125,ndH,rV,qI,qV,wI,wV,rE,qE,wE,Nd.cells,nilS,ndT,tdE,tdV,tdC,mI,encK,Fl.lock,h1,hq,h3,hs,h5,e1,e2,e3,lvT,lvF,hx,hfr,hf,hk6,hk6',p9q,range_succ]
theorem rin_over (n:Nd) (F:Fl) (hn:n.Ok) (hr:RawOk n.raw) (h1:¬ n.raw=[]) (hl5:n.run<=5) (f:Fr) (hs:n.sends=false) (k:Nat) (hN:nextF n.raw=(8,k)) (hd:frL n=true) (h5:¬ n.run=5) (hk:k=6):∃ F2,call E (.func (.func 125) [] []) [.ptr 0 0,.ptr (mI n) 0,.lit (.int .i64 (lv false))] (ndT n F [] f)=some (.tup [],ndT (overN n).2 F2 [9] f):=by
 have hx:=nnextT n F 8 k hN hr
 have hfr:=nframeT n F true hd hr (fun e=>by rw [hs] at e;cases e)
 subst hk
 have ho:=nover_spec n F.lock f
 simp only [overN] at ho ⊢
 refine ⟨F.lock,?_⟩
 rw [c9f E E125]
 by_cases hq:n.nq=true<;>by_cases h3:n.row=[] <;>
 simp [ndH,rV,qI,qV,wI,wV,rE,qE,wE,Nd.cells,nilS,ndT,tdE,tdV,tdC,mI,encK,Fl.lock,h1,hq,h3,hs,h5,lvT,lvF] at hx hfr ho <;>
 simp [go_sem,ir125,ndH,rV,qI,qV,wI,wV,rE,qE,wE,Nd.cells,nilS,ndT,tdE,tdV,tdC,mI,encK,Fl.lock,h1,hq,h3,hs,h5,lvT,lvF,hx,hfr,ho,p9q,range_succ]
theorem rin_end5 (n:Nd) (F:Fl) (hn:n.Ok) (hr:RawOk n.raw) (h1:¬ n.raw=[]) (hl5:n.run<=5) (f:Fr) (hs:n.sends=false) (k:Nat) (hN:nextF n.raw=(8,k)) (hd:frL n=true) (h5:¬ n.run=5) (hk:k=5) (h0:n.raw[0]?=some false):∃ F2,call E (.func (.func 125) [] []) [.ptr 0 0,.ptr (mI n) 0,.lit (.int .i64 (lv true))] (ndT n F [] f)=some (.tup [],ndT { (takeN n true).2 with ct:=n.ct.recv } F2 [2] (frameOf (n.raw++[true]))):=by
 have hx:=nnextT n F 8 k hN hr
 have hfr:=nframeT n F true hd hr (fun e=>by rw [hs] at e;cases e)
 subst hk
 obtain ⟨F2,ht⟩:=ntake_spec n F.lock hr h1 hl5 true
 have hok:=take_ok n true (fun e=>h5 e.1)
 have htk:=take_keep n true h1
 rw [hok] at ht
 clear hok
 have hmr:(takeN n true).2.raw=n.raw++[true]:=by unfold takeN;rw [if_neg h5,if_pos (by rw [hN];decide)]
 have hfacts:=end_facts n hr h1 5 hN h0
 have he:=nend_recv (takeN n true).2 F2 ⟨by rw [htk.2.1,htk.2.2.2.1];exact hn.nq,by rw [htk.2.2.2.1];exact hn.ql,by rw [htk.2.2.2.2.2.2.1];exact hn.ct⟩ htk.1 (by rw [htk.2.2.2.2.1];exact hs) (by rw [hmr];exact hfacts.1) (by rw [hmr];exact hfacts.2.1) (by rw [hmr];exact hfacts.2.2.1) (by rw [hmr];exact hfacts.2.2.2) f
 have hfo:frameOf (takeN n true).2.raw=frameOf (n.raw++[true]):=by rw [hmr]
 have hco:(takeN n true).2.ct.recv=n.ct.recv:=by rw [htk.2.2.2.2.2.2.1]
 rw [hfo,hco] at he
 clear hfo hco
 generalize frameOf (n.raw++[true])=g at he ⊢
 generalize n.ct.recv=c at he ⊢
 generalize (takeN n true).2=m at ht htk he ⊢
 obtain ⟨t1,t2,t3,-,t4,-⟩:=htk
 clear hmr hfacts
 refine ⟨F2.lock,?_⟩
 rw [c9f E E125]
 by_cases hq:n.nq=true<;>by_cases h3:n.row=[] <;>
 simp [ndH,rV,qI,qV,wI,wV,rE,qE,wE,Nd.cells,nilS,ndT,tdE,tdV,tdC,mI,encK,Fl.lock,h1,hq,h3,hs,h5,t1,t2,t3,t4,lvT,lvF] at hx hfr ht he <;>
 simp [go_sem,ir125,ndH,rV,qI,qV,wI,wV,rE,qE,wE,Nd.cells,nilS,ndT,tdE,tdV,tdC,mI,encK,Fl.lock,h1,hq,h3,hs,h5,t1,t2,t3,t4,lvT,lvF,hx,hfr,ht,he,p9q,range_succ]
theorem rin_end6 (n:Nd) (F:Fl) (hn:n.Ok) (hr:RawOk n.raw) (h1:¬ n.raw=[]) (hl5:n.run<=5) (f:Fr) (hs:n.sends=false) (k:Nat) (hN:nextF n.raw=(8,k)) (hd:frL n=true) (h5:¬ n.run=5) (hk:k=6):∃ F2,call E (.func (.func 125) [] []) [.ptr 0 0,.ptr (mI n) 0,.lit (.int .i64 (lv true))] (ndT n F [] f)=some (.tup [],ndT { (takeN n true).2 with mode:=8,k:=0 } F2 [] f):=by
 have hx:=nnextT n F 8 k hN hr
 have hfr:=nframeT n F true hd hr (fun e=>by rw [hs] at e;cases e)
 subst hk
 obtain ⟨F2,ht⟩:=ntake_spec n F.lock hr h1 hl5 true
 have hok:=take_ok n true (fun e=>h5 e.1)
 have htk:=take_keep n true h1
 rw [hok] at ht
 clear hok
 have he:=nend_last (takeN n true).2 F2 htk.1 (by rw [htk.2.2.2.2.1];exact hs) f
 generalize (takeN n true).2=m at ht htk he ⊢
 obtain ⟨t1,t2,t3,-,t4,-⟩:=htk
 refine ⟨F2,?_⟩
 rw [c9f E E125]
 by_cases hq:n.nq=true<;>by_cases h3:n.row=[] <;>
 simp [ndH,rV,qI,qV,wI,wV,rE,qE,wE,Nd.cells,nilS,ndT,tdE,tdV,tdC,mI,encK,Fl.lock,h1,hq,h3,hs,h5,t1,t2,t3,t4,lvT,lvF] at hx hfr ht he <;>
 simp [go_sem,ir125,ndH,rV,qI,qV,wI,wV,rE,qE,wE,Nd.cells,nilS,ndT,tdE,tdV,tdC,mI,encK,Fl.lock,h1,hq,h3,hs,h5,t1,t2,t3,t4,lvT,lvF,hx,hfr,ht,he,p9q,range_succ]
theorem rin_endx (n:Nd) (F:Fl) (hn:n.Ok) (hr:RawOk n.raw) (h1:¬ n.raw=[]) (hl5:n.run<=5) (f:Fr) (hs:n.sends=false) (k:Nat) (hN:nextF n.raw=(8,k)) (hd:frL n=true) (h5:¬ n.run=5) (hk6:¬ k=6) (hk5:¬ k=5):∃ F2,call E (.func (.func 125) [] []) [.ptr 0 0,.ptr (mI n) 0,.lit (.int .i64 (lv true))] (ndT n F [] f)=some (.tup [],ndT (takeN n true).2 F2 [] f):=by
 have hx:=nnextT n F 8 k hN hr
 have hfr:=nframeT n F true hd hr (fun e=>by rw [hs] at e;cases e)
 obtain ⟨F2,ht⟩:=ntake_spec n F.lock hr h1 hl5 true
 have hok:=take_ok n true (fun e=>h5 e.1)
 have htk:=take_keep n true h1
 rw [hok] at ht
 clear hok
 have hk6':¬ (k:Int)=6:=by omega
 have he:=nend_none (takeN n true).2 F2 htk.1 k hk6 (.inl hk5) f
 generalize (takeN n true).2=m at ht htk he ⊢
 obtain ⟨t1,t2,t3,-,t4,-⟩:=htk
 refine ⟨F2,?_⟩
 rw [c9f E E125]
 by_cases hq:n.nq=true<;>by_cases h3:n.row=[] <;>
 simp [ndH,rV,qI,qV,wI,wV,rE,qE,wE,Nd.cells,nilS,ndT,tdE,tdV,tdC,mI,encK,Fl.lock,h1,hq,h3,hs,h5,t1,t2,t3,t4,lvT,lvF] at hx hfr ht he <;>
 simp [go_sem,ir125,ndH,rV,qI,qV,wI,wV,rE,qE,wE,Nd.cells,nilS,ndT,tdE,tdV,tdC,mI,encK,Fl.lock,h1,hq,h3,hs,h5,t1,t2,t3,t4,lvT,lvF,hx,hfr,ht,he,hk6,hk6',p9q,range_succ]
theorem sin_lost (n:Nd) (F:Fl) (hn:n.Ok) (hr:RawOk n.raw) (h1:¬ n.raw=[]) (hl5:n.run<=5) (f:Fr) (hs:n.sends=true) (hrl:n.raw.length<n.row.length) (hq:n.nq=false) (h3:¬ n.row=[]) (k:Nat) (hN:nextF n.raw=(1,k)) (hd:frL n=true) (h5:¬ n.run=5):∃ F2,call E (.func (.func 125) [] []) [.ptr 0 0,.ptr (mI n) 0,.lit (.int .i64 (lv false))] (ndT n F [] f)=some (.tup [],ndT (takeN { n with tx:=false,sends:=false } false).2 F2 [3] f):=by
 have hx:=nnextT n F 1 k hN hr
 have hfr:=nframeT n F true hd hr (fun _=>hrl)
 have hdf:=ndiff_lost n F.lock hr h1 hq h3 f k hN h5
 obtain ⟨F2,ht⟩:=ntake_spec ({ n with tx:=false,sends:=false }:Nd) F.lock hr h1 hl5 false
 have hok:=take_ok ({ n with tx:=false,sends:=false }:Nd) false (fun e=>h5 e.1)
 have htk:=take_keep ({ n with tx:=false,sends:=false }:Nd) false h1
 rw [hok] at ht
 clear hok
 generalize (takeN ({ n with tx:=false,sends:=false }:Nd) false).2=m at ht htk ⊢
 obtain ⟨t1,t2,t3,-,t4,-⟩:=htk
 refine ⟨F2,?_⟩
 rw [c9f E E125]
 simp [ndH,rV,qI,qV,wI,wV,rE,qE,wE,Nd.cells,nilS,ndT,tdE,tdV,tdC,mI,encK,Fl.lock,h1,hq,h3,hs,h5,t1,t2,t3,t4,lvT,lvF] at hx hfr hdf ht
 simp [go_sem,ir125,ndH,rV,qI,qV,wI,wV,rE,qE,wE,Nd.cells,nilS,ndT,tdE,tdV,tdC,mI,encK,Fl.lock,h1,hq,h3,hs,h5,t1,t2,t3,t4,lvT,lvF,hx,hfr,hdf,ht,p9q,range_succ]
theorem sin_stuff (n:Nd) (F:Fl) (hn:n.Ok) (hr:RawOk n.raw) (h1:¬ n.raw=[]) (hl5:n.run<=5) (f:Fr) (hs:n.sends=true) (hrl:n.raw.length<n.row.length) (hq:n.nq=false) (h3:¬ n.row=[]) (k:Nat) (hN:nextF n.raw=(1,k)) (hd:frL n=true) (h5:n.run=5):∃ F2,call E (.func (.func 125) [] []) [.ptr 0 0,.ptr (mI n) 0,.lit (.int .i64 (lv false))] (ndT n F [] f)=some (.tup [],ndT (failN n 5 false).2 F2 (failN n 5 false).1 f):=by
 have hx:=nnextT n F 1 k hN hr
 have hfr:=nframeT n F true hd hr (fun _=>hrl)
 have hf:=ndiff_stuff n F.lock hr h1 hq h3 hn f k hN h5
 have hkp:=fail_keep n 5 false
 have hks:=fail_ks n 5 false
 generalize failN n 5 false=z at hf hkp hks ⊢
 obtain ⟨ks,m⟩:=z
 obtain ⟨e1,e2,e3,-⟩:=hkp
 simp only [] at hf hks e1 e2 e3 ⊢
 refine ⟨F.lock,?_⟩
 rw [c9f E E125]
 rcases hks with rfl | rfl
 ·skip
  simp [ndH,rV,qI,qV,wI,wV,rE,qE,wE,Nd.cells,nilS,ndT,tdE,tdV,tdC,mI,encK,Fl.lock,h1,hq,h3,hs,h5,e1,e2,e3,lvT,lvF] at hx hfr hf
  simp [go_sem,ir125,ndH,rV,qI,qV,wI,wV,rE,qE,wE,Nd.cells,nilS,ndT,tdE,tdV,tdC,mI,encK,Fl.lock,h1,hq,h3,hs,h5,e1,e2,e3,lvT,lvF,hx,hfr,hf,p9q,range_succ]
 ·skip
  simp [ndH,rV,qI,qV,wI,wV,rE,qE,wE,Nd.cells,nilS,ndT,tdE,tdV,tdC,mI,encK,Fl.lock,h1,hq,h3,hs,h5,e1,e2,e3,lvT,lvF] at hx hfr hf
  simp [go_sem,ir125,ndH,rV,qI,qV,wI,wV,rE,qE,wE,Nd.cells,nilS,ndT,tdE,tdV,tdC,mI,encK,Fl.lock,h1,hq,h3,hs,h5,e1,e2,e3,lvT,lvF,hx,hfr,hf,p9q,range_succ]
theorem sin_bit1 (n:Nd) (F:Fl) (hn:n.Ok) (hr:RawOk n.raw) (h1:¬ n.raw=[]) (hl5:n.run<=5) (f:Fr) (hs:n.sends=true) (hrl:n.raw.length<n.row.length) (hq:n.nq=false) (h3:¬ n.row=[]) (kind k:Nat) (hN:nextF n.raw=(kind,k)) (hd:frL n=false) :∃ F2,call E (.func (.func 125) [] []) [.ptr 0 0,.ptr (mI n) 0,.lit (.int .i64 (lv true))] (ndT n F [] f)=some (.tup [],ndT (failN n 4 true).2 F2 (failN n 4 true).1 f):=by
 have hx:=nnextT n F kind k hN hr
 have hfr:=nframeT n F false hd hr (fun _=>hrl)
 have hf:=ndiff_bit1 n F.lock hr h1 hq h3 hn f kind k hN
 have hkp:=fail_keep n 4 true
 have hks:=fail_ks n 4 true
 generalize failN n 4 true=z at hf hkp hks ⊢
 obtain ⟨ks,m⟩:=z
 obtain ⟨e1,e2,e3,-⟩:=hkp
 simp only [] at hf hks e1 e2 e3 ⊢
 refine ⟨F.lock,?_⟩
 rw [c9f E E125]
 rcases hks with rfl | rfl
 ·skip
  simp [ndH,rV,qI,qV,wI,wV,rE,qE,wE,Nd.cells,nilS,ndT,tdE,tdV,tdC,mI,encK,Fl.lock,h1,hq,h3,hs,e1,e2,e3,lvT,lvF] at hx hfr hf
  simp [go_sem,ir125,ndH,rV,qI,qV,wI,wV,rE,qE,wE,Nd.cells,nilS,ndT,tdE,tdV,tdC,mI,encK,Fl.lock,h1,hq,h3,hs,e1,e2,e3,lvT,lvF,hx,hfr,hf,p9q,range_succ]
 ·skip
  simp [ndH,rV,qI,qV,wI,wV,rE,qE,wE,Nd.cells,nilS,ndT,tdE,tdV,tdC,mI,encK,Fl.lock,h1,hq,h3,hs,e1,e2,e3,lvT,lvF] at hx hfr hf
  simp [go_sem,ir125,ndH,rV,qI,qV,wI,wV,rE,qE,wE,Nd.cells,nilS,ndT,tdE,tdV,tdC,mI,encK,Fl.lock,h1,hq,h3,hs,e1,e2,e3,lvT,lvF,hx,hfr,hf,p9q,range_succ]
theorem sin_bit0 (n:Nd) (F:Fl) (hn:n.Ok) (hr:RawOk n.raw) (h1:¬ n.raw=[]) (hl5:n.run<=5) (f:Fr) (hs:n.sends=true) (hrl:n.raw.length<n.row.length) (hq:n.nq=false) (h3:¬ n.row=[]) (kind k:Nat) (hN:nextF n.raw=(kind,k)) (hd:frL n=true)  (hk1:¬ kind=1) (hk6:¬ kind=6):∃ F2,call E (.func (.func 125) [] []) [.ptr 0 0,.ptr (mI n) 0,.lit (.int .i64 (lv false))] (ndT n F [] f)=some (.tup [],ndT (failN n 4 true).2 F2 (failN n 4 true).1 f):=by
 have hx:=nnextT n F kind k hN hr
 have hfr:=nframeT n F true hd hr (fun _=>hrl)
 have hf:=ndiff_bit0 n F.lock hr h1 hq h3 hn f kind k hN hk1 hk6
 have hkp:=fail_keep n 4 true
 have hks:=fail_ks n 4 true
 generalize failN n 4 true=z at hf hkp hks ⊢
 obtain ⟨ks,m⟩:=z
 obtain ⟨e1,e2,e3,-⟩:=hkp
 simp only [] at hf hks e1 e2 e3 ⊢
 refine ⟨F.lock,?_⟩
 rw [c9f E E125]
 rcases hks with rfl | rfl
 ·skip
  simp [ndH,rV,qI,qV,wI,wV,rE,qE,wE,Nd.cells,nilS,ndT,tdE,tdV,tdC,mI,encK,Fl.lock,h1,hq,h3,hs,e1,e2,e3,lvT,lvF] at hx hfr hf
  simp [go_sem,ir125,ndH,rV,qI,qV,wI,wV,rE,qE,wE,Nd.cells,nilS,ndT,tdE,tdV,tdC,mI,encK,Fl.lock,h1,hq,h3,hs,e1,e2,e3,lvT,lvF,hx,hfr,hf,p9q,range_succ]
 ·skip
  simp [ndH,rV,qI,qV,wI,wV,rE,qE,wE,Nd.cells,nilS,ndT,tdE,tdV,tdC,mI,encK,Fl.lock,h1,hq,h3,hs,e1,e2,e3,lvT,lvF] at hx hfr hf
  simp [go_sem,ir125,ndH,rV,qI,qV,wI,wV,rE,qE,wE,Nd.cells,nilS,ndT,tdE,tdV,tdC,mI,encK,Fl.lock,h1,hq,h3,hs,e1,e2,e3,lvT,lvF,hx,hfr,hf,p9q,range_succ]
theorem sin_slot (n:Nd) (F:Fl) (hn:n.Ok) (hr:RawOk n.raw) (h1:¬ n.raw=[]) (hl5:n.run<=5) (f:Fr) (hs:n.sends=true) (hrl:n.raw.length<n.row.length) (hq:n.nq=false) (h3:¬ n.row=[]) (k:Nat) (hN:nextF n.raw=(6,k)) (hd:frL n=true) (h5:¬ n.run=5):∃ F2,call E (.func (.func 125) [] []) [.ptr 0 0,.ptr (mI n) 0,.lit (.int .i64 (lv false))] (ndT n F [] f)=some (.tup [],ndT (takeN n false).2 F2 [] f):=by
 have hx:=nnextT n F 6 k hN hr
 have hfr:=nframeT n F true hd hr (fun _=>hrl)
 have hdf:=ndiff_slot n F.lock hr h1 hq h3 f k hN
 obtain ⟨F2,ht⟩:=ntake_spec n F.lock hr h1 hl5 false
 have hok:=take_ok n false (fun e=>h5 e.1)
 have htk:=take_keep n false h1
 rw [hok] at ht
 clear hok
 generalize (takeN n false).2=m at ht htk ⊢
 obtain ⟨t1,t2,t3,-,t4,-⟩:=htk
 refine ⟨F2,?_⟩
 rw [c9f E E125]
 simp [ndH,rV,qI,qV,wI,wV,rE,qE,wE,Nd.cells,nilS,ndT,tdE,tdV,tdC,mI,encK,Fl.lock,h1,hq,h3,hs,h5,t1,t2,t3,t4,lvT,lvF] at hx hfr hdf ht
 simp [go_sem,ir125,ndH,rV,qI,qV,wI,wV,rE,qE,wE,Nd.cells,nilS,ndT,tdE,tdV,tdC,mI,encK,Fl.lock,h1,hq,h3,hs,h5,t1,t2,t3,t4,lvT,lvF,hx,hfr,hdf,ht,p9q,range_succ]
theorem sin_ack (n:Nd) (F:Fl) (hn:n.Ok) (hr:RawOk n.raw) (h1:¬ n.raw=[]) (hl5:n.run<=5) (f:Fr) (hs:n.sends=true) (hrl:n.raw.length<n.row.length) (hq:n.nq=false) (h3:¬ n.row=[]) (k:Nat) (hN:nextF n.raw=(6,k)) (hd:frL n=true) (h5:¬ n.run=5):∃ F2,call E (.func (.func 125) [] []) [.ptr 0 0,.ptr (mI n) 0,.lit (.int .i64 (lv true))] (ndT n F [] f)=some (.tup [],ndT (nackN n).2 F2 (nackN n).1 f):=by
 have hx:=nnextT n F 6 k hN hr
 have hfr:=nframeT n F true hd hr (fun _=>hrl)
 have hst:=cstate_spec n.ct
 unfold nackN
 by_cases hpa:n.ct.state=1
 case pos =>
  rw [hpa] at hst
  rw [show decide (n.ct.state=1)=true from decide_eq_true hpa]
  have hf:=nfail_spec n F.lock hn f 8 false
  have hkp:=fail_keep n 8 false
  have hks:=fail_ks n 8 false
  rw [show (!true)=false from rfl]
  generalize failN n 8 false=z at hf hkp hks ⊢
  obtain ⟨ks,m⟩:=z
  obtain ⟨e1,e2,e3,-⟩:=hkp
  simp only [] at hf hks e1 e2 e3 ⊢
  refine ⟨F.lock,?_⟩
  rw [c9f E E125]
  rcases hks with rfl | rfl
  ·skip
   simp [ndH,rV,qI,qV,wI,wV,rE,qE,wE,Nd.cells,nilS,ndT,tdE,tdV,tdC,mI,encK,Fl.lock,h1,hq,h3,hs,h5,e1,e2,e3,Ct.cells,lvT,lvF] at hx hfr hf hst
   simp [go_sem,ir125,ndH,rV,qI,qV,wI,wV,rE,qE,wE,Nd.cells,nilS,ndT,tdE,tdV,tdC,mI,encK,Fl.lock,h1,hq,h3,hs,h5,e1,e2,e3,Ct.cells,lvT,lvF,hx,hfr,hf,hst,p9q,range_succ]
  ·skip
   simp [ndH,rV,qI,qV,wI,wV,rE,qE,wE,Nd.cells,nilS,ndT,tdE,tdV,tdC,mI,encK,Fl.lock,h1,hq,h3,hs,h5,e1,e2,e3,Ct.cells,lvT,lvF] at hx hfr hf hst
   simp [go_sem,ir125,ndH,rV,qI,qV,wI,wV,rE,qE,wE,Nd.cells,nilS,ndT,tdE,tdV,tdC,mI,encK,Fl.lock,h1,hq,h3,hs,h5,e1,e2,e3,Ct.cells,lvT,lvF,hx,hfr,hf,hst,p9q,range_succ]
 case neg =>
  rw [show decide (n.ct.state=1)=false from decide_eq_false hpa]
  have hf:=nfail_spec n F.lock hn f 8 true
  have hkp:=fail_keep n 8 true
  have hks:=fail_ks n 8 true
  rw [show (!false)=true from rfl]
  generalize failN n 8 true=z at hf hkp hks ⊢
  obtain ⟨ks,m⟩:=z
  obtain ⟨e1,e2,e3,-⟩:=hkp
  simp only [] at hf hks e1 e2 e3 ⊢
  refine ⟨F.lock,?_⟩
  rw [c9f E E125]
  rcases hks with rfl | rfl
  ·skip
   simp [ndH,rV,qI,qV,wI,wV,rE,qE,wE,Nd.cells,nilS,ndT,tdE,tdV,tdC,mI,encK,Fl.lock,h1,hq,h3,hs,h5,e1,e2,e3,Ct.cells,lvT,lvF] at hx hfr hf hst
   simp [go_sem,ir125,ndH,rV,qI,qV,wI,wV,rE,qE,wE,Nd.cells,nilS,ndT,tdE,tdV,tdC,mI,encK,Fl.lock,h1,hq,h3,hs,h5,e1,e2,e3,Ct.cells,lvT,lvF,hx,hfr,hf,hst,hpa,p9q,range_succ]
  ·skip
   simp [ndH,rV,qI,qV,wI,wV,rE,qE,wE,Nd.cells,nilS,ndT,tdE,tdV,tdC,mI,encK,Fl.lock,h1,hq,h3,hs,h5,e1,e2,e3,Ct.cells,lvT,lvF] at hx hfr hf hst
   simp [go_sem,ir125,ndH,rV,qI,qV,wI,wV,rE,qE,wE,Nd.cells,nilS,ndT,tdE,tdV,tdC,mI,encK,Fl.lock,h1,hq,h3,hs,h5,e1,e2,e3,Ct.cells,lvT,lvF,hx,hfr,hf,hst,hpa,p9q,range_succ]
theorem sin_added_lo_t (n:Nd) (F:Fl) (hn:n.Ok) (hr:RawOk n.raw) (h1:¬ n.raw=[]) (hl5:n.run<=5) (f:Fr) (hs:n.sends=true) (hrl:n.raw.length<n.row.length) (hq:n.nq=false) (h3:¬ n.row=[]) (kind k:Nat) (hN:nextF n.raw=(kind,k)) (hd:frL n=true) (h5:n.run=5) (hb:¬ n.lvl=true) (h4:kind<=4):∃ F2,call E (.func (.func 125) [] []) [.ptr 0 0,.ptr (mI n) 0,.lit (.int .i64 (lv true))] (ndT n F [] f)=some (.tup [],ndT (takeN n true).2 F2 [] f):=by
 have hx:=nnextT n F kind k hN hr
 have hfr:=nframeT n F true hd hr (fun _=>hrl)
 have h4':(kind:Int)<=4:=by omega
 have h8:¬ kind=8:=by omega
 have h8':¬ (kind:Int)=8:=by omega
 obtain ⟨F2,ht⟩:=ntake_spec n F.lock hr h1 hl5 true
 have hok:=take_ok n true (fun e=>hb e.2.symm)
 have htk:=take_keep n true h1
 rw [hok] at ht
 clear hok
 generalize (takeN n true).2=m at ht htk ⊢
 obtain ⟨t1,t2,t3,-,t4,-⟩:=htk
 refine ⟨F2,?_⟩
 rw [c9f E E125]
 simp [ndH,rV,qI,qV,wI,wV,rE,qE,wE,Nd.cells,nilS,ndT,tdE,tdV,tdC,mI,encK,Fl.lock,h1,hq,h3,hs,h5,t1,t2,t3,t4,lvT,lvF] at hx hfr ht
 simp [go_sem,ir125,ndH,rV,qI,qV,wI,wV,rE,qE,wE,Nd.cells,nilS,ndT,tdE,tdV,tdC,mI,encK,Fl.lock,h1,hq,h3,hs,h5,t1,t2,t3,t4,lvT,lvF,hx,hfr,ht,h4,h4',h8,h8',p9q,range_succ]
theorem sin_added_hi_t (n:Nd) (F:Fl) (hn:n.Ok) (hr:RawOk n.raw) (h1:¬ n.raw=[]) (hl5:n.run<=5) (f:Fr) (hs:n.sends=true) (hrl:n.raw.length<n.row.length) (hq:n.nq=false) (h3:¬ n.row=[]) (k:Nat) (hN:nextF n.raw=(5,k)) (hd:frL n=true) (h5:n.run=5) (hb:¬ n.lvl=true):∃ F2,call E (.func (.func 125) [] []) [.ptr 0 0,.ptr (mI n) 0,.lit (.int .i64 (lv true))] (ndT n F [] f)=some (.tup [],ndT (takeN n true).2 F2 [] f):=by
 have hx:=nnextT n F 5 k hN hr
 have hfr:=nframeT n F true hd hr (fun _=>hrl)
 obtain ⟨F2,ht⟩:=ntake_spec n F.lock hr h1 hl5 true
 have hok:=take_ok n true (fun e=>hb e.2.symm)
 have htk:=take_keep n true h1
 rw [hok] at ht
 clear hok
 generalize (takeN n true).2=m at ht htk ⊢
 obtain ⟨t1,t2,t3,-,t4,-⟩:=htk
 refine ⟨F2,?_⟩
 rw [c9f E E125]
 simp [ndH,rV,qI,qV,wI,wV,rE,qE,wE,Nd.cells,nilS,ndT,tdE,tdV,tdC,mI,encK,Fl.lock,h1,hq,h3,hs,h5,t1,t2,t3,t4,lvT,lvF] at hx hfr ht
 simp [go_sem,ir125,ndH,rV,qI,qV,wI,wV,rE,qE,wE,Nd.cells,nilS,ndT,tdE,tdV,tdC,mI,encK,Fl.lock,h1,hq,h3,hs,h5,t1,t2,t3,t4,lvT,lvF,hx,hfr,ht,p9q,range_succ]
theorem sin_low_t (n:Nd) (F:Fl) (hn:n.Ok) (hr:RawOk n.raw) (h1:¬ n.raw=[]) (hl5:n.run<=5) (f:Fr) (hs:n.sends=true) (hrl:n.raw.length<n.row.length) (hq:n.nq=false) (h3:¬ n.row=[]) (kind k:Nat) (hN:nextF n.raw=(kind,k)) (hd:frL n=true) (h5:¬ n.run=5) (h4:kind<=4):∃ F2,call E (.func (.func 125) [] []) [.ptr 0 0,.ptr (mI n) 0,.lit (.int .i64 (lv true))] (ndT n F [] f)=some (.tup [],ndT (takeN n true).2 F2 [] f):=by
 have hx:=nnextT n F kind k hN hr
 have hfr:=nframeT n F true hd hr (fun _=>hrl)
 have h4':(kind:Int)<=4:=by omega
 have h8:¬ kind=8:=by omega
 have h8':¬ (kind:Int)=8:=by omega
 obtain ⟨F2,ht⟩:=ntake_spec n F.lock hr h1 hl5 true
 have hok:=take_ok n true (fun e=>h5 e.1)
 have htk:=take_keep n true h1
 rw [hok] at ht
 clear hok
 generalize (takeN n true).2=m at ht htk ⊢
 obtain ⟨t1,t2,t3,-,t4,-⟩:=htk
 refine ⟨F2,?_⟩
 rw [c9f E E125]
 simp [ndH,rV,qI,qV,wI,wV,rE,qE,wE,Nd.cells,nilS,ndT,tdE,tdV,tdC,mI,encK,Fl.lock,h1,hq,h3,hs,h5,t1,t2,t3,t4,lvT,lvF] at hx hfr ht
 simp [go_sem,ir125,ndH,rV,qI,qV,wI,wV,rE,qE,wE,Nd.cells,nilS,ndT,tdE,tdV,tdC,mI,encK,Fl.lock,h1,hq,h3,hs,h5,t1,t2,t3,t4,lvT,lvF,hx,hfr,ht,h4,h4',h8,h8',p9q,range_succ]
theorem sin_added_lo_f (n:Nd) (F:Fl) (hn:n.Ok) (hr:RawOk n.raw) (h1:¬ n.raw=[]) (hl5:n.run<=5) (f:Fr) (hs:n.sends=true) (hrl:n.raw.length<n.row.length) (hq:n.nq=false) (h3:¬ n.row=[]) (kind k:Nat) (hN:nextF n.raw=(kind,k)) (hd:frL n=false) (h5:n.run=5) (hb:¬ n.lvl=false) (h4:kind<=4):∃ F2,call E (.func (.func 125) [] []) [.ptr 0 0,.ptr (mI n) 0,.lit (.int .i64 (lv false))] (ndT n F [] f)=some (.tup [],ndT (takeN n false).2 F2 [] f):=by
 have hx:=nnextT n F kind k hN hr
 have hfr:=nframeT n F false hd hr (fun _=>hrl)
 have h4':(kind:Int)<=4:=by omega
 have h8:¬ kind=8:=by omega
 have h8':¬ (kind:Int)=8:=by omega
 obtain ⟨F2,ht⟩:=ntake_spec n F.lock hr h1 hl5 false
 have hok:=take_ok n false (fun e=>hb e.2.symm)
 have htk:=take_keep n false h1
 rw [hok] at ht
 clear hok
 generalize (takeN n false).2=m at ht htk ⊢
 obtain ⟨t1,t2,t3,-,t4,-⟩:=htk
 refine ⟨F2,?_⟩
 rw [c9f E E125]
 simp [ndH,rV,qI,qV,wI,wV,rE,qE,wE,Nd.cells,nilS,ndT,tdE,tdV,tdC,mI,encK,Fl.lock,h1,hq,h3,hs,h5,t1,t2,t3,t4,lvT,lvF] at hx hfr ht
 simp [go_sem,ir125,ndH,rV,qI,qV,wI,wV,rE,qE,wE,Nd.cells,nilS,ndT,tdE,tdV,tdC,mI,encK,Fl.lock,h1,hq,h3,hs,h5,t1,t2,t3,t4,lvT,lvF,hx,hfr,ht,h4,h4',h8,h8',p9q,range_succ]
theorem sin_added_hi_f (n:Nd) (F:Fl) (hn:n.Ok) (hr:RawOk n.raw) (h1:¬ n.raw=[]) (hl5:n.run<=5) (f:Fr) (hs:n.sends=true) (hrl:n.raw.length<n.row.length) (hq:n.nq=false) (h3:¬ n.row=[]) (k:Nat) (hN:nextF n.raw=(5,k)) (hd:frL n=false) (h5:n.run=5) (hb:¬ n.lvl=false):∃ F2,call E (.func (.func 125) [] []) [.ptr 0 0,.ptr (mI n) 0,.lit (.int .i64 (lv false))] (ndT n F [] f)=some (.tup [],ndT (takeN n false).2 F2 [] f):=by
 have hx:=nnextT n F 5 k hN hr
 have hfr:=nframeT n F false hd hr (fun _=>hrl)
 obtain ⟨F2,ht⟩:=ntake_spec n F.lock hr h1 hl5 false
 have hok:=take_ok n false (fun e=>hb e.2.symm)
 have htk:=take_keep n false h1
 rw [hok] at ht
 clear hok
 generalize (takeN n false).2=m at ht htk ⊢
 obtain ⟨t1,t2,t3,-,t4,-⟩:=htk
 refine ⟨F2,?_⟩
 rw [c9f E E125]
 simp [ndH,rV,qI,qV,wI,wV,rE,qE,wE,Nd.cells,nilS,ndT,tdE,tdV,tdC,mI,encK,Fl.lock,h1,hq,h3,hs,h5,t1,t2,t3,t4,lvT,lvF] at hx hfr ht
 simp [go_sem,ir125,ndH,rV,qI,qV,wI,wV,rE,qE,wE,Nd.cells,nilS,ndT,tdE,tdV,tdC,mI,encK,Fl.lock,h1,hq,h3,hs,h5,t1,t2,t3,t4,lvT,lvF,hx,hfr,ht,p9q,range_succ]
theorem sin_low_f (n:Nd) (F:Fl) (hn:n.Ok) (hr:RawOk n.raw) (h1:¬ n.raw=[]) (hl5:n.run<=5) (f:Fr) (hs:n.sends=true) (hrl:n.raw.length<n.row.length) (hq:n.nq=false) (h3:¬ n.row=[]) (kind k:Nat) (hN:nextF n.raw=(kind,k)) (hd:frL n=false) (h5:¬ n.run=5) (h4:kind<=4):∃ F2,call E (.func (.func 125) [] []) [.ptr 0 0,.ptr (mI n) 0,.lit (.int .i64 (lv false))] (ndT n F [] f)=some (.tup [],ndT (takeN n false).2 F2 [] f):=by
 have hx:=nnextT n F kind k hN hr
 have hfr:=nframeT n F false hd hr (fun _=>hrl)
 have h4':(kind:Int)<=4:=by omega
 have h8:¬ kind=8:=by omega
 have h8':¬ (kind:Int)=8:=by omega
 obtain ⟨F2,ht⟩:=ntake_spec n F.lock hr h1 hl5 false
 have hok:=take_ok n false (fun e=>h5 e.1)
 have htk:=take_keep n false h1
 rw [hok] at ht
 clear hok
 generalize (takeN n false).2=m at ht htk ⊢
 obtain ⟨t1,t2,t3,-,t4,-⟩:=htk
 refine ⟨F2,?_⟩
 rw [c9f E E125]
 simp [ndH,rV,qI,qV,wI,wV,rE,qE,wE,Nd.cells,nilS,ndT,tdE,tdV,tdC,mI,encK,Fl.lock,h1,hq,h3,hs,h5,t1,t2,t3,t4,lvT,lvF] at hx hfr ht
 simp [go_sem,ir125,ndH,rV,qI,qV,wI,wV,rE,qE,wE,Nd.cells,nilS,ndT,tdE,tdV,tdC,mI,encK,Fl.lock,h1,hq,h3,hs,h5,t1,t2,t3,t4,lvT,lvF,hx,hfr,ht,h4,h4',h8,h8',p9q,range_succ]
theorem sin_delim5 (n:Nd) (F:Fl) (hn:n.Ok) (hr:RawOk n.raw) (h1:¬ n.raw=[]) (hl5:n.run<=5) (f:Fr) (hs:n.sends=true) (hrl:n.raw.length<n.row.length) (hq:n.nq=false) (h3:¬ n.row=[]) (k:Nat) (hN:nextF n.raw=(5,k)) (hd:frL n=true) (h5:¬ n.run=5):∃ F2,call E (.func (.func 125) [] []) [.ptr 0 0,.ptr (mI n) 0,.lit (.int .i64 (lv true))] (ndT n F [] f)=some (.tup [],ndT (takeN n true).2 F2 [] f):=by
 have hx:=nnextT n F 5 k hN hr
 have hfr:=nframeT n F true hd hr (fun _=>hrl)
 obtain ⟨F2,ht⟩:=ntake_spec n F.lock hr h1 hl5 true
 have hok:=take_ok n true (fun e=>h5 e.1)
 have htk:=take_keep n true h1
 rw [hok] at ht
 clear hok
 generalize (takeN n true).2=m at ht htk ⊢
 obtain ⟨t1,t2,t3,-,t4,-⟩:=htk
 refine ⟨F2,?_⟩
 rw [c9f E E125]
 simp [ndH,rV,qI,qV,wI,wV,rE,qE,wE,Nd.cells,nilS,ndT,tdE,tdV,tdC,mI,encK,Fl.lock,h1,hq,h3,hs,h5,t1,t2,t3,t4,lvT,lvF] at hx hfr ht
 simp [go_sem,ir125,ndH,rV,qI,qV,wI,wV,rE,qE,wE,Nd.cells,nilS,ndT,tdE,tdV,tdC,mI,encK,Fl.lock,h1,hq,h3,hs,h5,t1,t2,t3,t4,lvT,lvF,hx,hfr,ht,p9q,range_succ]
theorem sin_delim7 (n:Nd) (F:Fl) (hn:n.Ok) (hr:RawOk n.raw) (h1:¬ n.raw=[]) (hl5:n.run<=5) (f:Fr) (hs:n.sends=true) (hrl:n.raw.length<n.row.length) (hq:n.nq=false) (h3:¬ n.row=[]) (k:Nat) (hN:nextF n.raw=(7,k)) (hd:frL n=true) (h5:¬ n.run=5):∃ F2,call E (.func (.func 125) [] []) [.ptr 0 0,.ptr (mI n) 0,.lit (.int .i64 (lv true))] (ndT n F [] f)=some (.tup [],ndT (takeN n true).2 F2 [] f):=by
 have hx:=nnextT n F 7 k hN hr
 have hfr:=nframeT n F true hd hr (fun _=>hrl)
 obtain ⟨F2,ht⟩:=ntake_spec n F.lock hr h1 hl5 true
 have hok:=take_ok n true (fun e=>h5 e.1)
 have htk:=take_keep n true h1
 rw [hok] at ht
 clear hok
 generalize (takeN n true).2=m at ht htk ⊢
 obtain ⟨t1,t2,t3,-,t4,-⟩:=htk
 refine ⟨F2,?_⟩
 rw [c9f E E125]
 simp [ndH,rV,qI,qV,wI,wV,rE,qE,wE,Nd.cells,nilS,ndT,tdE,tdV,tdC,mI,encK,Fl.lock,h1,hq,h3,hs,h5,t1,t2,t3,t4,lvT,lvF] at hx hfr ht
 simp [go_sem,ir125,ndH,rV,qI,qV,wI,wV,rE,qE,wE,Nd.cells,nilS,ndT,tdE,tdV,tdC,mI,encK,Fl.lock,h1,hq,h3,hs,h5,t1,t2,t3,t4,lvT,lvF,hx,hfr,ht,p9q,range_succ]
theorem sin_endx (n:Nd) (F:Fl) (hn:n.Ok) (hr:RawOk n.raw) (h1:¬ n.raw=[]) (hl5:n.run<=5) (f:Fr) (hs:n.sends=true) (hrl:n.raw.length<n.row.length) (hq:n.nq=false) (h3:¬ n.row=[]) (k:Nat) (hN:nextF n.raw=(8,k)) (hd:frL n=true) (h5:¬ n.run=5) (hk6:¬ k=6):∃ F2,call E (.func (.func 125) [] []) [.ptr 0 0,.ptr (mI n) 0,.lit (.int .i64 (lv true))] (ndT n F [] f)=some (.tup [],ndT (takeN n true).2 F2 [] f):=by
 have hx:=nnextT n F 8 k hN hr
 have hfr:=nframeT n F true hd hr (fun _=>hrl)
 obtain ⟨F2,ht⟩:=ntake_spec n F.lock hr h1 hl5 true
 have hok:=take_ok n true (fun e=>h5 e.1)
 have htk:=take_keep n true h1
 rw [hok] at ht
 clear hok
 have hk6':¬ (k:Int)=6:=by omega
 have he:=nend_none (takeN n true).2 F2 htk.1 k hk6 (.inr (by rw [htk.2.2.2.2.1];exact hs)) f
 generalize (takeN n true).2=m at ht htk he ⊢
 obtain ⟨t1,t2,t3,-,t4,-⟩:=htk
 refine ⟨F2,?_⟩
 rw [c9f E E125]
 simp [ndH,rV,qI,qV,wI,wV,rE,qE,wE,Nd.cells,nilS,ndT,tdE,tdV,tdC,mI,encK,Fl.lock,h1,hq,h3,hs,h5,t1,t2,t3,t4,lvT,lvF] at hx hfr ht he
 simp [go_sem,ir125,ndH,rV,qI,qV,wI,wV,rE,qE,wE,Nd.cells,nilS,ndT,tdE,tdV,tdC,mI,encK,Fl.lock,h1,hq,h3,hs,h5,t1,t2,t3,t4,lvT,lvF,hx,hfr,ht,he,hk6,hk6',p9q,range_succ]
theorem sin_sent (n:Nd) (F:Fl) (hn:n.Ok) (hr:RawOk n.raw) (h1:¬ n.raw=[]) (hl5:n.run<=5) (f:Fr) (hs:n.sends=true) (hrl:n.raw.length<n.row.length) (hq:n.nq=false) (h3:¬ n.row=[]) (hN:nextF n.raw=(8,6)) (hd:frL n=true) (h5:¬ n.run=5) (ho:n.own∈n.q):∃ F2,call E (.func (.func 125) [] []) [.ptr 0 0,.ptr (mI n) 0,.lit (.int .i64 (lv true))] (ndT n F [] f)=some (.tup [],sentG [.box (tdC (.own 7 1 1 0 1) n.own)] [.arr true false false 1 [encK 1]] 6 (takeN n true).2 F2):=by
 have hx:=nnextT n F 8 6 hN hr
 have hfr:=nframeT n F true hd hr (fun _=>hrl)
 obtain ⟨F2,ht⟩:=ntake_spec n F.lock hr h1 hl5 true
 have hok:=take_ok n true (fun e=>h5 e.1)
 have htk:=take_keep n true h1
 rw [hok] at ht
 clear hok
 have hon:(takeN n true).2.own=n.own:=htk.2.2.2.2.2.2.2.1
 have he:=nend_sent (takeN n true).2 F2 ⟨by rw [htk.2.1,htk.2.2.2.1];exact hn.nq,by rw [htk.2.2.2.1];exact hn.ql,by rw [htk.2.2.2.2.2.2.1];exact hn.ct⟩ htk.1 (by rw [htk.2.1];exact hq) (by rw [htk.2.2.1];exact h3) (by rw [htk.2.2.2.2.1];exact hs) (by rw [hon,htk.2.2.2.1];exact ho) f
 rw [hon] at he
 refine ⟨F2,?_⟩
 generalize (takeN n true).2=m at ht htk he hon ⊢
 obtain ⟨t1,t2,t3,-,t4,-⟩:=htk
 unfold sentG sentN at he ⊢
 rw [hon] at he ⊢
 generalize hrw:(delL n.own m.q).map encFr=rows at he ⊢
 clear hrw
 rw [c9f E E125]
 simp [ndH,rV,qI,qV,wI,wV,rE,qE,wE,Nd.cells,nilS,ndT,tdE,tdV,tdC,mI,encK,Fl.lock,h1,hq,h3,hs,h5,lvT,lvF,t1,t2,t3,t4] at hx hfr ht he
 simp [go_sem,ir125,ndH,rV,qI,qV,wI,wV,rE,qE,wE,Nd.cells,nilS,ndT,tdE,tdV,tdC,mI,encK,Fl.lock,h1,hq,h3,hs,h5,lvT,lvF,t1,t2,t3,t4,hx,hfr,ht,he,p9q,range_succ]
theorem nstep_start_f (n:Nd) (F:Fl) (b:Bool) (fid:Nat) (hm:n.mode<11) (hg:(stepF.drop n.mode)[0]?=some (.func (.func fid) [] [])) (n':Nd)  (hc:call E (.func (.func fid) [] []) [.ptr 0 0,.ptr (mI n) 0,.lit (.int .i64 (lv b))] (ndT n F [] Fr.zero)=some (.tup [],stG 1 (tdE (mI n) [] Fr.zero) n n' F false)):call E (.func (.func 71) [] []) [.ptr 0 0,.lit (.int .i64 (lv b))] (ndH n F)=some (.tup [nilS,.lit (.int .i64 0)],stG 0 [] n n' F false):=by
 have hs:=csteps_spec
 have hlv:¬ (¬ lv b=0/\¬ lv b=1):=by cases b<;>simp [lv]
 rw [c9f E E71]
 have hrn:∀ g,renL g stepF=stepF:=fun g=>rfl
 have hrf:refsL stepF=[]:=rfl
 generalize stepF=sf at hs hg hrn hrf
 simp at hg
 cases b <;>
 by_cases h1:n.raw=[]<;>by_cases hq:n.nq=true<;>by_cases h3:n.row=[] <;>
 simp [ndH,rV,qI,qV,wI,wV,rE,qE,wE,Nd.cells,nilS,ndT,tdE,tdV,tdC,mI,encK,h1,hq,h3,stG,lvT,lvF,Fr.zero] at hc <;>
 simp [go_sem,ir71,r9c E L71_0.eq_1,r9l,ndH,rV,qI,qV,wI,wV,rE,qE,wE,Nd.cells,nilS,ndT,tdE,tdV,tdC,mI,encK,evV,evE,encEv,Fr.zero,h1,hq,h3,stG,lvT,lvF,Fr.zero,hs,hc,hg,hm,hlv,hrn,hrf,aop_idxV,idxVG_agg,w1c,w2c,p9q,range_succ]
theorem nstep_start_t (n:Nd) (F:Fl) (b:Bool) (fid:Nat) (hm:n.mode<11) (hg:(stepF.drop n.mode)[0]?=some (.func (.func fid) [] [])) (n':Nd) (k3:¬ n'.row=[]) (hc:call E (.func (.func fid) [] []) [.ptr 0 0,.ptr (mI n) 0,.lit (.int .i64 (lv b))] (ndT n F [] Fr.zero)=some (.tup [],stG 1 (tdE (mI n) [] Fr.zero) n n' F true)):call E (.func (.func 71) [] []) [.ptr 0 0,.lit (.int .i64 (lv b))] (ndH n F)=some (.tup [nilS,.lit (.int .i64 0)],stG 0 [] n n' F true):=by
 have hs:=csteps_spec
 have hlv:¬ (¬ lv b=0/\¬ lv b=1):=by cases b<;>simp [lv]
 rw [c9f E E71]
 have hrn:∀ g,renL g stepF=stepF:=fun g=>rfl
 have hrf:refsL stepF=[]:=rfl
 generalize stepF=sf at hs hg hrn hrf
 simp at hg
 cases b <;>
 by_cases h1:n.raw=[]<;>by_cases hq:n.nq=true<;>by_cases h3:n.row=[] <;>
 simp [ndH,rV,qI,qV,wI,wV,rE,qE,wE,Nd.cells,nilS,ndT,tdE,tdV,tdC,mI,encK,h1,hq,h3,stG,lvT,lvF,Fr.zero,k3] at hc <;>
 simp [go_sem,ir71,r9c E L71_0.eq_1,r9l,ndH,rV,qI,qV,wI,wV,rE,qE,wE,Nd.cells,nilS,ndT,tdE,tdV,tdC,mI,encK,evV,evE,encEv,Fr.zero,h1,hq,h3,stG,lvT,lvF,Fr.zero,k3,hs,hc,hg,hm,hlv,hrn,hrf,aop_idxV,idxVG_agg,w1c,w2c,p9q,range_succ]
theorem nstep_sent (n:Nd) (F:Fl) (b:Bool) (fid:Nat) (hm:n.mode<11) (hg:(stepF.drop n.mode)[0]?=some (.func (.func fid) [] [])) (h1:¬ n.raw=[]) (hq:n.nq=false) (h3:¬ n.row=[]) (m:Nd) (F2:Fl) (hm1:¬ m.raw=[]) (hm2:m.nq=false) (hm3:m.row=n.row) (hc:call E (.func (.func fid) [] []) [.ptr 0 0,.ptr (mI n) 0,.lit (.int .i64 (lv b))] (ndT n F [] Fr.zero)=some (.tup [],sentG [.box (tdC (.own 7 1 1 0 1) m.own)] [.arr true false false 1 [encK 1]] 6 m F2)):call E (.func (.func 71) [] []) [.ptr 0 0,.lit (.int .i64 (lv b))] (ndH n F)=some (.tup [.own 6 1 15 0 1,.lit (.int .i64 0)],sentG [] [.arr true false false 15 [encEv (1,m.own)]] 5 m F2):=by
 have hs:=csteps_spec
 have hlv:¬ (¬ lv b=0/\¬ lv b=1):=by cases b<;>simp [lv]
 rw [c9f E E71]
 have hrn:∀ g,renL g stepF=stepF:=fun g=>rfl
 have hrf:refsL stepF=[]:=rfl
 generalize stepF=sf at hs hg hrn hrf
 simp at hg
 unfold sentG sentN at hc ⊢
 generalize (delL m.own m.q).map encFr=rows at hc ⊢
 generalize m.ct.sent=c at hc ⊢
 cases b
 all_goals simp [ndH,rV,qI,qV,wI,wV,rE,qE,wE,Nd.cells,nilS,ndT,tdE,tdV,tdC,mI,encK,h1,hq,h3,hm1,hm2,hm3,lvT,lvF,Fr.zero] at hc
 all_goals simp [go_sem,ir71,r9c E L71_0.eq_1,r9l,ndH,rV,qI,qV,wI,wV,rE,qE,wE,Nd.cells,nilS,ndT,tdE,tdV,tdC,mI,encK,evV,evE,encEv,Fr.zero,h1,hq,h3,hm1,hm2,hm3,lvT,lvF,Fr.zero,hs,hc,hg,hm,hlv,hrn,hrf,aop_idxV,idxVG_agg,w1c,w2c,p9q,range_succ]
theorem npause_over (n:Nd) (F:Fl) (hk2:n.k<2) (f:Fr):call E (.func (.func 130) [] []) [.ptr 0 0,.ptr (mI n) 0,.lit (.int .i64 0)] (ndT n F [] f)=some (.tup [],ndT (overN n).2 F [9] f):=by
 have ho:=nover_spec n F f
 have hk3:(n.k:Int)<2:=by omega
 rw [c9f E E130]
 simp only [overN] at ho ⊢
 by_cases h1:n.raw=[]<;>by_cases hq:n.nq=true<;>by_cases h3:n.row=[] <;>
 simp [ndH,rV,qI,qV,wI,wV,rE,qE,wE,Nd.cells,nilS,ndT,tdE,tdV,tdC,mI,encK,h1,hq,h3] at ho <;>
 simp [go_sem,ir130,ndH,rV,qI,qV,wI,wV,rE,qE,wE,Nd.cells,nilS,ndT,tdE,tdV,tdC,mI,encK,h1,hq,h3,ho,hk3,hk2,p9q,range_succ]
theorem npause_no0 (n:Nd) (F:Fl) (hn:n.Ok) (hk2:¬ n.k<2) (hq0:n.q=[]) (f:Fr):call E (.func (.func 130) [] []) [.ptr 0 0,.ptr (mI n) 0,.lit (.int .i64 0)] (ndT n F [] f)=some (.tup [],stG 1 (tdE (mI n) [] f) n (startN n false) F false):=by
 have hp:=npend_spec n F hn
 have hs:=nstart_no n F
 have hk3:¬ (n.k:Int)<2:=by omega
 rw [hq0] at hp
 rw [c9f E E130]
 by_cases h1:n.raw=[]<;>by_cases hq:n.nq=true<;>by_cases h3:n.row=[] <;>
 simp [ndH,rV,qI,qV,wI,wV,rE,qE,wE,Nd.cells,nilS,ndT,tdE,tdV,tdC,mI,encK,h1,hq,h3,hq0,stG,startN,encLv,lvF] at hp hs <;>
 simp [go_sem,ir130,ndH,rV,qI,qV,wI,wV,rE,qE,wE,Nd.cells,nilS,ndT,tdE,tdV,tdC,mI,encK,h1,hq,h3,hq0,stG,startN,encLv,lvF,hp,hs,hk3,hk2,p9q,range_succ]
theorem npause_nol (n:Nd) (F:Fl) (hn:n.Ok) (hk2:¬ n.k<2) (hq0:¬ n.q=[]) (hl:lateP n=true) (f:Fr):call E (.func (.func 130) [] []) [.ptr 0 0,.ptr (mI n) 0,.lit (.int .i64 0)] (ndT n F [] f)=some (.tup [],stG 1 (tdE (mI n) [] f) n (startN n false) F false):=by
 have hp:=npend_spec n F hn
 have hs:=nstart_no n F
 have hla:=nlate_spec n F
 have hk3:¬ (n.k:Int)<2:=by omega
 rw [show (n.tx && decide (n.ct.state=1))=true from hl] at hla
 rw [c9f E E130]
 by_cases h1:n.raw=[]<;>by_cases hq:n.nq=true<;>by_cases h3:n.row=[] <;>
 simp [ndH,rV,qI,qV,wI,wV,rE,qE,wE,Nd.cells,nilS,ndT,tdE,tdV,tdC,mI,encK,h1,hq,h3,hq0,stG,startN,encLv,lvF] at hp hs hla <;>
 simp [go_sem,ir130,ndH,rV,qI,qV,wI,wV,rE,qE,wE,Nd.cells,nilS,ndT,tdE,tdV,tdC,mI,encK,h1,hq,h3,hq0,stG,startN,encLv,lvF,hp,hs,hla,hk3,hk2,p9q,range_succ]
theorem npause_yes (n:Nd) (F:Fl) (hn:n.Ok) (hk2:¬ n.k<2) (g:Fr) (r:List Fr) (hg:n.q=g::r) (hok:g.Ok) (hc:checkP g=0) (hl:lateP n=false) (f:Fr):call E (.func (.func 130) [] []) [.ptr 0 0,.ptr (mI n) 0,.lit (.int .i64 0)] (ndT n F [] f)=some (.tup [],stG 1 (tdE (mI n) [] f) n (startN n true) F true):=by
 have hp:=npend_spec n F hn
 have hs:=nstart_yes n F hn g r hg hok hc
 have hla:=nlate_spec n F
 have hk3:¬ (n.k:Int)<2:=by omega
 rw [show (n.tx && decide (n.ct.state=1))=false from hl] at hla
 rw [hg] at hp
 have hq:n.nq=false:=by
  cases h:n.nq
  ·rfl
  ·have:=hn.nq h;rw [hg] at this;cases this
 have hne:=allP_ne g
 have e:startN n true={ n with mode:=2,k:=0,raw:=[false],lvl:=false,run:=1,tx:=true,sends:=true,own:=g,row:=allP g }:=by unfold startN;rw [hg];rfl
 rw [e] at hs ⊢
 clear e
 generalize allP g=rw0 at hs hne ⊢
 rw [c9f E E130]
 by_cases h1:n.raw=[]<;>by_cases h3:n.row=[] <;>
 simp [ndH,rV,qI,qV,wI,wV,rE,qE,wE,Nd.cells,nilS,ndT,tdE,tdV,tdC,mI,encK,stG,encLv,lvF,h1,hq,h3,hg] at hp hs hla <;>
 simp [go_sem,ir130,ndH,rV,qI,qV,wI,wV,rE,qE,wE,Nd.cells,nilS,ndT,tdE,tdV,tdC,mI,encK,stG,encLv,lvF,h1,hq,h3,hg,hp,hs,hla,hne,hk3,hk2,p9q,range_succ]
theorem npause_rest (n:Nd) (F:Fl) (hk:n.k<=1000000000) (f:Fr):call E (.func (.func 130) [] []) [.ptr 0 0,.ptr (mI n) 0,.lit (.int .i64 1)] (ndT n F [] f)=some (.tup [],ndT (pauseN n).2 F [] f):=by
 have w1:=k1w hk
 have hla:=nlate_spec { n with k:=n.k+1 } F
 rw [c9f E E130]
 by_cases hk2:n.k+1<3
 case pos =>
  rw [show (pauseN n).2={ n with k:=n.k+1 } by unfold pauseN;simp only [];rw [if_pos hk2]]
  have hk3:(n.k:Int)+1<3:=by omega
  by_cases h1:n.raw=[]<;>by_cases hq:n.nq=true<;>by_cases h3:n.row=[] <;>
  simp [go_sem,ir130,ndH,rV,qI,qV,wI,wV,rE,qE,wE,Nd.cells,nilS,ndT,tdE,tdV,tdC,mI,encK,h1,hq,h3,w1,hk3,p9q,range_succ]
 case neg =>
  have hk3:¬ ((n.k:Int)+1<3):=by omega
  by_cases hl:lateP n=true
  case pos =>
   rw [show (pauseN n).2={ n with mode:=9,k:=0 } by unfold pauseN;simp only [];rw [if_neg hk2,if_pos hl]]
   rw [show (({ n with k:=n.k+1 }:Nd).tx && decide (({ n with k:=n.k+1 }:Nd).ct.state=1))=true from hl] at hla
   have hu:=nturn_spec { n with k:=n.k+1 } F 9
   by_cases h1:n.raw=[]<;>by_cases hq:n.nq=true<;>by_cases h3:n.row=[] <;>
   simp [ndH,rV,qI,qV,wI,wV,rE,qE,wE,Nd.cells,nilS,ndT,tdE,tdV,tdC,mI,encK,h1,hq,h3] at hla hu <;>
   simp [go_sem,ir130,ndH,rV,qI,qV,wI,wV,rE,qE,wE,Nd.cells,nilS,ndT,tdE,tdV,tdC,mI,encK,h1,hq,h3,hla,hu,w1,hk3,natCastS,p9q,range_succ]
  case neg =>
   have hl:lateP n=false:=by simpa using hl
   rw [show (pauseN n).2={ n with mode:=1,k:=0 } by unfold pauseN;simp only [];rw [if_neg hk2,if_neg (by rw [hl];simp)]]
   rw [show (({ n with k:=n.k+1 }:Nd).tx && decide (({ n with k:=n.k+1 }:Nd).ct.state=1))=false from hl] at hla
   have hu:=nturn_spec { n with k:=n.k+1 } F 1
   by_cases h1:n.raw=[]<;>by_cases hq:n.nq=true<;>by_cases h3:n.row=[] <;>
   simp [ndH,rV,qI,qV,wI,wV,rE,qE,wE,Nd.cells,nilS,ndT,tdE,tdV,tdC,mI,encK,h1,hq,h3] at hla hu <;>
   simp [go_sem,ir130,ndH,rV,qI,qV,wI,wV,rE,qE,wE,Nd.cells,nilS,ndT,tdE,tdV,tdC,mI,encK,h1,hq,h3,hla,hu,w1,hk3,natCastS,p9q,range_succ]
theorem nsusp_start (n:Nd) (F:Fl) (f:Fr):call E (.func (.func 131) [] []) [.ptr 0 0,.ptr (mI n) 0,.lit (.int .i64 0)] (ndT n F [] f)=some (.tup [],stG 1 (tdE (mI n) [] f) n (startN n false) F false):=by
 have hs:=nstart_no n F
 rw [c9f E E131]
 by_cases h1:n.raw=[]<;>by_cases hq:n.nq=true<;>by_cases h3:n.row=[] <;>
 simp [ndH,rV,qI,qV,wI,wV,rE,qE,wE,Nd.cells,nilS,ndT,tdE,tdV,tdC,mI,encK,h1,hq,h3,stG,startN,encLv,lvF] at hs <;>
 simp [go_sem,ir131,ndH,rV,qI,qV,wI,wV,rE,qE,wE,Nd.cells,nilS,ndT,tdE,tdV,tdC,mI,encK,h1,hq,h3,stG,startN,encLv,lvF,hs,p9q,range_succ]
theorem nsusp_rest (n:Nd) (F:Fl) (hk:n.k<=1000000000) (f:Fr):call E (.func (.func 131) [] []) [.ptr 0 0,.ptr (mI n) 0,.lit (.int .i64 1)] (ndT n F [] f)=some (.tup [],ndT (suspN n).2 F [] f):=by
 have w1:=k1w hk
 rw [c9f E E131]
 by_cases hk2:n.k+1=8
 case pos =>
  rw [show (suspN n).2={ n with mode:=1,k:=0 } by unfold suspN;simp only [];rw [if_pos hk2]]
  have hk3:(n.k:Int)+1=8:=by omega
  have hu:=nturn_spec { n with k:=8 } F 1
  by_cases h1:n.raw=[]<;>by_cases hq:n.nq=true<;>by_cases h3:n.row=[] <;>
  simp [ndH,rV,qI,qV,wI,wV,rE,qE,wE,Nd.cells,nilS,ndT,tdE,tdV,tdC,mI,encK,h1,hq,h3] at hu <;>
  simp [go_sem,ir131,ndH,rV,qI,qV,wI,wV,rE,qE,wE,Nd.cells,nilS,ndT,tdE,tdV,tdC,mI,encK,h1,hq,h3,hu,hk3,w8,p9q,range_succ]
 case neg =>
  rw [show (suspN n).2={ n with k:=n.k+1 } by unfold suspN;simp only [];rw [if_neg hk2]]
  have hk3:¬ ((n.k:Int)+1=8):=by omega
  by_cases h1:n.raw=[]<;>by_cases hq:n.nq=true<;>by_cases h3:n.row=[] <;>
  simp [go_sem,ir131,ndH,rV,qI,qV,wI,wV,rE,qE,wE,Nd.cells,nilS,ndT,tdE,tdV,tdC,mI,encK,h1,hq,h3,w1,hk3,p9q,range_succ]
def inN (n:Nd) (b:Bool):List Nat × Fr × Nd :=
 if n.sends=true then
  if b=frL n then
   if n.run≠5/\(nextF n.raw).1=6 then ((nackN n).1,Fr.zero,(nackN n).2)
   else if n.run≠5/\nextF n.raw=(8,6) then ([1],n.own,sentN (takeN n true).2)
   else ([],Fr.zero,(takeN n b).2)
  else if b=true then ((failN n 4 true).1,Fr.zero,(failN n 4 true).2)
  else if (nextF n.raw).1=1 then (if n.run=5 then ((failN n 5 false).1,Fr.zero,(failN n 5 false).2) else ([3],Fr.zero,(takeN { n with tx:=false,sends:=false } false).2))
  else if (nextF n.raw).1=6 then ([],Fr.zero,(takeN n false).2)
  else ((failN n 4 true).1,Fr.zero,(failN n 4 true).2)
 else if frL n=false then (if b=true then ((failN n 4 true).1,Fr.zero,(failN n 4 true).2) else ([],Fr.zero,(takeN n false).2))
 else if n.run=5 then (if b=n.lvl then ((failN n 5 true).1,Fr.zero,(failN n 5 true).2) else ([],Fr.zero,(takeN n b).2))
 else if (nextF n.raw).1<=4∨(nextF n.raw).1=6 then ([],Fr.zero,(takeN n b).2)
 else if b=false then (if nextF n.raw=(8,6) then ([9],Fr.zero,(overN n).2) else ((failN n 7 true).1,Fr.zero,(failN n 7 true).2))
 else if (nextF n.raw).1=7/\rightF n.raw=false then ((failN n 6 true).1,Fr.zero,(failN n 6 true).2)
 else if nextF n.raw=(8,5) then ([2],frameOf (n.raw++[true]),{ (takeN n true).2 with ct:=n.ct.recv })
 else if nextF n.raw=(8,6) then ([],Fr.zero,{ (takeN n true).2 with mode:=8,k:=0 })
 else ([],Fr.zero,(takeN n true).2)
def noFr (x:List Nat × Nd):List Nat × Fr × Nd:=(x.1,Fr.zero,x.2)
def idleN (n:Nd) (b:Bool):List Nat × Nd :=
 if b=false then ([],startN n (decide (n.q≠[]))) else if n.q=[] then ([],n) else failN { n with tx:=true } 4 true
def pausN (n:Nd) (b:Bool):List Nat × Nd :=
 if b=true then pauseN n else if n.k<2 then overN n else ([],startN n (decide (n.q≠[]) && !lateP n))
def sspN (n:Nd) (b:Bool):List Nat × Nd:=if b=true then suspN n else ([],startN n false)
def stepN (n:Nd) (b:Bool):List Nat × Fr × Nd :=
 match n.mode with
 | 0=>noFr (joinN n b)
 | 1=>noFr (idleN n b)
 | 2=>inN n b
 | 3=>noFr (domN n b)
 | 4=>noFr (pasN n b)
 | 5=>noFr (domN n b)
 | 6=>noFr (waitN n b)
 | 7=>noFr (closeN n b)
 | 8=>noFr (pausN n b)
 | 9=>noFr (sspN n b)
 | _=>noFr (offN n b)
def evN (n:Nd) (b:Bool):List (Nat × Fr):=evsOf (stepN n b).1 (stepN n b).2.1
def nxN (n:Nd) (b:Bool):Nd:=(stepN n b).2.2
def drN (n:Nd):Bool:=if n.mode=1 then decide (n.q=[]) else if n.mode=3∨n.mode=5 then false else if n.mode=2 then frL n else true
def NIn (m:List Bool):Prop:=dataF m<=m.length->m.length<=sumF m+24
structure SendOk (n:Nd):Prop where
 nq:n.nq=false
 mem:n.own∈n.q
 ok:n.own.Ok
 chk:checkP n.own=0
 row:n.row=allP n.own
 raw:(∃ r,r≠[]/\n.raw++r=sentP n.own)∨(∃ t,n.raw=sentP n.own++t/\t.length<=9)
structure InF (n:Nd):Prop where
 ne:¬ n.raw=[]
 h0:n.raw[0]?=some false
 ri:NIn n.raw
 run:n.run<=5
 r58:n.run=5->(nextF n.raw).1<=5
 tx:n.tx=n.sends
 se:n.sends=true->SendOk n
structure Nd.Inv (n:Nd):Prop where
 ok:n.Ok
 qv:∀ g∈n.q,g.Ok/\checkP g=0
 mode:n.mode<=10
 off:n.ct.off=decide (n.mode=10)
 rows:n.rows<=128
 r10:n.mode=10->n.rows<=127
 inf:n.mode=2->InF n
theorem NIn.ok {m:List Bool} (h:NIn m):RawOk m:=by
 have h1:=sumF_ge m
 have h2:dataF m<=m.length->m.length<=sumF m+24:=h
 refine ⟨?_,fun q=>by have:=h2 q;omega⟩
 rcases Nat.lt_or_ge m.length (dataF m) with q | q
 ·omega
 ·have:=h2 q;omega
theorem NIn.kind {m:List Bool} (h:NIn m):(nextF m).1<=8:=by
 unfold nextF
 have h1:=sumF_ge m
 have h2:dataF m<=m.length->m.length<=sumF m+24:=h
 repeat (split;· simp)
 rename_i q
 have:=h2 (by omega)
 omega
theorem NIn.last {m:List Bool} (h:NIn m) (h8:(nextF m).1=8) (hk:(nextF m).2=6):dataF m<=m.length/\m.length=sumF m+24:=by
 obtain ⟨g1,g2⟩:=nextF_six (m:=m) (by omega)
 unfold nextF at hk h8
 have h2:=h g1
 repeat' split at hk
 all_goals (first | (simp at h8;done) | skip)
 all_goals simp at hk
 all_goals simp_all
 all_goals omega
theorem nIn_one (b:Bool):NIn [b]:=by
 intro h
 have:=(sumF_ge [b]).2.2
 simp at h;omega
theorem nIn_append {m:List Bool} (h:NIn m) (hn:¬ (dataF m<=m.length/\m.length=sumF m+24)) (b:Bool):NIn (m++[b]):=by
 intro q
 rcases Nat.lt_or_ge m.length (dataF m) with h1 | h1
 ·have h2:=sumF_ge (m++[b])
  rw [length_append] at q ⊢
  simp only [List.length_singleton] at *
  rcases Nat.lt_or_ge m.length 14 with h3 | h3
  ·have:=(sumF_ge (m++[b])).2.2;omega
  ·have hx:dataF (m++[b])=dataF m:=by unfold dataF;rw [extF_append h3]
   rw [hx] at q h2
   omega
 ·have h2:=h h1
  rw [sumF_append h1]
  simp;omega
theorem kind_next {m:List Bool} (h:(nextF m).1<=4) (b:Bool):(nextF (m++[b])).1<=5:=by
 apply Classical.byContradiction
 intro hk
 have hk:6<=(nextF (m++[b])).1:=by omega
 have h9:=nextF_le (m++[b])
 have key:dataF (m++[b])<=(m++[b]).length/\sumF (m++[b])+16<=(m++[b]).length:=by
  unfold nextF at hk
  repeat' split at hk
  all_goals first | (simp at hk;done) | (constructor<;>omega)
 obtain ⟨k1,k2⟩:=key
 have h2:=sumF_ge (m++[b])
 simp only [length_append,List.length_singleton] at k1 k2
 have h14:14<=m.length:=by omega
 have hx:dataF (m++[b])=dataF m:=by unfold dataF;rw [extF_append h14]
 have h1:dataF m<=m.length:=by omega
 rw [sumF_append h1] at k2
 have:=nextF_gt' h1 (by omega)
 omega
theorem allP_sent (f:Fr):allP f=sentP f++List.replicate 10 true:=rfl
theorem send_facts {n:Nd} (h:SendOk n):n.raw.length<n.row.length/\¬ n.row=[]/\(4<(nextF n.raw).1->n.row[n.raw.length]?=some true)/\∀ r,n.raw++r=sentP n.own->∀ x s,r=x::s->n.row[n.raw.length]?=some x:=by
 obtain ⟨-,-,-,hc,hrow,hraw⟩:=h
 have hl:n.row.length=(sentP n.own).length+10:=by rw [hrow,allP_sent];simp
 have h4:∀ r,n.raw++r=sentP n.own->∀ x s,r=x::s->n.row[n.raw.length]?=some x:=by
  intro r hr x s hx
  rw [hrow,allP_sent,<- hr,hx];simp
 rcases hraw with ⟨r,hr,e⟩ | ⟨t,e,ht⟩
 ·have h1:n.raw.length<(sentP n.own).length:=by
   rw [<- e,length_append];have:=List.length_pos_iff.2 hr;omega
  refine ⟨by omega,by intro q;rw [q] at hl;simp at hl,fun hk=>?_,h4⟩
  have:=prefix_kind n.own hc n.raw r hr e
  omega
 ·have h1:n.raw.length=(sentP n.own).length+t.length:=by rw [e,length_append]
  refine ⟨by omega,by intro q;rw [q] at hl;simp at hl,fun _=>?_,h4⟩
  rw [hrow,allP_sent,List.getElem?_append_right (by omega),List.getElem?_replicate,if_pos (by omega)]
theorem ndrive_spec (n:Nd) (F:Fl) (hI:n.Inv):∃ F2,call E (.func (.func 69) [] []) [.ptr 0 0] (ndH n F)=some (.lit (.int .i64 (lv (drN n))),ndH n F2):=by
 have hn:=hI.ok
 by_cases m1:n.mode=1
 ·refine ⟨F,?_⟩
  have hp:=npend_spec n F hn
  rw [show drN n=decide (n.q=[]) by unfold drN;rw [if_pos m1]]
  rw [c9f E E69]
  by_cases hq0:n.q=[]<;>by_cases h1:n.raw=[]<;>by_cases hq:n.nq=true<;>by_cases h3:n.row=[] <;>
  simp [ndH,rV,qI,qV,wI,wV,rE,qE,wE,Nd.cells,nilS,h1,hq,h3,hq0,m1] at hp <;>
  simp [go_sem,ir69,ndH,rV,qI,qV,wI,wV,rE,qE,wE,Nd.cells,nilS,h1,hq,h3,hq0,m1,hp,lvT,lvF,p9q,range_succ]
 ·have m1':¬ (n.mode:Int)=1:=by omega
  by_cases m35:n.mode=3∨n.mode=5
  ·refine ⟨F,?_⟩
   rw [show drN n=false by unfold drN;rw [if_neg m1,if_pos m35]]
   rw [c9f E E69]
   rcases m35 with m3 | m3
   ·by_cases h1:n.raw=[]<;>by_cases hq:n.nq=true<;>by_cases h3:n.row=[] <;>
    simp [go_sem,ir69,ndH,rV,qI,qV,wI,wV,rE,qE,wE,Nd.cells,nilS,h1,hq,h3,m3,lvT,lvF,p9q,range_succ]
   ·by_cases h1:n.raw=[]<;>by_cases hq:n.nq=true<;>by_cases h3:n.row=[] <;>
    simp [go_sem,ir69,ndH,rV,qI,qV,wI,wV,rE,qE,wE,Nd.cells,nilS,h1,hq,h3,m3,lvT,lvF,p9q,range_succ]
  ·have m3':¬ (n.mode:Int)=3:=by omega
   have m5':¬ (n.mode:Int)=5:=by omega
   have m3:¬ n.mode=3:=by omega
   have m5:¬ n.mode=5:=by omega
   by_cases m2:n.mode=2
   ·refine ⟨F.lock,?_⟩
    have hf:=hI.inf m2
    have hfr:=nframe_spec n F hf.ri.ok (fun hs=>(send_facts (hf.se hs)).1)
    rw [show drN n=frL n by unfold drN;rw [if_neg m1,if_neg m35,if_pos m2]]
    rw [c9f E E69]
    generalize frL n=d at hfr ⊢
    cases d<;>by_cases h1:n.raw=[]<;>by_cases hq:n.nq=true<;>by_cases h3:n.row=[] <;>
    simp [ndH,rV,qI,qV,wI,wV,rE,qE,wE,Nd.cells,nilS,Fl.lock,h1,hq,h3,m2,lvT,lvF] at hfr <;>
    simp [go_sem,ir69,ndH,rV,qI,qV,wI,wV,rE,qE,wE,Nd.cells,nilS,Fl.lock,h1,hq,h3,m2,hfr,lvT,lvF,p9q,range_succ]
   ·have m2':¬ (n.mode:Int)=2:=by omega
    refine ⟨F,?_⟩
    rw [show drN n=true by unfold drN;rw [if_neg m1,if_neg m35,if_neg m2]]
    rw [c9f E E69]
    by_cases h1:n.raw=[]<;>by_cases hq:n.nq=true<;>by_cases h3:n.row=[] <;>
    simp [go_sem,ir69,ndH,rV,qI,qV,wI,wV,rE,qE,wE,Nd.cells,nilS,h1,hq,h3,m1,m2,m3,m5,m1',m2',m3',m5',lvT,lvF,p9q,range_succ]
def rAt (n:Nd) (rx:Nat):AVal:=if n.raw=[] then nilS else .own rx n.raw.length 1 0 n.raw.length
def lAt (n:Nd) (lx:Nat):AVal:=if n.nq=true then nilS else .own lx n.q.length 12 0 n.q.length
def wAt (n:Nd) (wx:Nat):AVal:=if n.row=[] then nilS else .own wx n.row.length 1 0 n.row.length
def footL (n:Nd) (a rx qx lx wx:Nat):List Nat:=a::((if n.raw=[] then [] else [rx])++qx::((if n.nq=true then [] else [lx])++(if n.row=[] then [] else [wx])))
structure NodeAtF (H:Heap) (a:Nat) (n:Nd) (F:Fl) (rx qx lx wx:Nat):Prop where
 box:H[a]?=some (.box (n.cells (rAt n rx) (.ptr qx 0) (wAt n wx)))
 raw:¬ n.raw=[]->H[rx]?=some (.arr true F.lr F.fr 1 (n.raw.map encLv))
 qu:H[qx]?=some (.box [lAt n lx,.lit (.int .i64 16)])
 q:n.nq=false->H[lx]?=some (.arr true false F.fq 12 (n.q.map encFr))
 row:¬ n.row=[]->H[wx]?=some (.arr true F.lw F.fw 1 (n.row.map encLv))
 nd:(footL n a rx qx lx wx).Nodup
def NodeAt (H:Heap) (a:Nat) (n:Nd) (fs:List Nat):Prop:=∃ F rx qx lx wx,NodeAtF H a n F rx qx lx wx/\fs=footL n a rx qx lx wx
theorem nodeAt_nodup {H:Heap} {a:Nat} {n:Nd} {fs:List Nat} (h:NodeAt H a n fs):fs.Nodup:=by
 obtain ⟨F,rx,qx,lx,wx,h,rfl⟩:=h
 exact h.nd
theorem nodeAt_len {H:Heap} {a:Nat} {n:Nd} {fs:List Nat} (h:NodeAt H a n fs):fs.length<=5:=by
 obtain ⟨F,rx,qx,lx,wx,h,rfl⟩:=h
 unfold footL
 split<;>split<;>split<;>simp
theorem lt_of_get {H:Heap} {i:Nat} {e:Entry} (h:H[i]?=some e):i<H.length:=(List.getElem?_eq_some_iff.1 h).1
theorem nodeAt_lt {H:Heap} {a:Nat} {n:Nd} {fs:List Nat} (h:NodeAt H a n fs):∀ i∈fs,i<H.length:=by
 obtain ⟨F,rx,qx,lx,wx,h,rfl⟩:=h
 intro i hi
 simp only [footL,mem_cons,mem_append] at hi
 rcases hi with rfl | hi | rfl | hi | hi
 ·exact lt_of_get h.box
 ·by_cases h1:n.raw=[]
  ·simp [h1] at hi
  ·simp [h1] at hi
   subst hi
   exact lt_of_get (h.raw h1)
 ·exact lt_of_get h.qu
 ·cases h1:n.nq
  ·simp [h1] at hi
   subst hi
   exact lt_of_get (h.q h1)
  ·simp [h1] at hi
 ·by_cases h1:n.row=[]
  ·simp [h1] at hi
  ·simp [h1] at hi
   subst hi
   exact lt_of_get (h.row h1)
theorem nodeAt_head {H:Heap} {a:Nat} {n:Nd} {fs:List Nat} (h:NodeAt H a n fs):a∈fs:=by
 obtain ⟨F,rx,qx,lx,wx,h,rfl⟩:=h
 exact List.mem_cons_self
theorem nodeAt_same {H H2:Heap} {a:Nat} {n:Nd} {fs:List Nat} (h:NodeAt H a n fs) (hs:∀ i∈fs,H2[i]?=H[i]?):NodeAt H2 a n fs:=by
 obtain ⟨F,rx,qx,lx,wx,h,rfl⟩:=h
 refine ⟨F,rx,qx,lx,wx,⟨?_,?_,?_,?_,?_,h.nd⟩,rfl⟩
 ·rw [hs a (by simp [footL])];exact h.box
 ·intro h1;rw [hs rx (by simp [footL,h1])];exact h.raw h1
 ·rw [hs qx (by simp [footL])];exact h.qu
 ·intro h1;rw [hs lx (by simp [footL,h1])];exact h.q h1
 ·intro h1;rw [hs wx (by simp [footL,h1])];exact h.row h1
theorem refs_rAt (n:Nd) (rx:Nat):refsV (rAt n rx)=if n.raw=[] then [] else [rx]:=by unfold rAt;split<;>rfl
theorem refs_wAt (n:Nd) (wx:Nat):refsV (wAt n wx)=if n.row=[] then [] else [wx]:=by unfold wAt;split<;>rfl
theorem refs_lAt (n:Nd) (lx:Nat):refsV (lAt n lx)=if n.nq=true then [] else [lx]:=by unfold lAt;split<;>rfl
theorem reach_step {H:Heap} {k i:Nat} {w acc:List Nat} {e:Entry} (hi:i ∉ acc) (he:H[i]?=some e):reach H (k+1) (i::w) acc=reach H k (refsE e++w) (acc++[i]):=by
 rw [reach_cons,if_neg hi,he,reachK_some]
theorem reach_opt {H:Heap} (c:Prop) [Decidable c] {x:Nat} (he:¬ c->∃ b d z l,H[x]?=some (.arr true b d z l)) (k:Nat) (w acc:List Nat) (hd:¬ c->x ∉ acc) :
  reach H (k+(if c then ([]:List Nat) else [x]).length) ((if c then [] else [x])++w) acc=reach H k w (acc++if c then [] else [x]):=by
 by_cases h:c
 ·simp [h]
 ·obtain ⟨b,d,z,l,he⟩:=he h
  simp only [h,if_false,List.length_cons,List.length_nil,Nat.zero_add,List.cons_append,List.nil_append]
  rw [reach_step (hd h) he]
  simp [refsE]
theorem reach_node {H:Heap} {a:Nat} {n:Nd} {fs:List Nat} (h:NodeAt H a n fs) (k:Nat) (w acc:List Nat) (hd:∀ i∈fs,i ∉ acc):reach H (k+fs.length) (a::w) acc=reach H k w (acc++fs):=by
 obtain ⟨F,rx,qx,lx,wx,h,rfl⟩:=h
 have hnd:=h.nd
 have rb:refsE (.box (n.cells (rAt n rx) (.ptr qx 0) (wAt n wx)))=refsV (rAt n rx)++[qx]++refsV (wAt n wx):=by
  simp [refsE,Nd.cells,refsL,refsV]
 have rq:refsE (.box [lAt n lx,.lit (.int .i64 16)])=refsV (lAt n lx):=by simp [refsE,refsL,refsV]
 rw [refs_rAt,refs_wAt] at rb
 rw [refs_lAt] at rq
 have hr:=reach_opt (H:=H) (n.raw=[]) (x:=rx) (fun q=>⟨_,_,_,_,h.raw q⟩)
 have hl:=reach_opt (H:=H) (n.nq=true) (x:=lx) (fun q=>⟨_,_,_,_,h.q (by simpa using q)⟩)
 have hw:=reach_opt (H:=H) (n.row=[]) (x:=wx) (fun q=>⟨_,_,_,_,h.row q⟩)
 have mr:¬ n.raw=[]->rx∈(if n.raw=[] then [] else [rx]):=fun q=>by simp [q]
 have ml:¬ n.nq=true->lx∈(if n.nq=true then [] else [lx]):=fun q=>by rw [if_neg q];simp
 have mw:¬ n.row=[]->wx∈(if n.row=[] then [] else [wx]):=fun q=>by simp [q]
 unfold footL at hnd hd ⊢
 generalize (if n.raw=[] then ([]:List Nat) else [rx])=R at *
 generalize (if n.nq=true then ([]:List Nat) else [lx])=L at *
 generalize (if n.row=[] then ([]:List Nat) else [wx])=W at *
 simp only [nodup_cons,List.nodup_append,mem_append,mem_cons,not_or] at hnd
 obtain ⟨⟨a1,a2,a3,a4⟩,b1,⟨⟨c1,c2⟩,c3,c4,c5⟩,b2⟩:=hnd
 have e:k+(a::(R++qx::(L++W))).length=(k+W.length+L.length+1+R.length)+1:=by simp;omega
 rw [e,reach_step (hd a (by simp)) h.box,rb,List.append_assoc,List.append_assoc,hr _ _ _ (fun q=>?_),List.singleton_append,reach_step ?_ h.qu,rq,hl _ _ _ (fun q=>?_),hw _ _ _ (fun q=>?_)]
 ·simp
 ·have:=hd wx (by simp [mw q])
  have m:=mw q
  simp only [mem_append,List.mem_singleton,not_or]
  exact ⟨⟨⟨⟨this,fun e=>a4 (e ▸ m)⟩,fun e=>b2 _ e _ (by simp [m]) rfl⟩,fun e=>c2 (e ▸ m)⟩,fun e=>c5 _ e _ m rfl⟩
 ·have:=hd lx (by simp [ml q])
  have m:=ml q
  simp only [mem_append,List.mem_singleton,not_or]
  exact ⟨⟨⟨this,fun e=>a3 (e ▸ m)⟩,fun e=>b2 _ e _ (by simp [m]) rfl⟩,fun e=>c1 (e ▸ m)⟩
 ·have:=hd qx (by simp)
  simp only [mem_append,List.mem_singleton,not_or]
  exact ⟨⟨this,fun e=>a2 e.symm⟩,fun e=>b2 _ e _ (by simp) rfl⟩
 ·have:=hd rx (by simp [mr q])
  have m:=mr q
  simp only [mem_append,List.mem_singleton,not_or]
  exact ⟨this,fun e=>a1 (e ▸ m)⟩
theorem bifNe {a b x y:Nat} (h:¬ a=b):(bif a == b then x else y)=y:=by
 have q:(a == b)=false:=by simpa using h
 rw [q];rfl
theorem canon_of {H:Heap} {a:Nat} {n:Nd} {fs:List Nat} (h:NodeAt H a n fs):fs.idxOf a=0/\∃ F,(fs.map fun i=>renE (fun i=>fs.idxOf i) (H.getD i .dead))=ndH n F:=by
 obtain ⟨F,rx,qx,lx,wx,h,rfl⟩:=h
 refine ⟨by simp [footL,List.idxOf_cons],F,?_⟩
 have hnd:=h.nd
 have hb:=h.box
 have hqu:=h.qu
 have hr:=h.raw
 have hl:=h.q
 have hw:=h.row
 clear h
 by_cases h1:n.raw=[]<;>by_cases h2:n.nq=true<;>by_cases h3:n.row=[] <;>
 simp [footL,rAt,lAt,wAt,h1,h2,h3] at hnd hb hqu hr hl hw <;>
 simp [footL,h1,h2,h3,getD_eq_getElem?_getD,hb,hqu,hr,hl,hw,renE,renL,renV,nilS,renLL,ndH,rV,qI,qV,wI,wV,rE,qE,wE,Nd.cells,nilS,List.idxOf_cons,hnd,bifNe]
theorem ndH_len (n:Nd) (F:Fl):(ndH n F).length=mI n:=by
 by_cases h1:n.raw=[]<;>by_cases h2:n.nq=true<;>by_cases h3:n.row=[] <;>
 simp [ndH,rV,qI,qV,wI,wV,rE,qE,wE,Nd.cells,nilS,mI,h1,h2,h3]
theorem nodeAt_fl {H:Heap} {a:Nat} {n:Nd} {fs:List Nat} (h:NodeAt H a n fs):fs.length=mI n:=by
 obtain ⟨F,rx,qx,lx,wx,h,rfl⟩:=h
 by_cases h1:n.raw=[]<;>by_cases h2:n.nq=true<;>by_cases h3:n.row=[] <;>
 simp [footL,mI,wI,qI,h1,h2,h3]
theorem call_at (c:Callee) {H:Heap} {a:Nat} {n:Nd} {fs:List Nat} (h:NodeAt H a n fs) (f:AVal) (xs:List AVal) (hf:flatV f=true) (hx:flatL xs=true) :
  ∃ F,callK1 c H (some (f,[])) (some (.ptr a 0::xs,[]))=refK H fs (c f (.ptr 0 0::xs) (ndH n F)):=by
 obtain ⟨e0,F,hF⟩:=canon_of h
 refine ⟨F,?_⟩
 have hl:=nodeAt_len h
 have hreach:reach H purse (refsV f++refsL (.ptr a 0::xs)) []=some fs:=by
  rw [refsV_flat f hf,List.nil_append,refsL,refsL_flat xs hx,show refsV (.ptr a 0)++[]=[a] from rfl,show purse=(400 - fs.length)+fs.length by rw [p9q];omega,reach_node h _ [] [] (by simp)]
  rw [reach_nil];rfl
 rw [callK1_ref]
 simp only [List.nil_append,locks]
 rw [hreach,rchK_some,hF,renV_flat _ f hf]
 rw [renL,renL_flat _ xs hx]
 simp only [renV,e0]
theorem glob_old {fs:List Nat} {N j:Nat} (hj:j<fs.length):toGlob fs N j=fs[j]:=by
 unfold toGlob
 rw [if_pos hj,getD_eq_getElem?_getD,getElem?_eq_getElem hj];rfl
theorem glob_new {fs:List Nat} {N j:Nat} (hj:fs.length<=j):toGlob fs N j=N+(j - fs.length):=by
 unfold toGlob
 rw [if_neg (by omega)]
def backH (H:Heap) (fs:List Nat) (Hn:Heap):Heap:=setAll H fs ((Hn.take fs.length).map (renE (toGlob fs H.length)))++(Hn.drop fs.length).map (renE (toGlob fs H.length))
theorem back_len {H:Heap} {fs:List Nat} {Hn:Heap}:(backH H fs Hn).length=H.length+(Hn.length - fs.length):=by
 unfold backH
 rw [length_append,setAll_length];simp
theorem back_other {H:Heap} {fs:List Nat} {Hn:Heap} (hnd:fs.Nodup) (hlt:∀ i∈fs,i<H.length) (hk:fs.length<=Hn.length) {i:Nat} (hi:i<H.length) (hf:i ∉ fs):(backH H fs Hn)[i]?=H[i]?:=by
 unfold backH
 rw [getElem?_append_left (by rw [setAll_length];exact hi),setAll_get fs _ H hnd (by simp;omega) hlt,if_neg hf]
theorem back_get {H:Heap} {fs:List Nat} {Hn:Heap} (hnd:fs.Nodup) (hlt:∀ i∈fs,i<H.length) (hk:fs.length<=Hn.length) {j:Nat} {e:Entry} (hj:Hn[j]?=some e):(backH H fs Hn)[toGlob fs H.length j]?=some (renE (toGlob fs H.length) e):=by
 have hjl:=lt_of_get hj
 rcases Nat.lt_or_ge j fs.length with hlt2 | hge
 ·have hm:fs[j]∈fs:=List.getElem_mem hlt2
  have hg:=glob_old (N:=H.length) hlt2
  unfold backH
  rw [hg,getElem?_append_left (by rw [setAll_length];exact hlt _ hm),setAll_get fs _ H hnd (by simp;omega) hlt,if_pos hm]
  rw [idxOf_get hnd (getElem?_eq_getElem hlt2),List.getElem?_map,List.getElem?_take,if_pos hlt2,hj];rfl
 ·have hg:=glob_new (N:=H.length) hge
  unfold backH
  rw [hg,List.getElem?_append_right (by rw [setAll_length];omega),setAll_length,List.getElem?_map,List.getElem?_drop]
  rw [show fs.length+(H.length+(j - fs.length) - H.length)=j by omega,hj];rfl
theorem glob_inj {H:Heap} {fs:List Nat} (hnd:fs.Nodup) (hlt:∀ i∈fs,i<H.length) {i j:Nat} (h:toGlob fs H.length i=toGlob fs H.length j):i=j:=by
 rcases Nat.lt_or_ge i fs.length with h1 | h1<;>rcases Nat.lt_or_ge j fs.length with h2 | h2
 ·rw [glob_old h1,glob_old h2] at h
  have q:=idxOf_get hnd (getElem?_eq_getElem h1)
  rw [h] at q
  exact q.symm.trans (idxOf_get hnd (getElem?_eq_getElem h2))
 ·rw [glob_old h1,glob_new h2] at h
  have:=hlt _ (List.getElem_mem h1);omega
 ·rw [glob_new h1,glob_old h2] at h
  have:=hlt _ (List.getElem_mem h2);omega
 ·rw [glob_new h1,glob_new h2] at h;omega
def nd0:Nd:=⟨[],false,0,0,0,0,false,false,false,false,Ct.zero,Fr.zero,[],true,[]⟩
theorem nnew_spec:call E (.func (.func 49) [] []) [] []=some (.ptr 0 0,ndH nd0 ⟨false,false,false,false,false⟩):=by
 have h:=qnew_spec
 simp [quH,nilS] at h
 rw [c9f E E49]
 simp [go_sem,ir49,ndH,rV,qI,qV,wI,wV,rE,qE,wE,Nd.cells,nilS,nd0,Ct.zero,Fr.zero,lvF,h,p9q,range_succ]
def nputN (n:Nd) (f:Fr):Int × Nd:=if checkP f≠0 then (checkP f,n) else if 16<=n.q.length then (15,n) else (0,{ n with q:=insP f n.q,nq:=false })
theorem insP_len (f:Fr) (l:List Fr):(insP f l).length=l.length+1:=by
 have:=ixL_le f l
 simp [insP];omega
theorem state_two (c:Ct):c.state=2↔c.off=true:=by
 unfold Ct.state
 by_cases h:c.off=true
 ·simp [h]
 ·rw [if_neg h];split<;>simp [h]
theorem chCt_ok {n:Nd} (h:n.ct.Ok) (w:Nat):(chCt n w).Ok:=by
 unfold chCt;split
 ·exact Ct.txE_ok h
 ·exact Ct.rxE_ok h w
structure Part (n:Nd):Prop where
 ok:n.Ok
 qv:∀ g∈n.q,g.Ok/\checkP g=0
 rows:n.rows<=128
theorem Nd.Inv.part {n:Nd} (h:n.Inv):Part n:=⟨h.ok,h.qv,h.rows⟩
theorem Part.inv {n:Nd} (h:Part n) (hm:n.mode<=10) (h2:¬ n.mode=2) (ho:n.ct.off=decide (n.mode=10)) (h10:n.mode=10->n.rows<=127:=by simp):n.Inv:=⟨h.ok,h.qv,hm,ho,h.rows,h10,fun e=>absurd e h2⟩
theorem part_of {n m:Nd} (h:Part n) (hk:Keep n m) (hc:m.ct.Ok) (hr:m.rows<=128):Part m:=⟨⟨by rw [hk.nq,hk.q];exact h.ok.nq,by rw [hk.q];exact h.ok.ql,hc⟩,by rw [hk.q];exact h.qv,hr⟩
theorem ch_cases (n:Nd) (w:Nat):(chN n w=(false,{ n with ct:=chCt n w,mode:=10,k:=0,rows:=0 })/\(chCt n w).off=true)∨(chN n w=(true,{ n with ct:=chCt n w })/\(chCt n w).off=false):=by
 unfold chN
 by_cases h:(chCt n w).state=2
 ·rw [if_pos h];exact .inl ⟨rfl,(state_two _).1 h⟩
 ·rw [if_neg h]
  refine .inr ⟨rfl,?_⟩
  cases h2:(chCt n w).off
  ·rfl
  ·exact absurd ((state_two _).2 h2) h
theorem flag_inv {m:Nd} (h:Part m) (ho:m.ct.off=false) (st:Int):(flagN m st).Inv:=by
 refine Part.inv ⟨⟨h.ok.nq,h.ok.ql,h.ok.ct⟩,h.qv,h.rows⟩ ?_ ?_ ?_ ?_
 ·unfold flagN;simp only [];split<;>omega
 ·unfold flagN;simp only [];split<;>omega
 ·show m.ct.off=_
  rw [ho];unfold flagN;simp only [];split<;>rfl
 ·unfold flagN;simp only [];split<;>(intro e;omega)
theorem fail_inv {n:Nd} (h:Part n) (ho:n.ct.off=false) (kind:Nat) (c:Bool):(failN n kind c).2.Inv:=by
 unfold failN
 split
 ·rcases ch_cases n 1 with ⟨e,h1⟩ | ⟨e,h1⟩
  ·rw [e]
   exact Part.inv ⟨⟨h.ok.nq,h.ok.ql,chCt_ok h.ok.ct 1⟩,h.qv,by simp⟩ (by simp) (by simp) (by simp [h1])
  ·rw [e]
   exact flag_inv (m:={ n with ct:=chCt n 1 }) ⟨⟨h.ok.nq,h.ok.ql,chCt_ok h.ok.ct 1⟩,h.qv,h.rows⟩ h1 _
 ·exact flag_inv h ho _
theorem over_inv {n:Nd} (h:Part n) (ho:n.ct.off=false):(overN n).2.Inv:=Part.inv ⟨⟨h.ok.nq,h.ok.ql,h.ok.ct⟩,h.qv,h.rows⟩ (by simp [overN]) (by simp [overN]) (by simp [overN,ho]) (by simp [overN])
theorem part_mode {n:Nd} (h:Part n) (ho:n.ct.off=false) {m:Nd} (e1:Keep n m) (e2:m.ct=n.ct) (e3:m.rows=n.rows) (hm:m.mode<=9) (h2:¬ m.mode=2):m.Inv :=
 Part.inv (part_of h e1 (by rw [e2];exact h.ok.ct) (by rw [e3];exact h.rows)) (by omega) h2 (by rw [e2,ho];simp;omega) (fun e=>by omega)
theorem start_inv {n:Nd} (h:Part n) (ho:n.ct.off=false) (s:Bool) (hs:s=true->n.q≠[]):(startN n s).Inv:=by
 refine ⟨⟨h.ok.nq,h.ok.ql,h.ok.ct⟩,h.qv,by simp [startN],by simp [startN,ho],h.rows,by simp [startN],fun _=>⟨by simp [startN],rfl,nIn_one false,by simp [startN],by simp [startN],rfl,fun hs2=>?_⟩⟩
 have hs2:s=true:=hs2
 subst hs2
 cases hq:n.q with
 | nil=>exact absurd hq (hs rfl)
 | cons g r =>
  have hv:=h.qv g (by rw [hq];simp)
  have hown:(startN n true).own=g:=by unfold startN;rw [hq];rfl
  refine ⟨?_,?_,?_,?_,?_,?_⟩
  ·show n.nq=false
   cases hn:n.nq
   ·rfl
   ·have:=h.ok.nq hn;rw [hq] at this;cases this
  ·rw [hown];show g∈n.q;rw [hq];simp
  ·rw [hown];exact hv.1
  ·rw [hown];exact hv.2
  ·rw [hown];show (if true=true then allP (n.q.head?.getD Fr.zero) else n.row)=allP g
   rw [if_pos rfl,hq]<;>rfl
  ·rw [hown]
   have e:sentP g=false::(sentP g).tail:=by unfold sentP bitsP;rfl
   refine .inl ⟨(sentP g).tail,?_,by rw [show (startN n true).raw=[false] from rfl,List.singleton_append];exact e.symm⟩
   intro q
   have hl:=(sentP_sum g hv.2 []).2.2
   have hb:=(bitsP_length g).2
   rw [e,q] at hl
   simp only [List.length_cons,List.length_nil] at hl;omega
theorem take_inf {n:Nd} (h:InF n) (hk:nextF n.raw≠(8,6)) (b:Bool) (hb:n.sends=true->b=frL n∨(nextF n.raw).1=6):InF (takeN n b).2:=by
 obtain ⟨h1,h0,hri,hl5,h58,htx,hse⟩:=h
 have hkind:=hri.kind
 have hnl:¬ (dataF n.raw<=n.raw.length/\n.raw.length=sumF n.raw+24):=by
  rintro ⟨q1,q2⟩
  apply hk
  have h3:=sumF_ge n.raw
  unfold nextF
  rw [if_neg (by omega),if_neg (by
   rintro (q | ⟨q3,q4⟩)
   ·omega
   ·have:dataF n.raw=39:=by unfold dataF;rw [if_pos q3]
    omega),if_neg (by omega),if_neg (by omega),if_neg (by omega),if_neg (by omega),if_neg (by omega),if_neg (by omega),if_pos (by omega)]
  congr 1;omega
 have happ:=nIn_append hri hnl b
 have h0':(n.raw++[b])[0]?=some false:=by rw [getElem?_append_left (List.length_pos_iff.2 h1)];exact h0
 have hsend:n.run≠5->n.sends=true->SendOk { n with raw:=n.raw++[b] }:=by
  intro h5 hs
  obtain ⟨s1,s2,s3,s4,s5,s6⟩:=hse hs
  obtain ⟨-,-,f1,f2⟩:=send_facts (hse hs)
  refine ⟨s1,s2,s3,s4,s5,?_⟩
  rcases s6 with ⟨r,hr,e⟩ | ⟨t,e,ht⟩
  ·have hk4:=prefix_kind n.own s4 n.raw r hr e
   cases r with
   | nil=>exact absurd rfl hr
   | cons x s =>
    have hx:=f2 _ e x s rfl
    have hbx:b=x:=by
     rcases hb hs with q | q
     ·rw [q];unfold frL;rw [if_pos hs,if_neg h5,hx];rfl
     ·omega
    subst hbx
    by_cases hs0:s=[]
    ·subst hs0
     exact .inr ⟨[],by simpa using e,by simp⟩
    ·exact .inl ⟨s,hs0,by simpa using e⟩
  ·refine .inr ⟨t++[b],by simp [e],?_⟩
   have ht9:t.length≠9:=by
    intro q
    apply hk
    rw [e,nextF_sent n.own s4 t (by omega)]
    simp [q]
   simp;omega
 by_cases h5:n.run=5
 ·by_cases hlb:b=n.lvl
  ·rw [show (takeN n b).2=n by unfold takeN;rw [if_pos h5,if_pos hlb]]
   exact ⟨h1,h0,hri,hl5,h58,htx,hse⟩
  ·rw [show (takeN n b).2={ n with lvl:=b,run:=1 } by unfold takeN;rw [if_pos h5,if_neg hlb]]
   exact ⟨h1,h0,hri,by simp,by simp,htx,fun hs=>let q:=hse hs;⟨q.nq,q.mem,q.ok,q.chk,q.row,q.raw⟩⟩
 ·by_cases hk4:4<(nextF n.raw).1
  ·rw [show (takeN n b).2={ n with run:=0,raw:=n.raw++[b] } by unfold takeN;rw [if_neg h5,if_pos hk4]]
   exact ⟨by simp,h0',happ,by simp,by simp,htx,fun hs=>let q:=hsend h5 hs;⟨q.nq,q.mem,q.ok,q.chk,q.row,q.raw⟩⟩
  ·have kn:=kind_next (m:=n.raw) (by omega) b
   by_cases hr:0<n.run/\b=n.lvl
   ·rw [show (takeN n b).2={ n with run:=n.run+1,raw:=n.raw++[b] } by unfold takeN;rw [if_neg h5,if_neg hk4,if_pos hr]]
    exact ⟨by simp,h0',happ,by simp only [];omega,fun _=>kn,htx,fun hs=>let q:=hsend h5 hs;⟨q.nq,q.mem,q.ok,q.chk,q.row,q.raw⟩⟩
   ·rw [show (takeN n b).2={ n with lvl:=b,run:=1,raw:=n.raw++[b] } by unfold takeN;rw [if_neg h5,if_neg hk4,if_neg hr]]
    exact ⟨by simp,h0',happ,by simp,fun _=>kn,htx,fun hs=>let q:=hsend h5 hs;⟨q.nq,q.mem,q.ok,q.chk,q.row,q.raw⟩⟩
theorem take_same (n:Nd) (b:Bool):(takeN n b).2.q=n.q/\(takeN n b).2.nq=n.nq/\(takeN n b).2.ct=n.ct/\(takeN n b).2.rows=n.rows/\(takeN n b).2.mode=n.mode/\(takeN n b).2.k=n.k/\(takeN n b).2.tx=n.tx/\(takeN n b).2.sends=n.sends/\(takeN n b).2.own=n.own/\(takeN n b).2.row=n.row:=by
 unfold takeN
 split
 ·split<;>exact ⟨rfl,rfl,rfl,rfl,rfl,rfl,rfl,rfl,rfl,rfl⟩
 ·split
  ·exact ⟨rfl,rfl,rfl,rfl,rfl,rfl,rfl,rfl,rfl,rfl⟩
  ·split<;>exact ⟨rfl,rfl,rfl,rfl,rfl,rfl,rfl,rfl,rfl,rfl⟩
theorem take_inv {n:Nd} (h:n.Inv) (h2:n.mode=2) (hk:nextF n.raw≠(8,6)) (b:Bool) (hb:n.sends=true->b=frL n∨(nextF n.raw).1=6):(takeN n b).2.Inv:=by
 have t:=take_same n b
 have hi:=take_inf (h.inf h2) hk b hb
 exact ⟨⟨by rw [t.2.1,t.1];exact h.ok.nq,by rw [t.1];exact h.ok.ql,by rw [t.2.2.1];exact h.ok.ct⟩,by rw [t.1];exact h.qv,by rw [t.2.2.2.2.1];exact h.mode,by rw [t.2.2.1,t.2.2.2.2.1];exact h.off,by rw [t.2.2.2.1];exact h.rows,by rw [t.2.2.2.1,t.2.2.2.2.1];exact h.r10,fun _=>hi⟩
theorem join_keep0 (n:Nd) (b:Bool):Keep n (joinN n b).2/\(joinN n b).2.ct=n.ct/\(joinN n b).2.rows=n.rows:=by
 unfold joinN;simp only [];split
 ·exact ⟨⟨rfl,rfl,rfl,rfl⟩,rfl,rfl⟩
 ·split<;>exact ⟨⟨rfl,rfl,rfl,rfl⟩,rfl,rfl⟩
theorem join_inv {n:Nd} (h:n.Inv) (hm:n.mode=0) (b:Bool):(joinN n b).2.Inv:=by
 have ho:n.ct.off=false:=by rw [h.off];simp;omega
 refine part_mode h.part ho (join_keep0 n b).1 (join_keep0 n b).2.1 (join_keep0 n b).2.2 ?_ ?_<;>(unfold joinN;simp only [];split<;>first | (simp only [];omega) | (split<;>simp only []<;>omega))
theorem mem_delL {f g:Fr} {l:List Fr} (h:g∈delL f l):g∈l:=by
 unfold delL at h
 rcases mem_append.1 h with h | h
 ·exact mem_of_mem_take h
 ·exact mem_of_mem_drop h
theorem in_inv {n:Nd} (h:n.Inv) (h2:n.mode=2) (b:Bool):(inN n b).2.2.Inv:=by
  have hp:=h.part
  have ho:n.ct.off=false:=by rw [h.off];simp;omega
  have hf:=h.inf h2
  have t:=take_same n true
  unfold inN
  split
  · rename_i hs
    split
    · rename_i hd
      split
      · have hi:=fail_inv hp ho 8 (!decide (n.ct.state=1))
        exact ⟨⟨hi.ok.nq,hi.ok.ql,hi.ok.ct⟩,hi.qv,hi.mode,hi.off,hi.rows,hi.r10,fun e=>by
          have hf2:=hi.inf e
          exact ⟨hf2.ne,hf2.h0,hf2.ri,hf2.run,hf2.r58,hf2.tx,fun q=>⟨(hf2.se q).nq,(hf2.se q).mem,(hf2.se q).ok,(hf2.se q).chk,(hf2.se q).row,(hf2.se q).raw⟩⟩⟩
      · rename_i hq1
        split
        · have hS:=hf.se hs
          have hlen:=delL_len n.own n.q hS.mem
          refine Part.inv ⟨⟨fun e=>?_,?_,?_⟩,?_,?_⟩ (by simp [sentN]) (by simp [sentN]) ?_ (by simp [sentN])
          · have:(takeN n true).2.nq=true:=e
            rw [t.2.1,hS.nq] at this;cases this
          · show (delL (takeN n true).2.own (takeN n true).2.q).length<=16
            rw [t.2.2.2.2.2.2.2.2.1,t.1,hlen];have:=h.ok.ql;omega
          · show ((takeN n true).2.ct.sent).Ok
            rw [t.2.2.1];exact Ct.sent_ok h.ok.ct
          · intro g hg
            have hg:g∈delL (takeN n true).2.own (takeN n true).2.q:=hg
            rw [t.2.2.2.2.2.2.2.2.1,t.1] at hg
            exact h.qv g (mem_delL hg)
          · show (takeN n true).2.rows<=128
            rw [t.2.2.2.1];exact h.rows
          · show ((takeN n true).2.ct.sent).off=_
            rw [t.2.2.1]
            unfold Ct.sent;rw [ho];simp [sentN]
        · rename_i hq2
          refine take_inv h h2 (fun e=>hq2 ⟨fun e5=>?_,e⟩) b (fun _=>.inl hd)
          have:=hf.r58 e5
          rw [e] at this;simp at this
    · split
      · exact fail_inv hp ho 4 true
      · split
        · rename_i hk1
          split
          · exact fail_inv hp ho 5 false
          · have hM:({ n with tx:=false,sends:=false }:Nd).Inv:=⟨⟨h.ok.nq,h.ok.ql,h.ok.ct⟩,h.qv,h.mode,h.off,h.rows,h.r10,fun _=>⟨hf.ne,hf.h0,hf.ri,hf.run,hf.r58,rfl,fun e=>by cases e⟩⟩
            exact take_inv hM h2 (fun e=>by rw [show ({ n with tx:=false,sends:=false }:Nd).raw=n.raw from rfl] at e;rw [e] at hk1;simp at hk1) false (fun e=>by cases e)
        · split
          · rename_i hk6
            exact take_inv h h2 (fun e=>by rw [e] at hk6;simp at hk6) false (fun _=>.inr hk6)
          · exact fail_inv hp ho 4 true
  · rename_i hs
    have hs:n.sends=false:=by simpa using hs
    have tk:=fun (b:Bool) (hk:nextF n.raw≠(8,6))=>take_inv h h2 hk b (fun e=>by rw [hs] at e;cases e)
    split
    · rename_i hd
      split
      · exact fail_inv hp ho 4 true
      · refine tk false (fun e=>?_)
        unfold frL at hd
        rw [if_neg (by rw [hs];simp),e] at hd
        simp at hd
    · split
      · rename_i h5
        split
        · exact fail_inv hp ho 5 true
        · exact tk b (fun e=>by have:=hf.r58 h5;rw [e] at this;simp at this)
      · split
        · rename_i hkk
          exact tk b (fun e=>by rw [e] at hkk;simp at hkk)
        · split
          · split
            · exact over_inv hp ho
            · exact fail_inv hp ho 7 true
          · split
            · exact fail_inv hp ho 6 true
            · split
              · rename_i h85
                have hi:=tk true (fun e=>by rw [e] at h85;cases h85)
                have hf2:=hi.inf (by rw [t.2.2.2.2.1];exact h2)
                refine ⟨⟨hi.ok.nq,hi.ok.ql,Ct.recv_ok h.ok.ct⟩,hi.qv,hi.mode,?_,hi.rows,hi.r10,fun _=>⟨hf2.ne,hf2.h0,hf2.ri,hf2.run,hf2.r58,hf2.tx,fun q=>⟨(hf2.se q).nq,(hf2.se q).mem,(hf2.se q).ok,(hf2.se q).chk,(hf2.se q).row,(hf2.se q).raw⟩⟩⟩
                show n.ct.recv.off=decide ((takeN n true).2.mode=10)
                rw [t.2.2.2.2.1,h2]
                unfold Ct.recv;rw [ho];simp
              · split
                · refine Part.inv ⟨⟨?_,?_,?_⟩,?_,?_⟩ (by simp) (by simp) ?_
                  · show (takeN n true).2.nq=true->(takeN n true).2.q=[]
                    rw [t.2.1,t.1];exact h.ok.nq
                  · show (takeN n true).2.q.length<=16
                    rw [t.1];exact h.ok.ql
                  · show (takeN n true).2.ct.Ok
                    rw [t.2.2.1];exact h.ok.ct
                  · show ∀ g∈(takeN n true).2.q,_
                    rw [t.1];exact h.qv
                  · show (takeN n true).2.rows<=128
                    rw [t.2.2.2.1];exact h.rows
                  · show (takeN n true).2.ct.off=_
                    rw [t.2.2.1,ho];simp
                · rename_i h86
                  exact tk true h86
theorem dom_inv {n:Nd} (h:n.Inv) (hm:n.mode=3∨n.mode=5) (b:Bool):(domN n b).2.Inv:=by
 have hp:=h.part
 have ho:n.ct.off=false:=by rw [h.off];simp;omega
 unfold domN
 split
 ·simp only []
  split
  ·exact part_mode hp ho (m:={ n with mode:=6,k:=0 }) ⟨rfl,rfl,rfl,rfl⟩ rfl rfl (by simp) (by simp)
  ·exact part_mode hp ho (m:={ n with k:=n.k+1 }) ⟨rfl,rfl,rfl,rfl⟩ rfl rfl (by simp only [];omega) (by simp only [];omega)
 ·rcases ch_cases n 8 with ⟨e,h1⟩ | ⟨e,h1⟩
  ·rw [e]
   exact Part.inv ⟨⟨hp.ok.nq,hp.ok.ql,chCt_ok hp.ok.ct 8⟩,hp.qv,by simp⟩ (by simp) (by simp) (by simp [h1])
  ·rw [e]
   have hq:Part { n with ct:=chCt n 8 }:=⟨⟨hp.ok.nq,hp.ok.ql,chCt_ok hp.ok.ct 8⟩,hp.qv,hp.rows⟩
   rw [if_pos rfl]
   simp only []
   split
   ·exact part_mode hq h1 (m:={ n with ct:=chCt n 8,mode:=6,k:=0 }) ⟨rfl,rfl,rfl,rfl⟩ rfl rfl (by simp) (by simp)
   ·exact part_mode hq h1 (m:={ n with ct:=chCt n 8,k:=n.k+1 }) ⟨rfl,rfl,rfl,rfl⟩ rfl rfl (by simp only [];omega) (by simp only [];omega)
theorem pas_inv {n:Nd} (h:n.Inv) (hm:n.mode=4) (b:Bool):(pasN n b).2.Inv:=by
 have hp:=h.part
 have ho:n.ct.off=false:=by rw [h.off];simp;omega
 unfold pasN
 split
 ·have hq0:Part { n with k:=pasK n b,lvl:=b,owed:=false }:=⟨⟨hp.ok.nq,hp.ok.ql,hp.ok.ct⟩,hp.qv,hp.rows⟩
  rcases ch_cases { n with k:=pasK n b,lvl:=b,owed:=false } 8 with ⟨e,h1⟩ | ⟨e,h1⟩
  ·rw [e]
   exact Part.inv ⟨⟨hp.ok.nq,hp.ok.ql,chCt_ok hq0.ok.ct 8⟩,hp.qv,by simp⟩ (by simp) (by simp) (by simp [h1])
  ·rw [e]
   have hq:Part { n with k:=pasK n b,lvl:=b,owed:=false,ct:=chCt { n with k:=pasK n b,lvl:=b,owed:=false } 8 }:=⟨⟨hp.ok.nq,hp.ok.ql,chCt_ok hq0.ok.ct 8⟩,hp.qv,hp.rows⟩
   rw [if_pos rfl]
   simp only []
   split
   ·exact part_mode hq h1 (m:={ n with k:=0,lvl:=b,owed:=false,ct:=chCt { n with k:=pasK n b,lvl:=b,owed:=false } 8,mode:=6 }) ⟨rfl,rfl,rfl,rfl⟩ rfl rfl (by simp) (by simp)
   ·exact part_mode hq h1 (m:={ n with k:=pasK n b,lvl:=b,owed:=false,ct:=chCt { n with k:=pasK n b,lvl:=b,owed:=false } 8 }) ⟨rfl,rfl,rfl,rfl⟩ rfl rfl (by simp only [];omega) (by simp only [];omega)
 ·simp only []
  split
  ·exact part_mode hp ho (m:={ n with lvl:=b,mode:=6,k:=0 }) ⟨rfl,rfl,rfl,rfl⟩ rfl rfl (by simp) (by simp)
  ·exact part_mode hp ho (m:={ n with k:=pasK n b,lvl:=b }) ⟨rfl,rfl,rfl,rfl⟩ rfl rfl (by simp only [];omega) (by simp only [];omega)
theorem wait_inv {n:Nd} (h:n.Inv) (hm:n.mode=6) (b:Bool):(waitN n b).2.Inv:=by
 have hp:=h.part
 have ho:n.ct.off=false:=by rw [h.off];simp;omega
 unfold waitN
 split
 ·exact part_mode hp ho (m:={ n with mode:=7,k:=1 }) ⟨rfl,rfl,rfl,rfl⟩ rfl rfl (by simp) (by simp)
 ·split
  ·rename_i hA
   have hoff:(chCt n 8).off=false:=by
    cases q:(chCt n 8).off
    ·rfl
    ·exact absurd ((state_two _).2 q) (rx_on hA.2.2 ho 8)
   exact part_mode (n:={ n with ct:=chCt n 8 }) ⟨⟨hp.ok.nq,hp.ok.ql,chCt_ok hp.ok.ct 8⟩,hp.qv,hp.rows⟩ hoff (m:={ n with k:=1,ct:=chCt n 8 }) ⟨rfl,rfl,rfl,rfl⟩ rfl rfl (by simp only [];omega) (by simp only [];omega)
  ·split
   ·rcases ch_cases { n with k:=n.k+1 } 8 with ⟨e,h1⟩ | ⟨e,h1⟩
    ·rw [e]
     exact Part.inv ⟨⟨hp.ok.nq,hp.ok.ql,chCt_ok (n:={ n with k:=n.k+1 }) hp.ok.ct 8⟩,hp.qv,by simp⟩ (by simp) (by simp) (by simp [h1])
    ·rw [e]
     rw [if_pos rfl]
     exact part_mode (n:={ n with ct:=chCt { n with k:=n.k+1 } 8 }) ⟨⟨hp.ok.nq,hp.ok.ql,chCt_ok (n:={ n with k:=n.k+1 }) hp.ok.ct 8⟩,hp.qv,hp.rows⟩ h1 (m:={ n with k:=n.k+1,ct:=chCt { n with k:=n.k+1 } 8 }) ⟨rfl,rfl,rfl,rfl⟩ rfl rfl (by simp only [];omega) (by simp only [];omega)
   ·exact part_mode hp ho (m:={ n with k:=n.k+1 }) ⟨rfl,rfl,rfl,rfl⟩ rfl rfl (by simp only [];omega) (by simp only [];omega)
theorem close_inv {n:Nd} (h:n.Inv) (hm:n.mode=7) (b:Bool):(closeN n b).2.Inv:=by
 have hp:=h.part
 have ho:n.ct.off=false:=by rw [h.off];simp;omega
 unfold closeN
 split
 ·simp only []
  split
  ·exact part_mode hp ho (m:={ n with mode:=8,k:=0 }) ⟨rfl,rfl,rfl,rfl⟩ rfl rfl (by simp) (by simp)
  ·exact part_mode hp ho (m:={ n with k:=n.k+1 }) ⟨rfl,rfl,rfl,rfl⟩ rfl rfl (by simp only [];omega) (by simp only [];omega)
 ·split
  ·exact over_inv hp ho
  ·exact fail_inv hp ho 7 true
theorem off_inv {n:Nd} (h:n.Inv) (hm:n.mode=10) (b:Bool):(offN n b).2.Inv:=by
 have hp:=h.part
 have ho:n.ct.off=true:=by rw [h.off];simp [hm]
 unfold offN
 split
 ·split
  ·exact Part.inv ⟨⟨hp.ok.nq,hp.ok.ql,Ct.zero_ok⟩,hp.qv,by simp⟩ (by simp) (by simp) (by simp [Ct.zero])
  ·exact Part.inv ⟨⟨hp.ok.nq,hp.ok.ql,hp.ok.ct⟩,hp.qv,by have:=h.r10 hm;simp only [];omega⟩ (by simp only [];omega) (by simp only [];omega) (by simp [ho,hm]) (fun _=>by have:=h.r10 hm;simp only [];omega)
 ·split
  ·exact Part.inv ⟨⟨hp.ok.nq,hp.ok.ql,Ct.zero_ok⟩,hp.qv,hp.rows⟩ (by simp) (by simp) (by simp [Ct.zero])
  ·exact Part.inv ⟨⟨hp.ok.nq,hp.ok.ql,hp.ok.ct⟩,hp.qv,hp.rows⟩ (by simp only [];omega) (by simp only [];omega) (by simp [ho,hm]) (fun _=>h.r10 hm)
theorem idle_inv {n:Nd} (h:n.Inv) (hm:n.mode=1) (b:Bool):(idleN n b).2.Inv:=by
 have hp:=h.part
 have ho:n.ct.off=false:=by rw [h.off];simp;omega
 unfold idleN
 split
 ·exact start_inv hp ho _ (fun e=>by simpa using e)
 ·split
  ·exact h
  ·exact fail_inv (n:={ n with tx:=true }) ⟨⟨hp.ok.nq,hp.ok.ql,hp.ok.ct⟩,hp.qv,hp.rows⟩ ho 4 true
theorem paus_inv {n:Nd} (h:n.Inv) (hm:n.mode=8) (b:Bool):(pausN n b).2.Inv:=by
 have hp:=h.part
 have ho:n.ct.off=false:=by rw [h.off];simp;omega
 unfold pausN
 split
 ·unfold pauseN
  simp only []
  split
  ·exact part_mode hp ho (m:={ n with k:=n.k+1 }) ⟨rfl,rfl,rfl,rfl⟩ rfl rfl (by simp only [];omega) (by simp only [];omega)
  ·split
   ·exact part_mode hp ho (m:={ n with mode:=9,k:=0 }) ⟨rfl,rfl,rfl,rfl⟩ rfl rfl (by simp) (by simp)
   ·exact part_mode hp ho (m:={ n with mode:=1,k:=0 }) ⟨rfl,rfl,rfl,rfl⟩ rfl rfl (by simp) (by simp)
 ·split
  ·exact over_inv hp ho
  ·exact start_inv hp ho _ (fun e=>by simp at e;exact e.1)
theorem ssp_inv {n:Nd} (h:n.Inv) (hm:n.mode=9) (b:Bool):(sspN n b).2.Inv:=by
 have hp:=h.part
 have ho:n.ct.off=false:=by rw [h.off];simp;omega
 unfold sspN
 split
 ·unfold suspN
  simp only []
  split
  ·exact part_mode hp ho (m:={ n with mode:=1,k:=0 }) ⟨rfl,rfl,rfl,rfl⟩ rfl rfl (by simp) (by simp)
  ·exact part_mode hp ho (m:={ n with k:=n.k+1 }) ⟨rfl,rfl,rfl,rfl⟩ rfl rfl (by simp only [];omega) (by simp only [];omega)
 ·exact start_inv hp ho false (fun e=>by cases e)
theorem step_modes (n:Nd) (b:Bool) (hm:n.mode<=10):(n.mode=0/\nxN n b=(joinN n b).2)∨(n.mode=1/\nxN n b=(idleN n b).2)∨(n.mode=2/\nxN n b=(inN n b).2.2)∨((n.mode=3∨n.mode=5)/\nxN n b=(domN n b).2)∨(n.mode=4/\nxN n b=(pasN n b).2)∨(n.mode=6/\nxN n b=(waitN n b).2)∨(n.mode=7/\nxN n b=(closeN n b).2)∨(n.mode=8/\nxN n b=(pausN n b).2)∨(n.mode=9/\nxN n b=(sspN n b).2)∨(n.mode=10/\nxN n b=(offN n b).2):=by
 have hcases:n.mode=0∨n.mode=1∨n.mode=2∨n.mode=3∨n.mode=4∨n.mode=5∨n.mode=6∨n.mode=7∨n.mode=8∨n.mode=9∨n.mode=10:=by omega
 rcases hcases with h | h | h | h | h | h | h | h | h | h | h<;>simp [nxN,stepN,h,noFr]
theorem inv_next {n:Nd} (h:n.Inv) (b:Bool):(nxN n b).Inv:=by
 rcases step_modes n b h.mode with ⟨m,e⟩ | ⟨m,e⟩ | ⟨m,e⟩ | ⟨m,e⟩ | ⟨m,e⟩ | ⟨m,e⟩ | ⟨m,e⟩ | ⟨m,e⟩ | ⟨m,e⟩ | ⟨m,e⟩<;>rw [e]
 ·exact join_inv h m b
 ·exact idle_inv h m b
 ·exact in_inv h m b
 ·exact dom_inv h m b
 ·exact pas_inv h m b
 ·exact wait_inv h m b
 ·exact close_inv h m b
 ·exact paus_inv h m b
 ·exact ssp_inv h m b
 ·exact off_inv h m b
theorem nd0_inv:nd0.Inv:=⟨⟨fun _=>rfl,by simp [nd0],Ct.zero_ok⟩,by simp [nd0],by simp [nd0],rfl,by simp [nd0],by simp [nd0],fun e=>by cases e⟩
def KsOk (ks:List Nat):Prop:=ks=[]∨(∃ a,ks=[a])∨(∃ a,a≠1/\a≠2/\ks=[a,10])
theorem mI_same {n m:Nd} (k1:m.raw=[]↔n.raw=[]) (k2:m.nq=n.nq) (k3:m.row=[]↔n.row=[]):mI m=mI n:=by
 unfold mI wI qI
 simp only [k1,k2,k3]
theorem keep_refl (n:Nd):Keep n n:=⟨rfl,rfl,rfl,rfl⟩
theorem join_keep (n:Nd) (b:Bool):Keep n (joinN n b).2:=by
 unfold joinN;simp only [];split
 ·exact ⟨rfl,rfl,rfl,rfl⟩
 ·split<;>exact ⟨rfl,rfl,rfl,rfl⟩
theorem dom_keep (n:Nd) (b:Bool):Keep n (domN n b).2:=by
 have h:=ch_keep n 8
 unfold domN
 split
 ·simp only [];split<;>exact ⟨rfl,rfl,rfl,rfl⟩
 ·split
  ·simp only [];split<;>exact ⟨h.raw,h.nq,h.row,h.q⟩
  ·exact h
theorem dom_ks (n:Nd) (b:Bool):KsOk (domN n b).1:=by
 unfold domN
 split
 ·exact .inl rfl
 ·split
  ·exact .inr (.inl ⟨4,rfl⟩)
  ·exact .inr (.inr ⟨4,by omega,by omega,rfl⟩)
theorem pas_keep (n:Nd) (b:Bool):Keep n (pasN n b).2:=by
 have h:=ch_keep { n with k:=pasK n b,lvl:=b,owed:=false } 8
 unfold pasN
 split
 ·split
  ·simp only [];split
   ·exact ⟨h.raw,h.nq,h.row,h.q⟩
   ·exact ⟨h.raw,h.nq,h.row,h.q⟩
  ·exact ⟨h.raw,h.nq,h.row,h.q⟩
 ·simp only [];split<;>exact ⟨rfl,rfl,rfl,rfl⟩
theorem pas_ks (n:Nd) (b:Bool):KsOk (pasN n b).1:=by
 unfold pasN
 split
 ·split
  ·exact .inl rfl
  ·exact .inr (.inl ⟨10,rfl⟩)
 ·exact .inl rfl
theorem wait_keep (n:Nd) (b:Bool):Keep n (waitN n b).2:=by
 have h:=ch_keep { n with k:=n.k+1 } 8
 unfold waitN
 split
 ·exact ⟨rfl,rfl,rfl,rfl⟩
 ·split
  ·exact ⟨rfl,rfl,rfl,rfl⟩
  ·split
   ·split<;>exact ⟨h.raw,h.nq,h.row,h.q⟩
   ·exact ⟨rfl,rfl,rfl,rfl⟩
theorem wait_ks (n:Nd) (b:Bool):KsOk (waitN n b).1:=by
 unfold waitN
 split
 ·exact .inl rfl
 ·split
  ·exact .inl rfl
  ·split
   ·split
    ·exact .inl rfl
    ·exact .inr (.inl ⟨10,rfl⟩)
   ·exact .inl rfl
theorem fail_ksok (n:Nd) (kind:Nat) (c:Bool) (h1:kind≠1) (h2:kind≠2):KsOk (failN n kind c).1:=by
 rcases fail_ks n kind c with h | h
 ·exact .inr (.inl ⟨_,h⟩)
 ·exact .inr (.inr ⟨_,h1,h2,h⟩)
theorem close_keep (n:Nd) (b:Bool):Keep n (closeN n b).2:=by
 unfold closeN
 split
 ·simp only [];split<;>exact ⟨rfl,rfl,rfl,rfl⟩
 ·split
  ·exact ⟨rfl,rfl,rfl,rfl⟩
  ·exact fail_keep n 7 true
theorem close_ks (n:Nd) (b:Bool):KsOk (closeN n b).1:=by
 unfold closeN
 split
 ·exact .inl rfl
 ·split
  ·exact .inr (.inl ⟨9,rfl⟩)
  ·exact fail_ksok n 7 true (by omega) (by omega)
theorem boff_keep (n:Nd) (b:Bool):Keep n (offN n b).2:=by
 unfold offN
 split
 ·split<;>exact ⟨rfl,rfl,rfl,rfl⟩
 ·split<;>exact ⟨rfl,rfl,rfl,rfl⟩
theorem off_ks (n:Nd) (b:Bool):KsOk (offN n b).1:=by
 unfold offN
 split
 ·split
  ·exact .inr (.inl ⟨11,rfl⟩)
  ·exact .inl rfl
 ·split
  ·exact .inr (.inl ⟨11,rfl⟩)
  ·exact .inl rfl
theorem pause_keep (n:Nd):Keep n (pauseN n).2:=by
 unfold pauseN;simp only [];split
 ·exact ⟨rfl,rfl,rfl,rfl⟩
 ·split<;>exact ⟨rfl,rfl,rfl,rfl⟩
theorem susp_keep (n:Nd):Keep n (suspN n).2:=by
 unfold suspN;simp only [];split<;>exact ⟨rfl,rfl,rfl,rfl⟩
theorem map_glob (fs:List Nat) (N:Nat):(List.range fs.length).map (toGlob fs N)=fs:=by
 apply List.ext_getElem
 ·simp
 ·intro i h1 h2
  simp only [List.getElem_map,List.getElem_range]
  exact glob_old h2
theorem glob_zero {H:Heap} {a:Nat} {n:Nd} {fs:List Nat} (h:NodeAt H a n fs) (N:Nat):toGlob fs N 0=a:=by
 obtain ⟨F,rx,qx,lx,wx,h,rfl⟩:=h
 rw [glob_old (by simp [footL])];rfl
structure Around (H H2:Heap) (fs fs2:List Nat):Prop where
 len:H.length<=H2.length
 same:∀ i,i<H.length->i ∉ fs->H2[i]?=H[i]?
 new:∀ i∈fs2,i∈fs∨H.length<=i
theorem around_back {H:Heap} {a:Nat} {n:Nd} {fs:List Nat} (h:NodeAt H a n fs) {Hn:Heap} (hk:fs.length<=Hn.length) (gs:List Nat):Around H (backH H fs Hn) fs (gs.map (toGlob fs H.length)):=by
 have hnd:=nodeAt_nodup h
 have hlt:=nodeAt_lt h
 refine ⟨by rw [back_len];omega,fun i hi hf=>back_other hnd hlt hk hi hf,fun i hi=>?_⟩
 obtain ⟨j,-,rfl⟩:=mem_map.1 hi
 rcases Nat.lt_or_ge j fs.length with q | q
 ·rw [glob_old q];exact .inl (List.getElem_mem q)
 ·rw [glob_new q];exact .inr (by omega)
theorem call_back {c:Callee} {H:Heap} {a:Nat} {n:Nd} {fs:List Nat} (h:NodeAt H a n fs) (f:AVal) (xs:List AVal) (hf:flatV f=true) (hx:flatL xs=true) {P:AVal->Heap->Prop} (hc:∀ F,∃v Hn,c f (.ptr 0 0::xs) (ndH n F)=some (v,Hn)/\P v Hn) :
  ∃ v Hn,callK1 c H (some (f,[])) (some (.ptr a 0::xs,[]))=some (renV (toGlob fs H.length) v,backH H fs Hn)/\P v Hn:=by
 obtain ⟨F,e⟩:=call_at c h f xs hf hx
 obtain ⟨v,Hn,h1,h2⟩:=hc F
 refine ⟨v,Hn,?_,h2⟩
 rw [e,h1,refK_some];rfl
theorem sweep_get:∀ (H:Heap) (R:List Nat) (i j:Nat),i+j∈R->(sweep R i H)[j]?=H[j]?
 | [],_,_,_,_=>by simp [sweep]
 | e::H,R,i,0,hj=>by
  rw [sweep_cons,if_pos (by simpa using hj)];rfl
 | e :: H,R,i,j+1,hj=>by
  have ih:=sweep_get H R (i+1) j (by rwa [show i+1+j=i+(j+1) by omega])
  rw [sweep_cons]
  split
  ·simpa using ih
  ·split
   ·rename_i q
    rw [q] at ih
    simpa using ih
   ·simpa using ih
structure Ext (H:Heap) (fs:List Nat) (b:Nat) (e:Entry):Prop where
 get:H[b]?=some e
 out:b ∉ fs
theorem Ext.lt {H:Heap} {fs:List Nat} {b:Nat} {e:Entry} (h:Ext H fs b e):b<H.length:=lt_of_get h.get
def nA:Nd:={ nd0 with q:=[Fr.zero],nq:=false }
theorem mem_insP {f g:Fr} {l:List Fr}:g∈insP f l↔g=f∨g∈l:=by
 unfold insP
 have h:g∈l↔g∈l.take (ixL f l)∨g∈l.drop (ixL f l):=by rw [<- mem_append,List.take_append_drop]
 rw [h]
 simp only [mem_append,List.mem_singleton]
 constructor
 ·rintro ((q | q) | q)
  ·exact .inr (.inl q)
  ·exact .inl q
  ·exact .inr (.inr q)
 ·rintro (q | q | q)
  ·exact .inl (.inr q)
  ·exact .inl (.inl q)
  ·exact .inr q
theorem inv_put {n:Nd} (h:n.Inv) {f:Fr} (hf:f.Ok):(nputN n f).2.Inv:=by
 unfold nputN
 by_cases hc:checkP f≠0
 ·rw [if_pos hc];exact h
 ·rw [if_neg hc]
  by_cases hl:16<=n.q.length
  ·rw [if_pos hl];exact h
  ·rw [if_neg hl]
   have hc:checkP f=0:=Classical.not_not.1 hc
   refine ⟨⟨fun q=>(by cases q),?_,h.ok.ct⟩,?_,h.mode,h.off,h.rows,h.r10,fun hm=>?_⟩
   ·show (insP f n.q).length<=16
    rw [insP_len];omega
   ·intro g hg
    rcases mem_insP.1 hg with q | q
    ·rw [q];exact ⟨hf,hc⟩
    ·exact h.qv g q
   ·have hi:=h.inf hm
    refine ⟨hi.ne,hi.h0,hi.ri,hi.run,hi.r58,hi.tx,fun hs=>?_⟩
    obtain ⟨-,s2,s3,s4,s5,s6⟩:=hi.se hs
    exact ⟨rfl,mem_insP.2 (.inr s2),s3,s4,s5,s6⟩
theorem chN_k (n:Nd) (w:Nat):(chN n w).2.k=0∨(chN n w).2.k=n.k:=by
 unfold chN;split
 ·exact .inl rfl
 ·exact .inr rfl
theorem fail_k (n:Nd) (kd:Nat) (c:Bool):(failN n kd c).2.k<=n.k:=by
 have:=chN_k n 1
 unfold failN
 split
 ·split
  ·exact Nat.zero_le _
  ·show (chN n 1).2.k<=n.k;omega
 ·exact Nat.zero_le _
theorem in_k (n:Nd) (b:Bool):(inN n b).2.2.k<=n.k:=by
 have h1:∀ b,(takeN n b).2.k<=n.k:=fun b=>by rw [(take_same n b).2.2.2.2.2.1];exact Nat.le_refl _
 have h2:(takeN { n with tx:=false,sends:=false } false).2.k<=n.k:=by rw [(take_same _ false).2.2.2.2.2.1];exact Nat.le_refl _
 have h3:(nackN n).2.k<=n.k:=fail_k n 8 _
 have h4:∀ kd c,(failN n kd c).2.k<=n.k:=fail_k n
 have h5:(sentN (takeN n true).2).k<=n.k:=Nat.zero_le _
 have h6:(overN n).2.k<=n.k:=Nat.zero_le _
 unfold inN
 repeat' split
 all_goals first | exact h1 _ | exact h2 | exact h3 | exact h4 _ _ | exact h5 | exact h6 | exact Nat.zero_le _
theorem k_next (n:Nd) (b:Bool) (hm:n.mode<=10):(nxN n b).k<=n.k+1:=by
 rcases step_modes n b hm with ⟨-,e⟩ | ⟨-,e⟩ | ⟨-,e⟩ | ⟨-,e⟩ | ⟨-,e⟩ | ⟨-,e⟩ | ⟨-,e⟩ | ⟨-,e⟩ | ⟨-,e⟩ | ⟨-,e⟩<;>rw [e]
 ·unfold joinN;simp only [];repeat' split
  all_goals simp
 ·unfold idleN
  have:=fail_k { n with tx:=true } 4 true
  simp only [] at this
  repeat' split
  ·exact Nat.zero_le _
  ·simp
  ·omega
 ·have:=in_k n b;omega
 ·have:=chN_k n 8
  unfold domN
  repeat' split
  all_goals first | (simp;done) | ((try simp only []);omega)
 ·have:=chN_k { n with k:=pasK n b,lvl:=b,owed:=false } 8
  have h2:pasK n b<=n.k+1:=by unfold pasK;split<;>omega
  simp only [] at this
  unfold pasN
  repeat' split
  all_goals first | (simp;done) | ((try simp only []);omega)
 ·have:=chN_k { n with k:=n.k+1 } 8
  simp only [] at this
  unfold waitN
  repeat' split
  all_goals first | (simp;done) | ((try simp only []);omega)
 ·have:=fail_k n 7 true
  unfold closeN overN
  repeat' split
  all_goals first | (simp;done) | ((try simp only []);omega)
 ·unfold pausN pauseN overN startN
  repeat' split
  all_goals first | (simp;done) | ((try simp only []);omega)
 ·unfold sspN suspN startN
  repeat' split
  all_goals first | (simp;done) | ((try simp only []);omega)
 ·have:offK n b<=n.k+1:=by unfold offK;split<;>omega
  unfold offN
  repeat' split
  all_goals first | (simp;done) | ((try simp only []);omega)
theorem renE_id (e:Entry):renE id e=e:=by
 cases e<;>simp [renE,renL_id,renLL_id,renT_id,renM_id]
end Go.AM.R1
