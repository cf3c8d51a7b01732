/- What the functions of the program answer, walked on that machine. -/
import Derived.Test.YtkmacpimokhpgaaGreatCtl1
set_option linter.unusedVariables false
set_option linter.unusedSimpArgs false
open Go Go.AM
namespace Go.AM.R1
/-! ### The sum of 15 bits -/
theorem iand_i64_nat {x y:Nat} (hx:x<9223372036854775808) (hy:y<9223372036854775808):iand .i64 (x:Int) (y:Int)=((x &&& y:Nat):Int):=by
  have e:(BitVec.ofInt 64 (x:Int) &&& BitVec.ofInt 64 (y:Int)).toNat=x &&& y:=by
    rw [BitVec.toNat_and,BitVec.ofInt_natCast,BitVec.ofInt_natCast,BitVec.toNat_ofNat,BitVec.toNat_ofNat,Nat.mod_eq_of_lt (by omega),Nat.mod_eq_of_lt (by omega)]
  have hl:x &&& y≤x:=Nat.and_le_left
  unfold iand
  show IntKind.wrap .i64 ((BitVec.ofInt 64 (x:Int) &&& BitVec.ofInt 64 (y:Int)).toNat:Int)=_
  rw [e,wrap64 (by omega) (by omega)]
theorem ixor_i64_nat {x y:Nat} (hx:x<4611686018427387904) (hy:y<4611686018427387904):ixor .i64 (x:Int) (y:Int)=((x ^^^ y:Nat):Int):=by
  have e:(BitVec.ofInt 64 (x:Int) ^^^ BitVec.ofInt 64 (y:Int)).toNat=x ^^^ y:=by
    rw [BitVec.toNat_xor,BitVec.ofInt_natCast,BitVec.ofInt_natCast,BitVec.toNat_ofNat,BitVec.toNat_ofNat,Nat.mod_eq_of_lt (by omega),Nat.mod_eq_of_lt (by omega)]
  have hl:x ^^^ y<2 ^ 62:=Nat.xor_lt_two_pow (by omega) (by omega)
  unfold ixor
  show IntKind.wrap .i64 ((BitVec.ofInt 64 (x:Int) ^^^ BitVec.ofInt 64 (y:Int)).toNat:Int)=_
  rw [e,wrap64 (by omega) (by omega)]
theorem and_16384 {s:Nat} (h:s<32768):(s &&& 16384=0)↔s<16384:=by
  constructor
  · intro e
    apply Classical.byContradiction
    intro q
    have h1:s.testBit 14=true:=by
      rw [Nat.testBit_eq_decide_div_mod_eq];simp;omega
    have h2:(s &&& 16384).testBit 14=true:=by rw [Nat.testBit_and,h1];decide
    rw [e] at h2
    simp at h2
  · intro q
    apply Nat.eq_of_testBit_eq
    intro i
    rw [Nat.testBit_and,show 16384=2 ^ 14 from rfl,Nat.testBit_two_pow]
    by_cases h:14=i
    · subst h
      rw [Nat.testBit_lt_two_pow (show s<2 ^ 14 by omega)];simp
    · simp [h]
def c15Step (s:Nat) (b:Bool):Nat:=if decide (16384≤s) != b then (2 * s % 32768) ^^^ 17817 else 2 * s % 32768
theorem c15Step_lt (s:Nat) (b:Bool):c15Step s b<32768:=by
  unfold c15Step
  split
  · exact Nat.xor_lt_two_pow (n:=15) (by omega) (by omega)
  · omega
theorem cstep_spec (s:Nat) (h:s<32768) (b:Bool):call E (.func (.func 70) [] []) [.lit (.int .i64 s),.lit (.int .i64 (lv b))] []=some (.lit (.int .i64 (c15Step s b)),[]):=by
  rw [call_func E E70]
  have w1:IntKind.wrap .i64 ((s:Int) * 2)=((2 * s:Nat):Int):=by rw [wrap64 (by omega) (by omega)];omega
  have a1:iand .i64 ((2 * s:Nat):Int) 32767=((2 * s % 32768:Nat):Int):=by
    rw [show (32767:Int)=((32767:Nat):Int) from rfl,iand_i64_nat (by omega) (by omega),show 32767=2 ^ 15 - 1 from rfl,Nat.and_two_pow_sub_one_eq_mod]
  have a2:iand .i64 (s:Int) 16384=((s &&& 16384:Nat):Int):=by
    rw [show (16384:Int)=((16384:Nat):Int) from rfl,iand_i64_nat (by omega) (by omega)]
  have a3:ixor .i64 ((2 * s % 32768:Nat):Int) 17817=((2 * s % 32768 ^^^ 17817:Nat):Int):=by
    rw [show (17817:Int)=((17817:Nat):Int) from rfl,ixor_i64_nat (by omega) (by omega)]
  have hm:=and_16384 h
  unfold c15Step
  by_cases hs:s<16384
  · have e0:=hm.2 hs
    have hs':¬ 16384≤s:=by omega
    rw [e0] at a2
    generalize 2 * s % 32768=m at *
    generalize m ^^^ 17817=m2 at *
    generalize 2 * s=s2 at *
    simp at a2
    cases b<;>simp [go_sem,ir70,lv,w1,a1,a2,a3,hs']
  · have e0:¬ (s &&& 16384=0):=fun e=>hs (hm.1 e)
    have hs':16384≤s:=by omega
    generalize s &&& 16384=t at *
    generalize 2 * s % 32768=m at *
    generalize m ^^^ 17817=m2 at *
    generalize 2 * s=s2 at *
    cases b<;>simp [go_sem,ir70,lv,w1,a1,a2,a3,hs',e0]
def c15Go (s:Nat):List Bool→Nat
  | []=>s
  | b::l=>c15Go (c15Step s b) l
def c15L (l:List Bool):Nat:=c15Go 0 l
theorem c15Go_lt:∀ (l:List Bool) (s:Nat),s<32768→c15Go s l<32768
  | [],s,h=>h
  | b::l,s,_=>c15Go_lt l _ (c15Step_lt s b)
theorem c15L_lt (l:List Bool):c15L l<32768:=c15Go_lt l 0 (by omega)
theorem con_spec (s:Nat) (h:s<32768) (b:Bool):call E (.func (.func 69) [] [.ptr 0 0]) [.lit (.int .i64 (lv b))] [.box [.lit (.int .i64 s)]]=some (.tup [],[.box [.lit (.int .i64 (c15Step s b))]]):=by
  rw [call_func E E69]
  simp [go_sem,ir69,cstep_spec s h b,purse_eq,List.range_succ]
theorem csum_loop (m:List Bool) (hl:m.length≤1000000) (nl fu:Bool) (k:List Item) (R:Nat→Option (AVal × Heap))
    (hk:∀ (τ:Tmps) (s:Nat),lk 4 τ=.ptr 0 0→finK 0 [.tmp 2,.tmp 3] (run E 0 k τ [.box [.lit (.int .i64 (s:Int))]])=R s) :
    ∀ (d i:Nat) (s:Nat),i+d=m.length→s<32768 →
   finK 0 [.tmp 2,.tmp 3] (run E 0 (.code L43_0::.inLoop [0,4,5,12,13] L43_0::.inBlock 0::k) [(0,.imm nl fu true (m.map encLv)),(4,.ptr 0 0),(5,.func (.func 69) [] [.ptr 0 0]),(12,.lit (.int .i64 m.length)),(13,.lit (.int .i64 i))] [.box [.lit (.int .i64 s)]])=R (c15Go s (m.drop i)):=by
  intro d
  induction d with
  | zero =>
    intro i s hi hs
    have:i=m.length:=by omega
    subst this
    simp [go_sem,run_codeL E L43_0.eq_1,c15Go]
    exact hk _ _ rfl
  | succ d ih =>
    intro i s hi hs
    have hlt:i<m.length:=by omega
    have w:=wrapIdx (i:=i) (by omega)
    rw [List.drop_eq_getElem_cons hlt,c15Go]
    have ih2:=ih (i+1) (c15Step s m[i]) (by omega) (c15Step_lt _ _)
    have hc:=con_spec s hs m[i]
    generalize R _=Q at ih2 ⊢
    generalize c15Step s m[i]=s2 at *
    simp at ih2 w
    simp [go_sem,run_codeL E L43_0.eq_1,hlt,List.getElem?_eq_getElem hlt,encLv,w,hc,purse_eq,List.range_succ]
    rw [run_inLoop']
    simp [go_sem,purse_eq,List.range_succ]
    exact ih2
theorem csum_spec (m:List Bool) (hl:m.length≤1000000) (nl fu:Bool):call E (.func (.func 43) [] []) [.imm nl fu true (m.map encLv)] []=some (.tup [.lit (.int .i64 (c15L m)),.lit (.int .i64 0)],[]):=by
  rw [call_func E E43]
  have hc:=check_lv m (by omega) nl fu
  have h:=fun k hk=>csum_loop m hl nl fu k (fun n=>some (.tup [.lit (.int .i64 n),.lit (.int .i64 0)],[])) hk m.length 0 0 (by omega) (by omega)
  simp at h
  simp [go_sem,ir43,hc,purse_eq,List.range_succ]
  rw [run_inLoop']
  simp [go_sem,purse_eq,List.range_succ]
  refine h _ ?_
  intro τ s t4
  simp [go_sem,t4,purse_eq,List.range_succ]
/-! ### The lowest bits of a number -/
def bitsOf:Nat→Nat→List Bool
  | 0,_=>[]
  | w+1,n=>decide (n / 2 ^ w % 2=1)::bitsOf w n
theorem bitsOf_length:∀ w n,(bitsOf w n).length=w
  | 0,_=>rfl
  | w+1,n=>by rw [bitsOf,List.length_cons,bitsOf_length w]
theorem bof_loop (n w:Nat) (hn:n<18446744073709551616) (hw:w≤64) (k:List Item) (R:Option (AVal × Heap))
    (hk:∀ τ,lk 6 τ=.own 0 w 1 0 w→finK 0 [.tmp 4,.tmp 5] (run E 0 k τ [.arr true false false 1 ((bitsOf w n).map encLv)])=R) :
    ∀ (d i:Nat),i+d=w →
   finK 0 [.tmp 4,.tmp 5] (run E 0 (.code L68_0::.inLoop [0,1,6,16,17] L68_0::.inBlock 0::k) [(0,.lit (.int .u64 n)),(1,.lit (.int .i64 w)),(6,.own 0 w 1 0 w),(16,.lit (.int .i64 w)),(17,.lit (.int .i64 i))] [.arr true false false 1 ((List.replicate (w - i) false++bitsOf i n).map encLv)])=R:=by
  intro d
  induction d with
  | zero =>
    intro i hi
    have:i=w:=by omega
    subst this
    simp [go_sem,run_codeL E L68_0.eq_1]
    exact hk _ rfl
  | succ d ih =>
    intro i hi
    have hlt:i<w:=by omega
    have w1:=wrapIdx (i:=i) (by omega)
    have w2:IntKind.wrap .i64 ((w:Int) - 1)=(w:Int) - 1:=wrap64 (by omega) (by omega)
    have w3:IntKind.wrap .i64 ((w:Int) - 1 - (i:Int))=((w - 1 - i:Nat):Int):=by rw [wrap64 (by omega) (by omega)];omega
    have hmin:min i 64=i:=by omega
    have hp:(0:Int)<2 ^ i:=Int.pow_pos (by omega)
    have hfd:(n:Int).fdiv (2 ^ i)=((n / 2 ^ i:Nat):Int):=by rw [Int.fdiv_eq_ediv_of_nonneg _ (by omega)];simp
    have hlt64:n / 2 ^ i<18446744073709551616:=Nat.lt_of_le_of_lt (Nat.div_le_self _ _) hn
    have a1:iand .u64 ((n / 2 ^ i:Nat):Int) 1=((n / 2 ^ i % 2:Nat):Int):=by
      have e:(BitVec.ofInt 64 ((n / 2 ^ i:Nat):Int) &&& BitVec.ofInt 64 1).toNat=n / 2 ^ i % 2:=by
        rw [BitVec.toNat_and,BitVec.ofInt_natCast,BitVec.toNat_ofNat,BitVec.toNat_ofInt,show ((1:Int) % ((2 ^ 64:Nat):Int)).toNat=1 from by decide,Nat.mod_eq_of_lt (by omega),Nat.and_one_is_mod]
      unfold iand
      show IntKind.wrap .u64 ((BitVec.ofInt 64 ((n / 2 ^ i:Nat):Int) &&& BitVec.ofInt 64 1).toNat:Int)=_
      rw [e,wrap_u64 (by omega)]
    have w4:IntKind.wrap .i64 ((n / 2 ^ i % 2:Nat):Int)=lv (decide (n / 2 ^ i % 2=1)):=by
      rw [wrap64 (by omega) (by omega)]
      unfold lv
      by_cases h:n / 2 ^ i % 2=1
      · simp [h]
      · have:n / 2 ^ i % 2=0:=by omega
        simp [this]
    have hlt0:¬ (i:Int)<0:=by omega
    have hset:((List.replicate (w - i) false++bitsOf i n).map encLv).set (w - 1 - i) [.lit (.int .i64 (lv (decide (n / 2 ^ i % 2=1))))]=(List.replicate (w - (i+1)) false++bitsOf (i+1) n).map encLv:=by
      rw [show ([.lit (.int .i64 (lv (decide (n / 2 ^ i % 2=1))))]:List AVal)=encLv (decide (n / 2 ^ i % 2=1)) from rfl,← List.map_set]
      congr 1
      rw [show w - i=(w - (i+1))+1 from by omega,List.replicate_succ',List.append_assoc,show w - 1 - i=w - (i+1) from by omega,List.set_append_right _ _ (by simp)]
      simp [bitsOf]
    have hlen:((List.replicate (w - i) false++bitsOf i n).map encLv).length=w:=by simp [bitsOf_length];omega
    have hel:∀ h:w - 1 - i<((List.replicate (w - i) false++bitsOf i n).map encLv).length,(((List.replicate (w - i) false++bitsOf i n).map encLv)[w - 1 - i]'h).length=1:=by
      intro h;rw [List.getElem_map];rfl
    have ih2:=ih (i+1) (by omega)
    rw [← hset] at ih2
    have hj:w - 1 - i<w:=by omega
    generalize (List.replicate (w - i) false++bitsOf i n).map encLv=B at *
    generalize w - 1 - i=j at *
    generalize decide (n / 2 ^ i % 2=1)=bb at *
    generalize n / 2 ^ i % 2=r at *
    generalize n / 2 ^ i=q at *
    have hjB:j<B.length:=by omega
    have hBj:B[j]?=some (B[j]):=List.getElem?_eq_getElem hjB
    have he:=hel hjB
    have htl:B[j].tail=[]:=List.eq_nil_of_length_eq_zero (by rw [List.length_tail,he])
    simp at ih2 w1
    simp [go_sem,run_codeL E L68_0.eq_1,hlt,w1,w2,w3,hmin,hfd,a1,w4,hlt0,hj,hlen,hBj,hjB,he,htl,purse_eq,List.range_succ]
    rw [run_inLoop']
    simp [go_sem,purse_eq,List.range_succ]
    exact ih2
theorem bof_spec (n w:Nat) (hn:n<18446744073709551616) (hw:w≤64):call E (.func (.func 68) [] []) [.lit (.int .u64 n),.lit (.int .i64 w)] []=some (.tup [.own 0 w 1 0 w,.lit (.int .i64 0)],[.arr true false false 1 ((bitsOf w n).map encLv)]):=by
  rw [call_func E E68]
  have h0:¬ (w:Int)<0:=by omega
  have h64:¬ (64:Int)<w:=by omega
  have hb1:(w:Int)≤70368744177664:=by omega
  have hb2:(w:Int) * 8≤70368744177664:=by omega
  have h:=fun k hk=>bof_loop n w hn hw k (some (.tup [.own 0 w 1 0 w,.lit (.int .i64 0)],[.arr true false false 1 ((bitsOf w n).map encLv)])) hk w 0 (by omega)
  have hr:((List.replicate (w - 0) false++bitsOf 0 n).map encLv)=List.replicate w [.lit (.int .i64 0)]:=by simp [bitsOf,encLv,lv]
  rw [hr] at h
  simp at h
  simp [go_sem,ir68,h0,h64,hb1,hb2,purse_eq,List.range_succ]
  rw [run_inLoop']
  simp [go_sem,purse_eq,List.range_succ]
  refine h _ ?_
  intro τ t6
  simp [go_sem,t6,purse_eq,List.range_succ]
theorem cbits_spec (s:Nat) (h:s<32768):call E (.func (.func 44) [] []) [.lit (.int .i64 s)] []=some (.tup [.own 0 15 1 0 15,.lit (.int .i64 0)],[.arr true false false 1 ((bitsOf 15 s).map encLv)]):=by
  rw [call_func E E44]
  have hm:call E (.func (.func 71) [] []) [.lit (.int .i64 s)] []=some (.lit (.bool true),[]):=by
    rw [call_func E E71]
    have h1:(s:Int)≤32767:=by omega
    have h1':s≤32767:=by omega
    simp [go_sem,ir71,h1,h1']
  have w:=wrap_u64 (n:=s) (by omega)
  have ho:=bof_spec s 15 (by omega) (by omega)
  simp at ho
  simp [go_sem,ir44,hm,w,ho,purse_eq,List.range_succ]
/-! ### Equal rows -/
theorem eq_loop (l m:List Bool) (hll:l.length=m.length) (hl:l.length≤1000000) (n1 f1 n2 f2:Bool) (k:List Item) (R:Bool→Option (AVal × Heap))
    (hk:∀ τ,finK 0 [.tmp 4] (run E 0 k τ [])=R true) (hR:R false=some (.lit (.bool false),[])) :
    ∀ (d i:Nat),i+d=l.length →
   finK 0 [.tmp 4] (run E 0 (.code L113_0::.inLoop [0,1,12,13] L113_0::.inBlock 0::k) [(0,.imm n1 f1 true (l.map encLv)),(1,.imm n2 f2 true (m.map encLv)),(12,.lit (.int .i64 l.length)),(13,.lit (.int .i64 i))] [])=R (decide (l.drop i=m.drop i)):=by
  intro d
  induction d with
  | zero =>
    intro i hi
    have:i=l.length:=by omega
    subst this
    have e:decide (l.drop l.length=m.drop l.length)=true:=by rw [decide_eq_true_eq,List.drop_length,hll,List.drop_length]
    rw [e]
    simp [go_sem,run_codeL E L113_0.eq_1]
    exact hk _
  | succ d ih =>
    intro i hi
    have hlt:i<l.length:=by omega
    have hlt2:i<m.length:=by omega
    have w:=wrapIdx (i:=i) (by omega)
    rw [List.drop_eq_getElem_cons hlt,List.drop_eq_getElem_cons hlt2]
    by_cases h:l[i]=m[i]
    · have e:decide (l[i]::l.drop (i+1)=m[i]::m.drop (i+1))=decide (l.drop (i+1)=m.drop (i+1)):=decide_eq_decide.2 ⟨fun q=>(List.cons.inj q).2,fun q=>by rw [h,q]⟩
      rw [e]
      have ih2:=ih (i+1) (by omega)
      generalize R (decide (l.drop (i+1)=m.drop (i+1)))=Q at ih2 ⊢
      simp at ih2 w
      simp [go_sem,run_codeL E L113_0.eq_1,hlt,hlt2,List.getElem?_eq_getElem hlt,List.getElem?_eq_getElem hlt2,encLv,h,w,purse_eq]
      rw [run_inLoop']
      simp [go_sem,purse_eq]
      exact ih2
    · have e:decide (l[i]::l.drop (i+1)=m[i]::m.drop (i+1))=false:=decide_eq_false (fun q=>h (List.cons.inj q).1)
      rw [e,hR]
      have hne:¬ lv l[i]=lv m[i]:=by intro q;apply h;cases hx:l[i]<;>cases hy:m[i]<;>simp [hx,hy,lv] at q ⊢
      simp [go_sem,run_codeL E L113_0.eq_1,hlt,hlt2,List.getElem?_eq_getElem hlt,List.getElem?_eq_getElem hlt2,encLv,hne,w,purse_eq]
theorem sequal_spec (l m:List Bool) (hll:l.length=m.length) (hl:l.length≤1000000) (n1 f1 n2 f2:Bool):call E (.func (.func 113) [] []) [.imm n1 f1 true (l.map encLv),.imm n2 f2 true (m.map encLv)] []=some (.lit (.bool (decide (l=m))),[]):=by
  rw [call_func E E113]
  have h:=fun k hk=>eq_loop l m hll hl n1 f1 n2 f2 k (fun b=>some (.lit (.bool b),[])) hk rfl l.length 0 (by omega)
  simp at h
  simp [go_sem,ir113,hll,purse_eq]
  rw [run_inLoop']
  simp [go_sem,purse_eq]
  rw [hll] at h
  refine h _ ?_
  intro τ
  simp [go_sem]
/-- Is the sum at the end of levels theirs? -/
def rightC (m:List Bool):Bool:=decide (m.drop (m.length - 15)=bitsOf 15 (c15L (m.take (m.length - 15))))
theorem cright_spec (m:List Bool) (h15:15≤m.length) (hl:m.length≤1000000) (nl fu:Bool):call E (.func (.func 101) [] []) [.imm nl fu true (m.map encLv)] []=some (.lit (.bool (rightC m)),[]):=by
  rw [call_func E E101]
  have hc:=check_lv m (by omega) nl fu
  have w:IntKind.wrap .i64 ((m.length:Int) - 15)=((m.length - 15:Nat):Int):=by rw [wrap64 (by omega) (by omega)];omega
  have hr:=rowsLv m
  have hS:=csum_spec (m.take (m.length - 15)) (by simp;omega) nl
  have hB:=cbits_spec (c15L (m.take (m.length - 15))) (c15L_lt _)
  have hE:=fun f1 f2=>sequal_spec (m.drop (m.length - 15)) (bitsOf 15 (c15L (m.take (m.length - 15)))) (by rw [bitsOf_length,List.length_drop];omega) (by simp;omega) nl f1 false f2
  rw [List.map_take] at hS
  rw [List.map_drop] at hE
  unfold rightC
  have h0:¬ ((m.length - 15:Nat):Int)<0:=by omega
  have hle:m.length - 15≤m.length:=by omega
  have hE2:=hE
  generalize decide (m.drop (m.length - 15)=bitsOf 15 (c15L (m.take (m.length - 15))))=D at *
  generalize c15L (m.take (m.length - 15))=s at *
  generalize m.length - 15=j at *
  have hE1:=hE fu false
  have hcw:cutE ((bitsOf 15 s).map encLv) 0 15=(bitsOf 15 s).map encLv:=cutE_whole (by simp [bitsOf_length])
  simp [go_sem,ir101,hc,w,hr,hle,h0,take_allLv,bitsOf_length,hcw,hS,hB,hE1,purse_eq,List.range_succ]
end Go.AM.R1
open Go Go.AM
namespace Go.AM.R1
/-! ### Fields -/
def extF (m:List Bool):Bool:=(m[13]?).getD false
def dataF (m:List Bool):Nat:=if extF m=true then 39 else 19
def ctrlF (m:List Bool):Nat:=if extF m=true then 33 else 14
def rtrF (m:List Bool):Bool:=(m[if extF m=true then 32 else 12]?).getD false
def sizeF (m:List Bool):Nat:=min (valB ((m.take (dataF m)).drop (dataF m - 4))) 8
def sumF (m:List Bool):Nat:=if rtrF m=true then dataF m else dataF m+8 * sizeF m
def encHead (e r:Bool) (c d s:Nat):List AVal:=[.lit (.bool e),.lit (.bool r),.lit (.int .i64 c),.lit (.int .i64 d),.lit (.int .i64 s)]
theorem sumF_ge (m:List Bool):dataF m≤sumF m∧sumF m≤dataF m+64∧(dataF m=19∨dataF m=39):=by
  unfold sumF sizeF
  have:dataF m=19∨dataF m=39:=by unfold dataF;split<;>omega
  split<;>omega
theorem read1 (m:List Bool) (h:m.length≤13) (nl fu:Bool):call E (.func (.func 98) [] []) [.imm nl fu true (m.map encLv)] []=some (.tup [.agg (encHead false false 0 0 0),.lit (.bool false)],[]):=by
  rw [call_func E E98]
  have h1:(m.length:Int)≤13:=by omega
  simp [go_sem,ir98,h1,encHead,purse_eq,List.range_succ]
theorem read2 (m:List Bool) (h:14≤m.length) (h2:m.length<dataF m) (nl fu:Bool):call E (.func (.func 98) [] []) [.imm nl fu true (m.map encLv)] []=some (.tup [.agg (encHead (extF m) false (ctrlF m) (dataF m) 0),.lit (.bool false)],[]):=by
  rw [call_func E E98]
  have h1:¬ (m.length:Int)≤13:=by omega
  have h13:13<m.length:=by omega
  have e:extF m=m[13]:=by unfold extF;rw [List.getElem?_eq_getElem h13];rfl
  unfold dataF at h2
  unfold ctrlF dataF
  rw [e] at h2 ⊢
  cases hx:m[13]
  · have h3:(m.length:Int)<19:=by simp [hx] at h2;omega
    simp [go_sem,ir98,h1,h3,List.getElem?_eq_getElem h13,encLv,hx,lv,encHead,purse_eq,List.range_succ]
  · have h3:(m.length:Int)<39:=by simp [hx] at h2;omega
    simp [go_sem,ir98,h1,h3,List.getElem?_eq_getElem h13,encLv,hx,lv,encHead,purse_eq,List.range_succ]
theorem read3 (m:List Bool) (h:dataF m≤m.length) (hl:m.length≤1000000) (nl fu:Bool):call E (.func (.func 98) [] []) [.imm nl fu true (m.map encLv)] []=some (.tup [.agg (encHead (extF m) (rtrF m) (ctrlF m) (dataF m) (sizeF m)),.lit (.bool true)],[]):=by
  rw [call_func E E98]
  have hd:dataF m=19∨dataF m=39:=by unfold dataF;split<;>omega
  have h1:¬ (m.length:Int)≤13:=by omega
  have h13:13<m.length:=by omega
  have e:extF m=m[13]:=by unfold extF;rw [List.getElem?_eq_getElem h13];rfl
  have hr:=rowsLv m
  have hv:=fun fu=>value_spec ((m.take (dataF m)).drop (dataF m - 4)) (by simp;omega) nl fu
  have hvb:=valB_lt ((m.take (dataF m)).drop (dataF m - 4))
  rw [show ((m.take (dataF m)).drop (dataF m - 4)).length=4 from by simp;omega] at hvb
  rw [List.map_drop,List.map_take] at hv
  have w:IntKind.wrap .i64 (valB ((m.take (dataF m)).drop (dataF m - 4)):Int)=valB ((m.take (dataF m)).drop (dataF m - 4)):=wrap64 (by omega) (by omega)
  have hs:(if (8:Int)<(valB ((m.take (dataF m)).drop (dataF m - 4)):Int) then (8:Int) else (valB ((m.take (dataF m)).drop (dataF m - 4)):Int))=(sizeF m:Int):=by
    unfold sizeF;split<;>omega
  have hs2:(if 8<valB ((m.take (dataF m)).drop (dataF m - 4)) then (8:Int) else (valB ((m.take (dataF m)).drop (dataF m - 4)):Int))=(sizeF m:Int):=by
    unfold sizeF;split<;>omega
  have hF1:=hv (fu && decide (dataF m=m.length))
  generalize valB ((m.take (dataF m)).drop (dataF m - 4))=v at *
  generalize sizeF m=z at *
  unfold rtrF ctrlF
  have hx:extF m=true↔dataF m=39:=by unfold dataF;split<;>simp_all
  cases hxx:m[13]
  · have hd19:dataF m=19:=by rcases hd with q | q;exact q;rw [e,hxx] at hx;simp at hx;omega
    have h3:¬ (m.length:Int)<19:=by omega
    have h12:12<m.length:=by omega
    have h19:19≤m.length:=by omega
    rw [hd19] at hF1
    have e':extF m=false:=by rw [e,hxx]
    rw [e',hd19]
    have ws:IntKind.wrap .i64 15=15:=rfl
    simp [go_sem,ir98,h1,h3,List.getElem?_eq_getElem h13,List.getElem?_eq_getElem h12,encLv,hxx,lv,encHead,hr,h19,ws,hF1,w,hs,hs2,purse_eq,List.range_succ]
  · have hd39:dataF m=39:=by rw [e,hxx] at hx;simpa using hx
    have h3:¬ (m.length:Int)<39:=by omega
    have h32:32<m.length:=by omega
    have h39:39≤m.length:=by omega
    rw [hd39] at hF1
    have e':extF m=true:=by rw [e,hxx]
    rw [e',hd39]
    have ws:IntKind.wrap .i64 35=35:=rfl
    simp [go_sem,ir98,h1,h3,List.getElem?_eq_getElem h13,List.getElem?_eq_getElem h32,encLv,hxx,lv,encHead,hr,h39,ws,hF1,w,hs,hs2,purse_eq,List.range_succ]
theorem hsum_spec (e r:Bool) (c d s:Nat) (hd:d≤1000) (hs:s≤8):call E (.func (.func 99) [] []) [.agg (encHead e r c d s)] []=some (.lit (.int .i64 ((if r=true then d else d+8 * s:Nat))),[]):=by
  rw [call_func E E99]
  have w1:IntKind.wrap .i64 (8 * (s:Int))=8 * s:=wrap64 (by omega) (by omega)
  have w2:IntKind.wrap .i64 ((d:Int)+8 * (s:Int))=d+8 * s:=wrap64 (by omega) (by omega)
  cases r<;>simp [go_sem,ir99,encHead,w1,w2,purse_eq,List.range_succ]
/-- The field of the next level, and which one of it. -/
def nextF (m:List Bool):Nat × Nat :=
  if m.length=0 then (0,0)
  else if m.length≤13∨extF m=true∧m.length≤32 then (1,m.length - 1)
  else if m.length<dataF m then (2,m.length - ctrlF m)
  else if m.length<sumF m then (3,m.length - dataF m)
  else if m.length<sumF m+15 then (4,m.length - sumF m)
  else if m.length<sumF m+16 then (5,0)
  else if m.length<sumF m+17 then (6,0)
  else if m.length<sumF m+18 then (7,0)
  else if m.length<sumF m+25 then (8,m.length - (sumF m+18))
  else (9,0)
theorem next_small (m:List Bool) (h:m.length<dataF m) (nl fu:Bool):call E (.func (.func 77) [] []) [.imm nl fu true (m.map encLv)] []=some (.tup [.lit (.int .i64 (nextF m).1),.lit (.int .i64 (nextF m).2),.lit (.int .i64 0)],[]):=by
  rw [call_func E E77]
  have hd:dataF m=19∨dataF m=39:=by unfold dataF;split<;>omega
  have hc:=check_lv m (by omega) nl fu
  by_cases h0:m.length=0
  · have hr:=read1 m (by omega) nl fu
    have hn:nextF m=(0,0):=by unfold nextF;rw [if_pos h0]
    have h0':(m.length:Int)=0:=by omega
    have hm:m=[]:=List.length_eq_zero_iff.1 h0
    subst hm
    rw [hn]
    simp [encHead] at hr hc
    simp [go_sem,ir77,hc,hr,purse_eq,List.range_succ]
  · have h0':¬ (m.length:Int)=0:=by omega
    have hmn:m≠[]:=by intro q;subst q;simp at h0
    by_cases h13:m.length≤13
    · have hr:=read1 m h13 nl fu
      have hn:nextF m=(1,m.length - 1):=by unfold nextF;rw [if_neg h0,if_pos (.inl h13)]
      rw [hn]
      have h13':(m.length:Int)≤13:=by omega
      have w:IntKind.wrap .i64 ((m.length:Int) - 1)=((m.length - 1:Nat):Int):=by rw [wrap64 (by omega) (by omega)];omega
      simp [encHead] at hr
      simp [go_sem,ir77,hc,hr,hmn,h0,h13',w,purse_eq,List.range_succ]
    · have hr:=read2 m (by omega) h nl fu
      have h13':¬ (m.length:Int)≤13:=by omega
      by_cases h32:extF m=true∧m.length≤32
      · have hn:nextF m=(1,m.length - 1):=by unfold nextF;rw [if_neg h0,if_pos (.inr h32)]
        rw [hn]
        have h32':(m.length:Int)≤32:=by omega
        have w:IntKind.wrap .i64 ((m.length:Int) - 1)=((m.length - 1:Nat):Int):=by rw [wrap64 (by omega) (by omega)];omega
        simp [encHead,h32.1] at hr
        simp [go_sem,ir77,hc,hr,hmn,h0,h13',h32',w,purse_eq,List.range_succ]
      · have hn:nextF m=(2,m.length - ctrlF m):=by unfold nextF;rw [if_neg h0,if_neg (by rintro (q | q);exact h13 q;exact h32 q),if_pos h]
        rw [hn]
        have hcl:ctrlF m≤m.length:=by
          unfold ctrlF;split
          · rename_i q;have:¬ m.length≤32:=fun q2=>h32 ⟨q,q2⟩;omega
          · omega
        have w:IntKind.wrap .i64 ((m.length:Int) - (ctrlF m:Int))=((m.length - ctrlF m:Nat):Int):=by rw [wrap64 (by omega) (by omega)];omega
        cases hx:extF m
        · simp [encHead,hx] at hr
          simp [go_sem,ir77,hc,hr,hmn,h0,h13',w,purse_eq,List.range_succ]
        · have h32':¬ (m.length:Int)≤32:=by have:¬ m.length≤32:=fun q2=>h32 ⟨hx,q2⟩;omega
          simp [encHead,hx] at hr
          simp [go_sem,ir77,hc,hr,hmn,h0,h13',h32',w,purse_eq,List.range_succ]
set_option maxHeartbeats 4000000 in
theorem next_whole (m:List Bool) (h:dataF m≤m.length) (hl:m.length≤sumF m+25) (nl fu:Bool):call E (.func (.func 77) [] []) [.imm nl fu true (m.map encLv)] []=some (.tup [.lit (.int .i64 (nextF m).1),.lit (.int .i64 (nextF m).2),.lit (.int .i64 0)],[]):=by
  rw [call_func E E77]
  obtain ⟨s1,s2,hd⟩:=sumF_ge m
  have hc:=check_lv m (by omega) nl fu
  have hr:=read3 m h (by omega) nl fu
  have hS:=hsum_spec (extF m) (rtrF m) (ctrlF m) (dataF m) (sizeF m) (by omega) (by unfold sizeF;omega)
  rw [show (if rtrF m=true then dataF m else dataF m+8 * sizeF m)=sumF m from rfl] at hS
  have h0:¬ m.length=0:=by omega
  have hmn:m≠[]:=by intro q;subst q;simp at h0
  have h13:¬ (m.length:Int)≤13:=by omega
  have hx32:¬ (extF m=true∧m.length≤32):=by
    rintro ⟨q1,q2⟩
    have:dataF m=39:=by unfold dataF;rw [if_pos q1]
    omega
  have hn:nextF m=if m.length<sumF m then (3,m.length - dataF m)
      else if m.length<sumF m+15 then (4,m.length - sumF m)
      else if m.length<sumF m+16 then (5,0) else if m.length<sumF m+17 then (6,0) else if m.length<sumF m+18 then (7,0)
      else if m.length<sumF m+25 then (8,m.length - (sumF m+18)) else (9,0):=by
    unfold nextF
    rw [if_neg h0,if_neg (by rintro (q | q);omega;exact hx32 q),if_neg (by omega)]
  rw [hn]
  clear hn
  have hx32':extF m=true→¬ (m.length:Int)≤32:=fun q1 q2=>hx32 ⟨q1,by omega⟩
  clear hx32
  generalize extF m=e at *
  generalize rtrF m=r at *
  generalize ctrlF m=c at *
  generalize dataF m=d at *
  generalize sizeF m=z at *
  generalize sumF m=s at *
  have w0:IntKind.wrap .i64 ((s:Int) - (d:Int))=s - d:=wrap64 (by omega) (by omega)
  have w1:IntKind.wrap .i64 (d:Int)=d:=wrap64 (by omega) (by omega)
  have w2:IntKind.wrap .i64 ((d:Int)+((s:Int) - (d:Int)))=s:=by rw [wrap64 (by omega) (by omega)];omega
  have w3:IntKind.wrap .i64 (s:Int)=s:=wrap64 (by omega) (by omega)
  have w4:IntKind.wrap .i64 ((s:Int)+15)=s+15:=wrap64 (by omega) (by omega)
  have w5:IntKind.wrap .i64 ((s:Int)+15+1)=s+16:=by rw [wrap64 (by omega) (by omega)];omega
  have w6:IntKind.wrap .i64 ((s:Int)+16+1)=s+17:=by rw [wrap64 (by omega) (by omega)];omega
  have w7:IntKind.wrap .i64 ((s:Int)+17+1)=s+18:=by rw [wrap64 (by omega) (by omega)];omega
  have w8:IntKind.wrap .i64 ((s:Int)+18+7)=s+25:=by rw [wrap64 (by omega) (by omega)];omega
  have v3:IntKind.wrap .i64 ((m.length:Int) - (d:Int))=((m.length - d:Nat):Int):=by rw [wrap64 (by omega) (by omega)];omega
  simp [encHead] at hr hS
  have q1:IntKind.wrap .i64 1=1:=rfl
  have q2:IntKind.wrap .i64 2=2:=rfl
  have q3:IntKind.wrap .i64 3=3:=rfl
  have q4:IntKind.wrap .i64 4=4:=rfl
  have q5:IntKind.wrap .i64 5=5:=rfl
  have q6:IntKind.wrap .i64 6=6:=rfl
  have q7:IntKind.wrap .i64 7=7:=rfl
  have q8:IntKind.wrap .i64 8=8:=rfl
  have q9:IntKind.wrap .i64 9=9:=rfl
  have g0:¬ m.length<d:=by omega
  have g9:¬ (s:Int)+25<(m.length:Int):=by omega
  have vv:IntKind.wrap .i64 0=0:=rfl
  by_cases c1:m.length<s
  · simp only [if_pos c1]
    cases e
    · simp [go_sem,ir77,run_codeL E L77_0.eq_1,aop_idxV,idxVG_agg,run_inLoop',hc,hr,hS,hmn,h0,g0,q1,q2,q3,q4,q5,q6,q7,q8,q9,g9,c1,h13,w0,w1,w2,w3,w4,w5,w6,w7,w8,v3,vv,purse_eq,List.range_succ]
    · have h32:=hx32' rfl
      simp [go_sem,ir77,run_codeL E L77_0.eq_1,aop_idxV,idxVG_agg,run_inLoop',hc,hr,hS,hmn,h0,g0,q1,q2,q3,q4,q5,q6,q7,q8,q9,g9,c1,h13,h32,w0,w1,w2,w3,w4,w5,w6,w7,w8,v3,vv,purse_eq,List.range_succ]
  · simp only [if_neg c1]
    by_cases c2:m.length<s+15
    · simp only [if_pos c2]
      have d2:(m.length:Int)<(s:Int)+15:=by omega
      have vv:IntKind.wrap .i64 ((m.length:Int) - (s:Int))=((m.length - s:Nat):Int):=by rw [wrap64 (by omega) (by omega)];omega
      cases e
      · simp [go_sem,ir77,run_codeL E L77_0.eq_1,aop_idxV,idxVG_agg,run_inLoop',hc,hr,hS,hmn,h0,g0,q1,q2,q3,q4,q5,q6,q7,q8,q9,g9,c1,d2,h13,w0,w1,w2,w3,w4,w5,w6,w7,w8,v3,vv,purse_eq,List.range_succ]
      · have h32:=hx32' rfl
        simp [go_sem,ir77,run_codeL E L77_0.eq_1,aop_idxV,idxVG_agg,run_inLoop',hc,hr,hS,hmn,h0,g0,q1,q2,q3,q4,q5,q6,q7,q8,q9,g9,c1,d2,h13,h32,w0,w1,w2,w3,w4,w5,w6,w7,w8,v3,vv,purse_eq,List.range_succ]
    · simp only [if_neg c2]
      have d2:¬ (m.length:Int)<(s:Int)+15:=by omega
      by_cases c3:m.length<s+16
      · simp only [if_pos c3]
        have d3:(m.length:Int)<(s:Int)+16:=by omega
        have vv:IntKind.wrap .i64 ((m.length:Int) - ((s:Int)+15))=0:=by rw [wrap64 (by omega) (by omega)];omega
        cases e
        · simp [go_sem,ir77,run_codeL E L77_0.eq_1,aop_idxV,idxVG_agg,run_inLoop',hc,hr,hS,hmn,h0,g0,q1,q2,q3,q4,q5,q6,q7,q8,q9,g9,c1,d2,d3,h13,w0,w1,w2,w3,w4,w5,w6,w7,w8,v3,vv,purse_eq,List.range_succ]
        · have h32:=hx32' rfl
          simp [go_sem,ir77,run_codeL E L77_0.eq_1,aop_idxV,idxVG_agg,run_inLoop',hc,hr,hS,hmn,h0,g0,q1,q2,q3,q4,q5,q6,q7,q8,q9,g9,c1,d2,d3,h13,h32,w0,w1,w2,w3,w4,w5,w6,w7,w8,v3,vv,purse_eq,List.range_succ]
      · simp only [if_neg c3]
        have d3:¬ (m.length:Int)<(s:Int)+16:=by omega
        by_cases c4:m.length<s+17
        · simp only [if_pos c4]
          have d4:(m.length:Int)<(s:Int)+17:=by omega
          have vv:IntKind.wrap .i64 ((m.length:Int) - ((s:Int)+16))=0:=by rw [wrap64 (by omega) (by omega)];omega
          cases e
          · simp [go_sem,ir77,run_codeL E L77_0.eq_1,aop_idxV,idxVG_agg,run_inLoop',hc,hr,hS,hmn,h0,g0,q1,q2,q3,q4,q5,q6,q7,q8,q9,g9,c1,d2,d3,d4,h13,w0,w1,w2,w3,w4,w5,w6,w7,w8,v3,vv,purse_eq,List.range_succ]
          · have h32:=hx32' rfl
            simp [go_sem,ir77,run_codeL E L77_0.eq_1,aop_idxV,idxVG_agg,run_inLoop',hc,hr,hS,hmn,h0,g0,q1,q2,q3,q4,q5,q6,q7,q8,q9,g9,c1,d2,d3,d4,h13,h32,w0,w1,w2,w3,w4,w5,w6,w7,w8,v3,vv,purse_eq,List.range_succ]
        · simp only [if_neg c4]
          have d4:¬ (m.length:Int)<(s:Int)+17:=by omega
          by_cases c5:m.length<s+18
          · simp only [if_pos c5]
            have d5:(m.length:Int)<(s:Int)+18:=by omega
            have vv:IntKind.wrap .i64 ((m.length:Int) - ((s:Int)+17))=0:=by rw [wrap64 (by omega) (by omega)];omega
            cases e
            · simp [go_sem,ir77,run_codeL E L77_0.eq_1,aop_idxV,idxVG_agg,run_inLoop',hc,hr,hS,hmn,h0,g0,q1,q2,q3,q4,q5,q6,q7,q8,q9,g9,c1,d2,d3,d4,d5,h13,w0,w1,w2,w3,w4,w5,w6,w7,w8,v3,vv,purse_eq,List.range_succ]
            · have h32:=hx32' rfl
              simp [go_sem,ir77,run_codeL E L77_0.eq_1,aop_idxV,idxVG_agg,run_inLoop',hc,hr,hS,hmn,h0,g0,q1,q2,q3,q4,q5,q6,q7,q8,q9,g9,c1,d2,d3,d4,d5,h13,h32,w0,w1,w2,w3,w4,w5,w6,w7,w8,v3,vv,purse_eq,List.range_succ]
          · simp only [if_neg c5]
            have d5:¬ (m.length:Int)<(s:Int)+18:=by omega
            by_cases c6:m.length<s+25
            · simp only [if_pos c6]
              have d6:(m.length:Int)<(s:Int)+25:=by omega
              have vv:IntKind.wrap .i64 ((m.length:Int) - ((s:Int)+18))=((m.length - (s+18):Nat):Int):=by rw [wrap64 (by omega) (by omega)];omega
              cases e
              · simp [go_sem,ir77,run_codeL E L77_0.eq_1,aop_idxV,idxVG_agg,run_inLoop',hc,hr,hS,hmn,h0,g0,q1,q2,q3,q4,q5,q6,q7,q8,q9,g9,c1,d2,d3,d4,d5,d6,h13,w0,w1,w2,w3,w4,w5,w6,w7,w8,v3,vv,purse_eq,List.range_succ]
              · have h32:=hx32' rfl
                simp [go_sem,ir77,run_codeL E L77_0.eq_1,aop_idxV,idxVG_agg,run_inLoop',hc,hr,hS,hmn,h0,g0,q1,q2,q3,q4,q5,q6,q7,q8,q9,g9,c1,d2,d3,d4,d5,d6,h13,h32,w0,w1,w2,w3,w4,w5,w6,w7,w8,v3,vv,purse_eq,List.range_succ]
            · simp only [if_neg c6]
              have d6:¬ (m.length:Int)<(s:Int)+25:=by omega
              cases e
              · simp [go_sem,ir77,run_codeL E L77_0.eq_1,aop_idxV,idxVG_agg,run_inLoop',hc,hr,hS,hmn,h0,g0,q1,q2,q3,q4,q5,q6,q7,q8,q9,g9,c1,d2,d3,d4,d5,d6,h13,w0,w1,w2,w3,w4,w5,w6,w7,w8,v3,vv,purse_eq,List.range_succ]
              · have h32:=hx32' rfl
                simp [go_sem,ir77,run_codeL E L77_0.eq_1,aop_idxV,idxVG_agg,run_inLoop',hc,hr,hS,hmn,h0,g0,q1,q2,q3,q4,q5,q6,q7,q8,q9,g9,c1,d2,d3,d4,d5,d6,h13,h32,w0,w1,w2,w3,w4,w5,w6,w7,w8,v3,vv,purse_eq,List.range_succ]
end Go.AM.R1
open Go Go.AM
namespace Go.AM.R1
/-! ### Frames -/
structure Fr where
  id:Int
  ext:Bool
  rtr:Bool
  len:Int
  d0:Nat
  d1:Nat
  d2:Nat
  d3:Nat
  d4:Nat
  d5:Nat
  d6:Nat
  d7:Nat
  deriving DecidableEq
def u8v (c:Nat):AVal:=.lit (.int .u8 (c:Int))
def encFr (f:Fr):List AVal:=[.lit (.int .i64 f.id),.lit (.bool f.ext),.lit (.bool f.rtr),.lit (.int .i64 f.len),u8v f.d0,u8v f.d1,u8v f.d2,u8v f.d3,u8v f.d4,u8v f.d5,u8v f.d6,u8v f.d7]
def Fr.zero:Fr:=⟨0,false,false,0,0,0,0,0,0,0,0,0⟩
theorem ahead_spec (m:List Bool) (h:dataF m≤m.length) (hl:m.length≤1000000) (nl fu:Bool):call E (.func (.func 100) [] []) [.imm nl fu true (m.map encLv)] []=some (.tup [.lit (.int .i64 (sumF m)),.lit (.int .i64 0)],[]):=by
  rw [call_func E E100]
  obtain ⟨s1,s2,hd⟩:=sumF_ge m
  have hc:=check_lv m (by omega) nl fu
  have hr:=read3 m h hl nl fu
  have hS:=hsum_spec (extF m) (rtrF m) (ctrlF m) (dataF m) (sizeF m) (by omega) (by unfold sizeF;omega)
  rw [show (if rtrF m=true then dataF m else dataF m+8 * sizeF m)=sumF m from rfl] at hS
  simp [encHead] at hr hS
  simp [go_sem,ir100,hc,hr,hS,purse_eq,List.range_succ]
/-- Is the sum in levels that of those ahead? -/
def rightF (m:List Bool):Bool:=decide ((m.take (sumF m+15)).drop (sumF m)=bitsOf 15 (c15L (m.take (sumF m))))
theorem fright_spec (m:List Bool) (h:dataF m≤m.length) (h2:sumF m+15≤m.length) (hl:m.length≤1000000) (nl fu:Bool):call E (.func (.func 78) [] []) [.imm nl fu true (m.map encLv)] []=some (.tup [.lit (.bool (rightF m)),.lit (.int .i64 0)],[]):=by
  rw [call_func E E78]
  have hA:=ahead_spec m h hl nl fu
  obtain ⟨s1,s2,hd⟩:=sumF_ge m
  have w:IntKind.wrap .i64 ((sumF m:Int)+15)=((sumF m+15:Nat):Int):=by rw [wrap64 (by omega) (by omega)];omega
  have hR:=cright_spec (m.take (sumF m+15)) (by simp;omega) (by simp;omega) nl
  have e:rightC (m.take (sumF m+15))=rightF m:=by
    unfold rightC rightF
    rw [show (m.take (sumF m+15)).length - 15=sumF m from by simp;omega,List.take_take,Nat.min_eq_left (by omega)]
  rw [e,List.map_take] at hR
  have hr:=rowsLv m
  generalize rightF m=b at *
  have hlt:¬ ((m.length:Int)<((sumF m+15:Nat):Int)):=by omega
  have hlt2:¬ (m.length<sumF m+15):=by omega
  generalize sumF m+15=q at *
  simp [go_sem,ir78,hA,w,hlt2,hr,h2,hR,purse_eq,List.range_succ]
def byteF (m:List Bool) (j:Nat):Nat:=if j<(sumF m - dataF m) / 8 then valB ((m.take (dataF m+8 * (j+1))).drop (dataF m+8 * j)) else 0
def idF (m:List Bool):Nat:=if extF m=true then valB ((m.take 12).drop 1) * 262144+valB ((m.take 32).drop 14) else valB ((m.take 12).drop 1)
def frameOf (m:List Bool):Fr:=⟨idF m,extF m,rtrF m,sizeF m,byteF m 0,byteF m 1,byteF m 2,byteF m 3,byteF m 4,byteF m 5,byteF m 6,byteF m 7⟩
theorem ior_i64_add {x y:Nat} (hx:x<2048) (hy:y<2 ^ 18):ior .i64 ((x * 262144:Nat):Int) (y:Int)=((x * 262144+y:Nat):Int):=by
  have e:(BitVec.ofInt 64 ((x * 262144:Nat):Int) ||| BitVec.ofInt 64 (y:Int)).toNat=x * 262144+y:=by
    rw [BitVec.toNat_or,BitVec.ofInt_natCast,BitVec.ofInt_natCast,BitVec.toNat_ofNat,BitVec.toNat_ofNat,Nat.mod_eq_of_lt (by omega),Nat.mod_eq_of_lt (by omega)]
    have:=Nat.two_pow_add_eq_or_of_lt hy x
    rw [show (2:Nat) ^ 18=262144 from rfl] at this
    rw [Nat.mul_comm x,← this]
  unfold ior
  show IntKind.wrap .i64 ((BitVec.ofInt 64 ((x * 262144:Nat):Int) ||| BitVec.ofInt 64 (y:Int)).toNat:Int)=_
  rw [e,wrap64 (by omega) (by omega)]
/-- The cells of a frame whose first bytes are told. -/
def cellsF (m:List Bool) (a b c d:AVal) (i:Nat):List AVal:=a::b::c::d::(List.range 8).map fun j=>u8v (if j<i then valB ((m.take (dataF m+8 * (j+1))).drop (dataF m+8 * j)) else 0)
theorem cellsF_length (m a b c d i):(cellsF m a b c d i).length=12:=by simp [cellsF]
theorem cellsF_set (m:List Bool) (a b c d:AVal) (i:Nat) (hi:i<8):(cellsF m a b c d i).set (4+i) (u8v (valB ((m.take (dataF m+8 * (i+1))).drop (dataF m+8 * i))))=cellsF m a b c d (i+1):=by
  apply List.ext_getElem
  · simp [cellsF]
  · intro n h1 h2
    rw [List.getElem_set]
    match n,h1,h2 with
    | 0,_,_=>rw [if_neg (by omega)];rfl
    | 1,_,_=>rw [if_neg (by omega)];rfl
    | 2,_,_=>rw [if_neg (by omega)];rfl
    | 3,_,_=>rw [if_neg (by omega)];rfl
    | n + 4,h1,h2 =>
      simp only [cellsF,List.getElem_cons_succ,List.getElem_map,List.getElem_range]
      by_cases hn:4+i=n+4
      · have:n=i:=by omega
        subst this
        rw [if_pos hn,if_pos (by omega)]
      · rw [if_neg hn]
        by_cases q:n<i
        · rw [if_pos q,if_pos (by omega)]
        · rw [if_neg q,if_neg (by omega)]
theorem cellsF_refs (m:List Bool) (a b c d:AVal) (i:Nat) (ha:refsL [a,b,c,d]=[]):refsL (cellsF m a b c d i)=[]:=by
  unfold cellsF
  have:∀ l:List Nat,refsL (l.map fun j=>u8v (if j<i then valB ((m.take (dataF m+8 * (j+1))).drop (dataF m+8 * j)) else 0))=[]:=by
    intro l;induction l with
    | nil=>rfl
    | cons x l ihl=>rw [List.map_cons,refsL,ihl];rfl
  simp only [refsL,List.append_nil,List.append_eq_nil_iff] at ha ⊢
  exact ⟨ha.1,ha.2.1,ha.2.2.1,ha.2.2.2,this _⟩
theorem cellsF_ren (m:List Bool) (a b c d:AVal) (i:Nat) (ha:∀ f,renL f [a,b,c,d]=[a,b,c,d]) (f:Nat→Nat):renL f (cellsF m a b c d i)=cellsF m a b c d i:=by
  unfold cellsF
  have:∀ l:List Nat,renL f (l.map fun j=>u8v (if j<i then valB ((m.take (dataF m+8 * (j+1))).drop (dataF m+8 * j)) else 0))=l.map fun j=>u8v (if j<i then valB ((m.take (dataF m+8 * (j+1))).drop (dataF m+8 * j)) else 0):=by
    intro l;induction l with
    | nil=>rfl
    | cons x l ihl=>rw [List.map_cons,renL,ihl];rfl
  have h:=ha f
  simp only [renL,List.cons.injEq,and_true] at h ⊢
  exact ⟨h.1,h.2.1,h.2.2.1,h.2.2.2,this _⟩
theorem frame_loop (m:List Bool) (nb:Nat) (hnb:nb≤8) (hd:dataF m≤39) (hm:dataF m+8 * nb≤m.length) (hl:m.length≤1000000) (nl fu:Bool) (e r:Bool) (cc z:Nat) (Z:List AVal) (a b c d:AVal) (k:List Item) (R:List AVal→Option (AVal × Heap))
    (hk:∀ τ cs,cs.length=12→refsL cs=[]→(∀ f,renL f cs=cs)→lk 2 τ=.ptr 0 0→lk 8 τ=.ptr 2 0→finK 0 [.cell 2 true 12,.tmp 3] (run E 0 k τ [.box Z,.box (encHead e r cc (dataF m) z),.box cs])=R cs) (hZ:refsL Z=[]) (ha:refsL [a,b,c,d]=[]) (hra:∀ f,renL f [a,b,c,d]=[a,b,c,d]) :
    ∀ (q i:Nat),i+q=nb →
   finK 0 [.cell 2 true 12,.tmp 3] (run E 0 (.code L104_0::.inLoop [0,2,6,8,61,62] L104_0::.inBlock 1::k) [(0,.imm nl fu true (m.map encLv)),(2,.ptr 0 0),(6,.ptr 1 0),(8,.ptr 2 0),(61,.lit (.int .i64 nb)),(62,.lit (.int .i64 i))] [.box Z,.box (encHead e r cc (dataF m) z),.box (cellsF m a b c d i)])=R (cellsF m a b c d nb):=by
  intro q
  induction q with
  | zero =>
    intro i hi
    have:i=nb:=by omega
    subst this
    simp [go_sem,run_codeL E L104_0.eq_1]
    exact hk _ _ (cellsF_length ..) (cellsF_refs _ _ _ _ _ _ ha) (cellsF_ren _ _ _ _ _ _ hra) rfl rfl
  | succ q ih =>
    intro i hi
    have hlt:i<nb:=by omega
    have w:=wrapIdx (i:=i) (by omega)
    have ih2:=ih (i+1) (by omega)
    rw [← cellsF_set m a b c d i (by omega)] at ih2
    have hcl:=cellsF_length m a b c d i
    have hv:=fvalue_spec ((m.take (dataF m+8 * (i+1))).drop (dataF m+8 * i)) (by simp;omega) nl
    have hvb:=valB_lt ((m.take (dataF m+8 * (i+1))).drop (dataF m+8 * i))
    rw [show ((m.take (dataF m+8 * (i+1))).drop (dataF m+8 * i)).length=8 from by simp;omega] at hvb
    rw [List.map_drop,List.map_take] at hv
    have hr:=rowsLv m
    have h1:dataF m+8 * i≤dataF m+8 * (i+1):=by omega
    have h2:dataF m+8 * (i+1)≤m.length:=by omega
    have w1:IntKind.wrap .i64 (8 * (i:Int))=8 * i:=wrap64 (by omega) (by omega)
    have w2:IntKind.wrap .i64 ((dataF m:Int)+8 * (i:Int))=((dataF m+8 * i:Nat):Int):=by rw [wrap64 (by omega) (by omega)];omega
    have w3:IntKind.wrap .i64 (8 * ((i:Int)+1))=8 * ((i:Int)+1):=wrap64 (by omega) (by omega)
    have w4:IntKind.wrap .i64 ((dataF m:Int)+8 * ((i:Int)+1))=((dataF m+8 * (i+1):Nat):Int):=by rw [wrap64 (by omega) (by omega)];omega
    have hrc:=cellsF_refs m a b c d i ha
    generalize valB ((m.take (dataF m+8 * (i+1))).drop (dataF m+8 * i))=v at *
    have w5:IntKind.wrap .u8 (v:Int)=(v:Int):=by rw [wrap8,Nat.mod_eq_of_lt (by omega)]
    generalize cellsF m a b c d nb=Cn at *
    generalize cellsF m a b c d i=cs at *
    have hi8:i<8:=by omega
    have hov:List.take (4+i) cs++u8v v::List.drop (4+i+1) cs=cs.set (4+i) (u8v v):=by
      rw [List.set_eq_take_append_cons_drop,if_pos (by omega)]
    have hle12:4+i+1≤12:=by omega
    have hrs:refsL (cs.set (4+i) (u8v v))=[]:=by
      have:∀ (l:List AVal) (n:Nat),refsL l=[]→refsL (l.set n (u8v v))=[]:=by
        intro l;induction l with
        | nil=>intro n _;rfl
        | cons x l ihl =>
          intro n hx
          rw [refsL,List.append_eq_nil_iff] at hx
          cases n with
          | zero=>rw [List.set_cons_zero,refsL,hx.2];rfl
          | succ n=>rw [List.set_cons_succ,refsL,ihl n hx.2,hx.1];rfl
      exact this _ _ hrc
    generalize dataF m+8 * (i+1)=hi1 at *
    generalize dataF m+8 * i=lo1 at *
    simp [encHead] at ih2 w
    simp [encHead] at hk
    simp only [u8v] at hov hrs ih2
    simp [go_sem,run_codeL E L104_0.eq_1,hlt,encHead,w,w1,w2,w3,w4,w5,hr,h1,h2,hv,hi8,hcl,hov,hle12,hZ,purse_eq,List.range_succ]
    rw [run_inLoop']
    simp [go_sem,purse_eq,List.range_succ,hZ,hrs]
    exact ih2
theorem fframe_spec (m:List Bool) (h:dataF m≤m.length) (h2:sumF m≤m.length) (h0:m[0]?=some false) (hl:m.length≤1000000) (nl fu:Bool):call E (.func (.func 104) [] []) [.imm nl fu true (m.map encLv)] []=some (.tup [.agg (encFr (frameOf m)),.lit (.int .i64 0)],[]):=by
  rw [call_func E E104]
  obtain ⟨s1,s2,hd⟩:=sumF_ge m
  have hA:=ahead_spec m h hl nl fu
  have hR:=read3 m h hl nl fu
  have hr:=rowsLv m
  have hlt:¬ ((m.length:Int)<(sumF m:Int)):=by omega
  have hlt2:¬ (m.length<sumF m):=by omega
  have h0l:0<m.length:=by omega
  have h0g:m[0]'h0l=false:=by rw [List.getElem?_eq_getElem h0l] at h0;exact Option.some.inj h0
  have h12:12≤m.length:=by omega
  have hv1:=fun fu=>fvalue_spec ((m.take 12).drop 1) (by simp;omega) nl fu
  have hb1:=valB_lt ((m.take 12).drop 1)
  rw [show ((m.take 12).drop 1).length=11 from by simp;omega] at hb1
  rw [List.map_drop,List.map_take] at hv1
  have w1:IntKind.wrap .i64 ((sumF m:Int) - (dataF m:Int))=((sumF m - dataF m:Nat):Int):=by rw [wrap64 (by omega) (by omega)];omega
  have w2:IntKind.wrap .i64 ((((sumF m - dataF m:Nat):Int)).tdiv 8)=(((sumF m - dataF m) / 8:Nat):Int):=by
    rw [Int.tdiv_eq_ediv_of_nonneg (by omega),wrap64 (by omega) (by omega)];omega
  have w2':IntKind.wrap .i64 (((sumF m - dataF m:Nat):Int) / 8)=(((sumF m - dataF m) / 8:Nat):Int):=by
    rw [wrap64 (by omega) (by omega)];omega
  have hx:extF m=true↔dataF m=39:=by unfold dataF;split<;>simp_all
  have hFo:∀ a,encFr (frameOf m)=a→a=cellsF m (.lit (.int .i64 (idF m))) (.lit (.bool (extF m))) (.lit (.bool (rtrF m))) (.lit (.int .i64 (sizeF m))) ((sumF m - dataF m) / 8):=fun a ha=>by rw [← ha];rfl
  have hE:=hFo _ rfl
  rw [hE]
  clear hFo hE
  have hloop:=fun a=>frame_loop m ((sumF m - dataF m) / 8) (by omega) (by omega) (by omega) hl nl fu (extF m) (rtrF m) (ctrlF m) (sizeF m) (encFr Fr.zero) a (.lit (.bool (extF m))) (.lit (.bool (rtrF m))) (.lit (.int .i64 (sizeF m)))
  have wq0:IntKind.wrap .u8 0=0:=rfl
  have hc0:∀ a b c d,cellsF m a b c d 0=[a,b,c,d,u8v 0,u8v 0,u8v 0,u8v 0,u8v 0,u8v 0,u8v 0,u8v 0]:=by
    intro a b c d
    simp [cellsF,List.range_succ]
  have hcl:=cellsF_length m (.lit (.int .i64 (idF m))) (.lit (.bool (extF m))) (.lit (.bool (rtrF m))) (.lit (.int .i64 (sizeF m))) ((sumF m - dataF m) / 8)
  by_cases hxx:extF m=true
  · have h39:=hx.1 hxx
    have h32:32≤m.length:=by omega
    have hv2:=fun fu=>fvalue_spec ((m.take 32).drop 14) (by simp;omega) nl fu
    have hb2:=valB_lt ((m.take 32).drop 14)
    rw [show ((m.take 32).drop 14).length=18 from by simp;omega] at hb2
    rw [List.map_drop,List.map_take] at hv2
    have w3:IntKind.wrap .i64 ((valB ((m.take 12).drop 1):Int) * 262144)=((valB ((m.take 12).drop 1) * 262144:Nat):Int):=by rw [wrap64 (by omega) (by omega)];omega
    have ho:=ior_i64_add (x:=valB ((m.take 12).drop 1)) (y:=valB ((m.take 32).drop 14)) (by omega) hb2
    have hid:idF m=valB ((m.take 12).drop 1) * 262144+valB ((m.take 32).drop 14):=by unfold idF;rw [if_pos hxx]
    rw [hid] at hcl ⊢
    have hloop:=fun k hk=>hloop (.lit (.int .i64 ((valB ((m.take 12).drop 1) * 262144+valB ((m.take 32).drop 14):Nat):Int))) k (fun cs=>some (.tup [.agg cs,.lit (.int .i64 0)],[])) hk rfl rfl (fun _=>rfl) ((sumF m - dataF m) / 8) 0 (by omega)
    simp only [hc0] at hloop
    generalize valB ((m.take 12).drop 1) * 262144+valB ((m.take 32).drop 14)=idv at *
    generalize valB ((m.take 12).drop 1) * 262144=idu at *
    generalize valB ((m.take 12).drop 1)=ida at *
    generalize valB ((m.take 32).drop 14)=idb at *
    generalize (sumF m - dataF m) / 8=nb at *
    generalize sumF m - dataF m=sd at *
    simp only [encFr,Fr.zero,encHead,hxx,u8v] at hR hloop ⊢
    simp [hxx] at hloop
    simp only [List.drop_one] at hv1
    simp [go_sem,ir104,hA,hR,hr,hlt2,hxx,h32,h0,h0g,encLv,lv,h12,hv1,w1,w2,w2',hv2,w3,ho, purse_eq,List.range_succ]
    rw [run_inLoop']
    simp [go_sem,purse_eq,List.range_succ]
    refine hloop _ ?_
    intro τ cs hcs hrcs hrn t2 t8
    have htk:List.take 12 cs=cs:=List.take_of_length_le (by omega)
    simp [go_sem,t2,t8,hcs,hrcs,htk,hrn,purse_eq,List.range_succ]
  · have hid:idF m=valB ((m.take 12).drop 1):=by unfold idF;rw [if_neg hxx]
    have hxx:extF m=false:=by simpa using hxx
    rw [hid] at hcl ⊢
    have hloop:=fun k hk=>hloop (.lit (.int .i64 (valB ((m.take 12).drop 1):Int))) k (fun cs=>some (.tup [.agg cs,.lit (.int .i64 0)],[])) hk rfl rfl (fun _=>rfl) ((sumF m - dataF m) / 8) 0 (by omega)
    simp only [hc0] at hloop
    generalize valB ((m.take 12).drop 1)=ida at *
    generalize (sumF m - dataF m) / 8=nb at *
    generalize sumF m - dataF m=sd at *
    simp only [encFr,Fr.zero,encHead,hxx,u8v] at hR hloop ⊢
    simp [hxx] at hloop
    simp only [List.drop_one] at hv1
    simp [go_sem,ir104,hA,hR,hr,hlt2,hxx,h0,h0g,encLv,lv,h12,hv1,w1,w2,w2', purse_eq,List.range_succ]
    rw [run_inLoop']
    simp [go_sem,purse_eq,List.range_succ]
    refine hloop _ ?_
    intro τ cs hcs hrcs hrn t2 t8
    have htk:List.take 12 cs=cs:=List.take_of_length_le (by omega)
    simp [go_sem,t2,t8,hcs,hrcs,htk,hrn,purse_eq,List.range_succ]
end Go.AM.R1
open Go Go.AM
namespace Go.AM.R1
/-! ### A watcher -/
structure Wt where
  raw:List Bool
  last:Bool
  run:Nat
  acked:Bool
  tick:Nat
  ones:Nat
  on:Bool
  frm:Nat
def Wt.cells (w:Wt) (rv:AVal):List AVal:=[rv,.lit (.int .i64 (lv w.last)),.lit (.int .i64 w.run),.lit (.bool w.acked),.lit (.int .i64 w.tick),.lit (.int .i64 w.ones),.lit (.bool w.on),.lit (.int .i64 w.frm)]
/-- What a level is to a frame, and the taker behind it. -/
def takeP (w:Wt) (b:Bool):Nat × Wt :=
  if w.run=5 then (if b=w.last then (1,w) else (0,{ w with last:=b,run:=1 }))
  else
    let kind:=(nextF w.raw).1
    let w1:=if 4<kind then { w with run:=0 } else if 0<w.run∧b=w.last then { w with run:=w.run+1 } else { w with last:=b,run:=1 }
    if kind=6 then (0,{ w1 with acked:=!b,raw:=w.raw++[b] })
    else if (kind=5∧rightF w.raw=false)∨(4<kind∧b=false) then (1,w1)
    else if kind=8∧(nextF w.raw).2=5 then (2,w1)
    else (0,{ w1 with raw:=w.raw++[b] })
def RawOk (m:List Bool):Prop:=m.length≤1000∧(dataF m≤m.length→m.length≤sumF m+25)
theorem fnext_spec (m:List Bool) (h:RawOk m) (nl fu:Bool):call E (.func (.func 77) [] []) [.imm nl fu true (m.map encLv)] []=some (.tup [.lit (.int .i64 (nextF m).1),.lit (.int .i64 (nextF m).2),.lit (.int .i64 0)],[]):=by
  rcases Nat.lt_or_ge m.length (dataF m) with q | q
  · exact next_small m q nl fu
  · exact next_whole m q (h.2 q) nl fu
theorem nextF_le (m:List Bool):(nextF m).1≤9:=by
  unfold nextF
  repeat (first | split | omega)
end Go.AM.R1
open Go Go.AM
namespace Go.AM.R1
structure Sg where
  kind:Nat
  frm:Nat
  to:Nat
  frame:Fr
  acked:Bool
  deriving DecidableEq
def startP (w:Wt) (b:Bool):Wt:=if w.on=false∧b=false∧10≤w.ones then { w with on:=true,frm:=w.tick,raw:=[],last:=false,run:=0,acked:=false } else w
def countP (w:Wt) (b:Bool):Wt:={ w with ones:=if b=true then w.ones+1 else 0,tick:=w.tick+1 }
def endP (r:Nat × Wt):Option Sg × Wt :=
  if r.1=0 then (none,r.2)
  else if r.1=2 then (some ⟨1,r.2.frm,r.2.tick,frameOf r.2.raw,r.2.acked⟩,{ r.2 with on:=false })
  else (some ⟨2,r.2.frm,r.2.tick,Fr.zero,false⟩,{ r.2 with on:=false })
def seeP (w:Wt) (b:Bool):Option Sg × Wt :=
  if (startP w b).on=false then (none,countP (startP w b) b) else endP (takeP (countP (startP w b) b) b)
structure WOk (w:Wt):Prop where
  run:w.run≤5
  tick:w.tick≤1000000
  ones:w.ones≤1000000
  raw:w.on=true→w.raw≠[]∧w.raw[0]?=some false∧RawOk w.raw
theorem takeP_raw (w:Wt) (b:Bool) (h:w.raw≠[]):(takeP w b).2.raw≠[]:=by
  unfold takeP
  split
  · split<;>exact h
  · simp only []
    split
    · simp
    · split
      · split
        · exact h
        · split<;>exact h
      · split
        · split
          · exact h
          · split<;>exact h
        · simp
theorem takeP_keep (w:Wt) (b:Bool):(takeP w b).2.frm=w.frm∧(takeP w b).2.tick=w.tick∧(takeP w b).2.on=w.on∧(takeP w b).2.ones=w.ones:=by
  have h1:∀ (c d:Prop) [Decidable c] [Decidable d] (x y z:Wt),(x.frm=w.frm∧x.tick=w.tick∧x.on=w.on∧x.ones=w.ones)→(y.frm=w.frm∧y.tick=w.tick∧y.on=w.on∧y.ones=w.ones)→(z.frm=w.frm∧z.tick=w.tick∧z.on=w.on∧z.ones=w.ones) →
      ((if c then x else if d then y else z).frm=w.frm∧(if c then x else if d then y else z).tick=w.tick∧(if c then x else if d then y else z).on=w.on∧(if c then x else if d then y else z).ones=w.ones):=by
    intro c d _ _ x y z hx hy hz
    split
    · exact hx
    · split
      · exact hy
      · exact hz
  unfold takeP
  split
  · split<;>exact ⟨rfl,rfl,rfl,rfl⟩
  · simp only []
    split
    · exact h1 _ _ _ _ _ ⟨rfl,rfl,rfl,rfl⟩ ⟨rfl,rfl,rfl,rfl⟩ ⟨rfl,rfl,rfl,rfl⟩
    · split
      · exact h1 _ _ _ _ _ ⟨rfl,rfl,rfl,rfl⟩ ⟨rfl,rfl,rfl,rfl⟩ ⟨rfl,rfl,rfl,rfl⟩
      · split
        · exact h1 _ _ _ _ _ ⟨rfl,rfl,rfl,rfl⟩ ⟨rfl,rfl,rfl,rfl⟩ ⟨rfl,rfl,rfl,rfl⟩
        · exact h1 _ _ _ _ _ ⟨rfl,rfl,rfl,rfl⟩ ⟨rfl,rfl,rfl,rfl⟩ ⟨rfl,rfl,rfl,rfl⟩
end Go.AM.R1
open Go Go.AM
namespace Go.AM.R1
/-! ### What holds of a watcher -/
def RawIn (m:List Bool):Prop:=dataF m≤m.length→m.length≤sumF m+23
theorem RawIn.ok {m:List Bool} (h:RawIn m):RawOk m:=by
  have h1:=sumF_ge m
  have h2:dataF m≤m.length→m.length≤sumF m+23:=h
  refine ⟨?_,fun q=>by have:=h2 q;omega⟩
  rcases Nat.lt_or_ge m.length (dataF m) with q | q
  · omega
  · have:=h2 q;omega
theorem extF_append {m:List Bool} (h:14≤m.length) (r:List Bool):extF (m++r)=extF m:=by
  unfold extF;rw [List.getElem?_append_left (by omega)]
theorem dataF_append {m:List Bool} (h:dataF m≤m.length) (r:List Bool):dataF (m++r)=dataF m:=by
  have h1:=sumF_ge m
  unfold dataF;rw [extF_append (by omega)]
theorem sumF_append {m:List Bool} (h:dataF m≤m.length) (r:List Bool):sumF (m++r)=sumF m:=by
  have h1:=sumF_ge m
  have hx:extF (m++r)=extF m:=extF_append (by omega) r
  have hd:=dataF_append h r
  have hd2:extF m=true→dataF m=39:=fun q=>by unfold dataF;rw [if_pos q]
  have hr:rtrF (m++r)=rtrF m:=by
    unfold rtrF;rw [hx,List.getElem?_append_left (by split;rename_i q;have:=hd2 q;omega;omega)]
  have hs:sizeF (m++r)=sizeF m:=by
    unfold sizeF;rw [hd,List.take_append_of_le_length h]
  unfold sumF;rw [hr,hd,hs]
theorem rawIn_one (b:Bool):RawIn [b]:=by
  intro h
  have:=(sumF_ge [b]).2.2
  simp at h;omega
theorem rawIn_append {m:List Bool} (h:RawIn m) (hn:¬ (dataF m≤m.length∧m.length=sumF m+23)) (b:Bool):RawIn (m++[b]):=by
  intro q
  rcases Nat.lt_or_ge m.length (dataF m) with h1 | h1
  · have h2:=sumF_ge (m++[b])
    rw [List.length_append] at q ⊢
    simp only [List.length_singleton] at *
    rcases Nat.lt_or_ge m.length 14 with h3 | h3
    · have:=(sumF_ge (m++[b])).2.2;omega
    · have hx:dataF (m++[b])=dataF m:=by unfold dataF;rw [extF_append h3]
      rw [hx] at q h2
      omega
  · have h2:=h h1
    rw [sumF_append h1]
    simp;omega
theorem nextF_end {m:List Bool} (h:dataF m≤m.length) (h2:m.length=sumF m+23):nextF m=(8,5):=by
  have h3:=sumF_ge m
  unfold nextF
  rw [if_neg (by omega),if_neg (by
    rintro (q | ⟨q1,q2⟩)
    · omega
    · have:dataF m=39:=by unfold dataF;rw [if_pos q1]
      omega),if_neg (by omega),if_neg (by omega),if_neg (by omega),if_neg (by omega),if_neg (by omega),if_neg (by omega),if_pos (by omega)]
  congr 1;omega
structure WI (i:Nat) (w:Wt):Prop where
  run:w.run≤5
  tick:w.tick=i
  ones:w.ones≤i
  raw:w.on=true→w.raw≠[]∧w.raw[0]?=some false∧RawIn w.raw
theorem WI.ok {i:Nat} {w:Wt} (h:WI i w) (hi:i≤1000000):WOk w:=by
  obtain ⟨h1,h2,h3,h4⟩:=h
  exact ⟨h1,by omega,by omega,fun q=>⟨(h4 q).1,(h4 q).2.1,(h4 q).2.2.ok⟩⟩
theorem takeP_run (w:Wt) (b:Bool) (h:w.run≤5):(takeP w b).2.run≤5:=by
  have h1:∀ (c d:Prop) [Decidable c] [Decidable d] (x y z:Wt),(c→x.run≤5)→(d→y.run≤5)→z.run≤5→(if c then x else if d then y else z).run≤5:=by
    intro c d _ _ x y z hx hy hz
    split
    · rename_i q;exact hx q
    · split
      · rename_i q;exact hy q
      · exact hz
  unfold takeP
  split
  · split
    · exact h
    · show 1≤5;omega
  · rename_i hn
    have:∀ x y z:Wt,x.run=0→y.run=w.run+1→z.run=1→(if 4<(nextF w.raw).1 then x else if 0<w.run∧b=w.last then y else z).run≤5:=fun x y z hx hy hz=>h1 _ _ _ _ _ (fun _=>by omega) (fun _=>by omega) (by omega)
    simp only []
    split
    · exact this _ _ _ rfl rfl rfl
    · split
      · exact this _ _ _ rfl rfl rfl
      · split
        · exact this _ _ _ rfl rfl rfl
        · exact this _ _ _ rfl rfl rfl
theorem takeP_app (w:Wt) (b:Bool):(takeP w b).2.raw=w.raw∨((takeP w b).1=0∧(takeP w b).2.raw=w.raw++[b]∧nextF w.raw≠(8,5)):=by
  have h1:∀ (c d:Prop) [Decidable c] [Decidable d] (x y z:Wt),x.raw=w.raw→y.raw=w.raw→z.raw=w.raw→(if c then x else if d then y else z).raw=w.raw:=by
    intro c d _ _ x y z hx hy hz
    split
    · exact hx
    · split
      · exact hy
      · exact hz
  unfold takeP
  split
  · split<;>exact .inl rfl
  · simp only []
    split
    · rename_i q
      exact .inr ⟨rfl,rfl,fun e=>by rw [e] at q;simp at q⟩
    · split
      · exact .inl (h1 _ _ _ _ _ rfl rfl rfl)
      · split
        · exact .inl (h1 _ _ _ _ _ rfl rfl rfl)
        · rename_i q
          exact .inr ⟨rfl,rfl,fun e=>q ⟨by rw [e],by rw [e]⟩⟩
theorem WI.see {i:Nat} {w:Wt} (h:WI i w) (b:Bool):WI (i+1) (seeP w b).2:=by
  obtain ⟨h1,h2,h3,h4⟩:=h
  by_cases hst:w.on=false∧b=false∧10≤w.ones
  · have e:startP w b={ w with on:=true,frm:=w.tick,raw:=[],last:=false,run:=0,acked:=false }:=by unfold startP;rw [if_pos hst]
    obtain ⟨q1,q2,q3⟩:=hst
    subst q2
    unfold seeP
    rw [e]
    simp only [countP,endP,takeP,show nextF []=(0,0) from rfl]
    simp
    exact ⟨by simp,by simp [h2],by simp,by intro _;exact ⟨by simp,rfl,rawIn_one false⟩⟩
  · have e:startP w b=w:=by unfold startP;rw [if_neg hst]
    unfold seeP
    rw [e]
    have ho:(countP w b).ones≤i+1:=by
      unfold countP;simp only [];split<;>omega
    by_cases hon:w.on=false
    · rw [if_pos hon]
      exact ⟨h1,by show w.tick+1=i+1;omega,ho,fun q=>by have:w.on=true:=q;rw [hon] at this;cases this⟩
    · rw [if_neg hon]
      have hon:w.on=true:=by simpa using hon
      obtain ⟨r1,r2,r3⟩:=h4 hon
      have hk:=takeP_keep (countP w b) b
      have hr:=takeP_run (countP w b) b h1
      have ha:=takeP_app (countP w b) b
      have hne:=takeP_raw (countP w b) b r1
      have hraw:(takeP (countP w b) b).2.raw[0]?=some false∧RawIn (takeP (countP w b) b).2.raw:=by
        rcases ha with e | ⟨-,e,en⟩
        · rw [e];exact ⟨r2,r3⟩
        · rw [e]
          refine ⟨?_,rawIn_append r3 (fun q=>en (nextF_end q.1 q.2)) b⟩
          show (w.raw++[b])[0]?=_
          rw [List.getElem?_append_left (List.length_pos_iff.2 r1)];exact r2
      have ht:(countP w b).tick=i+1:=by show w.tick+1=i+1;omega
      unfold endP
      split
      · exact ⟨hr,by rw [hk.2.1];exact ht,by rw [hk.2.2.2];exact ho,fun _=>⟨hne,hraw⟩⟩
      · split
        · exact ⟨hr,by show (takeP (countP w b) b).2.tick=_;rw [hk.2.1];exact ht,by show (takeP (countP w b) b).2.ones≤_;rw [hk.2.2.2];exact ho,fun q=>by cases q⟩
        · exact ⟨hr,by show (takeP (countP w b) b).2.tick=_;rw [hk.2.1];exact ht,by show (takeP (countP w b) b).2.ones≤_;rw [hk.2.2.2];exact ho,fun q=>by cases q⟩
/-- What is seen of levels. -/
def sgGo (w:Wt):List Bool→List Sg
  | []=>[]
  | b::m=>(match (seeP w b).1 with | none=>[] | some s=>[s])++sgGo (seeP w b).2 m
end Go.AM.R1
open Go Go.AM
namespace Go.AM.R1
/-! ### All that is seen -/
end Go.AM.R1
open Go Go.AM
namespace Go.AM.R1
/-! ### The frames of what is seen -/
end Go.AM.R1
open Go Go.AM
namespace Go.AM.R1

/-! ### log.Scan: the walk -/
end Go.AM.R1
open Go Go.AM
namespace Go.AM.R1

end Go.AM.R1
open Go Go.AM
namespace Go.AM.R1

/-! ### The document's Scan -/
end Go.AM.R1
open Go Go.AM
namespace Go.AM.R1

/-! ### The blocks of bytes -/
end Go.AM.R1
open Go Go.AM
namespace Go.AM.R1

/-! ### What the machine does that was not needed before -/
def appZK (fl:Bool) (sz bytes:Nat) (zero:List AVal) (H:Heap) (s:AVal):AVal→Option (AVal × Heap)
  | .lit (.int .i64 l)=>if 0≤l∧l≤2 ^ 46∧l * bytes≤2 ^ 46 then aadd fl sz bytes H s (flatL zero) (List.replicate l.toNat zero) else none
  | _=>none
theorem aop_appendZ {c:Callee} {ρ:Opd→AVal} {H:Heap} (fl sz b z s n):aop c ρ H (.appendZ fl sz b z s n)=appZK fl sz b z H (ρ s) (ρ n):=by
  unfold aop appZK;rfl
theorem appZK_int (fl:Bool) (sz bytes:Nat) (zero:List AVal) (H:Heap) (s:AVal) (l:Int):appZK fl sz bytes zero H s (.lit (.int .i64 l))=if 0≤l∧l≤2 ^ 46∧l * bytes≤2 ^ 46 then aadd fl sz bytes H s (flatL zero) (List.replicate l.toNat zero) else none:=rfl
def capK (H:Heap):AVal→Option (AVal × Heap)
  | .imm _ true _ es=>some (vint .i64 es.length,H)
  | _=>none
theorem aop_cap {c:Callee} {ρ:Opd→AVal} {H:Heap} (x):aop c ρ H (.cap x)=capK H (ρ x):=by
  unfold aop capK;rfl
theorem capK_imm (H:Heap) (n fl es):capK H (.imm n true fl es)=some (vint .i64 es.length,H):=rfl
def cutK (sz:Nat) (H:Heap) (i len off n lo h m:Nat):Option Entry→Option (AVal × Heap)
  | some (.arr fl lk _ se es)=>if es.length=len∧se=sz∧off=0∧n=len∧lo=0∧h=m∧m≤n then
      some (.own H.length h sz 0 h,H.set i .dead++[.arr fl lk true sz (es.take h)]) else none
  | _=>none
theorem aslice_own_mx (sz:Nat) (H:Heap) (i len so off n lo h m:Nat):aslice sz H (.own i len so off n) lo (some h) (some m)=if so≠sz then none else cutK sz H i len off n lo h m H[i]?:=by
  simp only [aslice]
  split
  · rfl
  · cases H[i]? with
    | none=>rfl
    | some e=>cases e<;>rfl
theorem cutK_arr (sz:Nat) (H:Heap) (i len off n lo h m:Nat) (fl lk fu se es):cutK sz H i len off n lo h m (some (.arr fl lk fu se es))=if es.length=len∧se=sz∧off=0∧n=len∧lo=0∧h=m∧m≤n then
      some (.own H.length h sz 0 h,H.set i .dead++[.arr fl lk true sz (es.take h)]) else none:=rfl
attribute [go_sem] aop_appendZ appZK_int aop_cap capK_imm aslice_own_mx cutK_arr

end Go.AM.R1
open Go Go.AM
namespace Go.AM.R1
/-! ### slices.Grow and Concat of levels -/
theorem growL_nil (n:Nat) (hn:n≤1000000) (h:n≠0):call E (.func (.func 72) [] []) [nilS,.lit (.int .i64 n)] []
    = some (.own 0 n 1 0 0,[.arr true false false 1 (List.replicate n [.lit (.int .i64 0)])]):=by
  rw [call_func E E72]
  have h0:¬ (n:Int)<0:=by omega
  have w0:IntKind.wrap .i64 0=0:=rfl
  have w1:IntKind.wrap .i64 (n:Int)=n:=wrap64 (by omega) (by omega)
  have h1:0<(n:Int):=by omega
  have h1':0<n:=by omega
  have h2:(n:Int)≤70368744177664:=by omega
  have h3:(n:Int) * 8≤70368744177664:=by omega
  have h4:¬ (70368744177664<n * 8):=by omega
  have hr:rowsOk 1 (List.replicate n [AVal.lit (.int .i64 0)])=true:=by
    simp [rowsOk]
  simp [go_sem,ir72,h,h0,h1,h1',h2,h3,h4,hr,w0,w1,purse_eq,flatL,flatV]
set_option maxHeartbeats 2000000 in
theorem concatL3 (X Y Z:List Bool) (hX:X≠[]) (hY:Y≠[]) (hZ:Z≠[]) (hl:X.length+Y.length+Z.length≤1000000) (fu xn xf yn yf zn zf:Bool) :
    call E (.func (.func 45) [] []) [.imm false fu true [[.imm xn xf true (X.map encLv)],[.imm yn yf true (Y.map encLv)],[.imm zn zf true (Z.map encLv)]]] []
      = some (.own 0 (X++Y++Z).length 1 0 (X++Y++Z).length,[.arr true false false 1 ((X++Y++Z).map encLv)]):=by
  rw [call_func E E45]
  have pX:=List.length_pos_iff.2 hX
  have pY:=List.length_pos_iff.2 hY
  have pZ:=List.length_pos_iff.2 hZ
  have hG:=growL_nil (X.length+Y.length+Z.length) hl (by omega)
  have wx:IntKind.wrap .i64 (X.length:Int)=X.length:=wrap64 (by omega) (by omega)
  have wxy:IntKind.wrap .i64 ((X.length:Int)+(Y.length:Int))=(X.length:Int)+Y.length:=wrap64 (by omega) (by omega)
  have wxyz:IntKind.wrap .i64 ((X.length:Int)+(Y.length:Int)+(Z.length:Int))=(X.length:Int)+Y.length+Z.length:=wrap64 (by omega) (by omega)
  have w1:IntKind.wrap .i64 1=1:=rfl
  have w2:IntKind.wrap .i64 2=2:=rfl
  have w3:IntKind.wrap .i64 3=3:=rfl
  have h0:¬ (X.length:Int)<0:=by omega
  have h1:¬ (X.length:Int)+(Y.length:Int)<0:=by omega
  have h2:¬ (X.length:Int)+(Y.length:Int)+(Z.length:Int)<0:=by omega
  have rX:=rowsLv X
  have rY:=rowsLv Y
  have rZ:=rowsLv Z
  have b1:¬ (70368744177664<X.length * 8):=by omega
  have b2:¬ (70368744177664<(X.length+Y.length) * 8):=by omega
  have b3:¬ (70368744177664<(X.length+(Y.length+Z.length)) * 8):=by omega
  have hne:¬ (0=X.length+(Y.length+Z.length)):=by omega
  simp [nilS] at hG
  simp [go_sem,ir45,run_codeL E L45_0.eq_1,run_codeL E L45_1.eq_1,run_inLoop',hG,wx,wxy,wxyz,w1,w2,w3,h0,h1,h2,rX,rY,rZ,b1,b2,b3,hX,hY,hZ,hne,nilS,purse_eq,List.range_succ,Nat.add_assoc]
set_option maxHeartbeats 2000000 in
theorem concatL4 (X Y Z V:List Bool) (hX:X≠[]) (hY:Y≠[]) (hZ:Z≠[]) (hV:V≠[]) (hl:X.length+Y.length+Z.length+V.length≤1000000) (fu xn xf yn yf zn zf vn vf:Bool) :
    call E (.func (.func 45) [] []) [.imm false fu true [[.imm xn xf true (X.map encLv)],[.imm yn yf true (Y.map encLv)],[.imm zn zf true (Z.map encLv)],[.imm vn vf true (V.map encLv)]]] []
      = some (.own 0 (X++Y++Z++V).length 1 0 (X++Y++Z++V).length,[.arr true false false 1 ((X++Y++Z++V).map encLv)]):=by
  rw [call_func E E45]
  have pX:=List.length_pos_iff.2 hX
  have pY:=List.length_pos_iff.2 hY
  have pZ:=List.length_pos_iff.2 hZ
  have pV:=List.length_pos_iff.2 hV
  have hG:=growL_nil (X.length+Y.length+Z.length+V.length) hl (by omega)
  have wx:IntKind.wrap .i64 (X.length:Int)=X.length:=wrap64 (by omega) (by omega)
  have wxy:IntKind.wrap .i64 ((X.length:Int)+(Y.length:Int))=(X.length:Int)+Y.length:=wrap64 (by omega) (by omega)
  have wxyz:IntKind.wrap .i64 ((X.length:Int)+(Y.length:Int)+(Z.length:Int))=(X.length:Int)+Y.length+Z.length:=wrap64 (by omega) (by omega)
  have wv:IntKind.wrap .i64 ((X.length:Int)+(Y.length:Int)+(Z.length:Int)+(V.length:Int))=(X.length:Int)+Y.length+Z.length+V.length:=wrap64 (by omega) (by omega)
  have w1:IntKind.wrap .i64 1=1:=rfl
  have w2:IntKind.wrap .i64 2=2:=rfl
  have w3:IntKind.wrap .i64 3=3:=rfl
  have w4:IntKind.wrap .i64 4=4:=rfl
  have h0:¬ (X.length:Int)<0:=by omega
  have h1:¬ (X.length:Int)+(Y.length:Int)<0:=by omega
  have h2:¬ (X.length:Int)+(Y.length:Int)+(Z.length:Int)<0:=by omega
  have h3:¬ (X.length:Int)+(Y.length:Int)+(Z.length:Int)+(V.length:Int)<0:=by omega
  have rX:=rowsLv X
  have rY:=rowsLv Y
  have rZ:=rowsLv Z
  have rV:=rowsLv V
  have b1:¬ (70368744177664<X.length * 8):=by omega
  have b2:¬ (70368744177664<(X.length+Y.length) * 8):=by omega
  have b3:¬ (70368744177664<(X.length+(Y.length+Z.length)) * 8):=by omega
  have b4:¬ (70368744177664<(X.length+(Y.length+(Z.length+V.length))) * 8):=by omega
  have hne:¬ (0=X.length+(Y.length+(Z.length+V.length))):=by omega
  simp [nilS] at hG
  simp [go_sem,ir45,run_codeL E L45_0.eq_1,run_codeL E L45_1.eq_1,run_inLoop',hG,wx,wxy,wxyz,wv,w1,w2,w3,w4,h0,h1,h2,h3,rX,rY,rZ,rV,b1,b2,b3,b4,hX,hY,hZ,hV,hne,nilS,purse_eq,List.range_succ,Nat.add_assoc]
/-! ### The greatest byte -/
def maxL (a:Nat):List Nat→Nat
  | []=>a
  | x::l=>maxL (max a x) l
theorem maxL_zero:∀ (l:List Nat) (a:Nat),(maxL a l=0↔a=0∧∀ x∈l,x=0)
  | [],a=>by simp [maxL]
  | x :: l,a=>by
    rw [maxL,maxL_zero l]
    constructor
    · rintro ⟨h1,h2⟩
      refine ⟨by omega,fun y hy=>?_⟩
      rcases List.mem_cons.1 hy with e | e
      · omega
      · exact h2 y e
    · rintro ⟨h1,h2⟩
      have:=h2 x (by simp)
      exact ⟨by omega,fun y hy=>h2 y (by simp [hy])⟩
theorem max_loop (l:List Nat) (hl:l.length≤1000000) (nl fu:Bool) (k:List Item) (R:Nat→Option (AVal × Heap))
    (hk:∀ (τ:Tmps) (a:Nat),lk 3 τ=.lit (.int .u8 (a:Int))→finK 0 [.tmp 2] (run E 0 k τ [])=R a) :
    ∀ (d i a:Nat),i+d=l.length →
   finK 0 [.tmp 2] (run E 0 (.code L30_0::.inLoop [0,3,4] L30_0::.inBlock 0::k) [(0,.imm nl fu true (l.map encB)),(3,.lit (.int .u8 a)),(4,.lit (.int .i64 i))] [])=R (maxL a (l.drop i)):=by
  intro d
  induction d with
  | zero =>
    intro i a hi
    have:i=l.length:=by omega
    subst this
    simp [go_sem,run_codeL E L30_0.eq_1,maxL]
    exact hk _ _ rfl
  | succ d ih =>
    intro i a hi
    have hlt:i<l.length:=by omega
    have w:=wrapIdx (i:=i) (by omega)
    rw [List.drop_eq_getElem_cons hlt,maxL]
    have ih2:=ih (i+1) (max a l[i]) (by omega)
    have hm:(if (a:Int)<(l[i]:Int) then (l[i]:Int) else (a:Int))=((max a l[i]:Nat):Int):=by split<;>omega
    have hm2:(if a<l[i] then (l[i]:Int) else (a:Int))=((max a l[i]:Nat):Int):=by split<;>omega
    generalize R _=Q at ih2 ⊢
    generalize max a l[i]=mx at *
    simp at ih2 w
    simp [go_sem,run_codeL E L30_0.eq_1,hlt,List.getElem?_eq_getElem hlt,encB,w,hm,hm2,purse_eq]
    rw [run_inLoop']
    simp [go_sem,purse_eq]
    exact ih2
theorem max_spec (x:Nat) (l:List Nat) (hl:l.length≤100000) (nl fu:Bool):call E (.func (.func 30) [] []) [.imm nl fu true ((x::l).map encB)] []=some (.lit (.int .u8 (maxL x l)),[]):=by
  rw [call_func E E30]
  have h1:¬ ((l.length:Int)+1<1):=by omega
  have h:=fun k hk=>max_loop (x::l) (by simp;omega) nl fu k (fun n=>some (.lit (.int .u8 n),[])) hk l.length 1 x (by simp;omega)
  simp at h
  simp [go_sem,ir30,h1,encB,purse_eq]
  rw [run_inLoop']
  simp [go_sem,purse_eq]
  simp [encB] at h
  refine h _ ?_
  intro τ n t3
  simp [go_sem,t3]
theorem ones10:call E (.func (.func 46) [] []) [.imm false true true [[.lit (.int .i64 1)]],.lit (.int .i64 10)] []=some (.own 0 10 1 0 10,[.arr true false false 1 (List.replicate 10 [.lit (.int .i64 1)])]) :=
  (call_iff E).2 ⟨400,by kernel_rfl⟩
end Go.AM.R1
open Go Go.AM
namespace Go.AM.R1
def slArrK (n sz:Nat) (H:Heap):AVal→Option Nat→Option Nat→Option (AVal × Heap)
  | .ptr i k,some l,some h=>if l≤h∧h≤n then some (.asl i (k+l * sz) sz (h - l),H) else none
  | _,_,_=>none
theorem aop_sliceArr {c:Callee} {ρ:Opd→AVal} {H:Heap} (n sz x lo hi):aop c ρ H (.sliceArr n sz x lo hi)=slArrK n sz H (ρ x) (optNat ρ 0 lo) (optNat ρ n hi):=by
  simp only [aop]
  cases optNat ρ 0 lo with
  | none=>cases ρ x<;>rfl
  | some l=>cases optNat ρ n hi with
    | none=>cases ρ x<;>rfl
    | some h=>cases ρ x<;>rfl
theorem slArrK_ptr (n sz:Nat) (H:Heap) (i k l h:Nat):slArrK n sz H (.ptr i k) (some l) (some h)=if l≤h∧h≤n then some (.asl i (k+l * sz) sz (h - l),H) else none:=rfl
def appAslK (fl:Bool) (sz bytes:Nat) (H:Heap) (s:AVal) (k sa n:Nat):Option Entry→Option (AVal × Heap)
  | some (.box cs)=>if k+n * sa≤cs.length then aadd fl sz bytes H s (flatL cs) (chunks (cs.drop k) sa n) else none
  | _=>none
theorem aappend_asl (fl:Bool) (sz bytes:Nat) (H:Heap) (s:AVal) (i k sa n:Nat):aappend fl sz bytes H s (.asl i k sa n)=appAslK fl sz bytes H s k sa n H[i]?:=by
  simp only [aappend,content]
  cases H[i]? with
  | none=>rfl
  | some e=>cases e with
    | box cs =>
      simp only [appAslK]
      split<;>rfl
    | _=>rfl
theorem appAslK_box (fl:Bool) (sz bytes:Nat) (H:Heap) (s:AVal) (k sa n:Nat) (cs):appAslK fl sz bytes H s k sa n (some (.box cs))=if k+n * sa≤cs.length then aadd fl sz bytes H s (flatL cs) (chunks (cs.drop k) sa n) else none:=rfl
attribute [go_sem] aop_sliceArr slArrK_ptr aappend_asl appAslK_box
/-! ### Which frames are right, and their levels -/
def Fr.bytes (f:Fr):List Nat:=[f.d0,f.d1,f.d2,f.d3,f.d4,f.d5,f.d6,f.d7]
structure Fr.Ok (f:Fr):Prop where
  id1:-9223372036854775808≤f.id
  id2:f.id≤9223372036854775807
  len1:-9223372036854775808≤f.len
  len2:f.len≤9223372036854775807
  byte:∀ c∈f.bytes,c<256
def checkP (f:Fr):Int :=
  if f.id<0∨(if f.ext=true then 536870911 else 2047)<f.id then 14
  else if f.len<0∨8<f.len then 14
  else if maxL 0 (f.bytes.drop (if f.rtr=true then 0 else f.len.toNat))=0 then 0 else 14
set_option maxHeartbeats 8000000 in
theorem fcheck_spec (f:Fr):call E (.func (.func 15) [] []) [.agg (encFr f)] []=some (.lit (.int .i64 (checkP f)),[]):=by
  rw [call_func E E15]
  obtain ⟨id,ext,rtr,len,d0,d1,d2,d3,d4,d5,d6,d7⟩:=f
  by_cases h1:id<0
  · have:checkP ⟨id,ext,rtr,len,d0,d1,d2,d3,d4,d5,d6,d7⟩=14:=by unfold checkP;rw [if_pos (.inl h1)]
    rw [this]
    cases ext<;>cases rtr<;>simp [go_sem,ir15,encFr,u8v,h1,purse_eq,List.range_succ]
  · by_cases h2:(if ext=true then 536870911 else 2047)<id
    · have:checkP ⟨id,ext,rtr,len,d0,d1,d2,d3,d4,d5,d6,d7⟩=14:=by unfold checkP;rw [if_pos (.inr h2)]
      rw [this]
      cases ext<;>cases rtr<;>simp at h2<;>simp [go_sem,ir15,encFr,u8v,h1,h2,purse_eq,List.range_succ]
    · by_cases h3:len<0
      · have:checkP ⟨id,ext,rtr,len,d0,d1,d2,d3,d4,d5,d6,d7⟩=14:=by unfold checkP;rw [if_neg (by rintro (q | q);exact h1 q;exact h2 q),if_pos (.inl h3)]
        rw [this]
        have h2:¬ (if ext=true then 536870911 else 2047)<id:=h2
        cases ext<;>cases rtr<;>simp at h2<;>(have h2':=Int.not_lt.2 h2)<;>simp [go_sem,ir15,encFr,u8v,h1,h2',h3,purse_eq,List.range_succ]
      · by_cases h4:8<len
        · have:checkP ⟨id,ext,rtr,len,d0,d1,d2,d3,d4,d5,d6,d7⟩=14:=by unfold checkP;rw [if_neg (by rintro (q | q);exact h1 q;exact h2 q),if_pos (.inr h4)]
          rw [this]
          cases ext<;>cases rtr<;>simp at h2<;>(have h2':=Int.not_lt.2 h2)<;>simp [go_sem,ir15,encFr,u8v,h1,h2',h3,h4,purse_eq,List.range_succ]
        · have hc:checkP ⟨id,ext,rtr,len,d0,d1,d2,d3,d4,d5,d6,d7⟩=if maxL 0 (([d0,d1,d2,d3,d4,d5,d6,d7]:List Nat).drop (if rtr=true then 0 else len.toNat))=0 then 0 else 14:=by unfold checkP;rw [if_neg (by rintro (q | q);exact h1 q;exact h2 q),if_neg (by rintro (q | q);exact h3 q;exact h4 q)];rfl
          rw [hc]
          clear hc
          have hm:=fun (l:List Nat) (hl:l.length≤100000) (fu:Bool)=>max_spec 0 l hl false fu
          cases rtr
          · have hcase:len=0∨len=1∨len=2∨len=3∨len=4∨len=5∨len=6∨len=7∨len=8:=by omega
            rcases hcase with rfl | rfl | rfl | rfl | rfl | rfl | rfl | rfl | rfl
            · have hM:=hm (([d0,d1,d2,d3,d4,d5,d6,d7]:List Nat).drop 0) (by simp) false
              simp [encB] at hM
              cases ext<;>simp at h2<;>(have h2':=Int.not_lt.2 h2)<;>simp [go_sem,ir15,encFr,u8v,h1,h2',h3,h4,hM,chunks,rowsOk,purse_eq,List.range_succ]<;>(first | done | (generalize maxL 0 _=mx at *;rcases Nat.eq_zero_or_pos mx with hz | hz;(simp [go_sem,hz,purse_eq]);(have hz':¬ mx=0:=by omega);(simp [go_sem,hz,hz',purse_eq])))
            · have hM:=hm (([d0,d1,d2,d3,d4,d5,d6,d7]:List Nat).drop 1) (by simp) false
              simp [encB] at hM
              cases ext<;>simp at h2<;>(have h2':=Int.not_lt.2 h2)<;>simp [go_sem,ir15,encFr,u8v,h1,h2',h3,h4,hM,chunks,rowsOk,purse_eq,List.range_succ]<;>(first | done | (generalize maxL 0 _=mx at *;rcases Nat.eq_zero_or_pos mx with hz | hz;(simp [go_sem,hz,purse_eq]);(have hz':¬ mx=0:=by omega);(simp [go_sem,hz,hz',purse_eq])))
            · have hM:=hm (([d0,d1,d2,d3,d4,d5,d6,d7]:List Nat).drop 2) (by simp) false
              simp [encB] at hM
              cases ext<;>simp at h2<;>(have h2':=Int.not_lt.2 h2)<;>simp [go_sem,ir15,encFr,u8v,h1,h2',h3,h4,hM,chunks,rowsOk,purse_eq,List.range_succ]<;>(first | done | (generalize maxL 0 _=mx at *;rcases Nat.eq_zero_or_pos mx with hz | hz;(simp [go_sem,hz,purse_eq]);(have hz':¬ mx=0:=by omega);(simp [go_sem,hz,hz',purse_eq])))
            · have hM:=hm (([d0,d1,d2,d3,d4,d5,d6,d7]:List Nat).drop 3) (by simp) false
              simp [encB] at hM
              cases ext<;>simp at h2<;>(have h2':=Int.not_lt.2 h2)<;>simp [go_sem,ir15,encFr,u8v,h1,h2',h3,h4,hM,chunks,rowsOk,purse_eq,List.range_succ]<;>(first | done | (generalize maxL 0 _=mx at *;rcases Nat.eq_zero_or_pos mx with hz | hz;(simp [go_sem,hz,purse_eq]);(have hz':¬ mx=0:=by omega);(simp [go_sem,hz,hz',purse_eq])))
            · have hM:=hm (([d0,d1,d2,d3,d4,d5,d6,d7]:List Nat).drop 4) (by simp) false
              simp [encB] at hM
              cases ext<;>simp at h2<;>(have h2':=Int.not_lt.2 h2)<;>simp [go_sem,ir15,encFr,u8v,h1,h2',h3,h4,hM,chunks,rowsOk,purse_eq,List.range_succ]<;>(first | done | (generalize maxL 0 _=mx at *;rcases Nat.eq_zero_or_pos mx with hz | hz;(simp [go_sem,hz,purse_eq]);(have hz':¬ mx=0:=by omega);(simp [go_sem,hz,hz',purse_eq])))
            · have hM:=hm (([d0,d1,d2,d3,d4,d5,d6,d7]:List Nat).drop 5) (by simp) false
              simp [encB] at hM
              cases ext<;>simp at h2<;>(have h2':=Int.not_lt.2 h2)<;>simp [go_sem,ir15,encFr,u8v,h1,h2',h3,h4,hM,chunks,rowsOk,purse_eq,List.range_succ]<;>(first | done | (generalize maxL 0 _=mx at *;rcases Nat.eq_zero_or_pos mx with hz | hz;(simp [go_sem,hz,purse_eq]);(have hz':¬ mx=0:=by omega);(simp [go_sem,hz,hz',purse_eq])))
            · have hM:=hm (([d0,d1,d2,d3,d4,d5,d6,d7]:List Nat).drop 6) (by simp) false
              simp [encB] at hM
              cases ext<;>simp at h2<;>(have h2':=Int.not_lt.2 h2)<;>simp [go_sem,ir15,encFr,u8v,h1,h2',h3,h4,hM,chunks,rowsOk,purse_eq,List.range_succ]<;>(first | done | (generalize maxL 0 _=mx at *;rcases Nat.eq_zero_or_pos mx with hz | hz;(simp [go_sem,hz,purse_eq]);(have hz':¬ mx=0:=by omega);(simp [go_sem,hz,hz',purse_eq])))
            · have hM:=hm (([d0,d1,d2,d3,d4,d5,d6,d7]:List Nat).drop 7) (by simp) false
              simp [encB] at hM
              cases ext<;>simp at h2<;>(have h2':=Int.not_lt.2 h2)<;>simp [go_sem,ir15,encFr,u8v,h1,h2',h3,h4,hM,chunks,rowsOk,purse_eq,List.range_succ]<;>(first | done | (generalize maxL 0 _=mx at *;rcases Nat.eq_zero_or_pos mx with hz | hz;(simp [go_sem,hz,purse_eq]);(have hz':¬ mx=0:=by omega);(simp [go_sem,hz,hz',purse_eq])))
            · have hM:=hm (([d0,d1,d2,d3,d4,d5,d6,d7]:List Nat).drop 8) (by simp) true
              simp [encB] at hM
              cases ext<;>simp at h2<;>(have h2':=Int.not_lt.2 h2)<;>simp [go_sem,ir15,encFr,u8v,h1,h2',h3,h4,hM,chunks,rowsOk,purse_eq,List.range_succ]<;>(first | done | (generalize maxL 0 _=mx at *;rcases Nat.eq_zero_or_pos mx with hz | hz;(simp [go_sem,hz,purse_eq]);(have hz':¬ mx=0:=by omega);(simp [go_sem,hz,hz',purse_eq])))
          · have hM:=hm (([d0,d1,d2,d3,d4,d5,d6,d7]:List Nat).drop 0) (by simp) false
            simp [encB] at hM
            cases ext<;>simp at h2<;>(have h2':=Int.not_lt.2 h2)<;>simp [go_sem,ir15,encFr,u8v,h1,h2',h3,h4,hM,chunks,rowsOk,purse_eq,List.range_succ]<;>(first | done | (generalize maxL 0 _=mx at *;rcases Nat.eq_zero_or_pos mx with hz | hz;(simp [go_sem,hz,purse_eq]);(have hz':¬ mx=0:=by omega);(simp [go_sem,hz,hz',purse_eq])))
end Go.AM.R1
open Go Go.AM
namespace Go.AM.R1
def arbP (f:Fr):List Bool :=
  if f.ext=true then bitsOf 11 (f.id.toNat / 262144)++[true,true]++bitsOf 18 f.id.toNat++[f.rtr] else bitsOf 11 f.id.toNat++[f.rtr,false]
theorem checkP_ok {f:Fr} (h:checkP f=0):0≤f.id∧f.id≤536870911∧(f.ext=false→f.id≤2047)∧0≤f.len∧f.len≤8∧maxL 0 (f.bytes.drop (if f.rtr=true then 0 else f.len.toNat))=0:=by
  unfold checkP at h
  by_cases h1:f.id<0∨(if f.ext=true then 536870911 else 2047)<f.id
  · rw [if_pos h1] at h;cases h
  · rw [if_neg h1] at h
    by_cases h2:f.len<0∨8<f.len
    · rw [if_pos h2] at h;cases h
    · rw [if_neg h2] at h
      have a1:¬ f.id<0:=fun q=>h1 (.inl q)
      have a2:¬ (if f.ext=true then 536870911 else 2047)<f.id:=fun q=>h1 (.inr q)
      have a3:¬ f.len<0:=fun q=>h2 (.inl q)
      have a4:¬ 8<f.len:=fun q=>h2 (.inr q)
      refine ⟨by omega,by split at a2<;>omega,?_,by omega,by omega,?_⟩
      · intro q
        rw [q] at a2
        simp at a2;omega
      · by_cases h3:maxL 0 (f.bytes.drop (if f.rtr=true then 0 else f.len.toNat))=0
        · exact h3
        · rw [if_neg h3] at h;cases h
theorem lvl_spec (b:Bool):call E (.func (.func 94) [] []) [.lit (.bool b)] []=some (.lit (.int .i64 (lv b)),[]):=by
  rw [call_func E E94]
  cases b<;>simp [go_sem,ir94,lv]
theorem farb_err (f:Fr) (h:checkP f≠0):call E (.func (.func 64) [] []) [.agg (encFr f)] []=some (.tup [nilS,.lit (.int .i64 (checkP f))],[]):=by
  rw [call_func E E64]
  have hC:=fcheck_spec f
  generalize checkP f=c at *
  simp [encFr,u8v] at hC
  simp [go_sem,ir64,encFr,u8v,hC,h,nilS,purse_eq,List.range_succ]
theorem farb_spec (f:Fr) (h:checkP f=0):call E (.func (.func 64) [] []) [.agg (encFr f)] []=some (.tup [.own 0 (arbP f).length 1 0 (arbP f).length,.lit (.int .i64 0)],[.arr true false false 1 ((arbP f).map encLv)]):=by
  rw [call_func E E64]
  have hC:=fcheck_spec f
  rw [h] at hC
  obtain ⟨c1,c2,c3,c4,c5,c6⟩:=checkP_ok h
  have hl:=lvl_spec f.rtr
  obtain ⟨n,hn⟩:=Int.eq_ofNat_of_zero_le c1
  have wn:IntKind.wrap .u64 (n:Int)=n:=wrap_u64 (by omega)
  cases hx:f.ext
  · have e:arbP f=bitsOf 11 n++[f.rtr,false]:=by unfold arbP;rw [hx,hn];rfl
    have hb:=bof_spec n 11 (by omega) (by omega)
    have hlen:=bitsOf_length 11 n
    have hr:rowsOk 1 ((bitsOf 11 n).map encLv)=true:=rowsLv _
    rw [e]
    generalize bitsOf 11 n=B at *
    simp [encFr,u8v,hx,hn] at hC hb
    simp [go_sem,ir64,encFr,u8v,hC,hx,hn,hl,wn,hb,hlen,hr,encLv,show lv false=0 from rfl,rowsOk,nilS,purse_eq,List.range_succ]
  · have e:arbP f=bitsOf 11 (n / 262144)++[true,true]++bitsOf 18 n++[f.rtr]:=by unfold arbP;rw [hx,hn];rfl
    have hb:=bof_spec (n / 262144) 11 (by omega) (by omega)
    have hb2:=bof_spec n 18 (by omega) (by omega)
    have hlen:=bitsOf_length 11 (n / 262144)
    have hlen2:=bitsOf_length 18 n
    have hne1:bitsOf 11 (n / 262144)≠[]:=by intro q;rw [q] at hlen;simp at hlen
    have hne2:bitsOf 18 n≠[]:=by intro q;rw [q] at hlen2;simp at hlen2
    have hfd:(n:Int).fdiv 262144=((n / 262144:Nat):Int):=by rw [Int.fdiv_eq_ediv_of_nonneg _ (by omega)];simp
    have hr:rowsOk 1 ((bitsOf 11 (n / 262144)).map encLv)=true:=rowsLv _
    have hr2:rowsOk 1 ((bitsOf 18 n).map encLv)=true:=rowsLv _
    have hCC:=concatL4 (bitsOf 11 (n / 262144)) [true,true] (bitsOf 18 n) [f.rtr] hne1 (by simp) hne2 (by simp) (by simp;omega) true false false false true false false false true
    rw [e]
    generalize bitsOf 11 (n / 262144)=B at *
    generalize bitsOf 18 n=B2 at *
    generalize n / 262144=nq at *
    have c11:cutE (B.map encLv) 0 11=B.map encLv:=cutE_whole (by simp [hlen])
    have c18:cutE (B2.map encLv) 0 18=B2.map encLv:=cutE_whole (by simp [hlen2])
    simp [encFr,u8v,hx,hn] at hC hb hb2
    simp [encLv,hlen,hlen2,show lv true=1 from rfl] at hCC
    simp [go_sem,ir64,encFr,u8v,hC,hx,hn,hl,wn,hfd,hb,hb2,hlen,hlen2,hr,hr2,c11,c18,hCC,encLv,show lv true=1 from rfl,rowsOk,nilS,purse_eq,List.range_succ]
end Go.AM.R1
open Go Go.AM
namespace Go.AM.R1
/-! ### All levels of a frame -/
theorem put_spec4 (n w:Nat) (hn:n<18446744073709551616) (hw:w≤64) (hw0:w≠0) (X:List Bool) (hX:X.length≤1000000) (lk:Bool) :
    call E (.func (.func 67) [] [.ptr 0 0,.ptr 1 0]) [.lit (.int .u64 n),.lit (.int .i64 w)] [.box [.lit (.int .i64 0)],.box [.own 2 X.length 1 0 X.length],.arr true lk false 1 (X.map encLv)]
      = some (.tup [],[.box [.lit (.int .i64 0)],.box [.own 2 (X++bitsOf w n).length 1 0 (X++bitsOf w n).length],.arr true lk false 1 ((X++bitsOf w n).map encLv)]):=by
  rw [call_func E E67]
  have hb:=bof_spec n w hn hw
  have hlen:=bitsOf_length w n
  have hr:=rowsLv (bitsOf w n)
  have hr2:=rowsLv X
  have hsz:¬ (70368744177664<(X.length+w) * 8):=by omega
  generalize bitsOf w n=B at *
  have hcw:cutE (B.map encLv) 0 w=B.map encLv:=cutE_whole (by simp [hlen])
  have hB0:B≠[]:=by intro q;rw [q] at hlen;simp at hlen;omega
  simp [go_sem,ir67,hb,hlen,hr,hr2,hsz,hcw,hw0,hB0,purse_eq,List.range_succ]
def bytesP (bs:List Nat):List Bool:=bs.flatMap fun c=>bitsOf 8 c
theorem bits_loop4 (cs:List AVal) (hcr:refsL cs=[]) (bs:List Nat) (hb:∀ c∈bs,c<256) (hb8:bs.length≤8) (hcs:∀ (i:Nat) (h:i<bs.length),cs[4+i]?=some (u8v bs[i])) (k:List Item) (R:List Bool→Option (AVal × Heap))
    (hk:∀ τ X,lk 6 τ=.ptr 3 0→lk 7 τ=.ptr 4 0→finK 0 [.tmp 2,.tmp 3] (run E 0 k τ [.box cs,.dead,.arr true false false 1 (X.map encLv),.box [.own 2 X.length 1 0 X.length],.box [.lit (.int .i64 0)]])=R X) :
    ∀ (d i:Nat) (X:List Bool),i+d=bs.length→X.length≤100+8 * i →
   finK 0 [.tmp 2,.tmp 3] (run E 0 (.code L42_0::.inLoop [6,7,8,39,40,41] L42_0::.inBlock 0::k) [(6,.ptr 3 0),(7,.ptr 4 0),(8,.func (.func 67) [] [.ptr 4 0,.ptr 3 0]),(39,.asl 0 4 1 bs.length),(40,.lit (.int .i64 bs.length)),(41,.lit (.int .i64 i))] [.box cs,.dead,.arr true false false 1 (X.map encLv),.box [.own 2 X.length 1 0 X.length],.box [.lit (.int .i64 0)]])=R (X++bytesP (bs.drop i)):=by
  intro d
  induction d with
  | zero =>
    intro i X hi hX
    have:i=bs.length:=by omega
    subst this
    rw [List.drop_length,show bytesP []=[] from rfl,List.append_nil]
    simp [go_sem,run_codeL E L42_0.eq_1]
    exact hk _ X rfl rfl
  | succ d ih =>
    intro i X hi hX
    have hlt:i<bs.length:=by omega
    have w:=wrapIdx (i:=i) (by omega)
    have hlen:=bitsOf_length 8 bs[i]
    have hbi:=hb _ (List.getElem_mem hlt)
    have wu:IntKind.wrap .u64 (bs[i]:Int)=bs[i]:=wrap_u64 (by omega)
    rw [List.drop_eq_getElem_cons hlt,show bytesP (bs[i]::bs.drop (i+1))=bitsOf 8 bs[i]++bytesP (bs.drop (i+1)) from rfl,← List.append_assoc]
    have ih2:=ih (i+1) (X++bitsOf 8 bs[i]) (by omega) (by rw [List.length_append,hlen];omega)
    have hP:=put_spec4 bs[i] 8 (by omega) (by omega) (by omega) X (by omega) false
    have hc:=hcs i hlt
    generalize R _=Q at ih2 ⊢
    generalize X++bitsOf 8 bs[i]=X2 at *
    generalize bs[i]=c at *
    simp only [u8v] at hc
    simp at ih2 w hP
    simp [go_sem,run_codeL E L42_0.eq_1,hlt,w,hcr,wu,hP,hc,purse_eq,List.range_succ]
    rw [run_inLoop']
    simp [go_sem,hcr,purse_eq,List.range_succ]
    exact ih2
def bitsP (f:Fr):List Bool:=[false]++arbP f++bitsOf (if f.ext=true then 6 else 5) f.len.toNat++(if f.rtr=true then [] else bytesP (f.bytes.take f.len.toNat))
theorem arbP_length (f:Fr):(arbP f).length=if f.ext=true then 32 else 13:=by
  unfold arbP;split<;>simp [bitsOf_length]
theorem fbits_err (f:Fr) (h:checkP f≠0):call E (.func (.func 42) [] []) [.agg (encFr f)] []=some (.tup [nilS,.lit (.int .i64 (checkP f))],[]):=by
  rw [call_func E E42]
  have hA:=farb_err f h
  generalize checkP f=c at *
  simp [encFr,u8v,nilS] at hA
  simp [go_sem,ir42,encFr,u8v,hA,h,nilS,purse_eq,List.range_succ]
set_option maxHeartbeats 2000000 in
theorem fbits_spec (f:Fr) (hf:f.Ok) (h:checkP f=0):call E (.func (.func 42) [] []) [.agg (encFr f)] []=some (.tup [.own 0 (bitsP f).length 1 0 (bitsP f).length,.lit (.int .i64 0)],[.arr true false false 1 ((bitsP f).map encLv)]):=by
  rw [call_func E E42]
  have hA:=farb_spec f h
  obtain ⟨c1,c2,c3,c4,c5,c6⟩:=checkP_ok h
  obtain ⟨n,hn⟩:=Int.eq_ofNat_of_zero_le c4
  have wn:IntKind.wrap .u64 (n:Int)=n:=wrap_u64 (by omega)
  have hal:=arbP_length f
  have hr:=rowsLv (arbP f)
  have hane:arbP f≠[]:=by intro q;rw [q] at hal;simp at hal;split at hal<;>omega
  have hsz:¬ (70368744177664<(1+(arbP f).length) * 8):=by rw [hal];split<;>omega
  have hsz2:¬ (70368744177664<((arbP f).length+1) * 8):=by rw [hal];split<;>omega
  have hP:=put_spec4 n (if f.ext=true then 6 else 5) (by omega) (by split<;>omega) (by split<;>omega) ([false]++arbP f) (by simp;rw [hal];split<;>omega) false
  have hbl:([false]++arbP f++bitsOf (if f.ext=true then 6 else 5) n).length≤100:=by simp [bitsOf_length,hal];split<;>omega
  have hcsl:∀ (bs:List Nat),bs=f.bytes.take n→∀ (i:Nat) (hi:i<bs.length),(encFr f)[4+i]?=some (u8v bs[i]):=by
    intro bs e i hi
    subst e
    have hi8:i<8:=by simp [Fr.bytes] at hi;omega
    rw [List.getElem_take]
    have:i=0∨i=1∨i=2∨i=3∨i=4∨i=5∨i=6∨i=7:=by omega
    rcases this with rfl | rfl | rfl | rfl | rfl | rfl | rfl | rfl<;>rfl
  have hcs:=hcsl _ rfl
  have hbt:(f.bytes.take n).length=n:=by simp [Fr.bytes];omega
  have e:bitsP f=[false]++arbP f++bitsOf (if f.ext=true then 6 else 5) n++(if f.rtr=true then [] else bytesP (f.bytes.take n)):=by unfold bitsP;rw [hn];rfl
  have hnl:n≤8:=by omega
  rw [e]
  have hloop:=fun k hk=>bits_loop4 (encFr f) rfl (f.bytes.take n) (fun c hc=>hf.byte c (List.mem_of_mem_take hc)) (by omega) hcs k (fun X=>some (.tup [.own 0 X.length 1 0 X.length,.lit (.int .i64 0)],[.arr true false false 1 (X.map encLv)])) hk n 0 ([false]++arbP f++bitsOf (if f.ext=true then 6 else 5) n) (by omega) (by omega)
  rw [hbt,List.drop_zero] at hloop
  clear hcs hcsl hbt
  generalize f.bytes.take n=bs at *
  have hr1:rowsOk 1 [[AVal.lit (.int .i64 0)]]=true:=rfl
  have hcm:1+(arbP f).length=(arbP f).length+1:=Nat.add_comm _ _
  cases hrt:f.rtr
  · simp only [Bool.false_eq_true,if_false]
    cases hx:f.ext
    · simp only [hx,Bool.false_eq_true,if_false,if_true] at hP hloop ⊢
      generalize hX:[false]++arbP f++bitsOf 5 n=X at *
      simp [encFr,u8v,hx,hrt,hn,encLv,hcm,show lv false=0 from rfl] at hA hP
      simp [go_sem,ir42,encFr,u8v,hA,hx,hrt,hn,wn,hr,hane,hsz,hsz2,hP,hnl,hr1,hcm,show IntKind.wrap .i64 5=5 from rfl,show IntKind.wrap .i64 6=6 from rfl,nilS,purse_eq,List.range_succ]
      rw [run_inLoop']
      simp [go_sem,purse_eq,List.range_succ]
      simp [encFr,u8v,hx,hrt,hn] at hloop
      refine hloop _ ?_
      intro τ Y t6 t7
      simp [go_sem,t6,t7,purse_eq,List.range_succ]
    · simp only [hx,Bool.false_eq_true,if_false,if_true] at hP hloop ⊢
      generalize hX:[false]++arbP f++bitsOf 6 n=X at *
      simp [encFr,u8v,hx,hrt,hn,encLv,hcm,show lv false=0 from rfl] at hA hP
      simp [go_sem,ir42,encFr,u8v,hA,hx,hrt,hn,wn,hr,hane,hsz,hsz2,hP,hnl,hr1,hcm,show IntKind.wrap .i64 5=5 from rfl,show IntKind.wrap .i64 6=6 from rfl,nilS,purse_eq,List.range_succ]
      rw [run_inLoop']
      simp [go_sem,purse_eq,List.range_succ]
      simp [encFr,u8v,hx,hrt,hn] at hloop
      refine hloop _ ?_
      intro τ Y t6 t7
      simp [go_sem,t6,t7,purse_eq,List.range_succ]
  · simp only [if_true,List.append_nil]
    cases hx:f.ext
    · simp only [hx,Bool.false_eq_true,if_false,if_true] at hP hloop ⊢
      generalize hX:[false]++arbP f++bitsOf 5 n=X at *
      simp [encFr,u8v,hx,hrt,hn,encLv,hcm,show lv false=0 from rfl] at hA hP
      simp [go_sem,ir42,encFr,u8v,hA,hx,hrt,hn,wn,hr,hane,hsz,hsz2,hP,hnl,hr1,hcm,show IntKind.wrap .i64 5=5 from rfl,show IntKind.wrap .i64 6=6 from rfl,nilS,purse_eq,List.range_succ]
    · simp only [hx,Bool.false_eq_true,if_false,if_true] at hP hloop ⊢
      generalize hX:[false]++arbP f++bitsOf 6 n=X at *
      simp [encFr,u8v,hx,hrt,hn,encLv,hcm,show lv false=0 from rfl] at hA hP
      simp [go_sem,ir42,encFr,u8v,hA,hx,hrt,hn,wn,hr,hane,hsz,hsz2,hP,hnl,hr1,hcm,show IntKind.wrap .i64 5=5 from rfl,show IntKind.wrap .i64 6=6 from rfl,nilS,purse_eq,List.range_succ]
end Go.AM.R1
open Go Go.AM
namespace Go.AM.R1
theorem bytesP_length:∀ bs:List Nat,(bytesP bs).length=8 * bs.length
  | []=>rfl
  | c::bs=>by
    show (bitsOf 8 c++bytesP bs).length=_
    rw [List.length_append,bitsOf_length,bytesP_length bs,List.length_cons];omega
theorem bitsP_length (f:Fr):(bitsP f).length≤103∧19≤(bitsP f).length:=by
  unfold bitsP
  have h:(f.bytes.take f.len.toNat).length≤8:=by simp [Fr.bytes];omega
  have h2:=bytesP_length (f.bytes.take f.len.toNat)
  simp only [List.length_append,arbP_length,bitsOf_length,List.length_singleton]
  constructor
  · split<;>split<;>simp<;>omega
  · split<;>split<;>simp<;>omega
def allP (f:Fr):List Bool:=bitsP f++bitsOf 15 (c15L (bitsP f))++List.replicate 10 true
theorem fall_err (f:Fr) (h:checkP f≠0):call E (.func (.func 28) [] []) [.agg (encFr f)] []=some (.tup [nilS,.lit (.int .i64 (checkP f))],[]):=by
  rw [call_func E E28]
  have hA:=fbits_err f h
  generalize checkP f=c at *
  simp [encFr,u8v,nilS] at hA
  simp [go_sem,ir28,encFr,u8v,hA,h,nilS,purse_eq,List.range_succ]
theorem fall_spec (f:Fr) (hf:f.Ok) (h:checkP f=0):call E (.func (.func 28) [] []) [.agg (encFr f)] []=some (.tup [.own 0 (allP f).length 1 0 (allP f).length,.lit (.int .i64 0)],[.arr true false false 1 ((allP f).map encLv)]):=by
  rw [call_func E E28]
  have hB:=fbits_spec f hf h
  obtain ⟨hl1,hl2⟩:=bitsP_length f
  have hS:=csum_spec (bitsP f) (by omega) false false
  have hBt:=cbits_spec (c15L (bitsP f)) (c15L_lt _)
  have hO:=ones10
  have hbl:=bitsOf_length 15 (c15L (bitsP f))
  have hne:bitsP f≠[]:=by intro q;rw [q] at hl2;simp at hl2
  have hne2:bitsOf 15 (c15L (bitsP f))≠[]:=by intro q;rw [q] at hbl;simp at hbl
  have hC:=concatL3 (bitsP f) (bitsOf 15 (c15L (bitsP f))) (List.replicate 10 true) hne hne2 (by simp) (by simp;omega) true false false false false false false
  unfold allP
  generalize bitsOf 15 (c15L (bitsP f))=S at *
  generalize c15L (bitsP f)=s at *
  generalize bitsP f=B at *
  have c15:cutE (S.map encLv) 0 15=S.map encLv:=cutE_whole (by simp [hbl])
  have hr:=List.map_replicate (f:=encLv) (n:=10) (a:=true)
  rw [hr] at hC
  rw [show encLv true=[.lit (.int .i64 1)] from rfl] at hC
  generalize hRR:List.replicate 10 [AVal.lit (.int .i64 1)]=RR at *
  have hRl:RR.length=10:=by rw [← hRR];simp
  have c10:cutE RR 0 10=RR:=cutE_whole hRl
  simp [encFr,u8v,nilS] at hB
  simp [hbl,hRR] at hC
  simp [go_sem,ir28,encFr,u8v,hB,hS,hBt,hO,hC,hbl,c15,c10,hRl,nilS,purse_eq,List.range_succ]
/-! ### Levels that are added -/
def tellR (out:List Bool) (run:Nat) (b:Bool):Nat:=if out.getLast?=some b then run+1 else 1
def addS (out:List Bool) (run:Nat):List Bool→List Bool
  | []=>out
  | x::l=>if tellR out run x=5 then addS (out++[x,!x]) 1 l else addS (out++[x]) (tellR out run x) l
theorem tell_spec (out:List Bool) (ho:out.length≤1000000) (run:Nat) (hr:run≤1000000) (b:Bool) :
    call E (.func (.func 48) [] [.ptr 0 0,.ptr 2 0]) [.lit (.int .i64 (lv b))] [.box [.own 1 out.length 1 0 out.length],.arr true false false 1 (out.map encLv),.box [.lit (.int .i64 run)]]
      = some (.lit (.bool (decide (tellR out run b=5))),[.box [.own 1 (out++[b]).length 1 0 (out++[b]).length],.arr true false false 1 ((out++[b]).map encLv),.box [.lit (.int .i64 (tellR out run b))]]):=by
  rw [call_func E E48]
  have w1:IntKind.wrap .i64 ((run:Int)+1)=run+1:=wrap64 (by omega) (by omega)
  have hsz:¬ (70368744177664<(out.length+1) * 8):=by omega
  have hrl:=rowsLv out
  have hr1:∀ x,rowsOk 1 [[AVal.lit (.int .i64 x)]]=true:=fun _=>rfl
  rcases List.eq_nil_or_concat out with rfl | ⟨o,c,rfl⟩
  · simp [go_sem,ir48,tellR,hr1,encLv,nilS,purse_eq,List.range_succ]
  · rw [List.concat_eq_append] at *
    have hg:(o++[c]).getLast?=some c:=by simp
    have w2:IntKind.wrap .i64 (((o++[c]).length:Int) - 1)=(o.length:Int):=by rw [wrap64 (by omega) (by omega)];simp
    have hgi:((o++[c]).map encLv)[o.length]?=some (encLv c):=by simp
    have hgl:o.length<(o++[c]).length:=by simp
    have hpos:(0:Int)<((o++[c]).length:Int):=by simp
    have hpos':0<(o++[c]).length:=by simp
    have hml:((o++[c]).map encLv).length=(o++[c]).length:=by simp
    have hge:∀ h:o.length<((o++[c]).map encLv).length,((o++[c]).map encLv)[o.length]'h=encLv c:=fun h=>Option.some.inj ((List.getElem?_eq_getElem h).symm.trans hgi)
    unfold tellR
    rw [hg]
    have hmb:(o++[c]++[b]).map encLv=(o++[c]).map encLv++[encLv b]:=by simp
    have hlb:(o++[c]++[b]).length=(o++[c]).length+1:=by simp
    rw [hmb,hlb]
    generalize hB:(o++[c]).map encLv=B at *
    generalize hN:(o++[c]).length=N at *
    by_cases hcb:c=b
    · subst hcb
      have hlv:encLv c=[.lit (.int .i64 (lv c))]:=rfl
      by_cases h5:run+1=5
      · have h5i:(run:Int)+1=5:=by omega
        simp [go_sem,ir48,hr1,hlv,w1,w2,hgi,hgl,hml,hpos,hpos',hge,h5,h5i,show IntKind.wrap .i64 5=5 from rfl,hrl,hsz,nilS,purse_eq,List.range_succ]
      · have h5i:¬ (run:Int)+1=5:=by omega
        simp [go_sem,ir48,hr1,hlv,w1,w2,hgi,hgl,hml,hpos,hpos',hge,h5,h5i,hrl,hsz,nilS,purse_eq,List.range_succ]
    · have hlv:encLv c=[.lit (.int .i64 (lv c))]:=rfl
      have hlv2:encLv b=[.lit (.int .i64 (lv b))]:=rfl
      have hne:¬ lv c=lv b:=by cases c<;>cases b<;>simp_all [lv]
      simp [go_sem,ir48,hr1,hlv,hlv2,w1,w2,hgi,hgl,hml,hpos,hpos',hge,hcb,hne,hrl,hsz,nilS,purse_eq,List.range_succ]
theorem other_spec (b:Bool):call E (.func (.func 49) [] []) [.lit (.int .i64 (lv b))] []=some (.lit (.int .i64 (lv (!b))),[]):=by
  rw [call_func E E49]
  cases b<;>simp [go_sem,ir49,lv]<;>rfl
theorem tellR_le (out:List Bool) (run:Nat) (b:Bool):tellR out run b≤run+1:=by unfold tellR;split<;>omega
theorem tellR_other (out:List Bool) (run:Nat) (b:Bool):tellR (out++[b]) run (!b)=1:=by
  unfold tellR;rw [if_neg (by simp)]
theorem add_loop5 (m:List Bool) (hl:m.length≤100000) (nl fu:Bool) (k:List Item) (R:List Bool→Option (AVal × Heap))
    (hk:∀ τ (out:List Bool) (rn:Nat),lk 3 τ=.ptr 1 0→finK 0 [.tmp 2] (run E 0 k τ [.arr true false false 1 (out.map encLv),.box [.own 0 out.length 1 0 out.length],.box [.lit (.int .i64 rn)]])=R out) :
    ∀ (d i:Nat) (out:List Bool) (rn:Nat),i+d=m.length→out.length≤2 * i→rn≤4 →
   finK 0 [.tmp 2] (run E 0 (.code L29_0::.inLoop [3,5,19,20,21] L29_0::.inBlock 0::k) [(3,.ptr 1 0),(5,.func (.func 48) [] [.ptr 1 0,.ptr 2 0]),(19,.imm nl fu true (m.map encLv)),(20,.lit (.int .i64 m.length)),(21,.lit (.int .i64 i))] [.arr true false false 1 (out.map encLv),.box [.own 0 out.length 1 0 out.length],.box [.lit (.int .i64 rn)]])=R (addS out rn (m.drop i)):=by
  intro d
  induction d with
  | zero =>
    intro i out rn hi ho hrn
    have:i=m.length:=by omega
    subst this
    rw [List.drop_length,addS]
    simp [go_sem,run_codeL E L29_0.eq_1]
    exact hk _ out rn rfl
  | succ d ih =>
    intro i out rn hi ho hrn
    have hlt:i<m.length:=by omega
    have w:=wrapIdx (i:=i) (by omega)
    have hT:=tell_spec out (by omega) rn (by omega) m[i]
    have hle:=tellR_le out rn m[i]
    rw [List.drop_eq_getElem_cons hlt,addS]
    by_cases h5:tellR out rn m[i]=5
    · rw [if_pos h5]
      have hO:=other_spec m[i]
      have hT2:=tell_spec (out++[m[i]]) (by simp;omega) 5 (by omega) (!m[i])
      rw [tellR_other,List.append_assoc,show [m[i]]++[!m[i]]=[m[i],!m[i]] from rfl] at hT2
      have ih2:=ih (i+1) (out++[m[i],!m[i]]) 1 (by omega) (by simp;omega) (by omega)
      generalize R _=Q at ih2 ⊢
      generalize out++[m[i],!m[i]]=out2 at *
      rw [h5] at hT
      generalize out++[m[i]]=out1 at *
      simp at ih2 w hT hT2
      simp [go_sem,run_codeL E L29_0.eq_1,hlt,List.getElem?_eq_getElem hlt,encLv,w,hT,hO,hT2,purse_eq,List.range_succ]
      rw [run_inLoop']
      simp [go_sem,purse_eq,List.range_succ]
      exact ih2
    · rw [if_neg h5]
      have ih2:=ih (i+1) (out++[m[i]]) (tellR out rn m[i]) (by omega) (by simp;omega) (by omega)
      generalize R _=Q at ih2 ⊢
      generalize out++[m[i]]=out1 at *
      generalize tellR out rn m[i]=r1 at *
      have hlg:(m.map encLv)[i]?=some (encLv m[i]):=by rw [List.getElem?_map,List.getElem?_eq_getElem hlt];rfl
      simp [h5] at ih2 w hT
      simp [go_sem,run_codeL E L29_0.eq_1,hlt,List.getElem?_eq_getElem hlt,encLv,w,hT,purse_eq,List.range_succ]
      rw [run_inLoop']
      simp [go_sem,purse_eq,List.range_succ]
      exact ih2
def stuffP (m:List Bool):List Bool:=addS [] 0 m
theorem addS_len:∀ (m out:List Bool) (rn:Nat),(addS out rn m).length≤out.length+2 * m.length
  | [],out,rn=>by simp [addS]
  | x :: m,out,rn=>by
    rw [addS]
    split
    · have:=addS_len m (out++[x,!x]) 1
      simp at this ⊢;omega
    · have:=addS_len m (out++[x]) (tellR out rn x)
      simp at this ⊢;omega
theorem add_spec5 (m:List Bool) (hl:m.length≤100000) (nl fu:Bool):call E (.func (.func 29) [] []) [.imm nl fu true (m.map encLv)] []=some (.own 0 (stuffP m).length 1 0 (stuffP m).length,[.arr true false false 1 ((stuffP m).map encLv)]):=by
  rw [call_func E E29]
  have hc:=check_lv m (by omega) nl fu
  have wq:IntKind.wrap .i64 ((m.length:Int).tdiv 4)=((m.length / 4:Nat):Int):=by rw [Int.tdiv_eq_ediv_of_nonneg (by omega),wrap64 (by omega) (by omega)];omega
  have wq':IntKind.wrap .i64 ((m.length:Int) / 4)=((m.length / 4:Nat):Int):=by rw [wrap64 (by omega) (by omega)];omega
  have ws:IntKind.wrap .i64 ((m.length:Int)+((m.length / 4:Nat):Int))=((m.length+m.length / 4:Nat):Int):=by rw [wrap64 (by omega) (by omega)];omega
  have hb1:((m.length+m.length / 4:Nat):Int)≤70368744177664:=by omega
  have hb2:((m.length+m.length / 4:Nat):Int) * 8≤70368744177664:=by omega
  have hloop:=fun k hk=>add_loop5 m hl nl fu k (fun out=>some (.own 0 out.length 1 0 out.length,[.arr true false false 1 (out.map encLv)])) hk m.length 0 [] 0 (by omega) (by simp) (by omega)
  rw [List.drop_zero,show addS [] 0 m=stuffP m from rfl] at hloop
  generalize stuffP m=S at *
  generalize m.length+m.length / 4=q at *
  generalize m.length / 4=q4 at *
  simp at hloop
  simp [go_sem,ir29,hc,wq,wq',ws,hb1,hb2,nilS,purse_eq,List.range_succ]
  rw [run_inLoop']
  simp [go_sem,purse_eq,List.range_succ]
  refine hloop _ ?_
  intro τ out rn t3
  simp [go_sem,t3,purse_eq,List.range_succ]
/-! ### A frame on the bus -/
def rowP (f:Fr):List Bool:=stuffP (bitsP f++bitsOf 15 (c15L (bitsP f)))++List.replicate 10 true
def encodeP (f:Fr) (ack:Bool):List Bool:=if ack=true then (rowP f).set ((rowP f).length - 9) false else rowP f
theorem encode_err (f:Fr) (h:checkP f≠0) (ack:Bool):call E (.func (.func 14) [] []) [.agg (encFr f),.lit (.bool ack)] []=some (.tup [nilS,.lit (.int .i64 (checkP f))],[]):=by
  rw [call_func E E14]
  have hA:=fall_err f h
  generalize checkP f=c at *
  simp [encFr,u8v,nilS] at hA
  simp [go_sem,ir14,encFr,u8v,hA,h,nilS,purse_eq,List.range_succ]
theorem encode_spec (f:Fr) (hf:f.Ok) (h:checkP f=0) (ack:Bool):call E (.func (.func 14) [] []) [.agg (encFr f),.lit (.bool ack)] []=some (.tup [.own 0 (encodeP f ack).length 1 0 (encodeP f ack).length,.lit (.int .i64 0)],[.arr true false false 1 ((encodeP f ack).map encLv)]):=by
  rw [call_func E E14]
  have hA:=fall_spec f hf h
  obtain ⟨hl1,hl2⟩:=bitsP_length f
  have hbl:=bitsOf_length 15 (c15L (bitsP f))
  have hlen:(allP f).length=(bitsP f++bitsOf 15 (c15L (bitsP f))).length+10:=by unfold allP;simp;omega
  have hlen2:(bitsP f++bitsOf 15 (c15L (bitsP f))).length≤118:=by simp;omega
  have htk:List.take (bitsP f++bitsOf 15 (c15L (bitsP f))).length ((allP f).map encLv)=(bitsP f++bitsOf 15 (c15L (bitsP f))).map encLv:=by
    unfold allP;rw [List.map_append,← List.length_map (f:=encLv),List.take_left]
  have hdk:List.drop (bitsP f++bitsOf 15 (c15L (bitsP f))).length ((allP f).map encLv)=(List.replicate 10 true).map encLv:=by
    unfold allP;rw [List.map_append,← List.length_map (f:=encLv),List.drop_left]
  have hAd:=add_spec5 (bitsP f++bitsOf 15 (c15L (bitsP f))) (by omega) false false
  have hsl:=addS_len (bitsP f++bitsOf 15 (c15L (bitsP f))) [] 0
  rw [show addS [] 0 (bitsP f++bitsOf 15 (c15L (bitsP f)))=stuffP (bitsP f++bitsOf 15 (c15L (bitsP f))) from rfl] at hsl
  have hrow:rowP f=stuffP (bitsP f++bitsOf 15 (c15L (bitsP f)))++List.replicate 10 true:=rfl
  unfold encodeP
  rw [hrow]
  generalize stuffP (bitsP f++bitsOf 15 (c15L (bitsP f)))=S at *
  generalize bitsP f++bitsOf 15 (c15L (bitsP f))=B at *
  generalize allP f=A at *
  have hct:cutE (A.map encLv) 0 B.length=B.map encLv:=by unfold cutE;simp only [Nat.zero_add,List.drop_zero];exact htk
  have hcd:cutE (A.map encLv) B.length (A.length - B.length)=(List.replicate 10 true).map encLv:=by unfold cutE;rw [Nat.add_sub_cancel' (by omega),List.take_of_length_le (by simp)];exact hdk
  rw [List.map_replicate,show encLv true=[.lit (.int .i64 1)] from rfl] at hcd
  have w1:IntKind.wrap .i64 ((A.length:Int) - 10)=(B.length:Int):=by rw [wrap64 (by omega) (by omega)];omega
  have hle:B.length≤A.length:=by omega
  have hsub:A.length - B.length=10:=by omega
  have hrS:=rowsLv S
  have hr10:rowsOk 1 (List.replicate 10 [AVal.lit (.int .i64 1)])=true:=rfl
  have hsz:¬ (70368744177664<(S.length+10) * 8):=by simp at hsl;omega
  have hmap:(S++List.replicate 10 true).map encLv=S.map encLv++List.replicate 10 [.lit (.int .i64 1)]:=by rw [List.map_append,List.map_replicate];rfl
  have hSl:S.length≤300:=by simp at hsl;omega
  clear htk hdk hsl hrow
  rw [hsub] at hcd
  simp [encFr,u8v,nilS] at hA
  cases ack
  · simp only [Bool.false_eq_true,if_false]
    rw [hmap]
    generalize hRR:List.replicate 10 [AVal.lit (.int .i64 1)]=RR at *
    have hRl:RR.length=10:=by rw [← hRR];simp
    have hRn:RR≠[]:=by intro q;rw [q] at hRl;simp at hRl
    simp [go_sem,ir14,encFr,u8v,hA,w1,hle,hct,hcd,hAd,hsub,hrS,hr10,hsz,hRl,hRn,nilS,purse_eq,List.range_succ]
  · simp only [if_true]
    have hle9:(S++List.replicate 10 true).length - 9=S.length+1:=by simp
    have hm2:((S++List.replicate 10 true).set ((S++List.replicate 10 true).length - 9) false).map encLv=(S.map encLv++List.replicate 10 [AVal.lit (.int .i64 1)]).set (S.length+1) [AVal.lit (.int .i64 0)]:=by
      rw [List.map_set,hmap,hle9];rfl
    rw [hm2,List.length_set]
    have hg1:(S.map encLv++List.replicate 10 [AVal.lit (.int .i64 1)])[S.length+1]?=some [.lit (.int .i64 1)]:=by
      rw [List.getElem?_append_right (by simp)];simp
    have hw9:IntKind.wrap .i64 ((S.length:Int)+10 - 10)=S.length:=by rw [wrap64 (by omega) (by omega)];omega
    have hw8:IntKind.wrap .i64 ((S.length:Int)+1)=((S.length+1:Nat):Int):=by rw [wrap64 (by omega) (by omega)];omega
    have hw7:IntKind.wrap .i64 (S.length:Int)=S.length:=wrap64 (by omega) (by omega)
    generalize hRR:List.replicate 10 [AVal.lit (.int .i64 1)]=RR at *
    have hRl:RR.length=10:=by rw [← hRR];simp
    have hRn:RR≠[]:=by intro q;rw [q] at hRl;simp at hRl
    have hEl:(S.map encLv++RR).length=S.length+10:=by simp [hRl]
    have hlt1:S.length+1<S.length+10:=by omega
    have hge:∀ q:S.length+1<(S.map encLv++RR).length,(S.map encLv++RR)[S.length+1]'q=[.lit (.int .i64 1)]:=fun q=>Option.some.inj ((List.getElem?_eq_getElem q).symm.trans hg1)
    have h01:(0:Int)≤(S.length:Int)+1:=by omega
    generalize hEE:S.map encLv++RR=EE at *
    simp [go_sem,ir14,encFr,u8v,hA,w1,hle,hct,hcd,hAd,hsub,hrS,hr10,hsz,hRl,hRn,hw9,hw8,hw7,hg1,hEl,hEE,h01,hlt1,hge,nilS,purse_eq,List.range_succ]
end Go.AM.R1
open Go Go.AM
namespace Go.AM.R1
/-! ### What the law's helpers tell -/
theorem zero_ok:Fr.zero.Ok:=⟨by simp [Fr.zero],by simp [Fr.zero],by simp [Fr.zero],by simp [Fr.zero],by simp [Fr.zero,Fr.bytes]⟩
end Go.AM.R1
open Go Go.AM
namespace Go.AM.R1
/-! ### A frame's levels, read again -/
theorem valGo_bits:∀ (w a n:Nat),valGo a (bitsOf w n)=a * 2 ^ w+n % 2 ^ w
  | 0,a,n=>by simp [bitsOf,valGo,Nat.mod_one]
  | w + 1,a,n=>by
    rw [bitsOf,valGo,valGo_bits w]
    have hb:(decide (n / 2 ^ w % 2=1)).toNat=n / 2 ^ w % 2:=by
      by_cases q:n / 2 ^ w % 2=1
      · rw [decide_eq_true q,q];rfl
      · rw [decide_eq_false q]
        have:n / 2 ^ w % 2=0:=by omega
        rw [this];rfl
    have hm:n % 2 ^ (w+1)=2 ^ w * (n / 2 ^ w % 2)+n % 2 ^ w:=by
      rw [Nat.pow_succ,Nat.mod_mul];omega
    rw [hb,hm,Nat.pow_succ,Nat.add_mul,Nat.mul_comm 2 a,Nat.mul_assoc,Nat.mul_comm 2 (2 ^ w),Nat.mul_comm (n / 2 ^ w % 2)]
    omega
theorem valB_bits (w n:Nat):valB (bitsOf w n)=n % 2 ^ w:=by
  unfold valB;rw [valGo_bits];omega
theorem bytesP_cons (c:Nat) (l:List Nat):bytesP (c::l)=bitsOf 8 c++bytesP l:=rfl
theorem byte_at:∀ (bs:List Nat) (j:Nat) (hj:j<bs.length) (r:List Bool),((bytesP bs++r).take (8 * (j+1))).drop (8 * j)=bitsOf 8 bs[j]
  | c::bs,0,_,r=>by
    rw [bytesP_cons,List.append_assoc,show 8 * (0+1)=8 from rfl,List.take_append_of_le_length (by rw [bitsOf_length];omega),List.take_of_length_le (by rw [bitsOf_length];omega)]
    rfl
  | c::bs,j+1,hj,r=>by
    have h:=byte_at bs j (by simpa using hj) r
    have e1:8 * (j+1+1)=(bitsOf 8 c).length+8 * (j+1):=by rw [bitsOf_length];omega
    have e2:8 * (j+1)=(bitsOf 8 c).length+8 * j:=by rw [bitsOf_length];omega
    rw [bytesP_cons,List.append_assoc,e1,List.take_length_add_append]
    conv=>lhs;arg 1;rw [e2]
    rw [List.drop_length_add_append]
    exact h
/-- The levels of a right frame, what is behind them, as parts. -/
def headS (id n:Nat) (rtr:Bool) (X:List Bool):List Bool:=false::(bitsOf 11 id++(rtr::false::(bitsOf 5 n++X)))
def headE (id n:Nat) (rtr:Bool) (X:List Bool):List Bool:=false::(bitsOf 11 (id / 262144)++(true::true::(bitsOf 18 id++(rtr::(bitsOf 6 n++X)))))
theorem headS_facts (id n:Nat) (rtr:Bool) (X:List Bool):extF (headS id n rtr X)=false∧dataF (headS id n rtr X)=19∧rtrF (headS id n rtr X)=rtr∧sizeF (headS id n rtr X)=min (n % 16) 8∧((headS id n rtr X).take 12).drop 1=bitsOf 11 id:=by
  have h1:extF (headS id n rtr X)=false:=rfl
  have h2:dataF (headS id n rtr X)=19:=by unfold dataF;rw [h1];rfl
  refine ⟨h1,h2,?_,?_,rfl⟩
  · unfold rtrF;rw [h1];rfl
  · unfold sizeF;rw [h2]
    rw [show ((headS id n rtr X).take 19).drop (19 - 4)=bitsOf 4 n from rfl,valB_bits]
theorem headE_facts (id n:Nat) (rtr:Bool) (X:List Bool):extF (headE id n rtr X)=true∧dataF (headE id n rtr X)=39∧rtrF (headE id n rtr X)=rtr∧sizeF (headE id n rtr X)=min (n % 16) 8∧((headE id n rtr X).take 12).drop 1=bitsOf 11 (id / 262144)∧((headE id n rtr X).take 32).drop 14=bitsOf 18 id:=by
  have h1:extF (headE id n rtr X)=true:=rfl
  have h2:dataF (headE id n rtr X)=39:=by unfold dataF;rw [h1];rfl
  refine ⟨h1,h2,?_,?_,rfl,rfl⟩
  · unfold rtrF;rw [h1];rfl
  · unfold sizeF;rw [h2]
    rw [show ((headE id n rtr X).take 39).drop (39 - 4)=bitsOf 4 n from rfl,valB_bits]
def dataP (f:Fr):List Bool:=if f.rtr=true then [] else bytesP (f.bytes.take f.len.toNat)
theorem bitsP_head (f:Fr) (r:List Bool):bitsP f++r=if f.ext=true then headE f.id.toNat f.len.toNat f.rtr (dataP f++r) else headS f.id.toNat f.len.toNat f.rtr (dataP f++r):=by
  unfold bitsP arbP headE headS dataP
  cases f.ext<;>simp
theorem dataP_length (f:Fr) (h:checkP f=0):(dataP f).length=if f.rtr=true then 0 else 8 * f.len.toNat:=by
  obtain ⟨-,-,-,c4,c5,-⟩:=checkP_ok h
  unfold dataP
  split
  · rfl
  · rw [bytesP_length,List.length_take]
    simp [Fr.bytes];omega
theorem bitsP_facts (f:Fr) (h:checkP f=0) (r:List Bool):extF (bitsP f++r)=f.ext∧dataF (bitsP f++r)=(if f.ext=true then 39 else 19)∧rtrF (bitsP f++r)=f.rtr∧sizeF (bitsP f++r)=f.len.toNat∧sumF (bitsP f++r)=(bitsP f).length:=by
  obtain ⟨c1,c2,c3,c4,c5,c6⟩:=checkP_ok h
  have hdl:=dataP_length f h
  have hlen:(bitsP f).length=(if f.ext=true then 39 else 19)+(dataP f).length:=by
    have:=congrArg List.length (bitsP_head f [])
    rw [List.append_nil] at this
    rw [this]
    unfold headE headS
    cases f.ext<;>simp [bitsOf_length]<;>omega
  have hm:min (f.len.toNat % 16) 8=f.len.toNat:=by omega
  have hall:extF (bitsP f++r)=f.ext∧dataF (bitsP f++r)=(if f.ext=true then 39 else 19)∧rtrF (bitsP f++r)=f.rtr∧sizeF (bitsP f++r)=f.len.toNat:=by
    rw [bitsP_head]
    cases hx:f.ext
    · obtain ⟨q1,q2,q3,q4,-⟩:=headS_facts f.id.toNat f.len.toNat f.rtr (dataP f++r)
      exact ⟨q1,q2,q3,q4.trans hm⟩
    · obtain ⟨q1,q2,q3,q4,-⟩:=headE_facts f.id.toNat f.len.toNat f.rtr (dataP f++r)
      exact ⟨q1,q2,q3,q4.trans hm⟩
  refine ⟨hall.1,hall.2.1,hall.2.2.1,hall.2.2.2,?_⟩
  unfold sumF
  rw [hall.2.2.1,hall.2.1,hall.2.2.2,hlen,hdl]
  split<;>rename_i q<;>omega
end Go.AM.R1
open Go Go.AM
namespace Go.AM.R1
/-! ### The document's sum -/
/-! ### .. and its walk -/
end Go.AM.R1
open Go Go.AM
namespace Go.AM.R1
/-! ### The document's fields -/
/-! ### The field of the next level -/
end Go.AM.R1
open Go Go.AM
namespace Go.AM.R1
end Go.AM.R1
open Go Go.AM
namespace Go.AM.R1
/-! ### What the document sees of one frame -/
def onP (w:Wt) (b:Bool):Option Sg × Wt:=endP (takeP (countP w b) b)
theorem seeP_onP {w:Wt} (b:Bool) (h:w.on=true):seeP w b=onP w b:=by
  have hst:startP w b=w:=by unfold startP;rw [if_neg (by rw [h];simp)]
  unfold seeP onP;rw [hst,if_neg (by rw [h];simp)]
theorem nextF_gt {m:List Bool} (h:4<(nextF m).1):dataF m≤m.length∧sumF m+15≤m.length:=by
  have hs:=sumF_ge m
  unfold nextF at h
  split at h;· simp at h
  split at h;· simp at h
  split at h;· simp at h
  split at h;· simp at h
  split at h;· simp at h
  omega
theorem nextF_gt' {m:List Bool} (h1:dataF m≤m.length) (h2:sumF m+15≤m.length):4<(nextF m).1:=by
  have hs:=sumF_ge m
  unfold nextF
  rw [if_neg (by omega),if_neg (by
    rintro (q | ⟨q1,q2⟩)
    · omega
    · have:dataF m=39:=by unfold dataF;rw [if_pos q1]
      omega),if_neg (by omega),if_neg (by omega),if_neg (by omega)]
  repeat (first | split | omega)
theorem nextF_mono {m:List Bool} (h:4<(nextF m).1) (b:Bool):4<(nextF (m++[b])).1:=by
  obtain ⟨h1,h2⟩:=nextF_gt h
  refine nextF_gt' ?_ ?_
  · rw [dataF_append h1];simp;omega
  · rw [sumF_append h1];simp;omega
structure RI (m:List Bool) (frm i:Nat) (w:Wt):Prop where
  run5:w.run≤5
  tick:w.tick=i
  from_:w.frm=frm
  on:w.on=true
  raw:RawIn w.raw
  raw0:w.raw≠[]→w.raw[0]?=some false
  le:frm≤i
  init:w.raw=[]→i=frm∧w.run=0
  run0:w.raw≠[]→(nextF w.raw).1≤4→0<w.run
  later:w.raw≠[]→frm<i
  prev:0<w.run→m[i - 1]?=some w.last
theorem ri_append {m:List Bool} {frm i:Nat} {w:Wt} (h:RI m frm i w) {b:Bool} (hb:m[i]?=some b) (hb0:w.raw=[]→b=false) (w':Wt)
    (e1:w'.run≤5) (e2:w'.tick=i+1) (e3:w'.frm=w.frm) (e4:w'.on=true) (e5:w'.raw=w.raw++[b]) (hend:nextF w.raw≠(8,5)) (e6:(nextF w.raw).1≤4→0<w'.run) (e7:0<w'.run→w'.last=b):RI m frm (i+1) w':=by
  obtain ⟨h1,h2,h3,h4,h5,h6,h7,h8,h9,h10,h11⟩:=h
  have hne:w'.raw≠[]:=by rw [e5];simp
  refine ⟨e1,e2,by omega,e4,?_,?_,by omega,fun q=>absurd q hne,?_,fun _=>by omega,?_⟩
  · rw [e5];exact rawIn_append h5 (fun q=>hend (nextF_end q.1 q.2)) b
  · intro _
    rw [e5]
    by_cases q:w.raw=[]
    · rw [q,hb0 q];rfl
    · rw [List.getElem?_append_left (List.length_pos_iff.2 q)];exact h6 q
  · intro _ hk
    rw [e5] at hk
    apply e6
    apply Classical.byContradiction
    intro q
    have:=nextF_mono (m:=w.raw) (by omega) b
    omega
  · intro q
    rw [e7 q];simpa using hb
theorem ri_take {m:List Bool} {frm i:Nat} {w:Wt} (h:RI m frm i w) {b:Bool} (hb:m[i]?=some b) (hb0:w.raw=[]→b=false) (W:Wt) (e1:W.raw=w.raw) (e2:W.run=w.run) (e3:W.last=w.last) (e4:W.tick=i+1) (e5:W.frm=w.frm) (e6:W.on=true) (ht2:(takeP W b).1=0):RI m frm (i+1) (takeP W b).2:=by
  have hk:=takeP_keep W b
  have hr:=takeP_run W b (by rw [e2];exact h.run5)
  have k1:(takeP W b).2.frm=w.frm:=by rw [hk.1,e5]
  have k2:(takeP W b).2.tick=i+1:=by rw [hk.2.1,e4]
  have k3:(takeP W b).2.on=true:=by rw [hk.2.2.1,e6]
  clear hk
  unfold takeP at ht2 hr k1 k2 k3 ⊢
  rw [e2,e3,e1] at *
  by_cases h5:w.run=5
  · simp only [if_pos h5] at *
    by_cases hbl:b=w.last
    · rw [if_pos hbl] at ht2;cases ht2
    · rw [if_neg hbl] at hr k1 k2 k3 ⊢
      obtain ⟨g1,g2,g3,g4,g5,g6,g7,g8,g9,g10,g11⟩:=h
      have hne:w.raw≠[]:=fun q=>by have:=(g8 q).2;omega
      refine ⟨by show 1≤5;omega,k2,by rw [← g3];exact k1,k3,g5,g6,by omega,fun q=>absurd q hne,fun _ _=>by show 0<1;omega,fun _=>by have:=g10 hne;omega,fun _=>?_⟩
      show m[i+1 - 1]?=some b
      simpa using hb
  · simp only [if_neg h5] at *
    by_cases q6:(nextF w.raw).1=6
    · simp only [if_pos q6] at *
      refine ri_append h hb hb0 _ hr k2 k1 k3 rfl ?_ (fun q=>by omega) ?_
      · intro e;rw [e] at q6;simp at q6
      · intro q
        simp only [if_pos (by omega:4<(nextF w.raw).1)] at q
        cases q
    · simp only [if_neg q6] at *
      by_cases qb:(nextF w.raw).1=5∧rightF w.raw=false∨4<(nextF w.raw).1∧b=false
      · rw [if_pos qb] at ht2;cases ht2
      · simp only [if_neg qb] at *
        by_cases q8:(nextF w.raw).1=8∧(nextF w.raw).2=5
        · rw [if_pos q8] at ht2;cases ht2
        · simp only [if_neg q8] at *
          refine ri_append h hb hb0 _ hr k2 k1 k3 rfl ?_ ?_ ?_
          · intro e;exact q8 ⟨by rw [e],by rw [e]⟩
          · intro q
            simp only [if_neg (by omega:¬ 4<(nextF w.raw).1)]
            split<;>simp
          · intro q
            by_cases q4:4<(nextF w.raw).1
            · simp only [if_pos q4] at q;cases q
            · simp only [if_neg q4]
              split
              · rename_i q5;exact q5.2.symm
              · rfl
theorem RI.step {m:List Bool} {frm i:Nat} {w:Wt} (h:RI m frm i w) {b:Bool} (hb:m[i]?=some b) (hb0:w.raw=[]→b=false) (hn:(onP w b).1=none):RI m frm (i+1) (onP w b).2:=by
  have ht:(onP w b).2=(takeP (countP w b) b).2∧(takeP (countP w b) b).1=0:=by
    unfold onP endP at hn ⊢
    split
    · rename_i q;exact ⟨rfl,q⟩
    · rename_i q
      rw [if_neg q] at hn
      split at hn<;>cases hn
  rw [ht.1]
  exact ri_take h hb hb0 _ rfl rfl rfl (by show w.tick+1=_;rw [h.tick]) rfl h.on ht.2
end Go.AM.R1
open Go Go.AM
namespace Go.AM.R1
/-! ### The walk of the document's One -/
/-- The watcher as a frame begins. -/
def onW (w:Wt) (frm:Nat):Wt:={ w with on:=true,frm:=frm,tick:=frm,raw:=[],last:=false,run:=0,acked:=false }
end Go.AM.R1
open Go Go.AM
namespace Go.AM.R1
/-! ### What the document sees, all of it -/
theorem onP_facts (w:Wt) (b:Bool):(onP w b).2.tick=w.tick+1∧(onP w b).2.ones=(if b=true then w.ones+1 else 0)∧(∀ s,(onP w b).1=some s→s.to=w.tick+1∧(onP w b).2.on=false)∧((onP w b).1=none→(onP w b).2.on=w.on):=by
  have hk:=takeP_keep (countP w b) b
  unfold onP endP
  by_cases h0:(takeP (countP w b) b).1=0
  · rw [if_pos h0]
    exact ⟨hk.2.1,hk.2.2.2,fun s h=>(by simp at h),fun _=>hk.2.2.1⟩
  · rw [if_neg h0]
    by_cases h2:(takeP (countP w b) b).1=2
    · rw [if_pos h2]
      exact ⟨hk.2.1,hk.2.2.2,fun s h=>(by simp only [Option.some.injEq] at h;subst h;exact ⟨hk.2.1,rfl⟩),fun h=>(by simp at h)⟩
    · rw [if_neg h2]
      exact ⟨hk.2.1,hk.2.2.2,fun s h=>(by simp only [Option.some.injEq] at h;subst h;exact ⟨hk.2.1,rfl⟩),fun h=>(by simp at h)⟩
end Go.AM.R1
open Go Go.AM
namespace Go.AM.R1
end Go.AM.R1
open Go Go.AM
namespace Go.AM.R1
theorem take_drop_add (l:List Bool) (a k n:Nat):(l.take (a+k)).drop (a+n)=((l.drop a).take k).drop n:=by
  rw [List.drop_take,List.drop_take,List.drop_drop,show a+k - (a+n)=k - n from by omega]
theorem frBytes_len (f:Fr):f.bytes.length=8:=rfl
theorem bitsP_drop (f:Fr) (h:checkP f=0) (r:List Bool):(bitsP f++r).drop (dataF (bitsP f++r))=dataP f++r:=by
  rw [(bitsP_facts f h r).2.1,bitsP_head]
  cases f.ext
  · rfl
  · rfl
theorem byteF_bits (f:Fr) (hf:f.Ok) (h:checkP f=0) (r:List Bool) (j:Nat) (hj:j<8):byteF (bitsP f++r) j=f.bytes[j]'(by rw [frBytes_len];exact hj):=by
  obtain ⟨b1,b2,b3,b4,b5⟩:=bitsP_facts f h r
  obtain ⟨c1,c2,c3,c4,c5,c6⟩:=checkP_ok h
  have hz:=((maxL_zero _ _).1 c6).2
  have hsd:(sumF (bitsP f++r) - dataF (bitsP f++r)) / 8=if f.rtr=true then 0 else f.len.toNat:=by
    unfold sumF;rw [b3,b4]
    split<;>omega
  unfold byteF
  rw [hsd]
  by_cases hjn:j<if f.rtr=true then 0 else f.len.toNat
  · rw [if_pos hjn]
    have hrt:f.rtr=false:=by
      cases hr:f.rtr
      · rfl
      · rw [hr] at hjn;simp at hjn
    rw [hrt] at hjn
    simp only [Bool.false_eq_true,if_false] at hjn
    rw [take_drop_add,bitsP_drop f h r]
    have hd:dataP f=bytesP (f.bytes.take f.len.toNat):=by unfold dataP;rw [hrt];rfl
    have hjl:j<(f.bytes.take f.len.toNat).length:=by rw [List.length_take,frBytes_len];omega
    rw [hd,byte_at _ j hjl,valB_bits,List.getElem_take]
    exact Nat.mod_eq_of_lt (hf.byte _ (List.getElem_mem _))
  · rw [if_neg hjn]
    refine (hz _ ?_).symm
    have hjl:j<f.bytes.length:=by rw [frBytes_len];exact hj
    generalize (if f.rtr=true then 0 else f.len.toNat)=n at *
    have:f.bytes[j]=(f.bytes.drop n)[j - n]'(by rw [List.length_drop];omega):=by
      rw [List.getElem_drop];congr 1;omega
    rw [this];exact List.getElem_mem _
theorem idF_bits (f:Fr) (h:checkP f=0) (r:List Bool):(idF (bitsP f++r):Int)=f.id:=by
  obtain ⟨c1,c2,c3,c4,c5,c6⟩:=checkP_ok h
  unfold idF
  rw [(bitsP_facts f h r).1,bitsP_head]
  cases hx:f.ext
  · obtain ⟨-,-,-,-,q⟩:=headS_facts f.id.toNat f.len.toNat f.rtr (dataP f++r)
    simp only [Bool.false_eq_true,if_false,q,valB_bits]
    have:=c3 hx
    omega
  · obtain ⟨-,-,-,-,q1,q2⟩:=headE_facts f.id.toNat f.len.toNat f.rtr (dataP f++r)
    simp only [if_true,q1,q2,valB_bits]
    omega
theorem frameOf_bits (f:Fr) (hf:f.Ok) (h:checkP f=0) (r:List Bool):frameOf (bitsP f++r)=f:=by
  obtain ⟨b1,b2,b3,b4,b5⟩:=bitsP_facts f h r
  obtain ⟨c1,c2,c3,c4,c5,c6⟩:=checkP_ok h
  have hb:=byteF_bits f hf h r
  have hi:=idF_bits f h r
  unfold frameOf
  rw [b1,b3,b4,hi,hb 0 (by omega),hb 1 (by omega),hb 2 (by omega),hb 3 (by omega),hb 4 (by omega),hb 5 (by omega),hb 6 (by omega),hb 7 (by omega)]
  have hn:((f.len.toNat:Nat):Int)=f.len:=by omega
  rw [hn]
  rfl
/-- All that is stuffed. -/
def sentP (f:Fr):List Bool:=bitsP f++bitsOf 15 (c15L (bitsP f))
theorem sentP_sum (f:Fr) (h:checkP f=0) (r:List Bool):sumF (sentP f++r)=(bitsP f).length∧dataF (sentP f++r)≤(bitsP f).length∧(sentP f).length=(bitsP f).length+15:=by
  unfold sentP
  rw [List.append_assoc]
  obtain ⟨b1,b2,b3,b4,b5⟩:=bitsP_facts f h (bitsOf 15 (c15L (bitsP f))++r)
  have:=sumF_ge (bitsP f++(bitsOf 15 (c15L (bitsP f))++r))
  exact ⟨b5,by omega,by rw [List.length_append,bitsOf_length]⟩
theorem sentP_right (f:Fr) (h:checkP f=0) (r:List Bool):rightF (sentP f++r)=true:=by
  obtain ⟨s1,-,s3⟩:=sentP_sum f h r
  unfold rightF
  rw [s1,decide_eq_true_eq]
  rw [show (bitsP f).length+15=(sentP f).length from s3.symm,List.take_left]
  have e:(sentP f).drop (bitsP f).length=bitsOf 15 (c15L (bitsP f)):=by unfold sentP;rw [List.drop_left]
  have e2:(sentP f++r).take (bitsP f).length=bitsP f:=by unfold sentP;rw [List.append_assoc,List.take_left]
  rw [e,e2]
theorem prefix_kind (f:Fr) (h:checkP f=0) (p q:List Bool) (hq:q≠[]) (e:p++q=sentP f):(nextF p).1≤4:=by
  apply Classical.byContradiction
  intro hk
  obtain ⟨g1,g2⟩:=nextF_gt (m:=p) (by omega)
  have h1:=sumF_append g1 q
  obtain ⟨s1,-,s3⟩:=sentP_sum f h []
  rw [List.append_nil,← e,h1] at s1
  rw [← e,List.length_append] at s3
  have:=List.length_pos_iff.2 hq
  omega
theorem frameOf_sent (f:Fr) (hf:f.Ok) (h:checkP f=0) (r:List Bool):frameOf (sentP f++r)=f:=by
  unfold sentP;rw [List.append_assoc];exact frameOf_bits f hf h _
end Go.AM.R1
open Go Go.AM
namespace Go.AM.R1
/-! ### A frame's row, seen -/
def emit:Option Bool→Nat→List Bool→List Bool
  | _,_,[]=>[]
  | o,r,x::l=>if (if o=some x then r+1 else 1)=5 then x::(!x)::emit (some !x) 1 l else x::emit (some x) (if o=some x then r+1 else 1) l
theorem addS_emit:∀ (l out:List Bool) (r:Nat),addS out r l=out++emit out.getLast? r l
  | [],out,r=>by simp [addS,emit]
  | x::l,out,r=>by
    rw [addS,emit]
    unfold tellR
    generalize (if out.getLast?=some x then r+1 else 1)=r'
    by_cases h:r'=5
    · rw [if_pos h,if_pos h,addS_emit l,show (out++[x,!x]).getLast?=some (!x) from by simp [List.getLast?_append]];simp
    · rw [if_neg h,if_neg h,addS_emit l,show (out++[x]).getLast?=some x from by simp];simp
end Go.AM.R1
open Go Go.AM
namespace Go.AM.R1
/-! ### .. to its end -/
theorem nextF_sent (f:Fr) (h:checkP f=0) (t:List Bool) (ht:t.length≤9):nextF (sentP f++t)=if t.length=0 then (5,0) else if t.length=1 then (6,0) else if t.length=2 then (7,0) else (8,t.length - 3):=by
  obtain ⟨s1,s2,s3⟩:=sentP_sum f h t
  have hs:=sumF_ge (sentP f++t)
  have hl:(sentP f++t).length=(bitsP f).length+15+t.length:=by rw [List.length_append,s3]
  unfold nextF
  rw [s1] at *
  rw [hl]
  rw [if_neg (by omega),if_neg (by
    rintro (q | ⟨q1,q2⟩)
    · omega
    · have:dataF (sentP f++t)=39:=by unfold dataF;rw [if_pos q1]
      omega),if_neg (by omega),if_neg (by omega),if_neg (by omega)]
  by_cases t0:t.length=0
  · rw [if_pos (by omega),if_pos t0]
  · rw [if_neg (by omega),if_neg t0]
    by_cases t1:t.length=1
    · rw [if_pos (by omega),if_pos t1]
    · rw [if_neg (by omega),if_neg t1]
      by_cases t2:t.length=2
      · rw [if_pos (by omega),if_pos t2]
      · rw [if_neg (by omega),if_neg t2,if_pos (by omega)]
        congr 1;omega
theorem encodeP_parts (f:Fr) (ack:Bool):encodeP f ack=stuffP (sentP f)++[true,!ack,true,true,true,true,true,true,true,true]:=by
  have e:rowP f=stuffP (sentP f)++List.replicate 10 true:=rfl
  unfold encodeP
  rw [e]
  generalize stuffP (sentP f)=S
  cases ack
  · rfl
  · rw [if_pos rfl,show (S++List.replicate 10 true).length - 9=S.length+1 from by simp,List.set_append_right _ _ (by omega),show S.length+1 - S.length=1 from by omega]
    rfl
end Go.AM.R1
open Go Go.AM
namespace Go.AM.R1
/-! ### Levels behind others, plain -/
/-- The same, later. -/
def shW (δ o:Nat) (w:Wt):Wt:={ w with tick:=w.tick+δ,frm:=w.frm+δ,ones:=o }
def shS (δ:Nat) (s:Sg):Sg:={ s with frm:=s.frm+δ,to:=s.to+δ }
theorem takeP_sh (δ o:Nat) (w:Wt) (b:Bool):takeP (shW δ o w) b=((takeP w b).1,shW δ o (takeP w b).2):=by
  unfold takeP
  by_cases h5:w.run=5
  · rw [if_pos (show (shW δ o w).run=5 from h5),if_pos h5]
    by_cases hb:b=w.last
    · rw [if_pos (show b=(shW δ o w).last from hb),if_pos hb]
    · rw [if_neg (show ¬ b=(shW δ o w).last from hb),if_neg hb];rfl
  · rw [if_neg (show ¬ (shW δ o w).run=5 from h5),if_neg h5]
    have hw:∀ (c d:Prop) [Decidable c] [Decidable d] (x y z:Wt),(if c then shW δ o x else if d then shW δ o y else shW δ o z)=shW δ o (if c then x else if d then y else z):=by
      intro c d _ _ x y z
      split
      · rfl
      · split<;>rfl
    simp only []
    have e:=hw (4<(nextF w.raw).1) (0<w.run∧b=w.last) { w with run:=0 } { w with run:=w.run+1 } { w with last:=b,run:=1 }
    have e':(if 4<(nextF (shW δ o w).raw).1 then { shW δ o w with run:=0 } else if 0<(shW δ o w).run∧b=(shW δ o w).last then { shW δ o w with run:=(shW δ o w).run+1 } else { shW δ o w with last:=b,run:=1 })=shW δ o (if 4<(nextF w.raw).1 then { w with run:=0 } else if 0<w.run∧b=w.last then { w with run:=w.run+1 } else { w with last:=b,run:=1 }):=e
    rw [e']
    generalize (if 4<(nextF w.raw).1 then { w with run:=0 } else if 0<w.run∧b=w.last then { w with run:=w.run+1 } else { w with last:=b,run:=1 })=w1
    show (if (nextF w.raw).1=6 then _ else if (nextF w.raw).1=5∧rightF w.raw=false∨4<(nextF w.raw).1∧b=false then _ else if (nextF w.raw).1=8∧(nextF w.raw).2=5 then _ else _)=_
    split
    · rfl
    · split
      · rfl
      · split<;>rfl
structure SR (δ:Nat) (w w':Wt):Prop where
  on:w'.on=w.on
  tick:w'.tick=w.tick+δ
  ones:w'.ones=w.ones∨10≤w.ones∧10≤w'.ones
  same:w.on=true→w'=shW δ w'.ones w
theorem endP_sh (δ o:Nat) (r:Nat × Wt):endP (r.1,shW δ o r.2)=((endP r).1.map (shS δ),shW δ o (endP r).2):=by
  unfold endP
  simp only []
  split
  · rfl
  · split<;>rfl
theorem onP_sh (δ o:Nat) (w:Wt) (b:Bool):onP (shW δ o w) b=((onP w b).1.map (shS δ),shW δ (if b=true then o+1 else 0) (onP w b).2):=by
  unfold onP
  have e:countP (shW δ o w) b=shW δ (if b=true then o+1 else 0) (countP w b):=by
    unfold countP shW
    simp only [Wt.mk.injEq,true_and,and_true]
    omega
  rw [e,takeP_sh,endP_sh]
theorem SR.see {δ:Nat} {w w':Wt} (h:SR δ w w') (b:Bool):(seeP w' b).1=(seeP w b).1.map (shS δ)∧SR δ (seeP w b).2 (seeP w' b).2:=by
  obtain ⟨h1,h2,h3,h4⟩:=h
  have key:∀ (v v':Wt),v.on=true→v'=shW δ v'.ones v→(v'.ones=v.ones∨10≤v.ones∧10≤v'.ones)→(onP v' b).1=(onP v b).1.map (shS δ)∧SR δ (onP v b).2 (onP v' b).2:=by
    intro v v' hv he ho
    rw [he,onP_sh]
    refine ⟨rfl,rfl,rfl,?_,fun _=>rfl⟩
    show (if b=true then v'.ones+1 else 0)=(onP v b).2.ones∨10≤(onP v b).2.ones∧10≤(if b=true then v'.ones+1 else 0)
    rw [(onP_facts v b).2.1]
    cases b
    · exact .inl rfl
    · simp only [if_true];omega
  by_cases hon:w.on=true
  · rw [seeP_onP b hon,seeP_onP b (by rw [h1];exact hon)]
    exact key w w' hon (h4 hon) h3
  · have hon:w.on=false:=by simpa using hon
    have hon':w'.on=false:=by rw [h1];exact hon
    by_cases hst:b=false∧10≤w.ones
    · have e:startP w b=onW w w.tick:=by unfold startP onW;rw [if_pos ⟨hon,hst⟩]
      have e':startP w' b=onW w' w'.tick:=by unfold startP onW;rw [if_pos ⟨hon',hst.1,by omega⟩]
      have s:seeP w b=onP (onW w w.tick) b:=by unfold seeP;rw [e,if_neg (by simp [onW])];rfl
      have s':seeP w' b=onP (onW w' w'.tick) b:=by unfold seeP;rw [e',if_neg (by simp [onW])];rfl
      rw [s,s']
      refine key _ _ rfl ?_ h3
      unfold onW shW
      simp only [Wt.mk.injEq,true_and,and_true]
      exact ⟨h2,h2⟩
    · have e:startP w b=w:=by unfold startP;rw [if_neg (by rintro ⟨-,q⟩;exact hst q)]
      have e':startP w' b=w':=by unfold startP;rw [if_neg (by rintro ⟨-,q1,q2⟩;exact hst ⟨q1,by omega⟩)]
      have s:seeP w b=(none,countP w b):=by unfold seeP;rw [e,if_pos hon]
      have s':seeP w' b=(none,countP w' b):=by unfold seeP;rw [e',if_pos hon']
      rw [s,s']
      refine ⟨rfl,h1,?_,?_,fun q=>?_⟩
      · show w'.tick+1=w.tick+1+δ;omega
      · show (if b=true then w'.ones+1 else 0)=(if b=true then w.ones+1 else 0)∨_∧_
        cases b
        · exact .inl rfl
        · show w'.ones+1=w.ones+1∨10≤w.ones+1∧10≤w'.ones+1
          omega
      · have:w.on=true:=q
        rw [hon] at this;cases this
theorem SR.go {δ:Nat}:∀ (m:List Bool) (w w':Wt),SR δ w w'→sgGo w' m=(sgGo w m).map (shS δ)
  | [],_,_,_=>rfl
  | b::m,w,w',h=>by
    obtain ⟨h1,h2⟩:=h.see b
    rw [sgGo,sgGo,List.map_append,SR.go m _ _ h2,h1]
    cases (seeP w b).1<;>rfl
end Go.AM.R1
open Go Go.AM
namespace Go.AM.R1
/-! ### Rows behind one another -/
end Go.AM.R1
open Go Go.AM
namespace Go.AM.R1
/-! ### A node's counts of errors -/
structure Ct where
  te:Nat
  re:Nat
  off:Bool
def Ct.cells (c:Ct):List AVal:=[.lit (.int .i64 c.te),.lit (.int .i64 c.re),.lit (.bool c.off)]
structure Ct.Ok (c:Ct):Prop where
  t:c.te≤256
  r:c.re≤255
  o:c.off=decide (255<c.te)
def Ct.zero:Ct:=⟨0,0,false⟩
def Ct.sent (c:Ct):Ct:=if c.off=true then c else ⟨c.te - 1,c.re,c.off⟩
def Ct.recv (c:Ct):Ct:=if c.off=true then c else ⟨c.te,if 127<c.re then 119 else c.re - 1,c.off⟩
def Ct.txE (c:Ct):Ct:=if c.off=true then c else if 247<c.te then ⟨256,c.re,true⟩ else ⟨c.te+8,c.re,c.off⟩
def Ct.rxE (c:Ct) (w:Nat):Ct:=if c.off=true then c else ⟨c.te,min (c.re+w) 255,c.off⟩
def Ct.state (c:Ct):Int:=if c.off=true then 2 else if 127<c.te∨127<c.re then 1 else 0
theorem Ct.zero_ok:Ct.zero.Ok:=⟨by decide,by decide,rfl⟩
theorem Ct.sent_ok {c:Ct} (h:c.Ok):c.sent.Ok:=by
  obtain ⟨a,b,d⟩:=h
  unfold Ct.sent
  split
  · exact ⟨a,b,d⟩
  · rename_i h1
    have h1:c.off=false:=by simpa using h1
    rw [h1] at d
    have:¬ 255<c.te:=by simpa using d.symm
    exact ⟨by simp only [];omega,b,by simp only [h1];simp;omega⟩
theorem Ct.recv_ok {c:Ct} (h:c.Ok):c.recv.Ok:=by
  obtain ⟨a,b,d⟩:=h
  unfold Ct.recv
  split
  · exact ⟨a,b,d⟩
  · exact ⟨a,by simp only [];split<;>omega,d⟩
theorem Ct.txE_ok {c:Ct} (h:c.Ok):c.txE.Ok:=by
  obtain ⟨a,b,d⟩:=h
  unfold Ct.txE
  split
  · exact ⟨a,b,d⟩
  · rename_i h1
    have h1:c.off=false:=by simpa using h1
    split
    · exact ⟨by simp,b,by simp⟩
    · exact ⟨by simp only [];omega,b,by simp only [h1];simp;omega⟩
theorem Ct.rxE_ok {c:Ct} (h:c.Ok) (w:Nat):(c.rxE w).Ok:=by
  obtain ⟨a,b,d⟩:=h
  unfold Ct.rxE
  split
  · exact ⟨a,b,d⟩
  · exact ⟨a,by simp only [];omega,d⟩
theorem within_spec (n m:Int):call E (.func (.func 37) [] []) [.lit (.int .i64 n),.lit (.int .i64 m)] []=some (.lit (.bool (decide (0≤n∧n≤m))),[]):=by
  rw [call_func E E37]
  by_cases h:0≤n<;>simp [go_sem,ir37,h]
theorem ccheck_spec (c:Ct) (h:c.Ok):call E (.func (.func 22) [] []) [.agg c.cells] []=some (.lit (.int .i64 0),[]):=by
  obtain ⟨t,r,o⟩:=c
  obtain ⟨a,b,d⟩:=h
  simp only [] at a b d
  rw [call_func E E22]
  have h1:(r:Int)≤255:=by omega
  have h01:(0:Int)≤r:=by omega
  have h02:(0:Int)≤t:=by omega
  have h2:(t:Int)≤256:=by omega
  by_cases h3:255<t
  · have h4:(255:Int)<t:=by omega
    simp [h3] at d
    simp [go_sem,ir22,Ct.cells,within_spec,h1,h2,h01,h02,d,h4]
  · have h4:¬ (255:Int)<t:=by omega
    simp [h3] at d
    simp [go_sem,ir22,Ct.cells,within_spec,h1,h2,h01,h02,d,h4]
theorem cstate_spec (c:Ct):call E (.func (.func 83) [] []) [.agg c.cells] []=some (.lit (.int .i64 c.state),[]):=by
  obtain ⟨t,r,o⟩:=c
  rw [call_func E E83]
  cases o
  · by_cases h1:127<t
    · have h2:(127:Int)<t:=by omega
      simp [go_sem,ir83,Ct.cells,Ct.state,h1,h2]
    · have h2:¬ (127:Int)<t:=by omega
      by_cases h3:127<r
      · have h4:(127:Int)<r:=by omega
        simp [go_sem,ir83,Ct.cells,Ct.state,h1,h2,h3,h4]
      · have h4:¬ (127:Int)<r:=by omega
        simp [go_sem,ir83,Ct.cells,Ct.state,h1,h2,h3,h4]
  · simp [go_sem,ir83,Ct.cells,Ct.state]
theorem cback_spec (c:Ct):call E (.func (.func 90) [] []) [.agg c.cells] []=some (.agg Ct.zero.cells,[]):=by
  rw [call_func E E90]
  simp [go_sem,ir90,Ct.cells,Ct.zero]
theorem csent1 (t r:Nat) (h:t≤256):call E (.func (.func 117) [.ptr 0 0] []) [] [.box (Ct.cells ⟨t,r,false⟩)]=some (.tup [],[.box (Ct.cells ⟨t - 1,r,false⟩)]):=by
  rw [call_func E E117]
  have w1:IntKind.wrap .i64 ((t:Int) - 1)=t - 1:=wrap64 (by omega) (by omega)
  by_cases h0:t=0
  · subst h0
    simp [go_sem,ir117,Ct.cells,List.range_succ,purse_eq]
    decide
  · have h1:((t:Int) - 1)=((t - 1:Nat):Int):=by omega
    have h2:¬ (0:Int) > ((t - 1:Nat):Int):=by omega
    simp [go_sem,ir117,Ct.cells,List.range_succ,purse_eq,w1]
    omega
theorem crecv1 (t r:Nat) (h:r≤256):call E (.func (.func 115) [.ptr 0 0] []) [] [.box (Ct.cells ⟨t,r,false⟩)]=some (.tup [],[.box (Ct.cells ⟨t,if 127<r then 119 else r - 1,false⟩)]):=by
  rw [call_func E E115]
  have w1:IntKind.wrap .i64 ((r:Int) - 1)=r - 1:=wrap64 (by omega) (by omega)
  by_cases h3:127<r
  · have h4:(127:Int)<r:=by omega
    simp [go_sem,ir115,Ct.cells,List.range_succ,purse_eq,h3,h4]
  · have h4:¬ (127:Int)<r:=by omega
    simp [go_sem,ir115,Ct.cells,List.range_succ,purse_eq,h3,h4,w1]
    omega
theorem ctx1 (t r:Nat) (h:t≤256):call E (.func (.func 119) [.ptr 0 0] []) [] [.box (Ct.cells ⟨t,r,false⟩)]=some (.tup [],[.box (Ct.cells (if 247<t then ⟨256,r,true⟩ else ⟨t+8,r,false⟩))]):=by
  rw [call_func E E119]
  have w1:IntKind.wrap .i64 ((t:Int)+8)=t+8:=wrap64 (by omega) (by omega)
  by_cases h3:247<t
  · have h4:(255:Int)<t+8:=by omega
    simp [go_sem,ir119,Ct.cells,List.range_succ,purse_eq,h3,h4,w1]
  · have h4:¬ (255:Int)<t+8:=by omega
    simp [go_sem,ir119,Ct.cells,List.range_succ,purse_eq,h3,h4,w1]
theorem crx1 (t r w:Nat) (h:r≤256) (hw:w≤100):call E (.func (.func 120) [] [.ptr 0 0,.ptr 2 0]) [] [.box [.ptr 1 0],.box (Ct.cells ⟨t,r,false⟩),.box [.lit (.int .i64 w)]]=some (.tup [],[.box [.ptr 1 0],.box (Ct.cells ⟨t,min (r+w) 255,false⟩),.box [.lit (.int .i64 w)]]):=by
  rw [call_func E E120]
  have w1:IntKind.wrap .i64 ((r:Int)+w)=r+w:=wrap64 (by omega) (by omega)
  simp [go_sem,ir120,Ct.cells,List.range_succ,purse_eq,w1]
  omega
end Go.AM.R1
open Go Go.AM
namespace Go.AM.R1
theorem ct_eta (c:Ct):(⟨c.te,c.re,c.off⟩:Ct)=c:=rfl
theorem runs_gen (c c':Ct) (h:c.Ok) (fn:AVal) (hs:∀ H,snapV H fn=some (fn,[])) (hr:refsV fn=[0]) (hn:∀ f:Nat→Nat,f 0=0→renV f fn=fn)
    (hc:c.off=false→call E fn [] [.box c.cells]=some (.tup [],[.box c'.cells])) (h2:c.off=true→c'=c) :
    call E (.func (.func 114) [] []) [.ptr 0 0,fn] [.box c.cells]=some (.agg c'.cells,[.box c'.cells]):=by
  rw [call_func E E114]
  have hk:=ccheck_spec c h
  obtain ⟨t,r,o⟩:=c
  obtain ⟨t',r',o'⟩:=c'
  cases o
  · have hc:=hc rfl
    simp [Ct.cells] at hc hk
    simp [go_sem,ir114,Ct.cells,hk,hc,hs,hr,hn,purse_eq,List.range_succ]
  · have h2:=h2 rfl
    cases h2
    simp [Ct.cells] at hk
    simp [go_sem,ir114,Ct.cells,hk,purse_eq,List.range_succ]
theorem csent_spec (c:Ct) (h:c.Ok):call E (.func (.func 105) [] []) [.agg c.cells] []=some (.agg c.sent.cells,[]):=by
  have h1:=runs_gen c c.sent h (.func (.func 117) [.ptr 0 0] []) (fun H=>by simp [go_sem]) (by simp [refsV,refsL]) (fun f hf=>by simp [renV,renL,hf]) (fun ho=>by
    have:=csent1 c.te c.re h.t
    unfold Ct.sent
    rw [ho,if_neg (by simp)]
    rw [← ho,ct_eta] at this
    rw [this,ho]) (fun ho=>by unfold Ct.sent;rw [if_pos ho])
  rw [call_func E E105]
  generalize c.sent=c' at h1
  obtain ⟨t,r,o⟩:=c
  obtain ⟨t',r',o'⟩:=c'
  simp [Ct.cells] at h1
  simp [go_sem,ir105,Ct.cells,h1,purse_eq,List.range_succ]
theorem crecv_spec (c:Ct) (h:c.Ok):call E (.func (.func 103) [] []) [.agg c.cells] []=some (.agg c.recv.cells,[]):=by
  have h1:=runs_gen c c.recv h (.func (.func 115) [.ptr 0 0] []) (fun H=>by simp [go_sem]) (by simp [refsV,refsL]) (fun f hf=>by simp [renV,renL,hf]) (fun ho=>by
    have:=crecv1 c.te c.re (by have:=h.r;omega)
    unfold Ct.recv
    rw [ho,if_neg (by simp)]
    rw [← ho,ct_eta] at this
    rw [this,ho]) (fun ho=>by unfold Ct.recv;rw [if_pos ho])
  rw [call_func E E103]
  generalize c.recv=c' at h1
  obtain ⟨t,r,o⟩:=c
  obtain ⟨t',r',o'⟩:=c'
  simp [Ct.cells] at h1
  simp [go_sem,ir103,Ct.cells,h1,purse_eq,List.range_succ]
theorem ctx_spec (c:Ct) (h:c.Ok):call E (.func (.func 107) [] []) [.agg c.cells] []=some (.agg c.txE.cells,[]):=by
  have h1:=runs_gen c c.txE h (.func (.func 119) [.ptr 0 0] []) (fun H=>by simp [go_sem]) (by simp [refsV,refsL]) (fun f hf=>by simp [renV,renL,hf]) (fun ho=>by
    have:=ctx1 c.te c.re h.t
    unfold Ct.txE
    rw [ho,if_neg (by simp)]
    rw [← ho,ct_eta] at this
    rw [this]
    simp only [ho]) (fun ho=>by unfold Ct.txE;rw [if_pos ho])
  rw [call_func E E107]
  generalize c.txE=c' at h1
  obtain ⟨t,r,o⟩:=c
  obtain ⟨t',r',o'⟩:=c'
  simp [Ct.cells] at h1
  simp [go_sem,ir107,Ct.cells,h1,purse_eq,List.range_succ]
theorem runs_rx (c:Ct) (h:c.Ok) (w:Nat) (hw:w≤100) :
    call E (.func (.func 114) [] []) [.ptr 0 0,.func (.func 120) [] [.ptr 1 0,.ptr 2 0]] [.box c.cells,.box [.ptr 0 0],.box [.lit (.int .i64 w)]]=some (.agg (c.rxE w).cells,[.box (c.rxE w).cells,.box [.ptr 0 0],.box [.lit (.int .i64 w)]]):=by
  rw [call_func E E114]
  have hk:=ccheck_spec c h
  have hr:=h.r
  obtain ⟨t,r,o⟩:=c
  simp only [] at hr
  cases o
  · have hc:=crx1 t r w (by omega) hw
    generalize hm:min (r+w) 255=m at hc
    simp [Ct.cells] at hc hk
    simp [go_sem,ir114,Ct.cells,Ct.rxE,hk,hc,hm,purse_eq,List.range_succ]
  · simp [Ct.cells] at hk
    simp [go_sem,ir114,Ct.cells,Ct.rxE,hk,purse_eq,List.range_succ]
theorem crx_spec (c:Ct) (h:c.Ok) (w:Nat) (hw:w=1∨w=8):call E (.func (.func 108) [] []) [.agg c.cells,.lit (.int .i64 w)] []=some (.agg (c.rxE w).cells,[]):=by
  have h1:=runs_rx c h w (by omega)
  rw [call_func E E108]
  generalize c.rxE w=c' at h1
  obtain ⟨t,r,o⟩:=c
  obtain ⟨t',r',o'⟩:=c'
  simp [Ct.cells] at h1
  rcases hw with rfl | rfl
  · simp at h1
    simp [go_sem,ir108,Ct.cells,h1,purse_eq,List.range_succ]
  · simp at h1
    simp [go_sem,ir108,Ct.cells,h1,purse_eq,List.range_succ]
end Go.AM.R1
open Go Go.AM
namespace Go.AM.R1
/-! ### Which of two frames comes first -/
def cmpL:List Bool→List Bool→Int
  | [],[]=>0
  | [],_::_=>-1
  | _::_,[]=>1
  | x::a,y::b=>if x=y then cmpL a b else if y=true then -1 else 1
theorem isNaN_spec (n:Int):call E (.func (.func 111) [] []) [.lit (.int .i64 n)] []=some (.lit (.bool false),[]):=by
  rw [call_func E E111]
  simp [go_sem,ir111]
theorem ccompare_spec (x y:Bool):call E (.func (.func 95) [] []) [.lit (.int .i64 (lv x)),.lit (.int .i64 (lv y))] []=some (.lit (.int .i64 (if x=y then 0 else if y=true then -1 else 1)),[]):=by
  rw [call_func E E95]
  cases x<;>cases y<;>simp [go_sem,ir95,isNaN_spec,lv]
set_option maxHeartbeats 1000000 in
theorem scompare_loop (l m:List Bool) (hl:l.length≤1000000) (hm:m.length≤1000000) (n1 f1 n2 f2:Bool) (k:List Item) (R:Int→Option (AVal × Heap))
    (hk:∀ τ,lk 0 τ=.imm n1 f1 true (l.map encLv)→lk 1 τ=.imm n2 f2 true (m.map encLv)→l.length≤m.length→finK 0 [.tmp 4] (run E 0 k τ [])=R (if l.length<m.length then -1 else 0)) (hR:∀ c,R c=some (.lit (.int .i64 c),[])) :
    ∀ (d i:Nat),i+d=l.length→i≤m.length →
   finK 0 [.tmp 4] (run E 0 (.code L65_0::.inLoop [0,1,9,10,11] L65_0::.inBlock 0::k) [(0,.imm n1 f1 true (l.map encLv)),(1,.imm n2 f2 true (m.map encLv)),(9,.imm n1 f1 true (l.map encLv)),(10,.lit (.int .i64 l.length)),(11,.lit (.int .i64 i))] [])=R (cmpL (l.drop i) (m.drop i)):=by
  intro d
  induction d with
  | zero =>
    intro i hi him
    have:i=l.length:=by omega
    subst this
    have e:cmpL (l.drop l.length) (m.drop l.length)=if l.length<m.length then -1 else 0:=by
      rw [List.drop_length]
      by_cases h:l.length<m.length
      · rw [if_pos h,List.drop_eq_getElem_cons h];rfl
      · rw [if_neg h,List.drop_of_length_le (by omega)];rfl
    rw [e]
    simp [go_sem,run_codeL E L65_0.eq_1]
    exact hk _ (by simp [lk]) (by simp [lk]) him
  | succ d ih =>
    intro i hi him
    have hlt:i<l.length:=by omega
    have w:=wrapIdx (i:=i) (by omega)
    rw [List.drop_eq_getElem_cons hlt]
    by_cases hlt2:i<m.length
    · rw [List.drop_eq_getElem_cons hlt2]
      have hmi:¬ ((m.length:Int)≤i):=by omega
      have hcc:=ccompare_spec l[i] m[i]
      by_cases h:l[i]=m[i]
      · have e:cmpL (l[i]::l.drop (i+1)) (m[i]::m.drop (i+1))=cmpL (l.drop (i+1)) (m.drop (i+1)):=by rw [cmpL,if_pos h]
        rw [e]
        rw [if_pos h] at hcc
        have ih2:=ih (i+1) (by omega) (by omega)
        generalize R (cmpL (l.drop (i+1)) (m.drop (i+1)))=Q at ih2 ⊢
        simp at ih2 w
        simp [go_sem,run_codeL E L65_0.eq_1,hlt,hlt2,List.getElem?_eq_getElem hlt,List.getElem?_eq_getElem hlt2,encLv,hmi,hcc,w,purse_eq]
        rw [run_inLoop']
        simp [go_sem,purse_eq]
        exact ih2
      · have e:cmpL (l[i]::l.drop (i+1)) (m[i]::m.drop (i+1))=if m[i]=true then -1 else 1:=by rw [cmpL,if_neg h]
        rw [e,hR]
        rw [if_neg h] at hcc
        cases hmv:m[i]
        · rw [hmv] at hcc
          simp at hcc
          simp [go_sem,run_codeL E L65_0.eq_1,hlt,hlt2,List.getElem?_eq_getElem hlt,List.getElem?_eq_getElem hlt2,encLv,hmi,hmv,hcc,w,purse_eq]
        · rw [hmv] at hcc
          simp at hcc
          simp [go_sem,run_codeL E L65_0.eq_1,hlt,hlt2,List.getElem?_eq_getElem hlt,List.getElem?_eq_getElem hlt2,encLv,hmi,hmv,hcc,w,purse_eq]
    · have:i=m.length:=by omega
      have e:cmpL (l[i]::l.drop (i+1)) (m.drop i)=1:=by rw [List.drop_of_length_le (l:=m) (by omega)];rfl
      rw [e,hR]
      have hmi:(m.length:Int)≤i:=by omega
      simp [go_sem,run_codeL E L65_0.eq_1,hlt,List.getElem?_eq_getElem hlt,encLv,hmi,w,purse_eq]
theorem scompare_spec (l m:List Bool) (hl:l.length≤1000000) (hm:m.length≤1000000) (n1 f1 n2 f2:Bool):call E (.func (.func 65) [] []) [.imm n1 f1 true (l.map encLv),.imm n2 f2 true (m.map encLv)] []=some (.lit (.int .i64 (cmpL l m)),[]):=by
  rw [call_func E E65]
  have h:=fun k hk=>scompare_loop l m hl hm n1 f1 n2 f2 k (fun c=>some (.lit (.int .i64 c),[])) hk (fun _=>rfl) l.length 0 (by omega) (by omega)
  simp at h
  simp [go_sem,ir65,purse_eq]
  rw [run_inLoop']
  simp [go_sem,purse_eq]
  refine h _ ?_
  intro τ h0 h1 hlm
  by_cases hlt:l.length<m.length
  · simp [go_sem,h0,h1,hlt]
  · simp [go_sem,h0,h1,hlt]
def arbQ (f:Fr):List Bool:=if checkP f=0 then arbP f else []
def bothOk (f g:Fr):Bool:=decide (checkP f=0) && decide (checkP g=0)
theorem arbQ_len (f:Fr):(arbQ f).length≤32:=by
  unfold arbQ
  split
  · rw [arbP_length];split<;>omega
  · simp
theorem fcompare_spec (f g:Fr):call E (.func (.func 38) [] []) [.agg (encFr f),.agg (encFr g)] []=some (.tup [.lit (.int .i64 (cmpL (arbQ f) (arbQ g))),.lit (.bool (bothOk f g))],[]):=by
  have hs:=fun n1 f1 n2 f2=>scompare_spec (arbQ f) (arbQ g) (by have:=arbQ_len f;omega) (by have:=arbQ_len g;omega) n1 f1 n2 f2
  generalize hc:cmpL (arbQ f) (arbQ g)=c at hs
  rw [call_func E E38]
  by_cases hf:checkP f=0
  · have h1:=farb_spec f hf
    have e1:arbQ f=arbP f:=by unfold arbQ;rw [if_pos hf]
    rw [e1] at hs
    by_cases hg:checkP g=0
    · have h2:=farb_spec g hg
      have e2:arbQ g=arbP g:=by unfold arbQ;rw [if_pos hg]
      rw [e2] at hs
      simp [encFr,u8v] at h1 h2
      simp [go_sem,ir38,encFr,u8v,bothOk,hf,hg,h1,h2,hs,purse_eq,List.range_succ]
    · have h2:=farb_err g hg
      have e2:arbQ g=[]:=by unfold arbQ;rw [if_neg hg]
      rw [e2] at hs
      simp [encFr,u8v,nilS] at h1 h2 hs
      simp [go_sem,ir38,encFr,u8v,bothOk,hf,hg,h1,h2,hs,purse_eq,List.range_succ]
  · have h1:=farb_err f hf
    have e1:arbQ f=[]:=by unfold arbQ;rw [if_neg hf]
    rw [e1] at hs
    by_cases hg:checkP g=0
    · have h2:=farb_spec g hg
      have e2:arbQ g=arbP g:=by unfold arbQ;rw [if_pos hg]
      rw [e2] at hs
      simp [encFr,u8v,nilS] at h1 h2 hs
      simp [go_sem,ir38,encFr,u8v,bothOk,hf,hg,h1,h2,hs,purse_eq,List.range_succ]
    · have h2:=farb_err g hg
      have e2:arbQ g=[]:=by unfold arbQ;rw [if_neg hg]
      rw [e2] at hs
      simp [encFr,u8v,nilS] at h1 h2 hs
      simp [go_sem,ir38,encFr,u8v,bothOk,hf,hg,h1,h2,hs,purse_eq,List.range_succ]
def lessP (f g:Fr):Bool:=bothOk f g && decide (cmpL (arbQ f) (arbQ g)<0)
def rivalP (f g:Fr):Bool:=bothOk f g && decide (cmpL (arbQ f) (arbQ g)=0)
theorem less_spec (f g:Fr):call E (.func (.func 23) [] []) [.agg (encFr f),.agg (encFr g)] []=some (.lit (.bool (lessP f g)),[]):=by
  have h:=fcompare_spec f g
  rw [call_func E E23]
  unfold lessP
  generalize bothOk f g=b at h ⊢
  generalize cmpL (arbQ f) (arbQ g)=c at h ⊢
  simp [encFr,u8v] at h
  cases b<;>simp [go_sem,ir23,encFr,u8v,h,purse_eq,List.range_succ]
theorem rival_spec (f g:Fr):call E (.func (.func 24) [] []) [.agg (encFr f),.agg (encFr g)] []=some (.lit (.bool (rivalP f g)),[]):=by
  have h:=fcompare_spec f g
  rw [call_func E E24]
  unfold rivalP
  generalize bothOk f g=b at h ⊢
  generalize cmpL (arbQ f) (arbQ g)=c at h ⊢
  simp [encFr,u8v] at h
  cases b<;>simp [go_sem,ir24,encFr,u8v,h,purse_eq,List.range_succ]
end Go.AM.R1
open Go Go.AM
namespace Go.AM.R1
/-! ### The queue of frames -/
theorem aleaves_fr (f g:Fr):aleaves [.lit (.int .i64 f.id),.lit (.bool f.ext),.lit (.bool f.rtr),.lit (.int .i64 f.len),.lit (.int .u8 f.d0),.lit (.int .u8 f.d1),.lit (.int .u8 f.d2),.lit (.int .u8 f.d3),.lit (.int .u8 f.d4),.lit (.int .u8 f.d5),.lit (.int .u8 f.d6),.lit (.int .u8 f.d7)]
    [.lit (.int .i64 g.id),.lit (.bool g.ext),.lit (.bool g.rtr),.lit (.int .i64 g.len),.lit (.int .u8 g.d0),.lit (.int .u8 g.d1),.lit (.int .u8 g.d2),.lit (.int .u8 g.d3),.lit (.int .u8 g.d4),.lit (.int .u8 g.d5),.lit (.int .u8 g.d6),.lit (.int .u8 g.d7)]
    [(0,.i),(1,.b),(2,.b),(3,.i),(4,.i),(5,.i),(6,.i),(7,.i),(8,.i),(9,.i),(10,.i),(11,.i)]=some (decide (f=g)):=by
  obtain ⟨a1,a2,a3,a4,a5,a6,a7,a8,a9,a10,a11,a12⟩:=f
  obtain ⟨b1,b2,b3,b4,b5,b6,b7,b8,b9,b10,b11,b12⟩:=g
  have hn:∀ a b:Nat,((a:Int)=(b:Int))=(a=b):=fun a b=>propext Int.ofNat_inj
  simp [aleaves,aleaf,Fr.mk.injEq,Bool.decide_and,Bool.beq_eq_decide_eq,hn]
theorem frRows (l:List Fr):rowsOk 12 (l.map encFr)=true:=rowsOk_map (f:=encFr) (fun _=>rfl) l
theorem frNo (l:List Fr):noImmLL (l.map encFr)=true:=noImmLL_map (f:=encFr) (fun _=>rfl) l
/-- Where the first one is that a frame comes ahead of. -/
def ixL (f:Fr):List Fr→Nat
  | []=>0
  | g::r=>if lessP f g=true then 0 else ixL f r+1
def insP (f:Fr) (l:List Fr):List Fr:=l.take (ixL f l)++[f]++l.drop (ixL f l)
theorem ixL_le (f:Fr):∀ l:List Fr,ixL f l≤l.length
  | []=>Nat.le_refl _
  | g::r=>by
    have:=ixL_le f r
    rw [ixL]
    split<;>simp<;>omega
theorem ahead_fspec (f g:Fr):call E (.func (.func 91) [] [.ptr 0 0]) [.agg (encFr g)] [.box (encFr f)]=some (.lit (.bool (lessP f g)),[.box (encFr f)]):=by
  have h:=less_spec f g
  rw [call_func E E91]
  simp [encFr,u8v] at h
  simp [go_sem,ir91,encFr,u8v,h,purse_eq,List.range_succ]
set_option maxHeartbeats 1000000 in
theorem frIxf_loop (f:Fr) (l:List Fr) (hl:l.length≤1000000) (nl fu:Bool) (k:List Item) (R:Option (AVal × Heap))
    (hk:∀ τ,finK 1 [.tmp 4] (run E 1 k τ [.box (encFr f)])=some (.lit (.int .i64 (-1)),[.box (encFr f)])) :
    ∀ (d i:Nat),i+d=l.length →
   finK 1 [.tmp 4] (run E 1 (.code L92_0::.inLoop [0,1,7,8] L92_0::.inBlock 0::k) [(0,.imm nl fu true (l.map encFr)),(1,.func (.func 91) [] [.ptr 0 0]),(7,.lit (.int .i64 l.length)),(8,.lit (.int .i64 i))] [.box (encFr f)])
      = some (.lit (.int .i64 (if ixL f (l.drop i)=l.length - i then -1 else ((i+ixL f (l.drop i):Nat):Int))),[.box (encFr f)]):=by
  intro d
  induction d with
  | zero =>
    intro i hi
    have:i=l.length:=by omega
    subst this
    rw [List.drop_length]
    simp [go_sem,run_codeL E L92_0.eq_1,ixL]
    exact hk _
  | succ d ih =>
    intro i hi
    have hlt:i<l.length:=by omega
    have w:=wrapIdx (i:=i) (by omega)
    have ha:=ahead_fspec f l[i]
    rw [List.drop_eq_getElem_cons hlt]
    by_cases h:lessP f l[i]=true
    · have e:ixL f (l[i]::l.drop (i+1))=0:=by rw [ixL,if_pos h]
      rw [e,if_neg (by omega)]
      rw [h] at ha
      simp [encFr,u8v] at ha
      simp [go_sem,run_codeL E L92_0.eq_1,hlt,List.getElem?_eq_getElem hlt,encFr,u8v,ha,purse_eq,List.range_succ]
    · have h:lessP f l[i]=false:=by simpa using h
      have e:ixL f (l[i]::l.drop (i+1))=ixL f (l.drop (i+1))+1:=by rw [ixL,if_neg (by rw [h];simp)]
      have ih2:=ih (i+1) (by omega)
      rw [e]
      have e2:(if ixL f (l.drop (i+1))+1=l.length - i then (-1:Int) else ((i+(ixL f (l.drop (i+1))+1):Nat):Int))=(if ixL f (l.drop (i+1))=l.length - (i+1) then (-1:Int) else ((i+1+ixL f (l.drop (i+1)):Nat):Int)):=by
        by_cases q:ixL f (l.drop (i+1))=l.length - (i+1)
        · rw [if_pos q,if_pos (by omega)]
        · rw [if_neg q,if_neg (by omega),show i+(ixL f (l.drop (i+1))+1)=i+1+ixL f (l.drop (i+1)) by omega]
      rw [e2]
      generalize (if ixL f (l.drop (i+1))=l.length - (i+1) then (-1:Int) else ((i+1+ixL f (l.drop (i+1)):Nat):Int))=z at ih2 ⊢
      rw [h] at ha
      simp [encFr,u8v] at ih2 w ha
      simp [go_sem,run_codeL E L92_0.eq_1,hlt,List.getElem?_eq_getElem hlt,encFr,u8v,ha,w,purse_eq,List.range_succ]
      rw [run_inLoop']
      simp [go_sem,purse_eq,List.range_succ]
      exact ih2
theorem frIxf_spec (f:Fr) (l:List Fr) (hl:l.length≤1000000) (nl fu:Bool):call E (.func (.func 92) [] []) [.imm nl fu true (l.map encFr),.func (.func 91) [] [.ptr 0 0]] [.box (encFr f)]
    = some (.lit (.int .i64 (if ixL f l=l.length then -1 else (ixL f l:Int))),[.box (encFr f)]):=by
  rw [call_func E E92]
  have h:=fun k hk=>frIxf_loop f l hl nl fu k none hk l.length 0 (by omega)
  simp only [List.drop_zero,Nat.sub_zero,Nat.zero_add] at h
  generalize (if ixL f l=l.length then (-1:Int) else (ixL f l:Int))=z at h ⊢
  simp [encFr,u8v] at h
  simp [go_sem,ir92,encFr,u8v,purse_eq,List.range_succ]
  rw [run_inLoop']
  simp [go_sem,purse_eq,List.range_succ]
  refine h _ ?_
  intro τ
  simp [go_sem,encFr,u8v,purse_eq,List.range_succ]
/-- Where a frame is. -/
def posL (f:Fr):List Fr→Nat
  | []=>0
  | g::r=>if f=g then 0 else posL f r+1
theorem posL_mem (f:Fr):∀ l:List Fr,f∈l↔posL f l<l.length
  | []=>by simp [posL]
  | g::r=>by
    rw [posL,List.mem_cons,posL_mem f r]
    by_cases h:f=g
    · simp [h]
    · simp [h]
set_option maxHeartbeats 1000000 in
theorem frIx_loop (f:Fr) (l:List Fr) (hl:l.length≤1000000) (nl fu:Bool) (k:List Item)
    (hk:∀ τ,finK 0 [.tmp 4] (run E 0 k τ [.box (encFr f)])=some (.lit (.int .i64 (-1)),[])) :
    ∀ (d i:Nat),i+d=l.length →
   finK 0 [.tmp 4] (run E 0 (.code L122_0::.inLoop [0,3,7,8] L122_0::.inBlock 0::k) [(0,.imm nl fu true (l.map encFr)),(3,.ptr 0 0),(7,.lit (.int .i64 l.length)),(8,.lit (.int .i64 i))] [.box (encFr f)])
      = some (.lit (.int .i64 (if posL f (l.drop i)=l.length - i then -1 else ((i+posL f (l.drop i):Nat):Int))),[]):=by
  intro d
  induction d with
  | zero =>
    intro i hi
    have:i=l.length:=by omega
    subst this
    rw [List.drop_length]
    simp [go_sem,run_codeL E L122_0.eq_1,posL]
    exact hk _
  | succ d ih =>
    intro i hi
    have hlt:i<l.length:=by omega
    have w:=wrapIdx (i:=i) (by omega)
    rw [List.drop_eq_getElem_cons hlt]
    by_cases h:f=l[i]
    · have e:posL f (l[i]::l.drop (i+1))=0:=by rw [posL,if_pos h]
      rw [e,if_neg (by omega)]
      simp [go_sem,run_codeL E L122_0.eq_1,hlt,List.getElem?_eq_getElem hlt,encFr,u8v,↓aleaves_fr,h,purse_eq,List.range_succ]
    · have e:posL f (l[i]::l.drop (i+1))=posL f (l.drop (i+1))+1:=by rw [posL,if_neg h]
      have ih2:=ih (i+1) (by omega)
      rw [e]
      have e2:(if posL f (l.drop (i+1))+1=l.length - i then (-1:Int) else ((i+(posL f (l.drop (i+1))+1):Nat):Int))=(if posL f (l.drop (i+1))=l.length - (i+1) then (-1:Int) else ((i+1+posL f (l.drop (i+1)):Nat):Int)):=by
        by_cases q:posL f (l.drop (i+1))=l.length - (i+1)
        · rw [if_pos q,if_pos (by omega)]
        · rw [if_neg q,if_neg (by omega),show i+(posL f (l.drop (i+1))+1)=i+1+posL f (l.drop (i+1)) by omega]
      rw [e2]
      generalize (if posL f (l.drop (i+1))=l.length - (i+1) then (-1:Int) else ((i+1+posL f (l.drop (i+1)):Nat):Int))=z at ih2 ⊢
      simp [encFr,u8v] at ih2 w
      simp [go_sem,run_codeL E L122_0.eq_1,hlt,List.getElem?_eq_getElem hlt,encFr,u8v,↓aleaves_fr,h,w,purse_eq,List.range_succ]
      rw [run_inLoop']
      simp [go_sem,purse_eq,List.range_succ]
      exact ih2
theorem frIx_spec (f:Fr) (l:List Fr) (hl:l.length≤1000000) (nl fu:Bool):call E (.func (.func 122) [] []) [.imm nl fu true (l.map encFr),.agg (encFr f)] []
    = some (.lit (.int .i64 (if posL f l=l.length then -1 else (posL f l:Int))),[]):=by
  rw [call_func E E122]
  have h:=fun k hk=>frIx_loop f l hl nl fu k hk l.length 0 (by omega)
  simp only [List.drop_zero,Nat.sub_zero,Nat.zero_add] at h
  generalize (if posL f l=l.length then (-1:Int) else (posL f l:Int))=z at h ⊢
  simp [encFr,u8v] at h
  simp [go_sem,ir122,encFr,u8v,purse_eq,List.range_succ]
  rw [run_inLoop']
  simp [go_sem,purse_eq,List.range_succ]
  refine h _ ?_
  intro τ
  simp [go_sem,encFr,u8v,purse_eq,List.range_succ]
end Go.AM.R1
open Go Go.AM
namespace Go.AM.R1
/-- A queue as it lies: its row is nil, or a row of its own. -/
def quH (nq fu:Bool) (l:List Fr):Heap:=if nq=true then [.box [nilS,.lit (.int .i64 16)]] else [.box [.own 1 l.length 12 0 l.length,.lit (.int .i64 16)],.arr true false fu 12 (l.map encFr)]
theorem fclone_nil (fu:Bool):call E (.func (.func 66) [] []) [.imm true fu true []] []=some (nilS,[]):=by
  rw [call_func E E66]
  simp [go_sem,ir66,purse_eq,List.range_succ]
theorem fclone_spec (l:List Fr) (hl:l.length≤1000) (fu:Bool):∃ fu',call E (.func (.func 66) [] []) [.imm false fu true (l.map encFr)] []=some (.own 0 l.length 12 0 l.length,[.arr true false fu' 12 (l.map encFr)]):=by
  rw [call_func E E66]
  have hr:=frRows l
  have hb:¬ (70368744177664<l.length * 32):=by omega
  by_cases h:l=[]
  · subst h
    exact ⟨true,by simp [go_sem,ir66,purse_eq,List.range_succ]⟩
  · have h0:¬ l.length=0:=fun e=>h (List.length_eq_zero_iff.1 e)
    exact ⟨false,by simp [go_sem,ir66,hr,h,h0,hb,purse_eq,List.range_succ]⟩
theorem quSize_spec (nq fu:Bool) (l:List Fr) (hn:nq=true→l=[]):call E (.func (.func 62) [] []) [.ptr 0 0] (quH nq fu l)=some (.lit (.int .i64 l.length),quH nq fu l):=by
  rw [call_func E E62]
  cases nq
  · simp [go_sem,ir62,quH,purse_eq,List.range_succ]
  · simp [go_sem,ir62,quH,hn rfl,purse_eq,List.range_succ]
theorem quLen_spec (nq fu:Bool) (l:List Fr) (hn:nq=true→l=[]):call E (.func (.func 34) [] []) [.ptr 0 0] (quH nq fu l)=some (.lit (.int .i64 l.length),quH nq fu l):=by
  have h:=quSize_spec nq fu l hn
  rw [call_func E E34]
  cases nq
  · simp [quH] at h
    simp [go_sem,ir34,quH,h,purse_eq,List.range_succ]
  · simp [quH,hn rfl,nilS] at h
    simp [go_sem,ir34,quH,h,hn rfl,purse_eq,List.range_succ]
theorem qnew_spec:call E (.func (.func 35) [] []) [.lit (.int .i64 16)] []=some (.tup [.ptr 0 0,.lit (.int .i64 0)],quH true true []):=by
  rw [call_func E E35]
  simp [go_sem,ir35,quH,purse_eq,List.range_succ]
/-- What lies there when a frame was put in. -/
def putH (nq:Bool) (f:Fr) (l:List Fr):Heap:=if nq=true then [.box [.own 1 1 12 0 1,.lit (.int .i64 16)],.arr true false false 12 [encFr f]] else
  [.box [.own 2 (l.length+1) 12 0 (l.length+1),.lit (.int .i64 16)],.dead,.arr true false false 12 ((insP f l).map encFr)]
theorem insP_map (f:Fr) (l:List Fr):(insP f l).map encFr=List.take (ixL f l) (l.map encFr)++[encFr f]++List.drop (ixL f l) (l.map encFr):=by
  simp [insP,List.map_take,List.map_drop]
set_option maxHeartbeats 1000000 in
theorem quRowPut_spec (nq fu:Bool) (f:Fr) (l:List Fr) (hn:nq=true→l=[]) (hl:l.length≤1000):call E (.func (.func 63) [] []) [.ptr 0 0,.agg (encFr f)] (quH nq fu l)=some (.tup [],putH nq f l):=by
  have hb:(l.length+1) * 32≤70368744177664:=by omega
  have hle:=ixL_le f l
  rw [call_func E E63]
  cases nq
  · have hx:=frIxf_spec f l (by omega) false fu
    have hx2:=frIxf_spec f l (by omega) false false
    simp only [putH,insP_map]
    by_cases h:ixL f l=l.length
    · rw [if_pos h] at hx hx2
      rw [h]
      simp [encFr,u8v] at hx hx2
      simp [go_sem,ir63,quH,encFr,u8v,hx,hx2,libV,oneRow,insV,hb,purse_eq,List.range_succ]
    · rw [if_neg h] at hx hx2
      have hlt:¬ ((ixL f l:Int)<0):=by omega
      simp [encFr,u8v] at hx hx2
      simp [go_sem,ir63,quH,encFr,u8v,hx,hx2,hlt,hle,libV,oneRow,insV,hb,purse_eq,List.range_succ]
  · have hl0:=hn rfl
    subst hl0
    have hx:=frIxf_spec f [] (by simp) true true
    simp [encFr,u8v,ixL,nilS] at hx
    simp [go_sem,ir63,quH,putH,encFr,u8v,hx,libV,oneRow,insV,purse_eq,List.range_succ]
end Go.AM.R1
open Go Go.AM
namespace Go.AM.R1
theorem quPut_spec (nq fu:Bool) (f:Fr) (l:List Fr) (hn:nq=true→l=[]) (hl:l.length≤1000):call E (.func (.func 36) [] []) [.ptr 0 0,.agg (encFr f)] (quH nq fu l)
    = if checkP f≠0 then some (.lit (.int .i64 (checkP f)),quH nq fu l) else if 16≤l.length then some (.lit (.int .i64 15),quH nq fu l) else some (.lit (.int .i64 0),putH nq f l):=by
  have hc:=fcheck_spec f
  have hs:=quSize_spec nq fu l hn
  have hp:=quRowPut_spec nq fu f l hn hl
  rw [call_func E E36]
  cases nq
  · by_cases h:checkP f=0
    · rw [if_neg (by simp [h])]
      rw [h] at hc
      by_cases h2:16≤l.length
      · have h3:(16:Int)≤l.length:=by omega
        rw [if_pos h2]
        simp [quH,encFr,u8v] at hc hs
        simp [go_sem,ir36,quH,encFr,u8v,hc,hs,h2,h3,purse_eq,List.range_succ]
      · have h3:¬ (16:Int)≤l.length:=by omega
        rw [if_neg h2]
        have hr:=frRows (insP f l)
        generalize (insP f l).map encFr=rows at hp
        simp only [putH] at hp ⊢
        simp [quH,encFr,u8v] at hc hs hp
        simp [go_sem,ir36,quH,encFr,u8v,hc,hs,hp,h2,h3,purse_eq,List.range_succ]
    · rw [if_pos h]
      simp [quH,encFr,u8v] at hc hs
      simp [go_sem,ir36,quH,encFr,u8v,hc,hs,h,purse_eq,List.range_succ]
  · have hl0:=hn rfl
    subst hl0
    by_cases h:checkP f=0
    · rw [if_neg (by simp [h]),if_neg (by simp)]
      rw [h] at hc
      simp [quH,putH,encFr,u8v,nilS] at hc hs hp
      simp [go_sem,ir36,quH,putH,encFr,u8v,nilS,hc,hs,hp,purse_eq,List.range_succ]
    · rw [if_pos h]
      simp [quH,encFr,u8v] at hc hs
      simp [go_sem,ir36,quH,encFr,u8v,hc,hs,h,purse_eq,List.range_succ]
theorem quFirst_spec (nq fu:Bool) (l:List Fr) (hn:nq=true→l=[]):call E (.func (.func 102) [] []) [.ptr 0 0] (quH nq fu l)
    = some (.tup [.agg (encFr (l.head?.getD Fr.zero)),.lit (.bool (decide (l≠[])))],quH nq fu l):=by
  have hs:=quSize_spec nq fu l hn
  rw [call_func E E102]
  cases nq
  · cases l with
    | nil =>
      simp [quH] at hs
      simp [go_sem,ir102,quH,encFr,u8v,Fr.zero,hs,purse_eq,List.range_succ]
    | cons f r =>
      have h0:¬ ((r.length:Int)+1=0):=by omega
      simp [quH,encFr,u8v] at hs
      simp [go_sem,ir102,quH,encFr,u8v,hs,h0,purse_eq,List.range_succ]
  · have hl0:=hn rfl
    subst hl0
    simp [quH,nilS] at hs
    simp [go_sem,ir102,quH,encFr,u8v,Fr.zero,nilS,hs,purse_eq,List.range_succ]
def delL (f:Fr) (l:List Fr):List Fr:=l.take (posL f l)++l.drop (posL f l+1)
theorem delL_map (f:Fr) (l:List Fr):(delL f l).map encFr=List.take (posL f l) (l.map encFr)++List.drop (posL f l+1) (l.map encFr):=by
  simp [delL,List.map_take,List.map_drop]
theorem delL_len (f:Fr) (l:List Fr) (h:f∈l):(delL f l).length=l.length - 1:=by
  have:=(posL_mem f l).1 h
  simp [delL];omega
/-- What lies there when a frame was taken out. -/
def dropH (f:Fr) (l:List Fr):Heap:=[.box [.own 2 (l.length - 1) 12 0 (l.length - 1),.lit (.int .i64 16)],.dead,.arr true false false 12 ((delL f l).map encFr)]
set_option maxHeartbeats 1000000 in
theorem quRowDrop_spec (fu:Bool) (f:Fr) (l:List Fr) (hf:f∈l) (hl:l.length≤1000):call E (.func (.func 118) [] []) [.ptr 0 0,.agg (encFr f)] (quH false fu l)=some (.lit (.bool true),dropH f l):=by
  have hp:=(posL_mem f l).1 hf
  have hx:=frIx_spec f l (by omega) false fu
  have hx2:=frIx_spec f l (by omega) false false
  rw [if_neg (by omega)] at hx hx2
  have w:=wrapIdx (i:=posL f l) (by omega)
  have h1:¬ ((posL f l:Int)<0):=by omega
  have h2:(0:Int)≤(posL f l:Int)+1:=by omega
  have h3:((posL f l:Int)+1).toNat=posL f l+1:=by omega
  have h4:posL f l+1 - posL f l=1:=by omega
  have h5:posL f l+1≤l.length:=by omega
  rw [call_func E E118]
  simp only [dropH,delL_map]
  simp [encFr,u8v] at hx hx2 w
  simp [go_sem,ir118,quH,encFr,u8v,hx,hx2,w,h1,h2,h3,h4,h5,libV,delV,purse_eq,List.range_succ]
theorem quDrop_spec (fu:Bool) (f:Fr) (l:List Fr) (hf:f∈l) (hl:l.length≤1000):call E (.func (.func 106) [] []) [.ptr 0 0,.agg (encFr f)] (quH false fu l)=some (.lit (.int .i64 0),dropH f l):=by
  have h:=quRowDrop_spec fu f l hf hl
  rw [call_func E E106]
  generalize hr:(delL f l).map encFr=rows
  simp only [dropH,hr] at h ⊢
  simp [quH,encFr,u8v] at h
  simp [go_sem,ir106,quH,encFr,u8v,h,purse_eq,List.range_succ]
theorem quAll_nil (fu:Bool):call E (.func (.func 39) [] []) [.ptr 0 0] (quH true fu [])=some (nilS,quH true fu []):=by
  have h:=fclone_nil true
  rw [call_func E E39]
  simp [nilS] at h
  simp [go_sem,ir39,quH,nilS,h,purse_eq,List.range_succ]
theorem quAll_spec (fu:Bool) (l:List Fr) (hl:l.length≤1000):∃ fu',call E (.func (.func 39) [] []) [.ptr 0 0] (quH false fu l)=some (.own 2 l.length 12 0 l.length,quH false fu l++[.arr true false fu' 12 (l.map encFr)]):=by
  obtain ⟨fu',h⟩:=fclone_spec l hl fu
  refine ⟨fu',?_⟩
  have hno:=frNo l
  rw [call_func E E39]
  simp [go_sem,ir39,quH,h,hno,purse_eq,List.range_succ]
end Go.AM.R1
open Go Go.AM
namespace Go.AM.R1
/-! ### A node, and how it lies -/
structure Nd where
  raw:List Bool
  lvl:Bool
  run:Nat
  mode:Nat
  k:Nat
  rows:Nat
  tx:Bool
  sends:Bool
  owed:Bool
  wrong:Bool
  ct:Ct
  own:Fr
  row:List Bool
  nq:Bool
  q:List Fr
structure Fl where
  lr:Bool
  fr:Bool
  fq:Bool
  lw:Bool
  fw:Bool
def Nd.cells (n:Nd) (rv qv wv:AVal):List AVal :=
  [rv,.lit (.int .i64 (lv n.lvl)),.lit (.int .i64 n.run),qv,.lit (.int .i64 n.mode),.lit (.int .i64 n.k),.lit (.int .i64 n.rows),.lit (.bool n.tx),.lit (.bool n.sends),.lit (.bool n.owed),.lit (.bool n.wrong),
   .lit (.int .i64 n.ct.te),.lit (.int .i64 n.ct.re),.lit (.bool n.ct.off),
   .lit (.int .i64 n.own.id),.lit (.bool n.own.ext),.lit (.bool n.own.rtr),.lit (.int .i64 n.own.len),.lit (.int .u8 n.own.d0),.lit (.int .u8 n.own.d1),.lit (.int .u8 n.own.d2),.lit (.int .u8 n.own.d3),.lit (.int .u8 n.own.d4),.lit (.int .u8 n.own.d5),.lit (.int .u8 n.own.d6),.lit (.int .u8 n.own.d7),wv]
def rV (n:Nd):AVal:=if n.raw=[] then nilS else .own 1 n.raw.length 1 0 n.raw.length
def qI (n:Nd):Nat:=if n.raw=[] then 1 else 2
def qV (n:Nd):AVal:=if n.nq=true then nilS else .own (qI n+1) n.q.length 12 0 n.q.length
def wI (n:Nd):Nat:=if n.nq=true then qI n+1 else qI n+2
def wV (n:Nd):AVal:=if n.row=[] then nilS else .own (wI n) n.row.length 1 0 n.row.length
def rE (n:Nd) (F:Fl):Heap:=if n.raw=[] then [] else [.arr true F.lr F.fr 1 (n.raw.map encLv)]
def qE (n:Nd) (F:Fl):Heap:=if n.nq=true then [] else [.arr true false F.fq 12 (n.q.map encFr)]
def wE (n:Nd) (F:Fl):Heap:=if n.row=[] then [] else [.arr true F.lw F.fw 1 (n.row.map encLv)]
def ndH (n:Nd) (F:Fl):Heap:=.box (n.cells (rV n) (.ptr (qI n) 0) (wV n))::(rE n F++.box [qV n,.lit (.int .i64 16)]::(qE n F++wE n F))
def Fl.lock (F:Fl):Fl:={ F with lr:=true }
structure Nd.Ok (n:Nd):Prop where
  nq:n.nq=true→n.q=[]
  ql:n.q.length≤16
  ct:n.ct.Ok
theorem nturn_spec (n:Nd) (F:Fl) (m:Nat):call E (.func (.func 79) [] []) [.ptr 0 0,.lit (.int .i64 m)] (ndH n F)=some (.tup [],ndH { n with mode:=m,k:=0 } F):=by
  rw [call_func E E79]
  by_cases h1:n.raw=[]<;>cases h2:n.nq<;>by_cases h3:n.row=[] <;>
  simp [go_sem,ir79,ndH,rV,qI,qV,wI,wV,rE,qE,wE,Nd.cells,nilS,h1,h2,h3,purse_eq,List.range_succ]
theorem lenPosN {α:Type} (l:List α):(0<l.length)=¬ (l=[]):=by
  cases l with
  | nil=>simp
  | cons a r=>simp
theorem npend_spec (n:Nd) (F:Fl) (hn:n.Ok):call E (.func (.func 31) [] []) [.ptr 0 0] (ndH n F)=some (.lit (.bool (decide (n.q≠[]))),ndH n F):=by
  rw [call_func E E31]
  have hq:=quLen_spec n.nq F.fq n.q hn.nq
  by_cases h1:n.raw=[]<;>cases h2:n.nq<;>by_cases h3:n.row=[] <;>
  simp [quH,h2,nilS] at hq <;>
  simp [go_sem,ir31,ndH,rV,qI,qV,wI,wV,rE,qE,wE,Nd.cells,nilS,h1,h2,h3,hq,lenPosN,purse_eq,List.range_succ]
theorem nlate_spec (n:Nd) (F:Fl):call E (.func (.func 89) [] []) [.ptr 0 0] (ndH n F)=some (.lit (.bool (n.tx && decide (n.ct.state=1))),ndH n F):=by
  rw [call_func E E89]
  have hs:=cstate_spec n.ct
  generalize n.ct.state=st at hs ⊢
  simp [Ct.cells] at hs
  cases ht:n.tx<;>by_cases h1:n.raw=[]<;>cases h2:n.nq<;>by_cases h3:n.row=[] <;>
  simp [go_sem,ir89,ndH,rV,qI,qV,wI,wV,rE,qE,wE,Nd.cells,nilS,h1,h2,h3,ht,hs,purse_eq,List.range_succ]
/-- The level that comes next, by its field; and whether it is an added one. -/
def nxV (n:Nd):AVal:=.tup [.lit (.int .i64 (nextF n.raw).1),.lit (.int .i64 (nextF n.raw).2),.lit (.bool (decide (n.run=5)))]
theorem nnext_spec (n:Nd) (F:Fl) (hr:RawOk n.raw):call E (.func (.func 50) [] []) [.ptr 0 0] (ndH n F)=some (nxV n,ndH n F.lock):=by
  rw [call_func E E50]
  have hN:=fun nl fu=>fnext_spec n.raw hr nl fu
  have h5:((n.run:Int)=5)=(n.run=5):=by apply propext;omega
  by_cases h1:n.raw=[]
  · have hN:=hN true true
    rw [h1] at hN
    simp at hN
    cases h2:n.nq<;>by_cases h3:n.row=[] <;>
    simp [go_sem,ir50,ndH,rV,qI,qV,wI,wV,rE,qE,wE,Nd.cells,nilS,nxV,Fl.lock,h1,h2,h3,h5,hN,purse_eq,List.range_succ]
  · have hN1:=hN false false
    have hN2:=hN false F.fr
    cases h2:n.nq<;>by_cases h3:n.row=[] <;>
    simp [go_sem,ir50,ndH,rV,qI,qV,wI,wV,rE,qE,wE,Nd.cells,nilS,nxV,Fl.lock,h1,h2,h3,h5,hN1,hN2,purse_eq,List.range_succ]
end Go.AM.R1
open Go Go.AM
namespace Go.AM.R1
theorem nright_spec (n:Nd) (F:Fl) (h:dataF n.raw≤n.raw.length) (h2:sumF n.raw+15≤n.raw.length) (hl:n.raw.length≤1000):call E (.func (.func 51) [] []) [.ptr 0 0] (ndH n F)=some (.lit (.bool (rightF n.raw)),ndH n F.lock):=by
  rw [call_func E E51]
  have hN:=fright_spec n.raw h h2 (by omega) false F.fr
  have h1:¬ n.raw=[]:=by intro e;rw [e] at h2;simp at h2
  generalize rightF n.raw=b at hN ⊢
  cases b<;>cases hq:n.nq<;>by_cases h3:n.row=[] <;>
  simp [go_sem,ir51,ndH,rV,qI,qV,wI,wV,rE,qE,wE,Nd.cells,nilS,Fl.lock,h1,hq,h3,hN,purse_eq,List.range_succ]
/-- The reader behind a level; false: an added one that is as those ahead. -/
def takeN (n:Nd) (b:Bool):Bool × Nd :=
  if n.run=5 then (if b=n.lvl then (false,n) else (true,{ n with lvl:=b,run:=1 }))
  else if 4<(nextF n.raw).1 then (true,{ n with run:=0,raw:=n.raw++[b] })
  else if 0<n.run∧b=n.lvl then (true,{ n with run:=n.run+1,raw:=n.raw++[b] })
  else (true,{ n with lvl:=b,run:=1,raw:=n.raw++[b] })
theorem lvT:lv true=1:=rfl
theorem lvF:lv false=0:=rfl
theorem lv_eq (a b:Bool):(lv a=lv b)=(a=b):=by cases a<;>cases b<;>simp [lv]
set_option maxHeartbeats 1000000 in
theorem ntake_spec (n:Nd) (F:Fl) (hr:RawOk n.raw) (h1:¬ n.raw=[]) (h5:n.run≤5) (b:Bool):∃ F',call E (.func (.func 85) [] []) [.ptr 0 0,.lit (.int .i64 (lv b))] (ndH n F)=some (.lit (.bool (takeN n b).1),ndH (takeN n b).2 F'):=by
  have hN:=nnext_spec n F hr
  have hl:=hr.1
  have hby:¬ (70368744177664<(n.raw.length+1) * 8):=by omega
  have w1:IntKind.wrap .i64 ((n.run:Int)+1)=n.run+1:=wrap64 (by omega) (by omega)
  rw [call_func E E85]
  by_cases r5:n.run=5
  · refine ⟨F.lock,?_⟩
    by_cases hb:b=n.lvl
    · cases h2:n.nq<;>by_cases h3:n.row=[] <;>
      simp [ndH,rV,qI,qV,wI,wV,rE,qE,wE,Nd.cells,nilS,nxV,Fl.lock,h1,h2,h3,r5] at hN <;>
      simp [go_sem,ir85,ndH,rV,qI,qV,wI,wV,rE,qE,wE,Nd.cells,nilS,takeN,Fl.lock,h1,h2,h3,r5,hN,lv_eq,hb,purse_eq,List.range_succ]
    · cases h2:n.nq<;>by_cases h3:n.row=[] <;>
      simp [ndH,rV,qI,qV,wI,wV,rE,qE,wE,Nd.cells,nilS,nxV,Fl.lock,h1,h2,h3,r5] at hN <;>
      simp [go_sem,ir85,ndH,rV,qI,qV,wI,wV,rE,qE,wE,Nd.cells,nilS,takeN,Fl.lock,h1,h2,h3,r5,hN,lv_eq,hb,purse_eq,List.range_succ]
  · refine ⟨{ F with lr:=true,fr:=false },?_⟩
    by_cases hk:4<(nextF n.raw).1
    · have hk':(4:Int)<(nextF n.raw).1:=by omega
      cases h2:n.nq<;>by_cases h3:n.row=[] <;>
      simp [ndH,rV,qI,qV,wI,wV,rE,qE,wE,Nd.cells,nilS,nxV,Fl.lock,h1,h2,h3,r5] at hN <;>
      simp [go_sem,ir85,ndH,rV,qI,qV,wI,wV,rE,qE,wE,Nd.cells,nilS,takeN,Fl.lock,h1,h2,h3,r5,hN,hk,hk',hby,encLv,purse_eq,List.range_succ]
    · have hk':¬ (4:Int)<(nextF n.raw).1:=by omega
      by_cases h0:0<n.run∧b=n.lvl
      · have h01:=h0.1
        have h02:=h0.2
        cases h2:n.nq<;>by_cases h3:n.row=[] <;>
        simp [ndH,rV,qI,qV,wI,wV,rE,qE,wE,Nd.cells,nilS,nxV,Fl.lock,h1,h2,h3,r5] at hN <;>
        simp [go_sem,ir85,ndH,rV,qI,qV,wI,wV,rE,qE,wE,Nd.cells,nilS,takeN,Fl.lock,h1,h2,h3,r5,hN,hk,hk',h01,h02,w1,lv_eq,hby,encLv,purse_eq,List.range_succ]
      · by_cases h01:0<n.run
        · have h02:¬ b=n.lvl:=fun e=>h0 ⟨h01,e⟩
          cases h2:n.nq<;>by_cases h3:n.row=[] <;>
          simp [ndH,rV,qI,qV,wI,wV,rE,qE,wE,Nd.cells,nilS,nxV,Fl.lock,h1,h2,h3,r5] at hN <;>
          simp [go_sem,ir85,ndH,rV,qI,qV,wI,wV,rE,qE,wE,Nd.cells,nilS,takeN,Fl.lock,h1,h2,h3,r5,hN,hk,hk',h01,h02,w1,lv_eq,hby,encLv,purse_eq,List.range_succ]
        · have h02:n.run=0:=by omega
          cases h2:n.nq<;>by_cases h3:n.row=[] <;>
          simp [ndH,rV,qI,qV,wI,wV,rE,qE,wE,Nd.cells,nilS,nxV,Fl.lock,h1,h2,h3,h02] at hN <;>
          simp [go_sem,ir85,ndH,rV,qI,qV,wI,wV,rE,qE,wE,Nd.cells,nilS,takeN,Fl.lock,h1,h2,h3,hN,hk,hk',h02,w1,lv_eq,hby,encLv,purse_eq,List.range_succ]
/-- The level that a node drives in a frame. -/
def frL (n:Nd):Bool:=if n.sends=true then (if n.run=5 then !n.lvl else (n.row[n.raw.length]?).getD true) else !(decide ((nextF n.raw).1=6) && rightF n.raw)
theorem nextF_six {m:List Bool} (h:6≤(nextF m).1∧(nextF m).1≤8):dataF m≤m.length∧sumF m+16≤m.length:=by
  unfold nextF at h
  repeat' split at h
  all_goals first | (simp at h;done) | (constructor<;>omega)
theorem nframe_spec (n:Nd) (F:Fl) (hr:RawOk n.raw) (hs:n.sends=true→n.raw.length<n.row.length):call E (.func (.func 32) [] []) [.ptr 0 0] (ndH n F)=some (.lit (.int .i64 (lv (frL n))),ndH n F.lock):=by
  have hN:=nnext_spec n F hr
  rw [call_func E E32]
  cases hsn:n.sends
  · by_cases hk:(nextF n.raw).1=6
    · have hk':((nextF n.raw).1:Int)=6:=by omega
      have h6:=nextF_six (m:=n.raw) (by omega)
      have h1:¬ n.raw=[]:=by intro e;rw [e] at h6;simp at h6
      have hR:=nright_spec n F.lock h6.1 (by omega) hr.1
      cases hb:rightF n.raw<;>cases h2:n.nq<;>by_cases h3:n.row=[] <;>
      simp [ndH,rV,qI,qV,wI,wV,rE,qE,wE,Nd.cells,nilS,nxV,Fl.lock,h1,h2,h3,hb,hsn] at hN hR <;>
      simp [go_sem,ir32,ndH,rV,qI,qV,wI,wV,rE,qE,wE,Nd.cells,nilS,frL,Fl.lock,h1,h2,h3,hsn,hN,hR,hk,hb,lvT,lvF,purse_eq,List.range_succ]
    · have hk':¬ ((nextF n.raw).1:Int)=6:=by omega
      by_cases h1:n.raw=[]<;>cases h2:n.nq<;>by_cases h3:n.row=[] <;>
      simp [ndH,rV,qI,qV,wI,wV,rE,qE,wE,Nd.cells,nilS,nxV,Fl.lock,h1,h2,h3,hsn] at hN hk hk' <;>
      simp [go_sem,ir32,ndH,rV,qI,qV,wI,wV,rE,qE,wE,Nd.cells,nilS,frL,Fl.lock,h1,h2,h3,hsn,hN,hk,hk',lvT,lvF,purse_eq,List.range_succ]
  · have hlt:=hs hsn
    have h3:¬ n.row=[]:=by intro e;rw [e] at hlt;simp at hlt
    by_cases r5:n.run=5
    · by_cases h1:n.raw=[]<;>cases h2:n.nq<;>cases hlv:n.lvl <;>
      simp [ndH,rV,qI,qV,wI,wV,rE,qE,wE,Nd.cells,nilS,nxV,Fl.lock,h1,h2,h3,r5,hlv,hsn,lvT,lvF] at hN <;>
      simp [go_sem,ir32,ndH,rV,qI,qV,wI,wV,rE,qE,wE,Nd.cells,nilS,frL,Fl.lock,h1,h2,h3,hsn,hN,r5,hlv,lvT,lvF,purse_eq,List.range_succ]
      all_goals decide
    · by_cases h1:n.raw=[]
      · have hlt0:0<n.row.length:=by rw [h1] at hlt;simpa using hlt
        have hg:n.row[0]?=some n.row[0]:=List.getElem?_eq_getElem hlt0
        cases h2:n.nq <;>
        simp [ndH,rV,qI,qV,wI,wV,rE,qE,wE,Nd.cells,nilS,nxV,Fl.lock,h1,h2,h3,r5,hsn] at hN <;>
        simp [go_sem,ir32,ndH,rV,qI,qV,wI,wV,rE,qE,wE,Nd.cells,nilS,frL,Fl.lock,h1,h2,h3,hsn,hN,r5,hlt0,hg,encLv,purse_eq,List.range_succ]
      · have hg:n.row[n.raw.length]?=some n.row[n.raw.length]:=List.getElem?_eq_getElem hlt
        cases h2:n.nq <;>
        simp [ndH,rV,qI,qV,wI,wV,rE,qE,wE,Nd.cells,nilS,nxV,Fl.lock,h1,h2,h3,r5,hsn] at hN <;>
        simp [go_sem,ir32,ndH,rV,qI,qV,wI,wV,rE,qE,wE,Nd.cells,nilS,frL,Fl.lock,h1,h2,h3,hsn,hN,r5,hlt,hg,encLv,purse_eq,List.range_succ]
end Go.AM.R1
open Go Go.AM
namespace Go.AM.R1
/-! ### What is told at a level -/
def encK (k:Nat):List AVal:=[.lit (.int .i64 k)]
def mI (n:Nd):Nat:=if n.row=[] then wI n else wI n+1
def tdV (T:Nat) (ks:List Nat):AVal:=if ks=[] then nilS else .own (T+1) ks.length 1 0 ks.length
def tdC (v:AVal) (f:Fr):List AVal:=[v,.lit (.int .i64 f.id),.lit (.bool f.ext),.lit (.bool f.rtr),.lit (.int .i64 f.len),.lit (.int .u8 f.d0),.lit (.int .u8 f.d1),.lit (.int .u8 f.d2),.lit (.int .u8 f.d3),.lit (.int .u8 f.d4),.lit (.int .u8 f.d5),.lit (.int .u8 f.d6),.lit (.int .u8 f.d7)]
def tdE (T:Nat) (ks:List Nat) (f:Fr):Heap:=.box (tdC (tdV T ks) f)::(if ks=[] then [] else [.arr true false false 1 (ks.map encK)])
def ndT (n:Nd) (F:Fl) (ks:List Nat) (f:Fr):Heap:=ndH n F++tdE (mI n) ks f
theorem tell_nil (f:Fr) (k:Nat):call E (.func (.func 87) [] []) [.ptr 0 0,.lit (.int .i64 k)] (tdE 0 [] f)=some (.tup [],tdE 0 [k] f):=by
  rw [call_func E E87]
  simp [go_sem,ir87,ndH,rV,qI,qV,wI,wV,rE,qE,wE,Nd.cells,nilS,ndT,tdE,tdV,tdC,mI,encK,purse_eq,List.range_succ]
theorem tell_one (f:Fr) (k j:Nat):call E (.func (.func 87) [] []) [.ptr 0 0,.lit (.int .i64 k)] (tdE 0 [j] f)=some (.tup [],tdE 0 [j,k] f):=by
  rw [call_func E E87]
  simp [go_sem,ir87,ndH,rV,qI,qV,wI,wV,rE,qE,wE,Nd.cells,nilS,ndT,tdE,tdV,tdC,mI,encK,purse_eq,List.range_succ]
/-- An error that counts; false: the node has gone off. -/
def chCt (n:Nd) (w:Nat):Ct:=if n.tx=true then n.ct.txE else n.ct.rxE w
def chN (n:Nd) (w:Nat):Bool × Nd:=if (chCt n w).state=2 then (false,{ n with ct:=chCt n w,mode:=10,k:=0,rows:=0 }) else (true,{ n with ct:=chCt n w })
theorem ncharge_nil_off (n:Nd) (F:Fl) (hn:n.Ok) (f:Fr) (w:Nat) (hw:w=1∨w=8) (c:Ct) (hc:c=chCt n w) (h2:c.state=2):call E (.func (.func 88) [] []) [.ptr 0 0,.ptr (mI n) 0,.lit (.int .i64 w)] (ndT n F [] f)
    = some (.lit (.bool false),ndT { n with ct:=c,mode:=10,k:=0,rows:=0 } F [10] f):=by
  have hs:=cstate_spec c
  have ht:=ctx_spec n.ct hn.ct
  have hr:=crx_spec n.ct hn.ct w hw
  have hT:=tell_nil f 10
  have hu:=nturn_spec { n with ct:=c } F 10
  rw [h2] at hs
  rw [call_func E E88]
  by_cases htx:n.tx=true
  case neg =>
    have htx:n.tx=false:=by simpa using htx
    rw [show n.ct.rxE w=c by rw [hc];unfold chCt;rw [htx];rfl] at hr
    clear ht hc
    by_cases h1:n.raw=[]<;>by_cases hq:n.nq=true<;>by_cases h3:n.row=[] <;>
    simp [ndH,rV,qI,qV,wI,wV,rE,qE,wE,Nd.cells,nilS,ndT,tdE,tdV,tdC,mI,encK,Ct.cells,h1,hq,h3,htx] at hs hr hT hu <;>
    simp [go_sem,ir88,ndH,rV,qI,qV,wI,wV,rE,qE,wE,Nd.cells,nilS,ndT,tdE,tdV,tdC,mI,encK,Ct.cells,h1,hq,h3,htx,h2,hs,hr,hT,hu,purse_eq,List.range_succ]
  case pos =>
    rw [show n.ct.txE=c by rw [hc];unfold chCt;rw [htx];rfl] at ht
    clear hr hc
    by_cases h1:n.raw=[]<;>by_cases hq:n.nq=true<;>by_cases h3:n.row=[] <;>
    simp [ndH,rV,qI,qV,wI,wV,rE,qE,wE,Nd.cells,nilS,ndT,tdE,tdV,tdC,mI,encK,Ct.cells,h1,hq,h3,htx] at hs ht hT hu <;>
    simp [go_sem,ir88,ndH,rV,qI,qV,wI,wV,rE,qE,wE,Nd.cells,nilS,ndT,tdE,tdV,tdC,mI,encK,Ct.cells,h1,hq,h3,htx,h2,hs,ht,hT,hu,purse_eq,List.range_succ]
theorem ncharge_nil_on (n:Nd) (F:Fl) (hn:n.Ok) (f:Fr) (w:Nat) (hw:w=1∨w=8) (c:Ct) (hc:c=chCt n w) (h2:¬ c.state=2):call E (.func (.func 88) [] []) [.ptr 0 0,.ptr (mI n) 0,.lit (.int .i64 w)] (ndT n F [] f)
    = some (.lit (.bool true),ndT { n with ct:=c } F [] f):=by
  have hs:=cstate_spec c
  have ht:=ctx_spec n.ct hn.ct
  have hr:=crx_spec n.ct hn.ct w hw
  rw [call_func E E88]
  by_cases htx:n.tx=true
  case neg =>
    have htx:n.tx=false:=by simpa using htx
    rw [show n.ct.rxE w=c by rw [hc];unfold chCt;rw [htx];rfl] at hr
    clear ht hc
    by_cases h1:n.raw=[]<;>by_cases hq:n.nq=true<;>by_cases h3:n.row=[] <;>
    simp [ndH,rV,qI,qV,wI,wV,rE,qE,wE,Nd.cells,nilS,ndT,tdE,tdV,tdC,mI,encK,Ct.cells,h1,hq,h3,htx] at hs hr <;>
    simp [go_sem,ir88,ndH,rV,qI,qV,wI,wV,rE,qE,wE,Nd.cells,nilS,ndT,tdE,tdV,tdC,mI,encK,Ct.cells,h1,hq,h3,htx,h2,hs,hr,purse_eq,List.range_succ]
  case pos =>
    rw [show n.ct.txE=c by rw [hc];unfold chCt;rw [htx];rfl] at ht
    clear hr hc
    by_cases h1:n.raw=[]<;>by_cases hq:n.nq=true<;>by_cases h3:n.row=[] <;>
    simp [ndH,rV,qI,qV,wI,wV,rE,qE,wE,Nd.cells,nilS,ndT,tdE,tdV,tdC,mI,encK,Ct.cells,h1,hq,h3,htx] at hs ht <;>
    simp [go_sem,ir88,ndH,rV,qI,qV,wI,wV,rE,qE,wE,Nd.cells,nilS,ndT,tdE,tdV,tdC,mI,encK,Ct.cells,h1,hq,h3,htx,h2,hs,ht,purse_eq,List.range_succ]
theorem ncharge_one_off (n:Nd) (F:Fl) (hn:n.Ok) (f:Fr) (j:Nat) (w:Nat) (hw:w=1∨w=8) (c:Ct) (hc:c=chCt n w) (h2:c.state=2):call E (.func (.func 88) [] []) [.ptr 0 0,.ptr (mI n) 0,.lit (.int .i64 w)] (ndT n F [j] f)
    = some (.lit (.bool false),ndT { n with ct:=c,mode:=10,k:=0,rows:=0 } F [j,10] f):=by
  have hs:=cstate_spec c
  have ht:=ctx_spec n.ct hn.ct
  have hr:=crx_spec n.ct hn.ct w hw
  have hT:=tell_one f 10 j
  have hu:=nturn_spec { n with ct:=c } F 10
  rw [h2] at hs
  rw [call_func E E88]
  by_cases htx:n.tx=true
  case neg =>
    have htx:n.tx=false:=by simpa using htx
    rw [show n.ct.rxE w=c by rw [hc];unfold chCt;rw [htx];rfl] at hr
    clear ht hc
    by_cases h1:n.raw=[]<;>by_cases hq:n.nq=true<;>by_cases h3:n.row=[] <;>
    simp [ndH,rV,qI,qV,wI,wV,rE,qE,wE,Nd.cells,nilS,ndT,tdE,tdV,tdC,mI,encK,Ct.cells,h1,hq,h3,htx] at hs hr hT hu <;>
    simp [go_sem,ir88,ndH,rV,qI,qV,wI,wV,rE,qE,wE,Nd.cells,nilS,ndT,tdE,tdV,tdC,mI,encK,Ct.cells,h1,hq,h3,htx,h2,hs,hr,hT,hu,purse_eq,List.range_succ]
  case pos =>
    rw [show n.ct.txE=c by rw [hc];unfold chCt;rw [htx];rfl] at ht
    clear hr hc
    by_cases h1:n.raw=[]<;>by_cases hq:n.nq=true<;>by_cases h3:n.row=[] <;>
    simp [ndH,rV,qI,qV,wI,wV,rE,qE,wE,Nd.cells,nilS,ndT,tdE,tdV,tdC,mI,encK,Ct.cells,h1,hq,h3,htx] at hs ht hT hu <;>
    simp [go_sem,ir88,ndH,rV,qI,qV,wI,wV,rE,qE,wE,Nd.cells,nilS,ndT,tdE,tdV,tdC,mI,encK,Ct.cells,h1,hq,h3,htx,h2,hs,ht,hT,hu,purse_eq,List.range_succ]
theorem ncharge_one_on (n:Nd) (F:Fl) (hn:n.Ok) (f:Fr) (j:Nat) (w:Nat) (hw:w=1∨w=8) (c:Ct) (hc:c=chCt n w) (h2:¬ c.state=2):call E (.func (.func 88) [] []) [.ptr 0 0,.ptr (mI n) 0,.lit (.int .i64 w)] (ndT n F [j] f)
    = some (.lit (.bool true),ndT { n with ct:=c } F [j] f):=by
  have hs:=cstate_spec c
  have ht:=ctx_spec n.ct hn.ct
  have hr:=crx_spec n.ct hn.ct w hw
  rw [call_func E E88]
  by_cases htx:n.tx=true
  case neg =>
    have htx:n.tx=false:=by simpa using htx
    rw [show n.ct.rxE w=c by rw [hc];unfold chCt;rw [htx];rfl] at hr
    clear ht hc
    by_cases h1:n.raw=[]<;>by_cases hq:n.nq=true<;>by_cases h3:n.row=[] <;>
    simp [ndH,rV,qI,qV,wI,wV,rE,qE,wE,Nd.cells,nilS,ndT,tdE,tdV,tdC,mI,encK,Ct.cells,h1,hq,h3,htx] at hs hr <;>
    simp [go_sem,ir88,ndH,rV,qI,qV,wI,wV,rE,qE,wE,Nd.cells,nilS,ndT,tdE,tdV,tdC,mI,encK,Ct.cells,h1,hq,h3,htx,h2,hs,hr,purse_eq,List.range_succ]
  case pos =>
    rw [show n.ct.txE=c by rw [hc];unfold chCt;rw [htx];rfl] at ht
    clear hr hc
    by_cases h1:n.raw=[]<;>by_cases hq:n.nq=true<;>by_cases h3:n.row=[] <;>
    simp [ndH,rV,qI,qV,wI,wV,rE,qE,wE,Nd.cells,nilS,ndT,tdE,tdV,tdC,mI,encK,Ct.cells,h1,hq,h3,htx] at hs ht <;>
    simp [go_sem,ir88,ndH,rV,qI,qV,wI,wV,rE,qE,wE,Nd.cells,nilS,ndT,tdE,tdV,tdC,mI,encK,Ct.cells,h1,hq,h3,htx,h2,hs,ht,purse_eq,List.range_succ]
end Go.AM.R1
open Go Go.AM
namespace Go.AM.R1
/-! ### An error, and an overload -/
def flagN (n:Nd) (st:Int):Nd:={ n with wrong:=true,owed:=false,mode:=if st=0 then 3 else 4,k:=0 }
def failN (n:Nd) (kind:Nat) (counted:Bool):List Nat × Nd :=
  if counted=true∨n.tx=false then
    (if (chN n 1).1=true then ([kind],flagN (chN n 1).2 n.ct.state) else ([kind,10],(chN n 1).2))
  else ([kind],flagN n n.ct.state)
def overN (n:Nd):List Nat × Nd:=([9],{ n with wrong:=false,mode:=5,k:=0 })
theorem nover_spec (n:Nd) (F:Fl) (f:Fr):call E (.func (.func 84) [] []) [.ptr 0 0,.ptr (mI n) 0] (ndT n F [] f)=some (.tup [],ndT (overN n).2 F [9] f):=by
  have hT:=tell_nil f 9
  have hu:=nturn_spec { n with wrong:=false } F 5
  rw [call_func E E84]
  simp only [overN]
  by_cases h1:n.raw=[]<;>by_cases hq:n.nq=true<;>by_cases h3:n.row=[] <;>
  simp [ndH,rV,qI,qV,wI,wV,rE,qE,wE,Nd.cells,nilS,ndT,tdE,tdV,tdC,mI,encK,h1,hq,h3] at hT hu <;>
  simp [go_sem,ir84,ndH,rV,qI,qV,wI,wV,rE,qE,wE,Nd.cells,nilS,ndT,tdE,tdV,tdC,mI,encK,h1,hq,h3,hT,hu,purse_eq,List.range_succ]
theorem nfail_none (n:Nd) (F:Fl) (f:Fr) (kind:Nat) (st:Int) (hst:n.ct.state=st) (htx:n.tx=true):call E (.func (.func 81) [] []) [.ptr 0 0,.ptr (mI n) 0,.lit (.int .i64 kind),.lit (.bool false)] (ndT n F [] f)=some (.tup [],ndT (flagN n st) F [kind] f):=by
  have hT:=tell_nil f kind
  have hs:=cstate_spec n.ct
  rw [hst] at hs
  clear hst
  rw [call_func E E81]
  by_cases h0:st=0
  · have hu:=nturn_spec { n with wrong:=true,owed:=false } F 3
    by_cases h1:n.raw=[]<;>by_cases hq:n.nq=true<;>by_cases h3:n.row=[] <;>
    simp [ndH,rV,qI,qV,wI,wV,rE,qE,wE,Nd.cells,nilS,ndT,tdE,tdV,tdC,mI,encK,Ct.cells,h1,hq,h3,htx,h0] at hT hu hs <;>
    simp [go_sem,ir81,ndH,rV,qI,qV,wI,wV,rE,qE,wE,Nd.cells,nilS,ndT,tdE,tdV,tdC,mI,encK,Ct.cells,flagN,h1,hq,h3,htx,h0,hT,hu,hs,purse_eq,List.range_succ]
  · have hu:=nturn_spec { n with wrong:=true,owed:=false } F 4
    by_cases h1:n.raw=[]<;>by_cases hq:n.nq=true<;>by_cases h3:n.row=[] <;>
    simp [ndH,rV,qI,qV,wI,wV,rE,qE,wE,Nd.cells,nilS,ndT,tdE,tdV,tdC,mI,encK,Ct.cells,h1,hq,h3,htx,h0] at hT hu hs <;>
    simp [go_sem,ir81,ndH,rV,qI,qV,wI,wV,rE,qE,wE,Nd.cells,nilS,ndT,tdE,tdV,tdC,mI,encK,Ct.cells,flagN,h1,hq,h3,htx,h0,hT,hu,hs,purse_eq,List.range_succ]
set_option maxHeartbeats 4000000 in
theorem nfail_off (n:Nd) (F:Fl) (hn:n.Ok) (f:Fr) (kind:Nat) (ctd:Bool) (st:Int) (hst:n.ct.state=st) (hct:ctd=true∨n.tx=false) (c:Ct) (hc:c=chCt n 1) (h2:c.state=2):call E (.func (.func 81) [] []) [.ptr 0 0,.ptr (mI n) 0,.lit (.int .i64 kind),.lit (.bool ctd)] (ndT n F [] f)
    = some (.tup [],ndT { n with ct:=c,mode:=10,k:=0,rows:=0 } F [kind,10] f):=by
  have hT:=tell_nil f kind
  have hs:=cstate_spec n.ct
  have hch:=ncharge_one_off n F hn f kind 1 (.inl rfl) c hc h2
  rw [hst] at hs
  clear hst hc
  rw [call_func E E81]
  cases ctd
  · have htx:n.tx=false:=by simpa using hct
    by_cases h1:n.raw=[]<;>by_cases hq:n.nq=true<;>by_cases h3:n.row=[] <;>
    simp [ndH,rV,qI,qV,wI,wV,rE,qE,wE,Nd.cells,nilS,ndT,tdE,tdV,tdC,mI,encK,Ct.cells,h1,hq,h3,htx] at hT hch hs <;>
    simp [go_sem,ir81,ndH,rV,qI,qV,wI,wV,rE,qE,wE,Nd.cells,nilS,ndT,tdE,tdV,tdC,mI,encK,Ct.cells,h1,hq,h3,htx,hT,hch,hs,purse_eq,List.range_succ]
  · by_cases h1:n.raw=[]<;>by_cases hq:n.nq=true<;>by_cases h3:n.row=[] <;>
    simp [ndH,rV,qI,qV,wI,wV,rE,qE,wE,Nd.cells,nilS,ndT,tdE,tdV,tdC,mI,encK,Ct.cells,h1,hq,h3] at hT hch hs <;>
    simp [go_sem,ir81,ndH,rV,qI,qV,wI,wV,rE,qE,wE,Nd.cells,nilS,ndT,tdE,tdV,tdC,mI,encK,Ct.cells,h1,hq,h3,hT,hch,hs,purse_eq,List.range_succ]
set_option maxHeartbeats 4000000 in
theorem nfail_on (n:Nd) (F:Fl) (hn:n.Ok) (f:Fr) (kind:Nat) (ctd:Bool) (st:Int) (hst:n.ct.state=st) (hct:ctd=true∨n.tx=false) (c:Ct) (hc:c=chCt n 1) (h2:¬ c.state=2):call E (.func (.func 81) [] []) [.ptr 0 0,.ptr (mI n) 0,.lit (.int .i64 kind),.lit (.bool ctd)] (ndT n F [] f)
    = some (.tup [],ndT (flagN { n with ct:=c } st) F [kind] f):=by
  have hT:=tell_nil f kind
  have hs:=cstate_spec n.ct
  have hch:=ncharge_one_on n F hn f kind 1 (.inl rfl) c hc h2
  rw [hst] at hs
  clear hst hc
  rw [call_func E E81]
  by_cases h0:st=0
  case pos =>
    have hu:=nturn_spec { n with ct:=c,wrong:=true,owed:=false } F 3
    cases ctd
    · have htx:n.tx=false:=by simpa using hct
      by_cases h1:n.raw=[]<;>by_cases hq:n.nq=true<;>by_cases h3:n.row=[] <;>
      simp [ndH,rV,qI,qV,wI,wV,rE,qE,wE,Nd.cells,nilS,ndT,tdE,tdV,tdC,mI,encK,Ct.cells,h1,hq,h3,htx,h0] at hT hch hs hu <;>
      simp [go_sem,ir81,ndH,rV,qI,qV,wI,wV,rE,qE,wE,Nd.cells,nilS,ndT,tdE,tdV,tdC,mI,encK,Ct.cells,flagN,h1,hq,h3,htx,h0,hT,hch,hs,hu,purse_eq,List.range_succ]
    · by_cases h1:n.raw=[]<;>by_cases hq:n.nq=true<;>by_cases h3:n.row=[] <;>
      simp [ndH,rV,qI,qV,wI,wV,rE,qE,wE,Nd.cells,nilS,ndT,tdE,tdV,tdC,mI,encK,Ct.cells,h1,hq,h3,h0] at hT hch hs hu <;>
      simp [go_sem,ir81,ndH,rV,qI,qV,wI,wV,rE,qE,wE,Nd.cells,nilS,ndT,tdE,tdV,tdC,mI,encK,Ct.cells,flagN,h1,hq,h3,h0,hT,hch,hs,hu,purse_eq,List.range_succ]
  case neg =>
    have hu:=nturn_spec { n with ct:=c,wrong:=true,owed:=false } F 4
    cases ctd
    · have htx:n.tx=false:=by simpa using hct
      by_cases h1:n.raw=[]<;>by_cases hq:n.nq=true<;>by_cases h3:n.row=[] <;>
      simp [ndH,rV,qI,qV,wI,wV,rE,qE,wE,Nd.cells,nilS,ndT,tdE,tdV,tdC,mI,encK,Ct.cells,h1,hq,h3,htx,h0] at hT hch hs hu <;>
      simp [go_sem,ir81,ndH,rV,qI,qV,wI,wV,rE,qE,wE,Nd.cells,nilS,ndT,tdE,tdV,tdC,mI,encK,Ct.cells,flagN,h1,hq,h3,htx,h0,hT,hch,hs,hu,purse_eq,List.range_succ]
    · by_cases h1:n.raw=[]<;>by_cases hq:n.nq=true<;>by_cases h3:n.row=[] <;>
      simp [ndH,rV,qI,qV,wI,wV,rE,qE,wE,Nd.cells,nilS,ndT,tdE,tdV,tdC,mI,encK,Ct.cells,h1,hq,h3,h0] at hT hch hs hu <;>
      simp [go_sem,ir81,ndH,rV,qI,qV,wI,wV,rE,qE,wE,Nd.cells,nilS,ndT,tdE,tdV,tdC,mI,encK,Ct.cells,flagN,h1,hq,h3,h0,hT,hch,hs,hu,purse_eq,List.range_succ]
theorem nfail_spec (n:Nd) (F:Fl) (hn:n.Ok) (f:Fr) (kind:Nat) (ctd:Bool):call E (.func (.func 81) [] []) [.ptr 0 0,.ptr (mI n) 0,.lit (.int .i64 kind),.lit (.bool ctd)] (ndT n F [] f)=some (.tup [],ndT (failN n kind ctd).2 F (failN n kind ctd).1 f):=by
  by_cases hc:ctd=true∨n.tx=false
  · by_cases h:(chCt n 1).state=2
    · rw [nfail_off n F hn f kind ctd _ rfl hc _ rfl h,show failN n kind ctd=([kind,10],{ n with ct:=chCt n 1,mode:=10,k:=0,rows:=0 }) by
        unfold failN;rw [if_pos hc,show chN n 1=(false,{ n with ct:=chCt n 1,mode:=10,k:=0,rows:=0 }) by unfold chN;rw [if_pos h]];simp]
    · rw [nfail_on n F hn f kind ctd _ rfl hc _ rfl h,show failN n kind ctd=([kind],flagN { n with ct:=chCt n 1 } n.ct.state) by
        unfold failN;rw [if_pos hc,show chN n 1=(true,{ n with ct:=chCt n 1 }) by unfold chN;rw [if_neg h]];simp]
  · have h1:ctd=false:=by cases ctd;rfl;exact absurd (.inl rfl) hc
    have h2:n.tx=true:=by cases h:n.tx;exact absurd (.inr h) hc;rfl
    rw [h1,nfail_none n F f kind _ rfl h2,show failN n kind false=([kind],flagN n n.ct.state) by unfold failN;rw [if_neg (by rw [h2];simp)]]
end Go.AM.R1
open Go Go.AM
namespace Go.AM.R1
/-! ### Levels outside frames -/
theorem k1w {k:Nat} (h:k≤1000000000):IntKind.wrap .i64 ((k:Int)+1)=k+1:=wrap64 (by omega) (by omega)
theorem w11:IntKind.wrap .i64 11=11:=by decide
theorem w8:IntKind.wrap .i64 8=8:=by decide
theorem w6:IntKind.wrap .i64 6=6:=by decide
theorem w7:IntKind.wrap .i64 7=7:=by decide
theorem w1c:IntKind.wrap .i64 1=1:=by decide
theorem w128:IntKind.wrap .i64 128=128:=by decide
def joinN (n:Nd) (b:Bool):List Nat × Nd:=([],if b=false then { n with k:=0 } else if n.k+1=11 then { n with mode:=1,k:=0 } else { n with k:=n.k+1 })
def domN (n:Nd) (b:Bool):List Nat × Nd :=
  if b=false then ([],if n.k+1=6 then { n with mode:=6,k:=0 } else { n with k:=n.k+1 })
  else if (chN n 8).1=true then ([4],if n.k+1=6 then { (chN n 8).2 with mode:=6,k:=0 } else { (chN n 8).2 with k:=n.k+1 })
  else ([4,10],(chN n 8).2)
def pasK (n:Nd) (b:Bool):Nat:=if 0<n.k∧b≠n.lvl then 1 else n.k+1
def pasN (n:Nd) (b:Bool):List Nat × Nd :=
  if n.owed=true∧b=false then
    (if (chN { n with k:=pasK n b,lvl:=b,owed:=false } 8).1=true then
      ([],if pasK n b=6 then { (chN { n with k:=pasK n b,lvl:=b,owed:=false } 8).2 with mode:=6,k:=0 } else (chN { n with k:=pasK n b,lvl:=b,owed:=false } 8).2)
    else ([10],(chN { n with k:=pasK n b,lvl:=b,owed:=false } 8).2))
  else ([],if pasK n b=6 then { n with lvl:=b,mode:=6,k:=0 } else { n with k:=pasK n b,lvl:=b })
set_option maxHeartbeats 4000000 in
theorem njoin_spec (n:Nd) (F:Fl) (hk:n.k≤1000000000) (f:Fr) (b:Bool):call E (.func (.func 52) [] []) [.ptr 0 0,.ptr (mI n) 0,.lit (.int .i64 (lv b))] (ndT n F [] f)=some (.tup [],ndT (joinN n b).2 F (joinN n b).1 f):=by
  have w1:=k1w hk
  rw [call_func E E52]
  cases b
  case false =>
    rw [show joinN n false=([],{ n with k:=0 }) from rfl]
    by_cases h1:n.raw=[]<;>by_cases hq:n.nq=true<;>by_cases h3:n.row=[] <;>
    simp [go_sem,ir52,ndH,rV,qI,qV,wI,wV,rE,qE,wE,Nd.cells,nilS,ndT,tdE,tdV,tdC,mI,encK,h1,hq,h3,lvF,w1,purse_eq,List.range_succ]
  case true =>
    by_cases hk2:n.k+1=11
    case pos =>
      rw [show joinN n true=([],{ n with mode:=1,k:=0 }) by unfold joinN;rw [if_neg (by simp),if_pos hk2]]
      have hk3:(n.k:Int)+1=11:=by omega
      have hu:=nturn_spec { n with k:=11 } F 1
      by_cases h1:n.raw=[]<;>by_cases hq:n.nq=true<;>by_cases h3:n.row=[] <;>
      simp [ndH,rV,qI,qV,wI,wV,rE,qE,wE,Nd.cells,nilS,ndT,tdE,tdV,tdC,mI,encK,h1,hq,h3,lvT] at hu <;>
      simp [go_sem,ir52,ndH,rV,qI,qV,wI,wV,rE,qE,wE,Nd.cells,nilS,ndT,tdE,tdV,tdC,mI,encK,h1,hq,h3,lvT,hk3,w11,hu,purse_eq,List.range_succ]
    case neg =>
      rw [show joinN n true=([],{ n with k:=n.k+1 }) by unfold joinN;rw [if_neg (by simp),if_neg hk2]]
      have hk3:¬ ((n.k:Int)+1=11):=by omega
      by_cases h1:n.raw=[]<;>by_cases hq:n.nq=true<;>by_cases h3:n.row=[] <;>
      simp [go_sem,ir52,ndH,rV,qI,qV,wI,wV,rE,qE,wE,Nd.cells,nilS,ndT,tdE,tdV,tdC,mI,encK,h1,hq,h3,lvT,w1,hk3,purse_eq,List.range_succ]
set_option maxHeartbeats 4000000 in
theorem ndom_spec (n:Nd) (F:Fl) (hn:n.Ok) (hk:n.k≤1000000000) (f:Fr) (b:Bool):call E (.func (.func 55) [] []) [.ptr 0 0,.ptr (mI n) 0,.lit (.int .i64 (lv b))] (ndT n F [] f)=some (.tup [],ndT (domN n b).2 F (domN n b).1 f):=by
  have w1:=k1w hk
  rw [call_func E E55]
  cases b
  case false =>
    by_cases hk2:n.k+1=6
    case pos =>
      rw [show domN n false=([],{ n with mode:=6,k:=0 }) by unfold domN;rw [if_pos rfl,if_pos hk2]]
      have hk3:(n.k:Int)+1=6:=by omega
      have hu:=nturn_spec { n with k:=6 } F 6
      by_cases h1:n.raw=[]<;>by_cases hq:n.nq=true<;>by_cases h3:n.row=[] <;>
      simp [ndH,rV,qI,qV,wI,wV,rE,qE,wE,Nd.cells,nilS,ndT,tdE,tdV,tdC,mI,encK,h1,hq,h3,lvF] at hu <;>
      simp [go_sem,ir55,ndH,rV,qI,qV,wI,wV,rE,qE,wE,Nd.cells,nilS,ndT,tdE,tdV,tdC,mI,encK,h1,hq,h3,lvF,hk3,w6,hu,purse_eq,List.range_succ]
    case neg =>
      rw [show domN n false=([],{ n with k:=n.k+1 }) by unfold domN;rw [if_pos rfl,if_neg hk2]]
      have hk3:¬ ((n.k:Int)+1=6):=by omega
      by_cases h1:n.raw=[]<;>by_cases hq:n.nq=true<;>by_cases h3:n.row=[] <;>
      simp [go_sem,ir55,ndH,rV,qI,qV,wI,wV,rE,qE,wE,Nd.cells,nilS,ndT,tdE,tdV,tdC,mI,encK,h1,hq,h3,lvF,w1,hk3,purse_eq,List.range_succ]
  case true =>
    have hT:=tell_nil f 4
    by_cases h2:(chCt n 8).state=2
    case pos =>
      have hc:=ncharge_one_off n F hn f 4 8 (.inr rfl) _ rfl h2
      rw [show domN n true=([4,10],{ n with ct:=chCt n 8,mode:=10,k:=0,rows:=0 }) by
        unfold domN;rw [show chN n 8=(false,{ n with ct:=chCt n 8,mode:=10,k:=0,rows:=0 }) by unfold chN;rw [if_pos h2]];simp]
      generalize chCt n 8=c at hc ⊢
      by_cases h1:n.raw=[]<;>by_cases hq:n.nq=true<;>by_cases h3:n.row=[] <;>
      simp [ndH,rV,qI,qV,wI,wV,rE,qE,wE,Nd.cells,nilS,ndT,tdE,tdV,tdC,mI,encK,h1,hq,h3,lvT] at hT hc <;>
      simp [go_sem,ir55,ndH,rV,qI,qV,wI,wV,rE,qE,wE,Nd.cells,nilS,ndT,tdE,tdV,tdC,mI,encK,h1,hq,h3,lvT,hT,hc,purse_eq,List.range_succ]
    case neg =>
      have hc:=ncharge_one_on n F hn f 4 8 (.inr rfl) _ rfl h2
      by_cases hk2:n.k+1=6
      case pos =>
        rw [show domN n true=([4],{ n with ct:=chCt n 8,mode:=6,k:=0 }) by
          unfold domN;rw [show chN n 8=(true,{ n with ct:=chCt n 8 }) by unfold chN;rw [if_neg h2]];simp [hk2]]
        have hk3:(n.k:Int)+1=6:=by omega
        generalize chCt n 8=c at hc ⊢
        have hu:=nturn_spec { n with ct:=c,k:=6 } F 6
        by_cases h1:n.raw=[]<;>by_cases hq:n.nq=true<;>by_cases h3:n.row=[] <;>
        simp [ndH,rV,qI,qV,wI,wV,rE,qE,wE,Nd.cells,nilS,ndT,tdE,tdV,tdC,mI,encK,h1,hq,h3,lvT] at hT hc hu <;>
        simp [go_sem,ir55,ndH,rV,qI,qV,wI,wV,rE,qE,wE,Nd.cells,nilS,ndT,tdE,tdV,tdC,mI,encK,h1,hq,h3,lvT,hT,hc,hk3,w6,hu,purse_eq,List.range_succ]
      case neg =>
        rw [show domN n true=([4],{ n with ct:=chCt n 8,k:=n.k+1 }) by
          unfold domN;rw [show chN n 8=(true,{ n with ct:=chCt n 8 }) by unfold chN;rw [if_neg h2]];rw [if_neg (by simp),if_pos rfl,if_neg hk2]]
        have hk3:¬ ((n.k:Int)+1=6):=by omega
        generalize chCt n 8=c at hc ⊢
        by_cases h1:n.raw=[]<;>by_cases hq:n.nq=true<;>by_cases h3:n.row=[] <;>
        simp [ndH,rV,qI,qV,wI,wV,rE,qE,wE,Nd.cells,nilS,ndT,tdE,tdV,tdC,mI,encK,h1,hq,h3,lvT] at hT hc <;>
        simp [go_sem,ir55,ndH,rV,qI,qV,wI,wV,rE,qE,wE,Nd.cells,nilS,ndT,tdE,tdV,tdC,mI,encK,h1,hq,h3,lvT,hT,hc,w1,hk3,purse_eq,List.range_succ]
theorem lvNe {a b:Bool} (h:a≠b):¬ (lv a=lv b):=by rw [lv_eq];exact h
theorem natCastS (k:Nat):((k+1:Nat):Int)=(k:Int)+1:=rfl
set_option maxHeartbeats 4000000 in
theorem npas_spec (n:Nd) (F:Fl) (hn:n.Ok) (hk:n.k≤1000000000) (f:Fr) (b:Bool):call E (.func (.func 56) [] []) [.ptr 0 0,.ptr (mI n) 0,.lit (.int .i64 (lv b))] (ndT n F [] f)=some (.tup [],ndT (pasN n b).2 F (pasN n b).1 f):=by
  have w1:=k1w hk
  rw [call_func E E56]
  by_cases ho:n.owed=true∧b=false
  case neg =>
    by_cases hp:0<n.k
    case pos =>
      have hp':(0:Int)<n.k:=by omega
      by_cases hb:n.lvl=b
      case pos =>
        have ek:pasK n b=n.k+1:=by unfold pasK;rw [if_neg (by simp [hb])]
        by_cases hk2:n.k+1=6
        case pos =>
          rw [show pasN n b=([],{ n with lvl:=b,mode:=6,k:=0 }) by unfold pasN;rw [if_neg ho,ek,if_pos hk2]]
          have hk3:(n.k:Int)+1=6:=by omega
          have hu:=nturn_spec { n with k:=6,lvl:=b } F 6
          by_cases hw:n.owed=true
          case pos =>
            have hbt:b=true:=by cases b;exact absurd ⟨hw,rfl⟩ ho;rfl
            subst hbt
            by_cases h1:n.raw=[]<;>by_cases hq:n.nq=true<;>by_cases h3:n.row=[] <;>
            simp [ndH,rV,qI,qV,wI,wV,rE,qE,wE,Nd.cells,nilS,ndT,tdE,tdV,tdC,mI,encK,h1,hq,h3,hw,lvT,lvF,hp,hb] at hu <;>
            simp [go_sem,ir56,ndH,rV,qI,qV,wI,wV,rE,qE,wE,Nd.cells,nilS,ndT,tdE,tdV,tdC,mI,encK,h1,hq,h3,hw,lvT,lvF,hp,hb,hk3,w6,hu,purse_eq,List.range_succ]
          case neg =>
            by_cases h1:n.raw=[]<;>by_cases hq:n.nq=true<;>by_cases h3:n.row=[] <;>
            simp [ndH,rV,qI,qV,wI,wV,rE,qE,wE,Nd.cells,nilS,ndT,tdE,tdV,tdC,mI,encK,h1,hq,h3,hw,lv_eq,hp,hb] at hu <;>
            simp [go_sem,ir56,ndH,rV,qI,qV,wI,wV,rE,qE,wE,Nd.cells,nilS,ndT,tdE,tdV,tdC,mI,encK,h1,hq,h3,hw,lv_eq,hp,hb,hk3,w6,hu,purse_eq,List.range_succ]
        case neg =>
          rw [show pasN n b=([],{ n with k:=n.k+1,lvl:=b }) by unfold pasN;rw [if_neg ho,ek,if_neg hk2]]
          have hk3:¬ ((n.k:Int)+1=6):=by omega
          by_cases hw:n.owed=true
          case pos =>
            have hbt:b=true:=by cases b;exact absurd ⟨hw,rfl⟩ ho;rfl
            subst hbt
            by_cases h1:n.raw=[]<;>by_cases hq:n.nq=true<;>by_cases h3:n.row=[] <;>
            simp [go_sem,ir56,ndH,rV,qI,qV,wI,wV,rE,qE,wE,Nd.cells,nilS,ndT,tdE,tdV,tdC,mI,encK,h1,hq,h3,hw,lvT,lvF,hp,hb,w1,hk3,purse_eq,List.range_succ]
          case neg =>
            by_cases h1:n.raw=[]<;>by_cases hq:n.nq=true<;>by_cases h3:n.row=[] <;>
            simp [go_sem,ir56,ndH,rV,qI,qV,wI,wV,rE,qE,wE,Nd.cells,nilS,ndT,tdE,tdV,tdC,mI,encK,h1,hq,h3,hw,lv_eq,hp,hb,w1,hk3,purse_eq,List.range_succ]
      case neg =>
        have ek:pasK n b=1:=by unfold pasK;rw [if_pos ⟨hp,fun e=>hb e.symm⟩]
        have hbl:=lvNe (fun e:b=n.lvl=>hb e.symm)
        rw [show pasN n b=([],{ n with k:=1,lvl:=b }) by unfold pasN;rw [if_neg ho,ek];rfl]
        by_cases hw:n.owed=true
        case pos =>
          have hbt:b=true:=by cases b;exact absurd ⟨hw,rfl⟩ ho;rfl
          subst hbt
          by_cases h1:n.raw=[]<;>by_cases hq:n.nq=true<;>by_cases h3:n.row=[] <;>
          simp [go_sem,ir56,ndH,rV,qI,qV,wI,wV,rE,qE,wE,Nd.cells,nilS,ndT,tdE,tdV,tdC,mI,encK,h1,hq,h3,hw,lvT,lvF,hp,hb,hbl,w1c,w1c,purse_eq,List.range_succ]
        case neg =>
          by_cases h1:n.raw=[]<;>by_cases hq:n.nq=true<;>by_cases h3:n.row=[] <;>
          simp [go_sem,ir56,ndH,rV,qI,qV,wI,wV,rE,qE,wE,Nd.cells,nilS,ndT,tdE,tdV,tdC,mI,encK,h1,hq,h3,hw,lv_eq,hp,hb,hbl,w1c,w1c,purse_eq,List.range_succ]
    case neg =>
      have hp':¬ (0:Int)<n.k:=by omega
      have ek:pasK n b=n.k+1:=by unfold pasK;rw [if_neg (by simp [hp])]
      by_cases hk2:n.k+1=6
      case pos =>
        rw [show pasN n b=([],{ n with lvl:=b,mode:=6,k:=0 }) by unfold pasN;rw [if_neg ho,ek,if_pos hk2]]
        have hk3:(n.k:Int)+1=6:=by omega
        have hu:=nturn_spec { n with k:=6,lvl:=b } F 6
        by_cases hw:n.owed=true
        case pos =>
          have hbt:b=true:=by cases b;exact absurd ⟨hw,rfl⟩ ho;rfl
          subst hbt
          by_cases h1:n.raw=[]<;>by_cases hq:n.nq=true<;>by_cases h3:n.row=[] <;>
          simp [ndH,rV,qI,qV,wI,wV,rE,qE,wE,Nd.cells,nilS,ndT,tdE,tdV,tdC,mI,encK,h1,hq,h3,hw,lvT,lvF,hp] at hu <;>
          simp [go_sem,ir56,ndH,rV,qI,qV,wI,wV,rE,qE,wE,Nd.cells,nilS,ndT,tdE,tdV,tdC,mI,encK,h1,hq,h3,hw,lvT,lvF,hp,hk3,w6,hu,purse_eq,List.range_succ]
        case neg =>
          by_cases h1:n.raw=[]<;>by_cases hq:n.nq=true<;>by_cases h3:n.row=[] <;>
          simp [ndH,rV,qI,qV,wI,wV,rE,qE,wE,Nd.cells,nilS,ndT,tdE,tdV,tdC,mI,encK,h1,hq,h3,hw,lv_eq,hp] at hu <;>
          simp [go_sem,ir56,ndH,rV,qI,qV,wI,wV,rE,qE,wE,Nd.cells,nilS,ndT,tdE,tdV,tdC,mI,encK,h1,hq,h3,hw,lv_eq,hp,hk3,w6,hu,purse_eq,List.range_succ]
      case neg =>
        rw [show pasN n b=([],{ n with k:=n.k+1,lvl:=b }) by unfold pasN;rw [if_neg ho,ek,if_neg hk2]]
        have hk3:¬ ((n.k:Int)+1=6):=by omega
        by_cases hw:n.owed=true
        case pos =>
          have hbt:b=true:=by cases b;exact absurd ⟨hw,rfl⟩ ho;rfl
          subst hbt
          by_cases h1:n.raw=[]<;>by_cases hq:n.nq=true<;>by_cases h3:n.row=[] <;>
          simp [go_sem,ir56,ndH,rV,qI,qV,wI,wV,rE,qE,wE,Nd.cells,nilS,ndT,tdE,tdV,tdC,mI,encK,h1,hq,h3,hw,lvT,lvF,hp,w1,hk3,purse_eq,List.range_succ]
        case neg =>
          by_cases h1:n.raw=[]<;>by_cases hq:n.nq=true<;>by_cases h3:n.row=[] <;>
          simp [go_sem,ir56,ndH,rV,qI,qV,wI,wV,rE,qE,wE,Nd.cells,nilS,ndT,tdE,tdV,tdC,mI,encK,h1,hq,h3,hw,lv_eq,hp,w1,hk3,purse_eq,List.range_succ]
  case pos =>
    have hw:=ho.1
    have hbf:=ho.2
    subst hbf
    by_cases hp:0<n.k
    case pos =>
      have hp':(0:Int)<n.k:=by omega
      by_cases hb:n.lvl=false
      case pos =>
        have ek:pasK n false=n.k+1:=by unfold pasK;rw [if_neg (by simp [hb])]
        have hnM:({ n with k:=n.k+1,lvl:=false,owed:=false }:Nd).Ok:=⟨hn.nq,hn.ql,hn.ct⟩
        have hcc:chCt ({ n with k:=n.k+1,lvl:=false,owed:=false }:Nd) 8=chCt n 8:=rfl
        by_cases h2:(chCt n 8).state=2
        case pos =>
          have hc:=ncharge_nil_off ({ n with k:=n.k+1,lvl:=false,owed:=false }:Nd) F hnM f 8 (.inr rfl) _ hcc.symm h2
          rw [show pasN n false=([10],{ n with lvl:=false,owed:=false,ct:=chCt n 8,mode:=10,k:=0,rows:=0 }) by
            unfold pasN;rw [if_pos ho,ek,show chN ({ n with k:=n.k+1,lvl:=false,owed:=false }:Nd) 8=(false,{ n with lvl:=false,owed:=false,ct:=chCt n 8,mode:=10,k:=0,rows:=0 }) by unfold chN;rw [hcc,if_pos h2]];simp]
          generalize chCt n 8=c at hc ⊢
          by_cases h1:n.raw=[]<;>by_cases hq:n.nq=true<;>by_cases h3:n.row=[] <;>
          simp [ndH,rV,qI,qV,wI,wV,rE,qE,wE,Nd.cells,nilS,ndT,tdE,tdV,tdC,mI,encK,h1,hq,h3,hw,lvT,lvF,hp,hb] at hc <;>
          simp [go_sem,ir56,ndH,rV,qI,qV,wI,wV,rE,qE,wE,Nd.cells,nilS,ndT,tdE,tdV,tdC,mI,encK,h1,hq,h3,hw,lvT,lvF,hp,hb,hc,w1,natCastS,purse_eq,List.range_succ]
        case neg =>
          have hc:=ncharge_nil_on ({ n with k:=n.k+1,lvl:=false,owed:=false }:Nd) F hnM f 8 (.inr rfl) _ hcc.symm h2
          have hch:chN ({ n with k:=n.k+1,lvl:=false,owed:=false }:Nd) 8=(true,{ n with k:=n.k+1,lvl:=false,owed:=false,ct:=chCt n 8 }):=by unfold chN;rw [hcc,if_neg h2]
          by_cases hk2:n.k+1=6
          case pos =>
            rw [show pasN n false=([],{ n with lvl:=false,owed:=false,ct:=chCt n 8,mode:=6,k:=0 }) by unfold pasN;rw [if_pos ho,ek,hch];simp [hk2]]
            have hk3:(n.k:Int)+1=6:=by omega
            rw [hk2] at hc
            generalize chCt n 8=c at hc ⊢
            have hu:=nturn_spec { n with k:=6,lvl:=false,owed:=false,ct:=c } F 6
            by_cases h1:n.raw=[]<;>by_cases hq:n.nq=true<;>by_cases h3:n.row=[] <;>
            simp [ndH,rV,qI,qV,wI,wV,rE,qE,wE,Nd.cells,nilS,ndT,tdE,tdV,tdC,mI,encK,h1,hq,h3,hw,lvT,lvF,hp,hb] at hc hu <;>
            simp [go_sem,ir56,ndH,rV,qI,qV,wI,wV,rE,qE,wE,Nd.cells,nilS,ndT,tdE,tdV,tdC,mI,encK,h1,hq,h3,hw,lvT,lvF,hp,hb,hc,hu,hk3,w6,purse_eq,List.range_succ]
          case neg =>
            rw [show pasN n false=([],{ n with k:=n.k+1,lvl:=false,owed:=false,ct:=chCt n 8 }) by unfold pasN;rw [if_pos ho,ek,hch];rw [if_pos rfl,if_neg hk2]]
            have hk3:¬ ((n.k:Int)+1=6):=by omega
            generalize chCt n 8=c at hc ⊢
            by_cases h1:n.raw=[]<;>by_cases hq:n.nq=true<;>by_cases h3:n.row=[] <;>
            simp [ndH,rV,qI,qV,wI,wV,rE,qE,wE,Nd.cells,nilS,ndT,tdE,tdV,tdC,mI,encK,h1,hq,h3,hw,lvT,lvF,hp,hb] at hc <;>
            simp [go_sem,ir56,ndH,rV,qI,qV,wI,wV,rE,qE,wE,Nd.cells,nilS,ndT,tdE,tdV,tdC,mI,encK,h1,hq,h3,hw,lvT,lvF,hp,hb,hc,w1,hk3,natCastS,purse_eq,List.range_succ]
      case neg =>
        have ek:pasK n false=1:=by unfold pasK;rw [if_pos ⟨hp,fun e=>hb e.symm⟩]
        have hbl:=lvNe (fun e:false=n.lvl=>hb e.symm)
        have hnM:({ n with k:=1,lvl:=false,owed:=false }:Nd).Ok:=⟨hn.nq,hn.ql,hn.ct⟩
        have hcc:chCt ({ n with k:=1,lvl:=false,owed:=false }:Nd) 8=chCt n 8:=rfl
        by_cases h2:(chCt n 8).state=2
        case pos =>
          have hc:=ncharge_nil_off ({ n with k:=1,lvl:=false,owed:=false }:Nd) F hnM f 8 (.inr rfl) _ hcc.symm h2
          rw [show pasN n false=([10],{ n with lvl:=false,owed:=false,ct:=chCt n 8,mode:=10,k:=0,rows:=0 }) by
            unfold pasN;rw [if_pos ho,ek,show chN ({ n with k:=1,lvl:=false,owed:=false }:Nd) 8=(false,{ n with lvl:=false,owed:=false,ct:=chCt n 8,mode:=10,k:=0,rows:=0 }) by unfold chN;rw [hcc,if_pos h2]];simp]
          generalize chCt n 8=c at hc ⊢
          by_cases h1:n.raw=[]<;>by_cases hq:n.nq=true<;>by_cases h3:n.row=[] <;>
          simp [ndH,rV,qI,qV,wI,wV,rE,qE,wE,Nd.cells,nilS,ndT,tdE,tdV,tdC,mI,encK,h1,hq,h3,hw,lvT,lvF,hp,hb,hbl,w1c] at hc <;>
          simp [go_sem,ir56,ndH,rV,qI,qV,wI,wV,rE,qE,wE,Nd.cells,nilS,ndT,tdE,tdV,tdC,mI,encK,h1,hq,h3,hw,lvT,lvF,hp,hb,hbl,w1c,hc,natCastS,purse_eq,List.range_succ]
        case neg =>
          have hc:=ncharge_nil_on ({ n with k:=1,lvl:=false,owed:=false }:Nd) F hnM f 8 (.inr rfl) _ hcc.symm h2
          have hch:chN ({ n with k:=1,lvl:=false,owed:=false }:Nd) 8=(true,{ n with k:=1,lvl:=false,owed:=false,ct:=chCt n 8 }):=by unfold chN;rw [hcc,if_neg h2]
          rw [show pasN n false=([],{ n with k:=1,lvl:=false,owed:=false,ct:=chCt n 8 }) by unfold pasN;rw [if_pos ho,ek,hch];simp]
          generalize chCt n 8=c at hc ⊢
          by_cases h1:n.raw=[]<;>by_cases hq:n.nq=true<;>by_cases h3:n.row=[] <;>
          simp [ndH,rV,qI,qV,wI,wV,rE,qE,wE,Nd.cells,nilS,ndT,tdE,tdV,tdC,mI,encK,h1,hq,h3,hw,lvT,lvF,hp,hb,hbl,w1c] at hc <;>
          simp [go_sem,ir56,ndH,rV,qI,qV,wI,wV,rE,qE,wE,Nd.cells,nilS,ndT,tdE,tdV,tdC,mI,encK,h1,hq,h3,hw,lvT,lvF,hp,hb,hbl,w1c,hc,natCastS,purse_eq,List.range_succ]
    case neg =>
      have hp':¬ (0:Int)<n.k:=by omega
      have ek:pasK n false=n.k+1:=by unfold pasK;rw [if_neg (by simp [hp])]
      have hnM:({ n with k:=n.k+1,lvl:=false,owed:=false }:Nd).Ok:=⟨hn.nq,hn.ql,hn.ct⟩
      have hcc:chCt ({ n with k:=n.k+1,lvl:=false,owed:=false }:Nd) 8=chCt n 8:=rfl
      by_cases h2:(chCt n 8).state=2
      case pos =>
        have hc:=ncharge_nil_off ({ n with k:=n.k+1,lvl:=false,owed:=false }:Nd) F hnM f 8 (.inr rfl) _ hcc.symm h2
        rw [show pasN n false=([10],{ n with lvl:=false,owed:=false,ct:=chCt n 8,mode:=10,k:=0,rows:=0 }) by
          unfold pasN;rw [if_pos ho,ek,show chN ({ n with k:=n.k+1,lvl:=false,owed:=false }:Nd) 8=(false,{ n with lvl:=false,owed:=false,ct:=chCt n 8,mode:=10,k:=0,rows:=0 }) by unfold chN;rw [hcc,if_pos h2]];simp]
        generalize chCt n 8=c at hc ⊢
        by_cases h1:n.raw=[]<;>by_cases hq:n.nq=true<;>by_cases h3:n.row=[] <;>
        simp [ndH,rV,qI,qV,wI,wV,rE,qE,wE,Nd.cells,nilS,ndT,tdE,tdV,tdC,mI,encK,h1,hq,h3,hw,lvT,lvF,hp] at hc <;>
        simp [go_sem,ir56,ndH,rV,qI,qV,wI,wV,rE,qE,wE,Nd.cells,nilS,ndT,tdE,tdV,tdC,mI,encK,h1,hq,h3,hw,lvT,lvF,hp,hc,w1,natCastS,purse_eq,List.range_succ]
      case neg =>
        have hc:=ncharge_nil_on ({ n with k:=n.k+1,lvl:=false,owed:=false }:Nd) F hnM f 8 (.inr rfl) _ hcc.symm h2
        have hch:chN ({ n with k:=n.k+1,lvl:=false,owed:=false }:Nd) 8=(true,{ n with k:=n.k+1,lvl:=false,owed:=false,ct:=chCt n 8 }):=by unfold chN;rw [hcc,if_neg h2]
        by_cases hk2:n.k+1=6
        case pos =>
          rw [show pasN n false=([],{ n with lvl:=false,owed:=false,ct:=chCt n 8,mode:=6,k:=0 }) by unfold pasN;rw [if_pos ho,ek,hch];simp [hk2]]
          have hk3:(n.k:Int)+1=6:=by omega
          rw [hk2] at hc
          generalize chCt n 8=c at hc ⊢
          have hu:=nturn_spec { n with k:=6,lvl:=false,owed:=false,ct:=c } F 6
          by_cases h1:n.raw=[]<;>by_cases hq:n.nq=true<;>by_cases h3:n.row=[] <;>
          simp [ndH,rV,qI,qV,wI,wV,rE,qE,wE,Nd.cells,nilS,ndT,tdE,tdV,tdC,mI,encK,h1,hq,h3,hw,lvT,lvF,hp] at hc hu <;>
          simp [go_sem,ir56,ndH,rV,qI,qV,wI,wV,rE,qE,wE,Nd.cells,nilS,ndT,tdE,tdV,tdC,mI,encK,h1,hq,h3,hw,lvT,lvF,hp,hc,hu,hk3,w6,purse_eq,List.range_succ]
        case neg =>
          rw [show pasN n false=([],{ n with k:=n.k+1,lvl:=false,owed:=false,ct:=chCt n 8 }) by unfold pasN;rw [if_pos ho,ek,hch];rw [if_pos rfl,if_neg hk2]]
          have hk3:¬ ((n.k:Int)+1=6):=by omega
          generalize chCt n 8=c at hc ⊢
          by_cases h1:n.raw=[]<;>by_cases hq:n.nq=true<;>by_cases h3:n.row=[] <;>
          simp [ndH,rV,qI,qV,wI,wV,rE,qE,wE,Nd.cells,nilS,ndT,tdE,tdV,tdC,mI,encK,h1,hq,h3,hw,lvT,lvF,hp] at hc <;>
          simp [go_sem,ir56,ndH,rV,qI,qV,wI,wV,rE,qE,wE,Nd.cells,nilS,ndT,tdE,tdV,tdC,mI,encK,h1,hq,h3,hw,lvT,lvF,hp,hc,w1,hk3,natCastS,purse_eq,List.range_succ]
end Go.AM.R1
open Go Go.AM
namespace Go.AM.R1
/-! ### A node's step -/
def stepF:List AVal:=[.func (.func 52) [] [],.func (.func 53) [] [],.func (.func 54) [] [],.func (.func 55) [] [],.func (.func 56) [] [],.func (.func 55) [] [],
  .func (.func 57) [] [],.func (.func 58) [] [],.func (.func 59) [] [],.func (.func 60) [] [],.func (.func 61) [] []]
theorem csteps_spec:call E (.func (.func 33) [] []) [] []=some (.agg stepF,[]):=by
  rw [call_func E E33]
  simp [go_sem,ir33,stepF,purse_eq,List.range_succ]
theorem w2c:IntKind.wrap .i64 2=2:=by decide
def encEv (e:Nat × Fr):List AVal:=[.lit (.int .i64 0),.lit (.int .i64 0),.lit (.int .i64 e.1),.lit (.int .i64 e.2.id),.lit (.bool e.2.ext),.lit (.bool e.2.rtr),.lit (.int .i64 e.2.len),.lit (.int .u8 e.2.d0),.lit (.int .u8 e.2.d1),.lit (.int .u8 e.2.d2),.lit (.int .u8 e.2.d3),.lit (.int .u8 e.2.d4),.lit (.int .u8 e.2.d5),.lit (.int .u8 e.2.d6),.lit (.int .u8 e.2.d7)]
def evV (ix:Nat) (es:List (Nat × Fr)):AVal:=if es=[] then nilS else .own ix es.length 15 0 es.length
def evE (es:List (Nat × Fr)):Heap:=if es=[] then [] else [.arr true false false 15 (es.map encEv)]
def evsOf (ks:List Nat) (f:Fr):List (Nat × Fr):=ks.map fun k=>(k,if k=1∨k=2 then f else Fr.zero)
set_option maxHeartbeats 16000000 in
theorem nstep_can0 (n:Nd) (F:Fl) (b:Bool) (fid:Nat) (hm:n.mode<11) (hg:(stepF.drop n.mode)[0]?=some (.func (.func fid) [] [])) (n':Nd) (F2:Fl) (f':Fr) (k1:n'.raw=[]↔n.raw=[]) (k2:n'.nq=n.nq) (k3:n'.row=[]↔n.row=[]) (hc:call E (.func (.func fid) [] []) [.ptr 0 0,.ptr (mI n) 0,.lit (.int .i64 (lv b))] (ndT n F [] Fr.zero)=some (.tup [],ndT n' F2 [] f')):call E (.func (.func 17) [] []) [.ptr 0 0,.lit (.int .i64 (lv b))] (ndH n F)=some (.tup [evV (mI n) [],.lit (.int .i64 0)],ndH n' F2++evE []):=by
  have hs:=csteps_spec
  have hlv:¬ (¬ lv b=0∧¬ lv b=1):=by cases b<;>simp [lv]
  rw [call_func E E17]
  have hrn:∀ g,renL g stepF=stepF:=fun g=>rfl
  have hrf:refsL stepF=[]:=rfl
  generalize stepF=sf at hs hg hrn hrf
  simp at hg
  cases b <;>
  by_cases h1:n.raw=[]<;>by_cases hq:n.nq=true<;>by_cases h3:n.row=[] <;>
  simp [ndH,rV,qI,qV,wI,wV,rE,qE,wE,Nd.cells,nilS,ndT,tdE,tdV,tdC,mI,encK,h1,hq,h3,k1,k2,k3,lvT,lvF,Fr.zero] at hc <;>
  simp [go_sem,ir17,run_codeL E L17_0.eq_1,run_inLoop',ndH,rV,qI,qV,wI,wV,rE,qE,wE,Nd.cells,nilS,ndT,tdE,tdV,tdC,mI,encK,evV,evE,encEv,Fr.zero,h1,hq,h3,k1,k2,k3,lvT,lvF,Fr.zero,hs,hc,hg,hm,hlv,hrn,hrf,aop_idxV,idxVG_agg,w1c,w2c,purse_eq,List.range_succ]
set_option maxHeartbeats 16000000 in
theorem nstep_can1f (n:Nd) (F:Fl) (b:Bool) (fid:Nat) (hm:n.mode<11) (hg:(stepF.drop n.mode)[0]?=some (.func (.func fid) [] [])) (a:Nat) (ha:a=1∨a=2) (n':Nd) (F2:Fl) (f':Fr) (k1:n'.raw=[]↔n.raw=[]) (k2:n'.nq=n.nq) (k3:n'.row=[]↔n.row=[]) (hc:call E (.func (.func fid) [] []) [.ptr 0 0,.ptr (mI n) 0,.lit (.int .i64 (lv b))] (ndT n F [] Fr.zero)=some (.tup [],ndT n' F2 [a] f')):call E (.func (.func 17) [] []) [.ptr 0 0,.lit (.int .i64 (lv b))] (ndH n F)=some (.tup [evV (mI n) [(a,f')],.lit (.int .i64 0)],ndH n' F2++evE [(a,f')]):=by
  have hs:=csteps_spec
  have hlv:¬ (¬ lv b=0∧¬ lv b=1):=by cases b<;>simp [lv]
  rw [call_func E E17]
  have hrn:∀ g,renL g stepF=stepF:=fun g=>rfl
  have hrf:refsL stepF=[]:=rfl
  generalize stepF=sf at hs hg hrn hrf
  simp at hg
  have ha1:(a:Int)=1∨(a:Int)=2:=by omega
  rcases ha with rfl | rfl
  · cases b <;>
    by_cases h1:n.raw=[]<;>by_cases hq:n.nq=true<;>by_cases h3:n.row=[] <;>
    simp [ndH,rV,qI,qV,wI,wV,rE,qE,wE,Nd.cells,nilS,ndT,tdE,tdV,tdC,mI,encK,h1,hq,h3,k1,k2,k3,lvT,lvF,Fr.zero] at hc <;>
    simp [go_sem,ir17,run_codeL E L17_0.eq_1,run_inLoop',ndH,rV,qI,qV,wI,wV,rE,qE,wE,Nd.cells,nilS,ndT,tdE,tdV,tdC,mI,encK,evV,evE,encEv,Fr.zero,h1,hq,h3,k1,k2,k3,lvT,lvF,Fr.zero,hs,hc,hg,hm,hlv,hrn,hrf,aop_idxV,idxVG_agg,w1c,w2c,purse_eq,List.range_succ]
  · cases b <;>
    by_cases h1:n.raw=[]<;>by_cases hq:n.nq=true<;>by_cases h3:n.row=[] <;>
    simp [ndH,rV,qI,qV,wI,wV,rE,qE,wE,Nd.cells,nilS,ndT,tdE,tdV,tdC,mI,encK,h1,hq,h3,k1,k2,k3,lvT,lvF,Fr.zero] at hc <;>
    simp [go_sem,ir17,run_codeL E L17_0.eq_1,run_inLoop',ndH,rV,qI,qV,wI,wV,rE,qE,wE,Nd.cells,nilS,ndT,tdE,tdV,tdC,mI,encK,evV,evE,encEv,Fr.zero,h1,hq,h3,k1,k2,k3,lvT,lvF,Fr.zero,hs,hc,hg,hm,hlv,hrn,hrf,aop_idxV,idxVG_agg,w1c,w2c,purse_eq,List.range_succ]
set_option maxHeartbeats 16000000 in
theorem nstep_can1 (n:Nd) (F:Fl) (b:Bool) (fid:Nat) (hm:n.mode<11) (hg:(stepF.drop n.mode)[0]?=some (.func (.func fid) [] [])) (a:Nat) (ha1:¬ a=1) (ha2:¬ a=2) (n':Nd) (F2:Fl) (f':Fr) (k1:n'.raw=[]↔n.raw=[]) (k2:n'.nq=n.nq) (k3:n'.row=[]↔n.row=[]) (hc:call E (.func (.func fid) [] []) [.ptr 0 0,.ptr (mI n) 0,.lit (.int .i64 (lv b))] (ndT n F [] Fr.zero)=some (.tup [],ndT n' F2 [a] f')):call E (.func (.func 17) [] []) [.ptr 0 0,.lit (.int .i64 (lv b))] (ndH n F)=some (.tup [evV (mI n) [(a,Fr.zero)],.lit (.int .i64 0)],ndH n' F2++evE [(a,Fr.zero)]):=by
  have hs:=csteps_spec
  have hlv:¬ (¬ lv b=0∧¬ lv b=1):=by cases b<;>simp [lv]
  rw [call_func E E17]
  have hrn:∀ g,renL g stepF=stepF:=fun g=>rfl
  have hrf:refsL stepF=[]:=rfl
  generalize stepF=sf at hs hg hrn hrf
  simp at hg
  have ha1':¬ (a:Int)=1:=by omega
  have ha2':¬ (a:Int)=2:=by omega
  cases b <;>
  by_cases h1:n.raw=[]<;>by_cases hq:n.nq=true<;>by_cases h3:n.row=[] <;>
  simp [ndH,rV,qI,qV,wI,wV,rE,qE,wE,Nd.cells,nilS,ndT,tdE,tdV,tdC,mI,encK,h1,hq,h3,k1,k2,k3,lvT,lvF,Fr.zero] at hc <;>
  simp [go_sem,ir17,run_codeL E L17_0.eq_1,run_inLoop',ndH,rV,qI,qV,wI,wV,rE,qE,wE,Nd.cells,nilS,ndT,tdE,tdV,tdC,mI,encK,evV,evE,encEv,Fr.zero,h1,hq,h3,k1,k2,k3,lvT,lvF,Fr.zero,hs,hc,hg,hm,hlv,hrn,hrf,aop_idxV,idxVG_agg,w1c,w2c,ha1,ha2,ha1',ha2',purse_eq,List.range_succ]
set_option maxHeartbeats 16000000 in
theorem nstep_can2 (n:Nd) (F:Fl) (b:Bool) (fid:Nat) (hm:n.mode<11) (hg:(stepF.drop n.mode)[0]?=some (.func (.func fid) [] [])) (a:Nat) (ha1:¬ a=1) (ha2:¬ a=2) (n':Nd) (F2:Fl) (f':Fr) (k1:n'.raw=[]↔n.raw=[]) (k2:n'.nq=n.nq) (k3:n'.row=[]↔n.row=[]) (hc:call E (.func (.func fid) [] []) [.ptr 0 0,.ptr (mI n) 0,.lit (.int .i64 (lv b))] (ndT n F [] Fr.zero)=some (.tup [],ndT n' F2 [a,10] f')):call E (.func (.func 17) [] []) [.ptr 0 0,.lit (.int .i64 (lv b))] (ndH n F)=some (.tup [evV (mI n) [(a,Fr.zero),(10,Fr.zero)],.lit (.int .i64 0)],ndH n' F2++evE [(a,Fr.zero),(10,Fr.zero)]):=by
  have hs:=csteps_spec
  have hlv:¬ (¬ lv b=0∧¬ lv b=1):=by cases b<;>simp [lv]
  rw [call_func E E17]
  have hrn:∀ g,renL g stepF=stepF:=fun g=>rfl
  have hrf:refsL stepF=[]:=rfl
  generalize stepF=sf at hs hg hrn hrf
  simp at hg
  have ha1':¬ (a:Int)=1:=by omega
  have ha2':¬ (a:Int)=2:=by omega
  cases b <;>
  by_cases h1:n.raw=[]<;>by_cases hq:n.nq=true<;>by_cases h3:n.row=[] <;>
  simp [ndH,rV,qI,qV,wI,wV,rE,qE,wE,Nd.cells,nilS,ndT,tdE,tdV,tdC,mI,encK,h1,hq,h3,k1,k2,k3,lvT,lvF,Fr.zero] at hc <;>
  simp [go_sem,ir17,run_codeL E L17_0.eq_1,run_inLoop',ndH,rV,qI,qV,wI,wV,rE,qE,wE,Nd.cells,nilS,ndT,tdE,tdV,tdC,mI,encK,evV,evE,encEv,Fr.zero,h1,hq,h3,k1,k2,k3,lvT,lvF,Fr.zero,hs,hc,hg,hm,hlv,hrn,hrf,aop_idxV,idxVG_agg,w1c,w2c,ha1,ha2,ha1',ha2',purse_eq,List.range_succ]
end Go.AM.R1
open Go Go.AM
namespace Go.AM.R1
/-! ### A frame begins -/
def startN (n:Nd) (s:Bool):Nd:={ n with mode:=2,k:=0,raw:=[false],lvl:=false,run:=1,tx:=s,sends:=s,own:=if s=true then n.q.head?.getD Fr.zero else n.own,row:=if s=true then allP (n.q.head?.getD Fr.zero) else n.row }
/-- How a node lies when a frame has begun: what was there stays; the levels, and the row, are new, so many places behind it. -/
def stG (d:Nat) (mid:Heap) (n n':Nd) (F:Fl) (s:Bool):Heap :=
  .box (n'.cells (.own (mI n+d) 1 1 0 1) (.ptr (qI n) 0) (if s=true then .own (mI n+d+1) n'.row.length 1 0 n'.row.length else wV n))::(rE n F++.box [qV n,.lit (.int .i64 16)]::(qE n F++wE n F))++mid
    ++ ([.arr true false false 1 [encLv false]]++(if s=true then [.arr true false false 1 (n'.row.map encLv)] else []))
set_option maxHeartbeats 4000000 in
theorem ntake_first (n:Nd) (F:Fl) (h1:n.raw=[]) (hr:n.run=0):call E (.func (.func 85) [] []) [.ptr 0 0,.lit (.int .i64 0)] (ndH n F)
    = some (.lit (.bool true),.box ({ n with lvl:=false,run:=1 }.cells (.own (mI n) 1 1 0 1) (.ptr 1 0) (wV n))::(.box [qV n,.lit (.int .i64 16)]::(qE n F++wE n F))++[.arr true false false 1 [encLv false]]):=by
  have hN:=nnext_spec n F (by rw [h1];exact ⟨by simp,by simp [dataF]⟩)
  rw [call_func E E85]
  rw [show nxV n=.tup [.lit (.int .i64 0),.lit (.int .i64 0),.lit (.bool false)] by unfold nxV;rw [h1,hr];rfl] at hN
  by_cases hq:n.nq=true<;>by_cases h3:n.row=[] <;>
  simp [ndH,rV,qI,qV,wI,wV,rE,qE,wE,Nd.cells,nilS,Fl.lock,h1,hq,h3,hr] at hN <;>
  simp [go_sem,ir85,ndH,rV,qI,qV,wI,wV,rE,qE,wE,Nd.cells,nilS,mI,h1,hq,h3,hr,hN,encLv,lvF,purse_eq,List.range_succ]
theorem allP_ne (f:Fr):¬ allP f=[]:=by
  intro e
  have:=congrArg List.length e
  simp [allP] at this
set_option maxHeartbeats 8000000 in
theorem nstart_no (n:Nd) (F:Fl):call E (.func (.func 80) [] []) [.ptr 0 0,.lit (.bool false)] (ndH n F)=some (.tup [],stG 0 [] n (startN n false) F false):=by
  have hu:=nturn_spec n F 2
  have hk:=ntake_first { n with mode:=2,k:=0,raw:=[],lvl:=false,run:=0 } F rfl rfl
  rw [call_func E E80]
  by_cases h1:n.raw=[]<;>by_cases hq:n.nq=true<;>by_cases h3:n.row=[] <;>
  simp [ndH,rV,qI,qV,wI,wV,rE,qE,wE,Nd.cells,nilS,mI,lvF,h1,hq,h3] at hu hk <;>
  simp [go_sem,ir80,ndH,rV,qI,qV,wI,wV,rE,qE,wE,Nd.cells,nilS,mI,stG,startN,lvF,encLv,h1,hq,h3,hu,hk,purse_eq,List.range_succ]
set_option maxHeartbeats 8000000 in
theorem nstart_yes (n:Nd) (F:Fl) (hn:n.Ok) (g:Fr) (r:List Fr) (hg:n.q=g::r) (hok:g.Ok) (hc:checkP g=0):call E (.func (.func 80) [] []) [.ptr 0 0,.lit (.bool true)] (ndH n F)=some (.tup [],stG 0 [] n (startN n true) F true):=by
  have hu:=nturn_spec n F 2
  have hk:=ntake_first { n with mode:=2,k:=0,raw:=[],lvl:=false,run:=0 } F rfl rfl
  have hf:=quFirst_spec n.nq F.fq n.q hn.nq
  have hA:=fall_spec g hok hc
  have hne:=allP_ne g
  have hq:n.nq=false:=by
    cases h:n.nq
    · rfl
    · have:=hn.nq h;rw [hg] at this;cases this
  rw [hg] at hf
  have e:startN n true={ n with mode:=2,k:=0,raw:=[false],lvl:=false,run:=1,tx:=true,sends:=true,own:=g,row:=allP g }:=by unfold startN;rw [hg];rfl
  rw [e]
  clear e
  generalize allP g=rw0 at hA hne ⊢
  rw [call_func E E80]
  by_cases h1:n.raw=[]<;>by_cases h3:n.row=[] <;>
  simp [ndH,rV,qI,qV,wI,wV,rE,qE,wE,Nd.cells,nilS,mI,lvF,h1,hq,h3,hg,quH,encFr,u8v] at hu hk hf hA <;>
  simp [go_sem,ir80,ndH,rV,qI,qV,wI,wV,rE,qE,wE,Nd.cells,nilS,mI,stG,lvF,encLv,encFr,u8v,h1,hq,h3,hg,hu,hk,hf,hA,hne,purse_eq,List.range_succ]
end Go.AM.R1
open Go Go.AM
namespace Go.AM.R1
/-! ### Waiting, closing, off; idle, and the pause -/
/-- What turns neither the levels nor the rows. -/
structure Keep (n m:Nd):Prop where
  raw:m.raw=n.raw
  nq:m.nq=n.nq
  row:m.row=n.row
  q:m.q=n.q
theorem ch_keep (n:Nd) (w:Nat):Keep n (chN n w).2:=by unfold chN;split<;>exact ⟨rfl,rfl,rfl,rfl⟩
theorem flag_keep {n m:Nd} (h:Keep n m) (st:Int):Keep n (flagN m st):=⟨h.raw,h.nq,h.row,h.q⟩
theorem fail_keep (n:Nd) (kind:Nat) (c:Bool):Keep n (failN n kind c).2:=by
  unfold failN
  split
  · split
    · exact flag_keep (ch_keep n 1) _
    · exact ch_keep n 1
  · exact flag_keep ⟨rfl,rfl,rfl,rfl⟩ _
theorem fail_ks (n:Nd) (kind:Nat) (c:Bool):(failN n kind c).1=[kind]∨(failN n kind c).1=[kind,10]:=by
  unfold failN
  split
  · split
    · exact .inl rfl
    · exact .inr rfl
  · exact .inl rfl
theorem rx_on {n:Nd} (htx:n.tx=false) (ho:n.ct.off=false) (w:Nat):¬ (chCt n w).state=2:=by
  have:(chCt n w).off=false:=by
    unfold chCt Ct.rxE
    rw [htx,ho];simp
  unfold Ct.state
  rw [this]
  simp only [Bool.false_eq_true,if_false]
  split<;>omega
def waitN (n:Nd) (b:Bool):List Nat × Nd :=
  if b=true then ([],{ n with mode:=7,k:=1 })
  else if n.k=0∧n.wrong=true∧n.tx=false then ([],{ n with k:=1,ct:=chCt n 8 })
  else if (n.k+1) % 8=0 then (if (chN { n with k:=n.k+1 } 8).1=true then ([],(chN { n with k:=n.k+1 } 8).2) else ([10],(chN { n with k:=n.k+1 } 8).2))
  else ([],{ n with k:=n.k+1 })
def closeN (n:Nd) (b:Bool):List Nat × Nd :=
  if b=true then ([],if n.k+1=8 then { n with mode:=8,k:=0 } else { n with k:=n.k+1 })
  else if n.k=7 then overN n else failN n 7 true
def offK (n:Nd) (b:Bool):Nat:=if b=true then n.k+1 else 0
def offN (n:Nd) (b:Bool):List Nat × Nd :=
  if offK n b=11 then (if n.rows+1=128 then ([11],{ n with ct:=Ct.zero,tx:=false,mode:=1,k:=0,rows:=128 }) else ([],{ n with k:=0,rows:=n.rows+1 }))
  else if n.rows=128 then ([11],{ n with ct:=Ct.zero,tx:=false,mode:=1,k:=0 }) else ([],{ n with k:=offK n b })
theorem tm1:¬ ((1:Int).tmod 8=0):=by decide
theorem tmod8 (k:Nat):(((k:Int)+1).tmod 8=0)=((k+1) % 8=0):=by
  apply propext
  rw [show (k:Int)+1=((k+1:Nat):Int) from rfl,Int.tmod_eq_emod_of_nonneg (by omega)]
  omega
set_option maxHeartbeats 4000000 in
theorem nwait_spec (n:Nd) (F:Fl) (hn:n.Ok) (hk:n.k≤1000000000) (ho:n.ct.off=false) (f:Fr) (b:Bool):call E (.func (.func 57) [] []) [.ptr 0 0,.ptr (mI n) 0,.lit (.int .i64 (lv b))] (ndT n F [] f)=some (.tup [],ndT (waitN n b).2 F (waitN n b).1 f):=by
  have w1:=k1w hk
  have htm:=tmod8 n.k
  cases b
  case true =>
    rw [show waitN n true=([],{ n with mode:=7,k:=1 }) from rfl]
    have hu:=nturn_spec n F 7
    rw [call_func E E57]
    by_cases h1:n.raw=[]<;>by_cases hq:n.nq=true<;>by_cases h3:n.row=[] <;>
    simp [ndH,rV,qI,qV,wI,wV,rE,qE,wE,Nd.cells,nilS,ndT,tdE,tdV,tdC,mI,encK,h1,hq,h3,lvT] at hu <;>
    simp [go_sem,ir57,ndH,rV,qI,qV,wI,wV,rE,qE,wE,Nd.cells,nilS,ndT,tdE,tdV,tdC,mI,encK,h1,hq,h3,lvT,hu,purse_eq,List.range_succ]
  case false =>
    by_cases hA:n.k=0∧n.wrong=true∧n.tx=false
    case pos =>
      obtain ⟨a1,a2,a3⟩:=hA
      have hnM:({ n with k:=1 }:Nd).Ok:=⟨hn.nq,hn.ql,hn.ct⟩
      have hc:=ncharge_nil_on ({ n with k:=1 }:Nd) F hnM f 8 (.inr rfl) (chCt n 8) rfl (rx_on a3 ho 8)
      rw [show waitN n false=([],{ n with k:=1,ct:=chCt n 8 }) by unfold waitN;rw [if_neg (by simp),if_pos ⟨a1,a2,a3⟩]]
      generalize chCt n 8=c at hc ⊢
      rw [call_func E E57]
      by_cases h1:n.raw=[]<;>by_cases hq:n.nq=true<;>by_cases h3:n.row=[] <;>
      simp [ndH,rV,qI,qV,wI,wV,rE,qE,wE,Nd.cells,nilS,ndT,tdE,tdV,tdC,mI,encK,h1,hq,h3,lvF,a1,a2,a3] at hc <;>
      simp [go_sem,ir57,ndH,rV,qI,qV,wI,wV,rE,qE,wE,Nd.cells,nilS,ndT,tdE,tdV,tdC,mI,encK,h1,hq,h3,lvF,a1,a2,a3,hc,w1c,tm1,purse_eq,List.range_succ]
    case neg =>
      have hA':(n.k=0→n.wrong=true→n.tx=true):=fun x y=>by cases h:n.tx;exact absurd ⟨x,y,h⟩ hA;rfl
      by_cases hB:(n.k+1) % 8=0
      case pos =>
        have k0:¬ n.k=0:=by omega
        have k0':¬ ((n.k:Int)+1=1):=by omega
        have hnM:({ n with k:=n.k+1 }:Nd).Ok:=⟨hn.nq,hn.ql,hn.ct⟩
        have hcc:chCt ({ n with k:=n.k+1 }:Nd) 8=chCt n 8:=rfl
        have hB':((n.k:Int)+1).tmod 8=0:=by rw [htm];exact hB
        by_cases h2:(chCt n 8).state=2
        case pos =>
          have hc:=ncharge_nil_off ({ n with k:=n.k+1 }:Nd) F hnM f 8 (.inr rfl) _ hcc.symm h2
          rw [show waitN n false=([10],{ n with ct:=chCt n 8,mode:=10,k:=0,rows:=0 }) by
            unfold waitN;rw [if_neg (by simp),if_neg hA,if_pos hB,show chN ({ n with k:=n.k+1 }:Nd) 8=(false,{ n with ct:=chCt n 8,mode:=10,k:=0,rows:=0 }) by unfold chN;rw [hcc,if_pos h2]];simp]
          generalize chCt n 8=c at hc ⊢
          rw [call_func E E57]
          by_cases h1:n.raw=[]<;>by_cases hq:n.nq=true<;>by_cases h3:n.row=[] <;>
          simp [ndH,rV,qI,qV,wI,wV,rE,qE,wE,Nd.cells,nilS,ndT,tdE,tdV,tdC,mI,encK,h1,hq,h3,lvF] at hc <;>
          simp [go_sem,ir57,ndH,rV,qI,qV,wI,wV,rE,qE,wE,Nd.cells,nilS,ndT,tdE,tdV,tdC,mI,encK,h1,hq,h3,lvF,hc,w1,k0',hB',natCastS,purse_eq,List.range_succ]
        case neg =>
          have hc:=ncharge_nil_on ({ n with k:=n.k+1 }:Nd) F hnM f 8 (.inr rfl) _ hcc.symm h2
          rw [show waitN n false=([],{ n with ct:=chCt n 8,k:=n.k+1 }) by
            unfold waitN;rw [if_neg (by simp),if_neg hA,if_pos hB,show chN ({ n with k:=n.k+1 }:Nd) 8=(true,{ n with ct:=chCt n 8,k:=n.k+1 }) by unfold chN;rw [hcc,if_neg h2]];simp]
          generalize chCt n 8=c at hc ⊢
          rw [call_func E E57]
          by_cases h1:n.raw=[]<;>by_cases hq:n.nq=true<;>by_cases h3:n.row=[] <;>
          simp [ndH,rV,qI,qV,wI,wV,rE,qE,wE,Nd.cells,nilS,ndT,tdE,tdV,tdC,mI,encK,h1,hq,h3,lvF] at hc <;>
          simp [go_sem,ir57,ndH,rV,qI,qV,wI,wV,rE,qE,wE,Nd.cells,nilS,ndT,tdE,tdV,tdC,mI,encK,h1,hq,h3,lvF,hc,w1,k0',hB',natCastS,purse_eq,List.range_succ]
      case neg =>
        rw [show waitN n false=([],{ n with k:=n.k+1 }) by unfold waitN;rw [if_neg (by simp),if_neg hA,if_neg hB]]
        have hB':¬ ((n.k:Int)+1).tmod 8=0:=by rw [htm];exact hB
        rw [call_func E E57]
        by_cases k0:n.k=0
        case pos =>
          by_cases hw:n.wrong=true
          case pos =>
            have htx:=hA' k0 hw
            by_cases h1:n.raw=[]<;>by_cases hq:n.nq=true<;>by_cases h3:n.row=[] <;>
            simp [go_sem,ir57,ndH,rV,qI,qV,wI,wV,rE,qE,wE,Nd.cells,nilS,ndT,tdE,tdV,tdC,mI,encK,h1,hq,h3,lvF,k0,hw,htx,w1c,tm1,purse_eq,List.range_succ]
          case neg =>
            by_cases h1:n.raw=[]<;>by_cases hq:n.nq=true<;>by_cases h3:n.row=[] <;>
            simp [go_sem,ir57,ndH,rV,qI,qV,wI,wV,rE,qE,wE,Nd.cells,nilS,ndT,tdE,tdV,tdC,mI,encK,h1,hq,h3,lvF,k0,hw,w1c,tm1,purse_eq,List.range_succ]
        case neg =>
          have k0':¬ ((n.k:Int)+1=1):=by omega
          by_cases h1:n.raw=[]<;>by_cases hq:n.nq=true<;>by_cases h3:n.row=[] <;>
          simp [go_sem,ir57,ndH,rV,qI,qV,wI,wV,rE,qE,wE,Nd.cells,nilS,ndT,tdE,tdV,tdC,mI,encK,h1,hq,h3,lvF,w1,k0,k0',hB',purse_eq,List.range_succ]
set_option maxHeartbeats 4000000 in
theorem nclose_spec (n:Nd) (F:Fl) (hn:n.Ok) (hk:n.k≤1000000000) (f:Fr) (b:Bool):call E (.func (.func 58) [] []) [.ptr 0 0,.ptr (mI n) 0,.lit (.int .i64 (lv b))] (ndT n F [] f)=some (.tup [],ndT (closeN n b).2 F (closeN n b).1 f):=by
  have w1:=k1w hk
  cases b
  case true =>
    rw [call_func E E58]
    by_cases hk2:n.k+1=8
    case pos =>
      rw [show closeN n true=([],{ n with mode:=8,k:=0 }) by unfold closeN;rw [if_pos rfl,if_pos hk2]]
      have hk3:(n.k:Int)+1=8:=by omega
      have hu:=nturn_spec { n with k:=8 } F 8
      by_cases h1:n.raw=[]<;>by_cases hq:n.nq=true<;>by_cases h3:n.row=[] <;>
      simp [ndH,rV,qI,qV,wI,wV,rE,qE,wE,Nd.cells,nilS,ndT,tdE,tdV,tdC,mI,encK,h1,hq,h3,lvT] at hu <;>
      simp [go_sem,ir58,ndH,rV,qI,qV,wI,wV,rE,qE,wE,Nd.cells,nilS,ndT,tdE,tdV,tdC,mI,encK,h1,hq,h3,lvT,hk3,w8,hu,purse_eq,List.range_succ]
    case neg =>
      rw [show closeN n true=([],{ n with k:=n.k+1 }) by unfold closeN;rw [if_pos rfl,if_neg hk2]]
      have hk3:¬ ((n.k:Int)+1=8):=by omega
      by_cases h1:n.raw=[]<;>by_cases hq:n.nq=true<;>by_cases h3:n.row=[] <;>
      simp [go_sem,ir58,ndH,rV,qI,qV,wI,wV,rE,qE,wE,Nd.cells,nilS,ndT,tdE,tdV,tdC,mI,encK,h1,hq,h3,lvT,w1,hk3,purse_eq,List.range_succ]
  case false =>
    by_cases h7:n.k=7
    case pos =>
      have ho:=nover_spec n F f
      rw [show closeN n false=overN n by unfold closeN;rw [if_neg (by simp),if_pos h7]]
      rw [call_func E E58]
      simp only [overN] at ho ⊢
      by_cases h1:n.raw=[]<;>by_cases hq:n.nq=true<;>by_cases h3:n.row=[] <;>
      simp [ndH,rV,qI,qV,wI,wV,rE,qE,wE,Nd.cells,nilS,ndT,tdE,tdV,tdC,mI,encK,h1,hq,h3,lvF,h7] at ho <;>
      simp [go_sem,ir58,ndH,rV,qI,qV,wI,wV,rE,qE,wE,Nd.cells,nilS,ndT,tdE,tdV,tdC,mI,encK,h1,hq,h3,lvF,h7,ho,purse_eq,List.range_succ]
    case neg =>
      have h7':¬ ((n.k:Int)=7):=by omega
      have hf:=nfail_spec n F hn f 7 true
      rw [show closeN n false=failN n 7 true by unfold closeN;rw [if_neg (by simp),if_neg h7]]
      rw [call_func E E58]
      have hkp:=fail_keep n 7 true
      have hks:=fail_ks n 7 true
      generalize failN n 7 true=z at hf hkp hks ⊢
      obtain ⟨ks,m⟩:=z
      obtain ⟨e1,e2,e3,-⟩:=hkp
      simp only [] at hf hks e1 e2 e3 ⊢
      rcases hks with rfl | rfl
      · skip
        by_cases h1:n.raw=[]<;>by_cases hq:n.nq=true<;>by_cases h3:n.row=[] <;>
        simp [ndH,rV,qI,qV,wI,wV,rE,qE,wE,Nd.cells,nilS,ndT,tdE,tdV,tdC,mI,encK,h1,hq,h3,lvF,h7',e1,e2,e3] at hf <;>
        simp [go_sem,ir58,ndH,rV,qI,qV,wI,wV,rE,qE,wE,Nd.cells,nilS,ndT,tdE,tdV,tdC,mI,encK,h1,hq,h3,lvF,h7',e1,e2,e3,hf,purse_eq,List.range_succ]
      · skip
        by_cases h1:n.raw=[]<;>by_cases hq:n.nq=true<;>by_cases h3:n.row=[] <;>
        simp [ndH,rV,qI,qV,wI,wV,rE,qE,wE,Nd.cells,nilS,ndT,tdE,tdV,tdC,mI,encK,h1,hq,h3,lvF,h7',e1,e2,e3] at hf <;>
        simp [go_sem,ir58,ndH,rV,qI,qV,wI,wV,rE,qE,wE,Nd.cells,nilS,ndT,tdE,tdV,tdC,mI,encK,h1,hq,h3,lvF,h7',e1,e2,e3,hf,purse_eq,List.range_succ]
end Go.AM.R1
open Go Go.AM
namespace Go.AM.R1
def lateP (n:Nd):Bool:=n.tx && decide (n.ct.state=1)
def pauseN (n:Nd):List Nat × Nd:=([],if n.k+1<3 then { n with k:=n.k+1 } else if lateP n=true then { n with mode:=9,k:=0 } else { n with mode:=1,k:=0 })
def suspN (n:Nd):List Nat × Nd:=([],if n.k+1=8 then { n with mode:=1,k:=0 } else { n with k:=n.k+1 })
set_option maxHeartbeats 4000000 in
theorem noff_spec (n:Nd) (F:Fl) (hk:n.k≤1000000000) (hr:n.rows≤1000000000) (f:Fr) (b:Bool):call E (.func (.func 61) [] []) [.ptr 0 0,.ptr (mI n) 0,.lit (.int .i64 (lv b))] (ndT n F [] f)=some (.tup [],ndT (offN n b).2 F (offN n b).1 f):=by
  have w1:=k1w hk
  have w2:=k1w hr
  have hT:=tell_nil f 11
  have hb0:=cback_spec n.ct
  cases b
  case false =>
    have ek:¬ offK n false=11:=by simp [offK]
    by_cases hr2:n.rows=128
    case pos =>
      have hu:=nturn_spec { n with ct:=Ct.zero,tx:=false,k:=0 } F 1
      rw [show offN n false=([11],{ n with ct:=Ct.zero,tx:=false,mode:=1,k:=0 }) by unfold offN;rw [if_neg ek,if_pos hr2]]
      rw [call_func E E61]
      by_cases h1:n.raw=[]<;>by_cases hq:n.nq=true<;>by_cases h3:n.row=[] <;>
      simp [ndH,rV,qI,qV,wI,wV,rE,qE,wE,Nd.cells,nilS,ndT,tdE,tdV,tdC,mI,encK,h1,hq,h3,lvF,Ct.cells,Ct.zero,hr2] at hT hb0 hu <;>
      simp [go_sem,ir61,ndH,rV,qI,qV,wI,wV,rE,qE,wE,Nd.cells,nilS,ndT,tdE,tdV,tdC,mI,encK,h1,hq,h3,lvF,Ct.cells,Ct.zero,hr2,hT,hb0,hu,w1,purse_eq,List.range_succ]
    case neg =>
      have hr3:¬ ((n.rows:Int)=128):=by omega
      rw [show offN n false=([],{ n with k:=0 }) by unfold offN;rw [if_neg ek,if_neg hr2];rfl]
      rw [call_func E E61]
      by_cases h1:n.raw=[]<;>by_cases hq:n.nq=true<;>by_cases h3:n.row=[] <;>
      simp [go_sem,ir61,ndH,rV,qI,qV,wI,wV,rE,qE,wE,Nd.cells,nilS,ndT,tdE,tdV,tdC,mI,encK,h1,hq,h3,lvF,w1,hr3,purse_eq,List.range_succ]
  case true =>
    by_cases hk2:n.k+1=11
    case pos =>
      have hk3:(n.k:Int)+1=11:=by omega
      have ek:offK n true=11:=hk2
      by_cases hr2:n.rows+1=128
      case pos =>
        have hr3:(n.rows:Int)+1=128:=by omega
        have hu:=nturn_spec { n with ct:=Ct.zero,tx:=false,k:=0,rows:=128 } F 1
        rw [show offN n true=([11],{ n with ct:=Ct.zero,tx:=false,mode:=1,k:=0,rows:=128 }) by unfold offN;rw [if_pos ek,if_pos hr2]]
        rw [call_func E E61]
        by_cases h1:n.raw=[]<;>by_cases hq:n.nq=true<;>by_cases h3:n.row=[] <;>
        simp [ndH,rV,qI,qV,wI,wV,rE,qE,wE,Nd.cells,nilS,ndT,tdE,tdV,tdC,mI,encK,h1,hq,h3,lvT,Ct.cells,Ct.zero] at hT hb0 hu <;>
        simp [go_sem,ir61,ndH,rV,qI,qV,wI,wV,rE,qE,wE,Nd.cells,nilS,ndT,tdE,tdV,tdC,mI,encK,h1,hq,h3,lvT,Ct.cells,Ct.zero,hT,hb0,hu,hk3,w11,hr3,w128,purse_eq,List.range_succ]
      case neg =>
        have hr3:¬ ((n.rows:Int)+1=128):=by omega
        rw [show offN n true=([],{ n with k:=0,rows:=n.rows+1 }) by unfold offN;rw [if_pos ek,if_neg hr2]]
        rw [call_func E E61]
        by_cases h1:n.raw=[]<;>by_cases hq:n.nq=true<;>by_cases h3:n.row=[] <;>
        simp [go_sem,ir61,ndH,rV,qI,qV,wI,wV,rE,qE,wE,Nd.cells,nilS,ndT,tdE,tdV,tdC,mI,encK,h1,hq,h3,lvT,hk3,w11,w2,hr3,purse_eq,List.range_succ]
    case neg =>
      have hk3:¬ ((n.k:Int)+1=11):=by omega
      have ek:¬ offK n true=11:=hk2
      by_cases hr2:n.rows=128
      case pos =>
        have hu:=nturn_spec { n with ct:=Ct.zero,tx:=false,k:=n.k+1 } F 1
        rw [show offN n true=([11],{ n with ct:=Ct.zero,tx:=false,mode:=1,k:=0 }) by unfold offN;rw [if_neg ek,if_pos hr2]]
        rw [call_func E E61]
        by_cases h1:n.raw=[]<;>by_cases hq:n.nq=true<;>by_cases h3:n.row=[] <;>
        simp [ndH,rV,qI,qV,wI,wV,rE,qE,wE,Nd.cells,nilS,ndT,tdE,tdV,tdC,mI,encK,h1,hq,h3,lvT,Ct.cells,Ct.zero,hr2] at hT hb0 hu <;>
        simp [go_sem,ir61,ndH,rV,qI,qV,wI,wV,rE,qE,wE,Nd.cells,nilS,ndT,tdE,tdV,tdC,mI,encK,h1,hq,h3,lvT,Ct.cells,Ct.zero,hr2,hT,hb0,hu,hk3,w1,natCastS,purse_eq,List.range_succ]
      case neg =>
        have hr3:¬ ((n.rows:Int)=128):=by omega
        rw [show offN n true=([],{ n with k:=n.k+1 }) by unfold offN;rw [if_neg ek,if_neg hr2];rfl]
        rw [call_func E E61]
        by_cases h1:n.raw=[]<;>by_cases hq:n.nq=true<;>by_cases h3:n.row=[] <;>
        simp [go_sem,ir61,ndH,rV,qI,qV,wI,wV,rE,qE,wE,Nd.cells,nilS,ndT,tdE,tdV,tdC,mI,encK,h1,hq,h3,lvT,hk3,w1,hr3,purse_eq,List.range_succ]
set_option maxHeartbeats 4000000 in
theorem nidle_rest (n:Nd) (F:Fl) (hn:n.Ok) (hq0:n.q=[]) (f:Fr):call E (.func (.func 53) [] []) [.ptr 0 0,.ptr (mI n) 0,.lit (.int .i64 1)] (ndT n F [] f)=some (.tup [],ndT n F [] f):=by
  have hp:=npend_spec n F hn
  rw [hq0] at hp
  rw [call_func E E53]
  by_cases h1:n.raw=[]<;>by_cases hq:n.nq=true<;>by_cases h3:n.row=[] <;>
  simp [ndH,rV,qI,qV,wI,wV,rE,qE,wE,Nd.cells,nilS,ndT,tdE,tdV,tdC,mI,encK,h1,hq,h3,hq0] at hp <;>
  simp [go_sem,ir53,ndH,rV,qI,qV,wI,wV,rE,qE,wE,Nd.cells,nilS,ndT,tdE,tdV,tdC,mI,encK,h1,hq,h3,hq0,hp,purse_eq,List.range_succ]
set_option maxHeartbeats 4000000 in
theorem nidle_fail (n:Nd) (F:Fl) (hn:n.Ok) (hq0:¬ n.q=[]) (f:Fr):call E (.func (.func 53) [] []) [.ptr 0 0,.ptr (mI n) 0,.lit (.int .i64 1)] (ndT n F [] f)=some (.tup [],ndT (failN { n with tx:=true } 4 true).2 F (failN { n with tx:=true } 4 true).1 f):=by
  have hp:=npend_spec n F hn
  have hnM:({ n with tx:=true }:Nd).Ok:=⟨hn.nq,hn.ql,hn.ct⟩
  have hf:=nfail_spec { n with tx:=true } F hnM f 4 true
  have hkp:=fail_keep { n with tx:=true } 4 true
  have hks:=fail_ks { n with tx:=true } 4 true
  generalize failN { n with tx:=true } 4 true=z at hf hkp hks ⊢
  obtain ⟨ks,m⟩:=z
  obtain ⟨e1,e2,e3,-⟩:=hkp
  simp only [] at hf hks e1 e2 e3 ⊢
  rw [call_func E E53]
  rcases hks with rfl | rfl
  · skip
    by_cases h1:n.raw=[]<;>by_cases hq:n.nq=true<;>by_cases h3:n.row=[] <;>
    simp [ndH,rV,qI,qV,wI,wV,rE,qE,wE,Nd.cells,nilS,ndT,tdE,tdV,tdC,mI,encK,h1,hq,h3,hq0,e1,e2,e3] at hp hf <;>
    simp [go_sem,ir53,ndH,rV,qI,qV,wI,wV,rE,qE,wE,Nd.cells,nilS,ndT,tdE,tdV,tdC,mI,encK,h1,hq,h3,hq0,e1,e2,e3,hp,hf,purse_eq,List.range_succ]
  · skip
    by_cases h1:n.raw=[]<;>by_cases hq:n.nq=true<;>by_cases h3:n.row=[] <;>
    simp [ndH,rV,qI,qV,wI,wV,rE,qE,wE,Nd.cells,nilS,ndT,tdE,tdV,tdC,mI,encK,h1,hq,h3,hq0,e1,e2,e3] at hp hf <;>
    simp [go_sem,ir53,ndH,rV,qI,qV,wI,wV,rE,qE,wE,Nd.cells,nilS,ndT,tdE,tdV,tdC,mI,encK,h1,hq,h3,hq0,e1,e2,e3,hp,hf,purse_eq,List.range_succ]
set_option maxHeartbeats 8000000 in
theorem nidle_start_no (n:Nd) (F:Fl) (hn:n.Ok) (hq0:n.q=[]) (f:Fr):call E (.func (.func 53) [] []) [.ptr 0 0,.ptr (mI n) 0,.lit (.int .i64 0)] (ndT n F [] f)=some (.tup [],stG 1 (tdE (mI n) [] f) n (startN n false) F false):=by
  have hp:=npend_spec n F hn
  have hs:=nstart_no n F
  rw [hq0] at hp
  rw [call_func E E53]
  by_cases h1:n.raw=[]<;>by_cases hq:n.nq=true<;>by_cases h3:n.row=[] <;>
  simp [ndH,rV,qI,qV,wI,wV,rE,qE,wE,Nd.cells,nilS,ndT,tdE,tdV,tdC,mI,encK,h1,hq,h3,hq0,stG,startN,encLv,lvF] at hp hs <;>
  simp [go_sem,ir53,ndH,rV,qI,qV,wI,wV,rE,qE,wE,Nd.cells,nilS,ndT,tdE,tdV,tdC,mI,encK,h1,hq,h3,hq0,stG,startN,encLv,lvF,hp,hs,purse_eq,List.range_succ]
set_option maxHeartbeats 8000000 in
theorem nidle_start_yes (n:Nd) (F:Fl) (hn:n.Ok) (g:Fr) (r:List Fr) (hg:n.q=g::r) (hok:g.Ok) (hc:checkP g=0) (f:Fr):call E (.func (.func 53) [] []) [.ptr 0 0,.ptr (mI n) 0,.lit (.int .i64 0)] (ndT n F [] f)=some (.tup [],stG 1 (tdE (mI n) [] f) n (startN n true) F true):=by
  have hp:=npend_spec n F hn
  have hs:=nstart_yes n F hn g r hg hok hc
  rw [hg] at hp
  have hq:n.nq=false:=by
    cases h:n.nq
    · rfl
    · have:=hn.nq h;rw [hg] at this;cases this
  rw [call_func E E53]
  have hne:=allP_ne g
  have e:startN n true={ n with mode:=2,k:=0,raw:=[false],lvl:=false,run:=1,tx:=true,sends:=true,own:=g,row:=allP g }:=by unfold startN;rw [hg];rfl
  rw [e] at hs ⊢
  clear e
  generalize allP g=rw0 at hs hne ⊢
  by_cases h1:n.raw=[]<;>by_cases h3:n.row=[] <;>
  simp [ndH,rV,qI,qV,wI,wV,rE,qE,wE,Nd.cells,nilS,ndT,tdE,tdV,tdC,mI,encK,stG,encLv,lvF,h1,hq,h3,hg] at hp hs <;>
  simp [go_sem,ir53,ndH,rV,qI,qV,wI,wV,rE,qE,wE,Nd.cells,nilS,ndT,tdE,tdV,tdC,mI,encK,stG,encLv,lvF,h1,hq,h3,hg,hp,hs,hne,purse_eq,List.range_succ]
end Go.AM.R1
open Go Go.AM
namespace Go.AM.R1
theorem nnextT (n:Nd) (F:Fl) (kind k:Nat) (hN:nextF n.raw=(kind,k)) (hr:RawOk n.raw):call E (.func (.func 50) [] []) [.ptr 0 0] (ndH n F)=some (.tup [.lit (.int .i64 kind),.lit (.int .i64 k),.lit (.bool (decide (n.run=5)))],ndH n F.lock):=by
  have h:=nnext_spec n F hr
  unfold nxV at h
  rw [hN] at h
  exact h
set_option maxHeartbeats 8000000 in
theorem ndiff_lost (n:Nd) (F:Fl) (hr:RawOk n.raw) (h1:¬ n.raw=[]) (hq:n.nq=false) (h3:¬ n.row=[]) (f:Fr) (k:Nat) (hN:nextF n.raw=(1,k)) (h5:¬ n.run=5):call E (.func (.func 82) [] []) [.ptr 0 0,.ptr (mI n) 0,.lit (.int .i64 0)] (ndT n F [] f)=some (.lit (.bool true),ndT { n with tx:=false,sends:=false } F.lock [3] f):=by
  have hx:=nnextT n F 1 k hN hr
  have hT:=tell_nil f 3
  rw [call_func E E82]
  simp [ndH,rV,qI,qV,wI,wV,rE,qE,wE,Nd.cells,nilS,ndT,tdE,tdV,tdC,mI,encK,Fl.lock,h1,hq,h3,h5] at hx hT
  simp [go_sem,ir82,ndH,rV,qI,qV,wI,wV,rE,qE,wE,Nd.cells,nilS,ndT,tdE,tdV,tdC,mI,encK,Fl.lock,h1,hq,h3,h5,hx,hT,purse_eq,List.range_succ]
set_option maxHeartbeats 8000000 in
theorem ndiff_slot (n:Nd) (F:Fl) (hr:RawOk n.raw) (h1:¬ n.raw=[]) (hq:n.nq=false) (h3:¬ n.row=[]) (f:Fr) (k:Nat) (hN:nextF n.raw=(6,k)):call E (.func (.func 82) [] []) [.ptr 0 0,.ptr (mI n) 0,.lit (.int .i64 0)] (ndT n F [] f)=some (.lit (.bool true),ndT n F.lock [] f):=by
  have hx:=nnextT n F 6 k hN hr
  rw [call_func E E82]
  simp [ndH,rV,qI,qV,wI,wV,rE,qE,wE,Nd.cells,nilS,ndT,tdE,tdV,tdC,mI,encK,Fl.lock,h1,hq,h3] at hx
  simp [go_sem,ir82,ndH,rV,qI,qV,wI,wV,rE,qE,wE,Nd.cells,nilS,ndT,tdE,tdV,tdC,mI,encK,Fl.lock,h1,hq,h3,hx,purse_eq,List.range_succ]
set_option maxHeartbeats 8000000 in
theorem ndiff_stuff (n:Nd) (F:Fl) (hr:RawOk n.raw) (h1:¬ n.raw=[]) (hq:n.nq=false) (h3:¬ n.row=[]) (hn:n.Ok) (f:Fr) (k:Nat) (hN:nextF n.raw=(1,k)) (h5:n.run=5):call E (.func (.func 82) [] []) [.ptr 0 0,.ptr (mI n) 0,.lit (.int .i64 0)] (ndT n F [] f)=some (.lit (.bool false),ndT (failN n 5 false).2 F.lock (failN n 5 false).1 f):=by
  have hx:=nnextT n F 1 k hN hr
  have hf:=nfail_spec n F.lock hn f 5 false
  have hkp:=fail_keep n 5 false
  have hks:=fail_ks n 5 false
  generalize failN n 5 false=z at hf hkp hks ⊢
  obtain ⟨ks,m⟩:=z
  obtain ⟨e1,e2,e3,-⟩:=hkp
  simp only [] at hf hks e1 e2 e3 ⊢
  rw [call_func E E82]
  rcases hks with rfl | rfl
  · skip
    simp [ndH,rV,qI,qV,wI,wV,rE,qE,wE,Nd.cells,nilS,ndT,tdE,tdV,tdC,mI,encK,Fl.lock,h1,hq,h3,h5,e1,e2,e3] at hx hf
    simp [go_sem,ir82,ndH,rV,qI,qV,wI,wV,rE,qE,wE,Nd.cells,nilS,ndT,tdE,tdV,tdC,mI,encK,Fl.lock,h1,hq,h3,h5,e1,e2,e3,hx,hf,purse_eq,List.range_succ]
  · skip
    simp [ndH,rV,qI,qV,wI,wV,rE,qE,wE,Nd.cells,nilS,ndT,tdE,tdV,tdC,mI,encK,Fl.lock,h1,hq,h3,h5,e1,e2,e3] at hx hf
    simp [go_sem,ir82,ndH,rV,qI,qV,wI,wV,rE,qE,wE,Nd.cells,nilS,ndT,tdE,tdV,tdC,mI,encK,Fl.lock,h1,hq,h3,h5,e1,e2,e3,hx,hf,purse_eq,List.range_succ]
set_option maxHeartbeats 8000000 in
theorem ndiff_bit1 (n:Nd) (F:Fl) (hr:RawOk n.raw) (h1:¬ n.raw=[]) (hq:n.nq=false) (h3:¬ n.row=[]) (hn:n.Ok) (f:Fr) (kind k:Nat) (hN:nextF n.raw=(kind,k)) :call E (.func (.func 82) [] []) [.ptr 0 0,.ptr (mI n) 0,.lit (.int .i64 1)] (ndT n F [] f)=some (.lit (.bool false),ndT (failN n 4 true).2 F.lock (failN n 4 true).1 f):=by
  have hx:=nnextT n F kind k hN hr
  have hf:=nfail_spec n F.lock hn f 4 true
  have hkp:=fail_keep n 4 true
  have hks:=fail_ks n 4 true
  generalize failN n 4 true=z at hf hkp hks ⊢
  obtain ⟨ks,m⟩:=z
  obtain ⟨e1,e2,e3,-⟩:=hkp
  simp only [] at hf hks e1 e2 e3 ⊢
  rw [call_func E E82]
  rcases hks with rfl | rfl
  · skip
    simp [ndH,rV,qI,qV,wI,wV,rE,qE,wE,Nd.cells,nilS,ndT,tdE,tdV,tdC,mI,encK,Fl.lock,h1,hq,h3,e1,e2,e3] at hx hf
    simp [go_sem,ir82,ndH,rV,qI,qV,wI,wV,rE,qE,wE,Nd.cells,nilS,ndT,tdE,tdV,tdC,mI,encK,Fl.lock,h1,hq,h3,e1,e2,e3,hx,hf,purse_eq,List.range_succ]
  · skip
    simp [ndH,rV,qI,qV,wI,wV,rE,qE,wE,Nd.cells,nilS,ndT,tdE,tdV,tdC,mI,encK,Fl.lock,h1,hq,h3,e1,e2,e3] at hx hf
    simp [go_sem,ir82,ndH,rV,qI,qV,wI,wV,rE,qE,wE,Nd.cells,nilS,ndT,tdE,tdV,tdC,mI,encK,Fl.lock,h1,hq,h3,e1,e2,e3,hx,hf,purse_eq,List.range_succ]
set_option maxHeartbeats 8000000 in
theorem ndiff_bit0 (n:Nd) (F:Fl) (hr:RawOk n.raw) (h1:¬ n.raw=[]) (hq:n.nq=false) (h3:¬ n.row=[]) (hn:n.Ok) (f:Fr) (kind k:Nat) (hN:nextF n.raw=(kind,k)) (hk1:¬ kind=1) (hk6:¬ kind=6):call E (.func (.func 82) [] []) [.ptr 0 0,.ptr (mI n) 0,.lit (.int .i64 0)] (ndT n F [] f)=some (.lit (.bool false),ndT (failN n 4 true).2 F.lock (failN n 4 true).1 f):=by
  have hx:=nnextT n F kind k hN hr
  have hk1':¬ (kind:Int)=1:=by omega
  have hk6':¬ (kind:Int)=6:=by omega
  have hf:=nfail_spec n F.lock hn f 4 true
  have hkp:=fail_keep n 4 true
  have hks:=fail_ks n 4 true
  generalize failN n 4 true=z at hf hkp hks ⊢
  obtain ⟨ks,m⟩:=z
  obtain ⟨e1,e2,e3,-⟩:=hkp
  simp only [] at hf hks e1 e2 e3 ⊢
  rw [call_func E E82]
  rcases hks with rfl | rfl
  · skip
    simp [ndH,rV,qI,qV,wI,wV,rE,qE,wE,Nd.cells,nilS,ndT,tdE,tdV,tdC,mI,encK,Fl.lock,h1,hq,h3,e1,e2,e3] at hx hf
    simp [go_sem,ir82,ndH,rV,qI,qV,wI,wV,rE,qE,wE,Nd.cells,nilS,ndT,tdE,tdV,tdC,mI,encK,Fl.lock,h1,hq,h3,e1,e2,e3,hx,hf,hk1',hk6',hk1,hk6,purse_eq,List.range_succ]
  · skip
    simp [ndH,rV,qI,qV,wI,wV,rE,qE,wE,Nd.cells,nilS,ndT,tdE,tdV,tdC,mI,encK,Fl.lock,h1,hq,h3,e1,e2,e3] at hx hf
    simp [go_sem,ir82,ndH,rV,qI,qV,wI,wV,rE,qE,wE,Nd.cells,nilS,ndT,tdE,tdV,tdC,mI,encK,Fl.lock,h1,hq,h3,e1,e2,e3,hx,hf,hk1',hk6',hk1,hk6,purse_eq,List.range_succ]
set_option maxHeartbeats 8000000 in
theorem nend_recv (n:Nd) (F:Fl) (hn:n.Ok) (h1:¬ n.raw=[]) (hs:n.sends=false) (hd:dataF n.raw≤n.raw.length) (h2:sumF n.raw≤n.raw.length) (h0:n.raw[0]?=some false) (hl:n.raw.length≤1001) (f:Fr):call E (.func (.func 86) [] []) [.ptr 0 0,.ptr (mI n) 0,.lit (.int .i64 5)] (ndT n F [] f)=some (.tup [],ndT { n with ct:=n.ct.recv } F.lock [2] (frameOf n.raw)):=by
  have hc:=crecv_spec n.ct hn.ct
  have hT:=tell_nil (frameOf n.raw) 2
  have hF:=fframe_spec n.raw hd h2 h0 (by omega) false F.fr
  generalize frameOf n.raw=g at hT hF ⊢
  generalize n.ct.recv=c at hc ⊢
  rw [call_func E E86]
  by_cases hq:n.nq=true<;>by_cases h3:n.row=[] <;>
  simp [ndH,rV,qI,qV,wI,wV,rE,qE,wE,Nd.cells,nilS,ndT,tdE,tdV,tdC,mI,encK,Fl.lock,h1,hq,h3,hs,Ct.cells,encFr,u8v] at hc hT hF <;>
  simp [go_sem,ir86,ndH,rV,qI,qV,wI,wV,rE,qE,wE,Nd.cells,nilS,ndT,tdE,tdV,tdC,mI,encK,Fl.lock,h1,hq,h3,hs,Ct.cells,encFr,u8v,hc,hT,hF,purse_eq,List.range_succ]
set_option maxHeartbeats 8000000 in
theorem nend_last (n:Nd) (F:Fl) (h1:¬ n.raw=[]) (hs:n.sends=false) (f:Fr):call E (.func (.func 86) [] []) [.ptr 0 0,.ptr (mI n) 0,.lit (.int .i64 6)] (ndT n F [] f)=some (.tup [],ndT { n with mode:=8,k:=0 } F [] f):=by
  have hu:=nturn_spec n F 8
  rw [call_func E E86]
  by_cases hq:n.nq=true<;>by_cases h3:n.row=[] <;>
  simp [ndH,rV,qI,qV,wI,wV,rE,qE,wE,Nd.cells,nilS,ndT,tdE,tdV,tdC,mI,encK,Fl.lock,h1,hq,h3,hs] at hu <;>
  simp [go_sem,ir86,ndH,rV,qI,qV,wI,wV,rE,qE,wE,Nd.cells,nilS,ndT,tdE,tdV,tdC,mI,encK,Fl.lock,h1,hq,h3,hs,hu,purse_eq,List.range_succ]
set_option maxHeartbeats 8000000 in
theorem nend_none (n:Nd) (F:Fl) (h1:¬ n.raw=[]) (k:Nat) (hk6:¬ k=6) (hk5:¬ k=5∨n.sends=true) (f:Fr):call E (.func (.func 86) [] []) [.ptr 0 0,.ptr (mI n) 0,.lit (.int .i64 k)] (ndT n F [] f)=some (.tup [],ndT n F [] f):=by
  have hk6':¬ (k:Int)=6:=by omega
  rw [call_func E E86]
  by_cases h5:k=5
  case pos =>
    have hs:n.sends=true:=by rcases hk5 with h | h;exact absurd h5 h;exact h
    subst h5
    by_cases hq:n.nq=true<;>by_cases h3:n.row=[] <;>
    simp [go_sem,ir86,ndH,rV,qI,qV,wI,wV,rE,qE,wE,Nd.cells,nilS,ndT,tdE,tdV,tdC,mI,encK,Fl.lock,h1,hq,h3,hs,purse_eq,List.range_succ]
  case neg =>
    have h5':¬ (k:Int)=5:=by omega
    by_cases hq:n.nq=true<;>by_cases h3:n.row=[] <;>
    simp [go_sem,ir86,ndH,rV,qI,qV,wI,wV,rE,qE,wE,Nd.cells,nilS,ndT,tdE,tdV,tdC,mI,encK,Fl.lock,h1,hq,h3,h5',hk6',h5,hk6,purse_eq,List.range_succ]
/-- A turn, whatever the queue's row holds. -/
theorem nturn_any (n:Nd) (F:Fl) (rows:List (List AVal)) (ql:Nat) (m:Nat) (h1:¬ n.raw=[]) (h3:¬ n.row=[]):call E (.func (.func 79) [] []) [.ptr 0 0,.lit (.int .i64 m)]
    [.box (n.cells (.own 1 n.raw.length 1 0 n.raw.length) (.ptr 2 0) (.own 4 n.row.length 1 0 n.row.length)),.arr true F.lr F.fr 1 (n.raw.map encLv),.box [.own 3 ql 12 0 ql,.lit (.int .i64 16)],.arr true false false 12 rows,.arr true F.lw F.fw 1 (n.row.map encLv)]
    = some (.tup [],[.box ({ n with mode:=m,k:=0 }.cells (.own 1 n.raw.length 1 0 n.raw.length) (.ptr 2 0) (.own 4 n.row.length 1 0 n.row.length)),.arr true F.lr F.fr 1 (n.raw.map encLv),.box [.own 3 ql 12 0 ql,.lit (.int .i64 16)],.arr true false false 12 rows,.arr true F.lw F.fw 1 (n.row.map encLv)]):=by
  rw [call_func E E79]
  simp [go_sem,ir79,Nd.cells,h1,h3,purse_eq,List.range_succ]
/-- How a node lies when its frame was sent: the frames that are left lie behind it. -/
def sentN (n:Nd):Nd:={ n with ct:=n.ct.sent,q:=delL n.own n.q,mode:=8,k:=0 }
def sentG (mid:Heap) (tail:Heap) (ql:Nat) (n:Nd) (F:Fl):Heap :=
  .box ((sentN n).cells (.own 1 n.raw.length 1 0 n.raw.length) (.ptr 2 0) (.own 4 n.row.length 1 0 n.row.length))::.arr true F.lr F.fr 1 (n.raw.map encLv)::.box [.own ql (n.q.length - 1) 12 0 (n.q.length - 1),.lit (.int .i64 16)]::.dead
    :: .arr true F.lw F.fw 1 (n.row.map encLv)::(mid++.arr true false false 12 ((delL n.own n.q).map encFr)::tail)
set_option maxHeartbeats 8000000 in
theorem nend_sent (n:Nd) (F:Fl) (hn:n.Ok) (h1:¬ n.raw=[]) (hq:n.nq=false) (h3:¬ n.row=[]) (hs:n.sends=true) (ho:n.own∈n.q) (f:Fr):call E (.func (.func 86) [] []) [.ptr 0 0,.ptr (mI n) 0,.lit (.int .i64 6)] (ndT n F [] f)=some (.tup [],sentG [.box (tdC (.own 7 1 1 0 1) n.own)] [.arr true false false 1 [encK 1]] 6 n F):=by
  have hc:=csent_spec n.ct hn.ct
  have hT:=tell_nil n.own 1
  have hD:=quDrop_spec F.fq n.own n.q ho (by have:=hn.ql;omega)
  have hlen:=delL_len n.own n.q ho
  have hrows:=frRows (delL n.own n.q)
  unfold sentG sentN
  unfold dropH at hD
  generalize hrw:(delL n.own n.q).map encFr=rows at hD ⊢
  generalize n.ct.sent=c at hc ⊢
  clear hrw
  rw [call_func E E86]
  have hu:=nturn_any { n with ct:=c } F rows (n.q.length - 1) 8 h1 h3
  simp [ndH,rV,qI,qV,wI,wV,rE,qE,wE,Nd.cells,nilS,ndT,tdE,tdV,tdC,mI,encK,Fl.lock,h1,hq,h3,hs,Ct.cells,encFr,u8v,quH] at hc hT hD hu
  simp [go_sem,ir86,ndH,rV,qI,qV,wI,wV,rE,qE,wE,Nd.cells,nilS,ndT,tdE,tdV,tdC,mI,encK,Fl.lock,h1,hq,h3,hs,Ct.cells,encFr,u8v,quH,hc,hT,hD,hu,purse_eq,List.range_succ]
end Go.AM.R1
open Go Go.AM
namespace Go.AM.R1
/-- What levels behind the head do not turn. -/
theorem head_app {m:List Bool} (h:dataF m≤m.length) (r:List Bool):dataF (m++r)=dataF m∧(sumF m≤m.length→sumF (m++r)=sumF m):=by
  have hd:=(sumF_ge m).2.2
  have he:extF (m++r)=extF m:=by
    unfold extF
    rw [List.getElem?_append_left (by omega)]
  have h1:dataF (m++r)=dataF m:=by unfold dataF;rw [he]
  have h2:rtrF (m++r)=rtrF m:=by
    unfold rtrF
    rw [he,List.getElem?_append_left]
    unfold dataF at h
    split at h<;>(rename_i q;simp only [q];simp;omega)
  have h3:sizeF (m++r)=sizeF m:=by
    unfold sizeF
    rw [h1,List.take_append_of_le_length h]
  exact ⟨h1,fun _=>by unfold sumF;rw [h1,h2,h3]⟩
theorem take_keep (n:Nd) (b:Bool) (h1:¬ n.raw=[]):¬ (takeN n b).2.raw=[]∧(takeN n b).2.nq=n.nq∧(takeN n b).2.row=n.row∧(takeN n b).2.q=n.q∧(takeN n b).2.sends=n.sends∧(takeN n b).2.tx=n.tx∧(takeN n b).2.ct=n.ct∧(takeN n b).2.own=n.own∧(takeN n b).2.mode=n.mode:=by
  unfold takeN
  split
  · split<;>exact ⟨h1,rfl,rfl,rfl,rfl,rfl,rfl,rfl,rfl⟩
  · split
    · exact ⟨by simp,rfl,rfl,rfl,rfl,rfl,rfl,rfl,rfl⟩
    · split<;>exact ⟨by simp,rfl,rfl,rfl,rfl,rfl,rfl,rfl,rfl⟩
theorem take_ok (n:Nd) (b:Bool) (h:¬ (n.run=5∧b=n.lvl)):(takeN n b).1=true:=by
  unfold takeN
  by_cases h5:n.run=5
  · rw [if_pos h5,if_neg (fun e=>h ⟨h5,e⟩)]
  · rw [if_neg h5]
    split
    · rfl
    · split<;>rfl
theorem nframeT (n:Nd) (F:Fl) (d:Bool) (hd:frL n=d) (hr:RawOk n.raw) (hs:n.sends=true→n.raw.length<n.row.length):call E (.func (.func 32) [] []) [.ptr 0 0] (ndH n F.lock)=some (.lit (.int .i64 (lv d)),ndH n F.lock):=by
  have h:=nframe_spec n F.lock hr hs
  rw [hd] at h
  exact h
theorem end_facts (n:Nd) (hr:RawOk n.raw) (h1:¬ n.raw=[]) (k:Nat) (hN:nextF n.raw=(8,k)) (h0:n.raw[0]?=some false) :
    dataF (n.raw++[true])≤(n.raw++[true]).length∧sumF (n.raw++[true])≤(n.raw++[true]).length∧(n.raw++[true])[0]?=some false∧(n.raw++[true]).length≤1001:=by
  have h6:=nextF_six (m:=n.raw) (by rw [hN];simp)
  have hh:=head_app (m:=n.raw) h6.1 [true]
  refine ⟨by rw [hh.1,List.length_append];omega,?_,?_,by rw [List.length_append];have:=hr.1;simp;omega⟩
  · rw [hh.2 (by omega),List.length_append];omega
  · rw [List.getElem?_append_left (List.length_pos_iff.2 h1)];exact h0
/-- The slot was not driven: an error of the acknowledgement. -/
def nackN (n:Nd):List Nat × Nd:=((failN n 8 (!decide (n.ct.state=1))).1,{ (failN n 8 (!decide (n.ct.state=1))).2 with owed:=decide (n.ct.state=1) })
set_option maxHeartbeats 8000000 in
theorem rin_bit (n:Nd) (F:Fl) (hn:n.Ok) (hr:RawOk n.raw) (h1:¬ n.raw=[]) (hl5:n.run≤5) (f:Fr) (hs:n.sends=false) (k:Nat) (hN:nextF n.raw=(6,k)) (hd:frL n=false) :∃ F2,call E (.func (.func 54) [] []) [.ptr 0 0,.ptr (mI n) 0,.lit (.int .i64 (lv true))] (ndT n F [] f)=some (.tup [],ndT (failN n 4 true).2 F2 (failN n 4 true).1 f):=by
  have hx:=nnextT n F 6 k hN hr
  have hfr:=nframeT n F false hd hr (fun e=>by rw [hs] at e;cases e)
  have hf:=nfail_spec n F.lock hn f 4 true
  have hkp:=fail_keep n 4 true
  have hks:=fail_ks n 4 true
  generalize failN n 4 true=z at hf hkp hks ⊢
  obtain ⟨ks,m⟩:=z
  obtain ⟨e1,e2,e3,-⟩:=hkp
  simp only [] at hf hks e1 e2 e3 ⊢
  refine ⟨F.lock,?_⟩
  rw [call_func E E54]
  rcases hks with rfl | rfl
  · skip
    by_cases hq:n.nq=true<;>by_cases h3:n.row=[] <;>
    simp [ndH,rV,qI,qV,wI,wV,rE,qE,wE,Nd.cells,nilS,ndT,tdE,tdV,tdC,mI,encK,Fl.lock,h1,hq,h3,hs,e1,e2,e3,lvT,lvF] at hx hfr hf <;>
    simp [go_sem,ir54,ndH,rV,qI,qV,wI,wV,rE,qE,wE,Nd.cells,nilS,ndT,tdE,tdV,tdC,mI,encK,Fl.lock,h1,hq,h3,hs,e1,e2,e3,lvT,lvF,hx,hfr,hf,purse_eq,List.range_succ]
  · skip
    by_cases hq:n.nq=true<;>by_cases h3:n.row=[] <;>
    simp [ndH,rV,qI,qV,wI,wV,rE,qE,wE,Nd.cells,nilS,ndT,tdE,tdV,tdC,mI,encK,Fl.lock,h1,hq,h3,hs,e1,e2,e3,lvT,lvF] at hx hfr hf <;>
    simp [go_sem,ir54,ndH,rV,qI,qV,wI,wV,rE,qE,wE,Nd.cells,nilS,ndT,tdE,tdV,tdC,mI,encK,Fl.lock,h1,hq,h3,hs,e1,e2,e3,lvT,lvF,hx,hfr,hf,purse_eq,List.range_succ]
set_option maxHeartbeats 8000000 in
theorem rin_added_lo_t (n:Nd) (F:Fl) (hn:n.Ok) (hr:RawOk n.raw) (h1:¬ n.raw=[]) (hl5:n.run≤5) (f:Fr) (hs:n.sends=false) (kind k:Nat) (hN:nextF n.raw=(kind,k)) (hd:frL n=true) (h5:n.run=5) (hb:¬ n.lvl=true) (h4:kind≤4):∃ F2,call E (.func (.func 54) [] []) [.ptr 0 0,.ptr (mI n) 0,.lit (.int .i64 (lv true))] (ndT n F [] f)=some (.tup [],ndT (takeN n true).2 F2 [] f):=by
  have hx:=nnextT n F kind k hN hr
  have hfr:=nframeT n F true hd hr (fun e=>by rw [hs] at e;cases e)
  have h4':(kind:Int)≤4:=by omega
  have h8:¬ kind=8:=by omega
  have h8':¬ (kind:Int)=8:=by omega
  obtain ⟨F2,ht⟩:=ntake_spec n F.lock hr h1 hl5 true
  have hok:=take_ok n true (fun e=>hb e.2.symm)
  have htk:=take_keep n true h1
  rw [hok] at ht
  clear hok
  generalize (takeN n true).2=m at ht htk ⊢
  obtain ⟨t1,t2,t3,-,t4,-⟩:=htk
  refine ⟨F2,?_⟩
  rw [call_func E E54]
  by_cases hq:n.nq=true<;>by_cases h3:n.row=[] <;>
  simp [ndH,rV,qI,qV,wI,wV,rE,qE,wE,Nd.cells,nilS,ndT,tdE,tdV,tdC,mI,encK,Fl.lock,h1,hq,h3,hs,h5,t1,t2,t3,t4,lvT,lvF] at hx hfr ht <;>
  simp [go_sem,ir54,ndH,rV,qI,qV,wI,wV,rE,qE,wE,Nd.cells,nilS,ndT,tdE,tdV,tdC,mI,encK,Fl.lock,h1,hq,h3,hs,h5,t1,t2,t3,t4,lvT,lvF,hx,hfr,ht,h4,h4',h8,h8',purse_eq,List.range_succ]
set_option maxHeartbeats 8000000 in
theorem rin_stuff_lo_t (n:Nd) (F:Fl) (hn:n.Ok) (hr:RawOk n.raw) (h1:¬ n.raw=[]) (hl5:n.run≤5) (f:Fr) (hs:n.sends=false) (kind k:Nat) (hN:nextF n.raw=(kind,k)) (hd:frL n=true) (h5:n.run=5) (hb:n.lvl=true) (h4:kind≤4):∃ F2,call E (.func (.func 54) [] []) [.ptr 0 0,.ptr (mI n) 0,.lit (.int .i64 (lv true))] (ndT n F [] f)=some (.tup [],ndT (failN n 5 true).2 F2 (failN n 5 true).1 f):=by
  have hx:=nnextT n F kind k hN hr
  have hfr:=nframeT n F true hd hr (fun e=>by rw [hs] at e;cases e)
  have h4':(kind:Int)≤4:=by omega
  have h8:¬ kind=8:=by omega
  have h8':¬ (kind:Int)=8:=by omega
  obtain ⟨F2,ht⟩:=ntake_spec n F.lock hr h1 hl5 true
  rw [show takeN n true=(false,n) by unfold takeN;rw [if_pos h5,if_pos hb.symm]] at ht
  clear hb
  have hf:=nfail_spec n F2 hn f 5 true
  have hkp:=fail_keep n 5 true
  have hks:=fail_ks n 5 true
  generalize failN n 5 true=z at hf hkp hks ⊢
  obtain ⟨ks,m⟩:=z
  obtain ⟨e1,e2,e3,-⟩:=hkp
  simp only [] at hf hks e1 e2 e3 ⊢
  refine ⟨F2,?_⟩
  rw [call_func E E54]
  rcases hks with rfl | rfl
  · skip
    by_cases hq:n.nq=true<;>by_cases h3:n.row=[] <;>
    simp [ndH,rV,qI,qV,wI,wV,rE,qE,wE,Nd.cells,nilS,ndT,tdE,tdV,tdC,mI,encK,Fl.lock,h1,hq,h3,hs,h5,e1,e2,e3,lvT,lvF] at hx hfr ht hf <;>
    simp [go_sem,ir54,ndH,rV,qI,qV,wI,wV,rE,qE,wE,Nd.cells,nilS,ndT,tdE,tdV,tdC,mI,encK,Fl.lock,h1,hq,h3,hs,h5,e1,e2,e3,lvT,lvF,hx,hfr,ht,hf,h4,h4',h8,h8',purse_eq,List.range_succ]
  · skip
    by_cases hq:n.nq=true<;>by_cases h3:n.row=[] <;>
    simp [ndH,rV,qI,qV,wI,wV,rE,qE,wE,Nd.cells,nilS,ndT,tdE,tdV,tdC,mI,encK,Fl.lock,h1,hq,h3,hs,h5,e1,e2,e3,lvT,lvF] at hx hfr ht hf <;>
    simp [go_sem,ir54,ndH,rV,qI,qV,wI,wV,rE,qE,wE,Nd.cells,nilS,ndT,tdE,tdV,tdC,mI,encK,Fl.lock,h1,hq,h3,hs,h5,e1,e2,e3,lvT,lvF,hx,hfr,ht,hf,h4,h4',h8,h8',purse_eq,List.range_succ]
set_option maxHeartbeats 8000000 in
theorem rin_added_hi_t (n:Nd) (F:Fl) (hn:n.Ok) (hr:RawOk n.raw) (h1:¬ n.raw=[]) (hl5:n.run≤5) (f:Fr) (hs:n.sends=false) (k:Nat) (hN:nextF n.raw=(5,k)) (hd:frL n=true) (h5:n.run=5) (hb:¬ n.lvl=true):∃ F2,call E (.func (.func 54) [] []) [.ptr 0 0,.ptr (mI n) 0,.lit (.int .i64 (lv true))] (ndT n F [] f)=some (.tup [],ndT (takeN n true).2 F2 [] f):=by
  have hx:=nnextT n F 5 k hN hr
  have hfr:=nframeT n F true hd hr (fun e=>by rw [hs] at e;cases e)
  obtain ⟨F2,ht⟩:=ntake_spec n F.lock hr h1 hl5 true
  have hok:=take_ok n true (fun e=>hb e.2.symm)
  have htk:=take_keep n true h1
  rw [hok] at ht
  clear hok
  generalize (takeN n true).2=m at ht htk ⊢
  obtain ⟨t1,t2,t3,-,t4,-⟩:=htk
  refine ⟨F2,?_⟩
  rw [call_func E E54]
  by_cases hq:n.nq=true<;>by_cases h3:n.row=[] <;>
  simp [ndH,rV,qI,qV,wI,wV,rE,qE,wE,Nd.cells,nilS,ndT,tdE,tdV,tdC,mI,encK,Fl.lock,h1,hq,h3,hs,h5,t1,t2,t3,t4,lvT,lvF] at hx hfr ht <;>
  simp [go_sem,ir54,ndH,rV,qI,qV,wI,wV,rE,qE,wE,Nd.cells,nilS,ndT,tdE,tdV,tdC,mI,encK,Fl.lock,h1,hq,h3,hs,h5,t1,t2,t3,t4,lvT,lvF,hx,hfr,ht,purse_eq,List.range_succ]
set_option maxHeartbeats 8000000 in
theorem rin_stuff_hi_t (n:Nd) (F:Fl) (hn:n.Ok) (hr:RawOk n.raw) (h1:¬ n.raw=[]) (hl5:n.run≤5) (f:Fr) (hs:n.sends=false) (k:Nat) (hN:nextF n.raw=(5,k)) (hd:frL n=true) (h5:n.run=5) (hb:n.lvl=true):∃ F2,call E (.func (.func 54) [] []) [.ptr 0 0,.ptr (mI n) 0,.lit (.int .i64 (lv true))] (ndT n F [] f)=some (.tup [],ndT (failN n 5 true).2 F2 (failN n 5 true).1 f):=by
  have hx:=nnextT n F 5 k hN hr
  have hfr:=nframeT n F true hd hr (fun e=>by rw [hs] at e;cases e)
  obtain ⟨F2,ht⟩:=ntake_spec n F.lock hr h1 hl5 true
  rw [show takeN n true=(false,n) by unfold takeN;rw [if_pos h5,if_pos hb.symm]] at ht
  clear hb
  have hf:=nfail_spec n F2 hn f 5 true
  have hkp:=fail_keep n 5 true
  have hks:=fail_ks n 5 true
  generalize failN n 5 true=z at hf hkp hks ⊢
  obtain ⟨ks,m⟩:=z
  obtain ⟨e1,e2,e3,-⟩:=hkp
  simp only [] at hf hks e1 e2 e3 ⊢
  refine ⟨F2,?_⟩
  rw [call_func E E54]
  rcases hks with rfl | rfl
  · skip
    by_cases hq:n.nq=true<;>by_cases h3:n.row=[] <;>
    simp [ndH,rV,qI,qV,wI,wV,rE,qE,wE,Nd.cells,nilS,ndT,tdE,tdV,tdC,mI,encK,Fl.lock,h1,hq,h3,hs,h5,e1,e2,e3,lvT,lvF] at hx hfr ht hf <;>
    simp [go_sem,ir54,ndH,rV,qI,qV,wI,wV,rE,qE,wE,Nd.cells,nilS,ndT,tdE,tdV,tdC,mI,encK,Fl.lock,h1,hq,h3,hs,h5,e1,e2,e3,lvT,lvF,hx,hfr,ht,hf,purse_eq,List.range_succ]
  · skip
    by_cases hq:n.nq=true<;>by_cases h3:n.row=[] <;>
    simp [ndH,rV,qI,qV,wI,wV,rE,qE,wE,Nd.cells,nilS,ndT,tdE,tdV,tdC,mI,encK,Fl.lock,h1,hq,h3,hs,h5,e1,e2,e3,lvT,lvF] at hx hfr ht hf <;>
    simp [go_sem,ir54,ndH,rV,qI,qV,wI,wV,rE,qE,wE,Nd.cells,nilS,ndT,tdE,tdV,tdC,mI,encK,Fl.lock,h1,hq,h3,hs,h5,e1,e2,e3,lvT,lvF,hx,hfr,ht,hf,purse_eq,List.range_succ]
set_option maxHeartbeats 8000000 in
theorem rin_low_t (n:Nd) (F:Fl) (hn:n.Ok) (hr:RawOk n.raw) (h1:¬ n.raw=[]) (hl5:n.run≤5) (f:Fr) (hs:n.sends=false) (kind k:Nat) (hN:nextF n.raw=(kind,k)) (hd:frL n=true) (h5:¬ n.run=5) (h4:kind≤4):∃ F2,call E (.func (.func 54) [] []) [.ptr 0 0,.ptr (mI n) 0,.lit (.int .i64 (lv true))] (ndT n F [] f)=some (.tup [],ndT (takeN n true).2 F2 [] f):=by
  have hx:=nnextT n F kind k hN hr
  have hfr:=nframeT n F true hd hr (fun e=>by rw [hs] at e;cases e)
  have h4':(kind:Int)≤4:=by omega
  have h8:¬ kind=8:=by omega
  have h8':¬ (kind:Int)=8:=by omega
  obtain ⟨F2,ht⟩:=ntake_spec n F.lock hr h1 hl5 true
  have hok:=take_ok n true (fun e=>h5 e.1)
  have htk:=take_keep n true h1
  rw [hok] at ht
  clear hok
  generalize (takeN n true).2=m at ht htk ⊢
  obtain ⟨t1,t2,t3,-,t4,-⟩:=htk
  refine ⟨F2,?_⟩
  rw [call_func E E54]
  by_cases hq:n.nq=true<;>by_cases h3:n.row=[] <;>
  simp [ndH,rV,qI,qV,wI,wV,rE,qE,wE,Nd.cells,nilS,ndT,tdE,tdV,tdC,mI,encK,Fl.lock,h1,hq,h3,hs,h5,t1,t2,t3,t4,lvT,lvF] at hx hfr ht <;>
  simp [go_sem,ir54,ndH,rV,qI,qV,wI,wV,rE,qE,wE,Nd.cells,nilS,ndT,tdE,tdV,tdC,mI,encK,Fl.lock,h1,hq,h3,hs,h5,t1,t2,t3,t4,lvT,lvF,hx,hfr,ht,h4,h4',h8,h8',purse_eq,List.range_succ]
set_option maxHeartbeats 8000000 in
theorem rin_added_lo_f (n:Nd) (F:Fl) (hn:n.Ok) (hr:RawOk n.raw) (h1:¬ n.raw=[]) (hl5:n.run≤5) (f:Fr) (hs:n.sends=false) (kind k:Nat) (hN:nextF n.raw=(kind,k)) (hd:frL n=true) (h5:n.run=5) (hb:¬ n.lvl=false) (h4:kind≤4):∃ F2,call E (.func (.func 54) [] []) [.ptr 0 0,.ptr (mI n) 0,.lit (.int .i64 (lv false))] (ndT n F [] f)=some (.tup [],ndT (takeN n false).2 F2 [] f):=by
  have hx:=nnextT n F kind k hN hr
  have hfr:=nframeT n F true hd hr (fun e=>by rw [hs] at e;cases e)
  have h4':(kind:Int)≤4:=by omega
  have h8:¬ kind=8:=by omega
  have h8':¬ (kind:Int)=8:=by omega
  obtain ⟨F2,ht⟩:=ntake_spec n F.lock hr h1 hl5 false
  have hok:=take_ok n false (fun e=>hb e.2.symm)
  have htk:=take_keep n false h1
  rw [hok] at ht
  clear hok
  generalize (takeN n false).2=m at ht htk ⊢
  obtain ⟨t1,t2,t3,-,t4,-⟩:=htk
  refine ⟨F2,?_⟩
  rw [call_func E E54]
  by_cases hq:n.nq=true<;>by_cases h3:n.row=[] <;>
  simp [ndH,rV,qI,qV,wI,wV,rE,qE,wE,Nd.cells,nilS,ndT,tdE,tdV,tdC,mI,encK,Fl.lock,h1,hq,h3,hs,h5,t1,t2,t3,t4,lvT,lvF] at hx hfr ht <;>
  simp [go_sem,ir54,ndH,rV,qI,qV,wI,wV,rE,qE,wE,Nd.cells,nilS,ndT,tdE,tdV,tdC,mI,encK,Fl.lock,h1,hq,h3,hs,h5,t1,t2,t3,t4,lvT,lvF,hx,hfr,ht,h4,h4',h8,h8',purse_eq,List.range_succ]
set_option maxHeartbeats 8000000 in
theorem rin_stuff_lo_f (n:Nd) (F:Fl) (hn:n.Ok) (hr:RawOk n.raw) (h1:¬ n.raw=[]) (hl5:n.run≤5) (f:Fr) (hs:n.sends=false) (kind k:Nat) (hN:nextF n.raw=(kind,k)) (hd:frL n=true) (h5:n.run=5) (hb:n.lvl=false) (h4:kind≤4):∃ F2,call E (.func (.func 54) [] []) [.ptr 0 0,.ptr (mI n) 0,.lit (.int .i64 (lv false))] (ndT n F [] f)=some (.tup [],ndT (failN n 5 true).2 F2 (failN n 5 true).1 f):=by
  have hx:=nnextT n F kind k hN hr
  have hfr:=nframeT n F true hd hr (fun e=>by rw [hs] at e;cases e)
  have h4':(kind:Int)≤4:=by omega
  have h8:¬ kind=8:=by omega
  have h8':¬ (kind:Int)=8:=by omega
  obtain ⟨F2,ht⟩:=ntake_spec n F.lock hr h1 hl5 false
  rw [show takeN n false=(false,n) by unfold takeN;rw [if_pos h5,if_pos hb.symm]] at ht
  clear hb
  have hf:=nfail_spec n F2 hn f 5 true
  have hkp:=fail_keep n 5 true
  have hks:=fail_ks n 5 true
  generalize failN n 5 true=z at hf hkp hks ⊢
  obtain ⟨ks,m⟩:=z
  obtain ⟨e1,e2,e3,-⟩:=hkp
  simp only [] at hf hks e1 e2 e3 ⊢
  refine ⟨F2,?_⟩
  rw [call_func E E54]
  rcases hks with rfl | rfl
  · skip
    by_cases hq:n.nq=true<;>by_cases h3:n.row=[] <;>
    simp [ndH,rV,qI,qV,wI,wV,rE,qE,wE,Nd.cells,nilS,ndT,tdE,tdV,tdC,mI,encK,Fl.lock,h1,hq,h3,hs,h5,e1,e2,e3,lvT,lvF] at hx hfr ht hf <;>
    simp [go_sem,ir54,ndH,rV,qI,qV,wI,wV,rE,qE,wE,Nd.cells,nilS,ndT,tdE,tdV,tdC,mI,encK,Fl.lock,h1,hq,h3,hs,h5,e1,e2,e3,lvT,lvF,hx,hfr,ht,hf,h4,h4',h8,h8',purse_eq,List.range_succ]
  · skip
    by_cases hq:n.nq=true<;>by_cases h3:n.row=[] <;>
    simp [ndH,rV,qI,qV,wI,wV,rE,qE,wE,Nd.cells,nilS,ndT,tdE,tdV,tdC,mI,encK,Fl.lock,h1,hq,h3,hs,h5,e1,e2,e3,lvT,lvF] at hx hfr ht hf <;>
    simp [go_sem,ir54,ndH,rV,qI,qV,wI,wV,rE,qE,wE,Nd.cells,nilS,ndT,tdE,tdV,tdC,mI,encK,Fl.lock,h1,hq,h3,hs,h5,e1,e2,e3,lvT,lvF,hx,hfr,ht,hf,h4,h4',h8,h8',purse_eq,List.range_succ]
set_option maxHeartbeats 8000000 in
theorem rin_added_hi_f (n:Nd) (F:Fl) (hn:n.Ok) (hr:RawOk n.raw) (h1:¬ n.raw=[]) (hl5:n.run≤5) (f:Fr) (hs:n.sends=false) (k:Nat) (hN:nextF n.raw=(5,k)) (hd:frL n=true) (h5:n.run=5) (hb:¬ n.lvl=false):∃ F2,call E (.func (.func 54) [] []) [.ptr 0 0,.ptr (mI n) 0,.lit (.int .i64 (lv false))] (ndT n F [] f)=some (.tup [],ndT (takeN n false).2 F2 [] f):=by
  have hx:=nnextT n F 5 k hN hr
  have hfr:=nframeT n F true hd hr (fun e=>by rw [hs] at e;cases e)
  obtain ⟨F2,ht⟩:=ntake_spec n F.lock hr h1 hl5 false
  have hok:=take_ok n false (fun e=>hb e.2.symm)
  have htk:=take_keep n false h1
  rw [hok] at ht
  clear hok
  generalize (takeN n false).2=m at ht htk ⊢
  obtain ⟨t1,t2,t3,-,t4,-⟩:=htk
  refine ⟨F2,?_⟩
  rw [call_func E E54]
  by_cases hq:n.nq=true<;>by_cases h3:n.row=[] <;>
  simp [ndH,rV,qI,qV,wI,wV,rE,qE,wE,Nd.cells,nilS,ndT,tdE,tdV,tdC,mI,encK,Fl.lock,h1,hq,h3,hs,h5,t1,t2,t3,t4,lvT,lvF] at hx hfr ht <;>
  simp [go_sem,ir54,ndH,rV,qI,qV,wI,wV,rE,qE,wE,Nd.cells,nilS,ndT,tdE,tdV,tdC,mI,encK,Fl.lock,h1,hq,h3,hs,h5,t1,t2,t3,t4,lvT,lvF,hx,hfr,ht,purse_eq,List.range_succ]
set_option maxHeartbeats 8000000 in
theorem rin_stuff_hi_f (n:Nd) (F:Fl) (hn:n.Ok) (hr:RawOk n.raw) (h1:¬ n.raw=[]) (hl5:n.run≤5) (f:Fr) (hs:n.sends=false) (k:Nat) (hN:nextF n.raw=(5,k)) (hd:frL n=true) (h5:n.run=5) (hb:n.lvl=false):∃ F2,call E (.func (.func 54) [] []) [.ptr 0 0,.ptr (mI n) 0,.lit (.int .i64 (lv false))] (ndT n F [] f)=some (.tup [],ndT (failN n 5 true).2 F2 (failN n 5 true).1 f):=by
  have hx:=nnextT n F 5 k hN hr
  have hfr:=nframeT n F true hd hr (fun e=>by rw [hs] at e;cases e)
  obtain ⟨F2,ht⟩:=ntake_spec n F.lock hr h1 hl5 false
  rw [show takeN n false=(false,n) by unfold takeN;rw [if_pos h5,if_pos hb.symm]] at ht
  clear hb
  have hf:=nfail_spec n F2 hn f 5 true
  have hkp:=fail_keep n 5 true
  have hks:=fail_ks n 5 true
  generalize failN n 5 true=z at hf hkp hks ⊢
  obtain ⟨ks,m⟩:=z
  obtain ⟨e1,e2,e3,-⟩:=hkp
  simp only [] at hf hks e1 e2 e3 ⊢
  refine ⟨F2,?_⟩
  rw [call_func E E54]
  rcases hks with rfl | rfl
  · skip
    by_cases hq:n.nq=true<;>by_cases h3:n.row=[] <;>
    simp [ndH,rV,qI,qV,wI,wV,rE,qE,wE,Nd.cells,nilS,ndT,tdE,tdV,tdC,mI,encK,Fl.lock,h1,hq,h3,hs,h5,e1,e2,e3,lvT,lvF] at hx hfr ht hf <;>
    simp [go_sem,ir54,ndH,rV,qI,qV,wI,wV,rE,qE,wE,Nd.cells,nilS,ndT,tdE,tdV,tdC,mI,encK,Fl.lock,h1,hq,h3,hs,h5,e1,e2,e3,lvT,lvF,hx,hfr,ht,hf,purse_eq,List.range_succ]
  · skip
    by_cases hq:n.nq=true<;>by_cases h3:n.row=[] <;>
    simp [ndH,rV,qI,qV,wI,wV,rE,qE,wE,Nd.cells,nilS,ndT,tdE,tdV,tdC,mI,encK,Fl.lock,h1,hq,h3,hs,h5,e1,e2,e3,lvT,lvF] at hx hfr ht hf <;>
    simp [go_sem,ir54,ndH,rV,qI,qV,wI,wV,rE,qE,wE,Nd.cells,nilS,ndT,tdE,tdV,tdC,mI,encK,Fl.lock,h1,hq,h3,hs,h5,e1,e2,e3,lvT,lvF,hx,hfr,ht,hf,purse_eq,List.range_succ]
set_option maxHeartbeats 8000000 in
theorem rin_low_f (n:Nd) (F:Fl) (hn:n.Ok) (hr:RawOk n.raw) (h1:¬ n.raw=[]) (hl5:n.run≤5) (f:Fr) (hs:n.sends=false) (kind k:Nat) (hN:nextF n.raw=(kind,k)) (hd:frL n=true) (h5:¬ n.run=5) (h4:kind≤4):∃ F2,call E (.func (.func 54) [] []) [.ptr 0 0,.ptr (mI n) 0,.lit (.int .i64 (lv false))] (ndT n F [] f)=some (.tup [],ndT (takeN n false).2 F2 [] f):=by
  have hx:=nnextT n F kind k hN hr
  have hfr:=nframeT n F true hd hr (fun e=>by rw [hs] at e;cases e)
  have h4':(kind:Int)≤4:=by omega
  have h8:¬ kind=8:=by omega
  have h8':¬ (kind:Int)=8:=by omega
  obtain ⟨F2,ht⟩:=ntake_spec n F.lock hr h1 hl5 false
  have hok:=take_ok n false (fun e=>h5 e.1)
  have htk:=take_keep n false h1
  rw [hok] at ht
  clear hok
  generalize (takeN n false).2=m at ht htk ⊢
  obtain ⟨t1,t2,t3,-,t4,-⟩:=htk
  refine ⟨F2,?_⟩
  rw [call_func E E54]
  by_cases hq:n.nq=true<;>by_cases h3:n.row=[] <;>
  simp [ndH,rV,qI,qV,wI,wV,rE,qE,wE,Nd.cells,nilS,ndT,tdE,tdV,tdC,mI,encK,Fl.lock,h1,hq,h3,hs,h5,t1,t2,t3,t4,lvT,lvF] at hx hfr ht <;>
  simp [go_sem,ir54,ndH,rV,qI,qV,wI,wV,rE,qE,wE,Nd.cells,nilS,ndT,tdE,tdV,tdC,mI,encK,Fl.lock,h1,hq,h3,hs,h5,t1,t2,t3,t4,lvT,lvF,hx,hfr,ht,h4,h4',h8,h8',purse_eq,List.range_succ]
set_option maxHeartbeats 8000000 in
theorem rin_slot_t_t (n:Nd) (F:Fl) (hn:n.Ok) (hr:RawOk n.raw) (h1:¬ n.raw=[]) (hl5:n.run≤5) (f:Fr) (hs:n.sends=false) (k:Nat) (hN:nextF n.raw=(6,k)) (hd:frL n=true) (h5:¬ n.run=5):∃ F2,call E (.func (.func 54) [] []) [.ptr 0 0,.ptr (mI n) 0,.lit (.int .i64 (lv true))] (ndT n F [] f)=some (.tup [],ndT (takeN n true).2 F2 [] f):=by
  have hx:=nnextT n F 6 k hN hr
  have hfr:=nframeT n F true hd hr (fun e=>by rw [hs] at e;cases e)
  obtain ⟨F2,ht⟩:=ntake_spec n F.lock hr h1 hl5 true
  have hok:=take_ok n true (fun e=>h5 e.1)
  have htk:=take_keep n true h1
  rw [hok] at ht
  clear hok
  generalize (takeN n true).2=m at ht htk ⊢
  obtain ⟨t1,t2,t3,-,t4,-⟩:=htk
  refine ⟨F2,?_⟩
  rw [call_func E E54]
  by_cases hq:n.nq=true<;>by_cases h3:n.row=[] <;>
  simp [ndH,rV,qI,qV,wI,wV,rE,qE,wE,Nd.cells,nilS,ndT,tdE,tdV,tdC,mI,encK,Fl.lock,h1,hq,h3,hs,h5,t1,t2,t3,t4,lvT,lvF] at hx hfr ht <;>
  simp [go_sem,ir54,ndH,rV,qI,qV,wI,wV,rE,qE,wE,Nd.cells,nilS,ndT,tdE,tdV,tdC,mI,encK,Fl.lock,h1,hq,h3,hs,h5,t1,t2,t3,t4,lvT,lvF,hx,hfr,ht,purse_eq,List.range_succ]
set_option maxHeartbeats 8000000 in
theorem rin_slot_t_f (n:Nd) (F:Fl) (hn:n.Ok) (hr:RawOk n.raw) (h1:¬ n.raw=[]) (hl5:n.run≤5) (f:Fr) (hs:n.sends=false) (k:Nat) (hN:nextF n.raw=(6,k)) (hd:frL n=true) (h5:¬ n.run=5):∃ F2,call E (.func (.func 54) [] []) [.ptr 0 0,.ptr (mI n) 0,.lit (.int .i64 (lv false))] (ndT n F [] f)=some (.tup [],ndT (takeN n false).2 F2 [] f):=by
  have hx:=nnextT n F 6 k hN hr
  have hfr:=nframeT n F true hd hr (fun e=>by rw [hs] at e;cases e)
  obtain ⟨F2,ht⟩:=ntake_spec n F.lock hr h1 hl5 false
  have hok:=take_ok n false (fun e=>h5 e.1)
  have htk:=take_keep n false h1
  rw [hok] at ht
  clear hok
  generalize (takeN n false).2=m at ht htk ⊢
  obtain ⟨t1,t2,t3,-,t4,-⟩:=htk
  refine ⟨F2,?_⟩
  rw [call_func E E54]
  by_cases hq:n.nq=true<;>by_cases h3:n.row=[] <;>
  simp [ndH,rV,qI,qV,wI,wV,rE,qE,wE,Nd.cells,nilS,ndT,tdE,tdV,tdC,mI,encK,Fl.lock,h1,hq,h3,hs,h5,t1,t2,t3,t4,lvT,lvF] at hx hfr ht <;>
  simp [go_sem,ir54,ndH,rV,qI,qV,wI,wV,rE,qE,wE,Nd.cells,nilS,ndT,tdE,tdV,tdC,mI,encK,Fl.lock,h1,hq,h3,hs,h5,t1,t2,t3,t4,lvT,lvF,hx,hfr,ht,purse_eq,List.range_succ]
set_option maxHeartbeats 8000000 in
theorem rin_slot_f_f (n:Nd) (F:Fl) (hn:n.Ok) (hr:RawOk n.raw) (h1:¬ n.raw=[]) (hl5:n.run≤5) (f:Fr) (hs:n.sends=false) (k:Nat) (hN:nextF n.raw=(6,k)) (hd:frL n=false) (h5:¬ n.run=5):∃ F2,call E (.func (.func 54) [] []) [.ptr 0 0,.ptr (mI n) 0,.lit (.int .i64 (lv false))] (ndT n F [] f)=some (.tup [],ndT (takeN n false).2 F2 [] f):=by
  have hx:=nnextT n F 6 k hN hr
  have hfr:=nframeT n F false hd hr (fun e=>by rw [hs] at e;cases e)
  obtain ⟨F2,ht⟩:=ntake_spec n F.lock hr h1 hl5 false
  have hok:=take_ok n false (fun e=>h5 e.1)
  have htk:=take_keep n false h1
  rw [hok] at ht
  clear hok
  generalize (takeN n false).2=m at ht htk ⊢
  obtain ⟨t1,t2,t3,-,t4,-⟩:=htk
  refine ⟨F2,?_⟩
  rw [call_func E E54]
  by_cases hq:n.nq=true<;>by_cases h3:n.row=[] <;>
  simp [ndH,rV,qI,qV,wI,wV,rE,qE,wE,Nd.cells,nilS,ndT,tdE,tdV,tdC,mI,encK,Fl.lock,h1,hq,h3,hs,h5,t1,t2,t3,t4,lvT,lvF] at hx hfr ht <;>
  simp [go_sem,ir54,ndH,rV,qI,qV,wI,wV,rE,qE,wE,Nd.cells,nilS,ndT,tdE,tdV,tdC,mI,encK,Fl.lock,h1,hq,h3,hs,h5,t1,t2,t3,t4,lvT,lvF,hx,hfr,ht,purse_eq,List.range_succ]
set_option maxHeartbeats 8000000 in
theorem rin_delim (n:Nd) (F:Fl) (hn:n.Ok) (hr:RawOk n.raw) (h1:¬ n.raw=[]) (hl5:n.run≤5) (f:Fr) (hs:n.sends=false) (k:Nat) (hN:nextF n.raw=(5,k)) (hd:frL n=true) (h5:¬ n.run=5):∃ F2,call E (.func (.func 54) [] []) [.ptr 0 0,.ptr (mI n) 0,.lit (.int .i64 (lv true))] (ndT n F [] f)=some (.tup [],ndT (takeN n true).2 F2 [] f):=by
  have hx:=nnextT n F 5 k hN hr
  have hfr:=nframeT n F true hd hr (fun e=>by rw [hs] at e;cases e)
  obtain ⟨F2,ht⟩:=ntake_spec n F.lock hr h1 hl5 true
  have hok:=take_ok n true (fun e=>h5 e.1)
  have htk:=take_keep n true h1
  rw [hok] at ht
  clear hok
  generalize (takeN n true).2=m at ht htk ⊢
  obtain ⟨t1,t2,t3,-,t4,-⟩:=htk
  refine ⟨F2,?_⟩
  rw [call_func E E54]
  by_cases hq:n.nq=true<;>by_cases h3:n.row=[] <;>
  simp [ndH,rV,qI,qV,wI,wV,rE,qE,wE,Nd.cells,nilS,ndT,tdE,tdV,tdC,mI,encK,Fl.lock,h1,hq,h3,hs,h5,t1,t2,t3,t4,lvT,lvF] at hx hfr ht <;>
  simp [go_sem,ir54,ndH,rV,qI,qV,wI,wV,rE,qE,wE,Nd.cells,nilS,ndT,tdE,tdV,tdC,mI,encK,Fl.lock,h1,hq,h3,hs,h5,t1,t2,t3,t4,lvT,lvF,hx,hfr,ht,purse_eq,List.range_succ]
set_option maxHeartbeats 8000000 in
theorem rin_ack (n:Nd) (F:Fl) (hn:n.Ok) (hr:RawOk n.raw) (h1:¬ n.raw=[]) (hl5:n.run≤5) (f:Fr) (hs:n.sends=false) (k:Nat) (hN:nextF n.raw=(7,k)) (hd:frL n=true) (h5:¬ n.run=5) (hri:rightF n.raw=true):∃ F2,call E (.func (.func 54) [] []) [.ptr 0 0,.ptr (mI n) 0,.lit (.int .i64 (lv true))] (ndT n F [] f)=some (.tup [],ndT (takeN n true).2 F2 [] f):=by
  have hx:=nnextT n F 7 k hN hr
  have hfr:=nframeT n F true hd hr (fun e=>by rw [hs] at e;cases e)
  have h7:=nextF_six (m:=n.raw) (by rw [hN];simp)
  have hR:=nright_spec n F.lock h7.1 (by omega) hr.1
  rw [hri] at hR
  obtain ⟨F2,ht⟩:=ntake_spec n F.lock hr h1 hl5 true
  have hok:=take_ok n true (fun e=>h5 e.1)
  have htk:=take_keep n true h1
  rw [hok] at ht
  clear hok
  generalize (takeN n true).2=m at ht htk ⊢
  obtain ⟨t1,t2,t3,-,t4,-⟩:=htk
  refine ⟨F2,?_⟩
  rw [call_func E E54]
  by_cases hq:n.nq=true<;>by_cases h3:n.row=[] <;>
  simp [ndH,rV,qI,qV,wI,wV,rE,qE,wE,Nd.cells,nilS,ndT,tdE,tdV,tdC,mI,encK,Fl.lock,h1,hq,h3,hs,h5,t1,t2,t3,t4,lvT,lvF] at hx hfr ht hR <;>
  simp [go_sem,ir54,ndH,rV,qI,qV,wI,wV,rE,qE,wE,Nd.cells,nilS,ndT,tdE,tdV,tdC,mI,encK,Fl.lock,h1,hq,h3,hs,h5,t1,t2,t3,t4,lvT,lvF,hx,hfr,ht,hR,purse_eq,List.range_succ]
set_option maxHeartbeats 8000000 in
theorem rin_sum (n:Nd) (F:Fl) (hn:n.Ok) (hr:RawOk n.raw) (h1:¬ n.raw=[]) (hl5:n.run≤5) (f:Fr) (hs:n.sends=false) (k:Nat) (hN:nextF n.raw=(7,k)) (hd:frL n=true) (h5:¬ n.run=5) (hri:rightF n.raw=false):∃ F2,call E (.func (.func 54) [] []) [.ptr 0 0,.ptr (mI n) 0,.lit (.int .i64 (lv true))] (ndT n F [] f)=some (.tup [],ndT (failN n 6 true).2 F2 (failN n 6 true).1 f):=by
  have hx:=nnextT n F 7 k hN hr
  have hfr:=nframeT n F true hd hr (fun e=>by rw [hs] at e;cases e)
  have h7:=nextF_six (m:=n.raw) (by rw [hN];simp)
  have hR:=nright_spec n F.lock h7.1 (by omega) hr.1
  rw [hri] at hR
  have hf:=nfail_spec n F.lock hn f 6 true
  have hkp:=fail_keep n 6 true
  have hks:=fail_ks n 6 true
  generalize failN n 6 true=z at hf hkp hks ⊢
  obtain ⟨ks,m⟩:=z
  obtain ⟨e1,e2,e3,-⟩:=hkp
  simp only [] at hf hks e1 e2 e3 ⊢
  refine ⟨F.lock,?_⟩
  rw [call_func E E54]
  rcases hks with rfl | rfl
  · skip
    by_cases hq:n.nq=true<;>by_cases h3:n.row=[] <;>
    simp [ndH,rV,qI,qV,wI,wV,rE,qE,wE,Nd.cells,nilS,ndT,tdE,tdV,tdC,mI,encK,Fl.lock,h1,hq,h3,hs,h5,e1,e2,e3,lvT,lvF] at hx hfr hR hf <;>
    simp [go_sem,ir54,ndH,rV,qI,qV,wI,wV,rE,qE,wE,Nd.cells,nilS,ndT,tdE,tdV,tdC,mI,encK,Fl.lock,h1,hq,h3,hs,h5,e1,e2,e3,lvT,lvF,hx,hfr,hR,hf,purse_eq,List.range_succ]
  · skip
    by_cases hq:n.nq=true<;>by_cases h3:n.row=[] <;>
    simp [ndH,rV,qI,qV,wI,wV,rE,qE,wE,Nd.cells,nilS,ndT,tdE,tdV,tdC,mI,encK,Fl.lock,h1,hq,h3,hs,h5,e1,e2,e3,lvT,lvF] at hx hfr hR hf <;>
    simp [go_sem,ir54,ndH,rV,qI,qV,wI,wV,rE,qE,wE,Nd.cells,nilS,ndT,tdE,tdV,tdC,mI,encK,Fl.lock,h1,hq,h3,hs,h5,e1,e2,e3,lvT,lvF,hx,hfr,hR,hf,purse_eq,List.range_succ]
set_option maxHeartbeats 8000000 in
theorem rin_form5 (n:Nd) (F:Fl) (hn:n.Ok) (hr:RawOk n.raw) (h1:¬ n.raw=[]) (hl5:n.run≤5) (f:Fr) (hs:n.sends=false) (k:Nat) (hN:nextF n.raw=(5,k)) (hd:frL n=true) (h5:¬ n.run=5):∃ F2,call E (.func (.func 54) [] []) [.ptr 0 0,.ptr (mI n) 0,.lit (.int .i64 (lv false))] (ndT n F [] f)=some (.tup [],ndT (failN n 7 true).2 F2 (failN n 7 true).1 f):=by
  have hx:=nnextT n F 5 k hN hr
  have hfr:=nframeT n F true hd hr (fun e=>by rw [hs] at e;cases e)
  have hf:=nfail_spec n F.lock hn f 7 true
  have hkp:=fail_keep n 7 true
  have hks:=fail_ks n 7 true
  generalize failN n 7 true=z at hf hkp hks ⊢
  obtain ⟨ks,m⟩:=z
  obtain ⟨e1,e2,e3,-⟩:=hkp
  simp only [] at hf hks e1 e2 e3 ⊢
  refine ⟨F.lock,?_⟩
  rw [call_func E E54]
  rcases hks with rfl | rfl
  · skip
    by_cases hq:n.nq=true<;>by_cases h3:n.row=[] <;>
    simp [ndH,rV,qI,qV,wI,wV,rE,qE,wE,Nd.cells,nilS,ndT,tdE,tdV,tdC,mI,encK,Fl.lock,h1,hq,h3,hs,h5,e1,e2,e3,lvT,lvF] at hx hfr hf <;>
    simp [go_sem,ir54,ndH,rV,qI,qV,wI,wV,rE,qE,wE,Nd.cells,nilS,ndT,tdE,tdV,tdC,mI,encK,Fl.lock,h1,hq,h3,hs,h5,e1,e2,e3,lvT,lvF,hx,hfr,hf,purse_eq,List.range_succ]
  · skip
    by_cases hq:n.nq=true<;>by_cases h3:n.row=[] <;>
    simp [ndH,rV,qI,qV,wI,wV,rE,qE,wE,Nd.cells,nilS,ndT,tdE,tdV,tdC,mI,encK,Fl.lock,h1,hq,h3,hs,h5,e1,e2,e3,lvT,lvF] at hx hfr hf <;>
    simp [go_sem,ir54,ndH,rV,qI,qV,wI,wV,rE,qE,wE,Nd.cells,nilS,ndT,tdE,tdV,tdC,mI,encK,Fl.lock,h1,hq,h3,hs,h5,e1,e2,e3,lvT,lvF,hx,hfr,hf,purse_eq,List.range_succ]
set_option maxHeartbeats 8000000 in
theorem rin_form7 (n:Nd) (F:Fl) (hn:n.Ok) (hr:RawOk n.raw) (h1:¬ n.raw=[]) (hl5:n.run≤5) (f:Fr) (hs:n.sends=false) (k:Nat) (hN:nextF n.raw=(7,k)) (hd:frL n=true) (h5:¬ n.run=5):∃ F2,call E (.func (.func 54) [] []) [.ptr 0 0,.ptr (mI n) 0,.lit (.int .i64 (lv false))] (ndT n F [] f)=some (.tup [],ndT (failN n 7 true).2 F2 (failN n 7 true).1 f):=by
  have hx:=nnextT n F 7 k hN hr
  have hfr:=nframeT n F true hd hr (fun e=>by rw [hs] at e;cases e)
  have hf:=nfail_spec n F.lock hn f 7 true
  have hkp:=fail_keep n 7 true
  have hks:=fail_ks n 7 true
  generalize failN n 7 true=z at hf hkp hks ⊢
  obtain ⟨ks,m⟩:=z
  obtain ⟨e1,e2,e3,-⟩:=hkp
  simp only [] at hf hks e1 e2 e3 ⊢
  refine ⟨F.lock,?_⟩
  rw [call_func E E54]
  rcases hks with rfl | rfl
  · skip
    by_cases hq:n.nq=true<;>by_cases h3:n.row=[] <;>
    simp [ndH,rV,qI,qV,wI,wV,rE,qE,wE,Nd.cells,nilS,ndT,tdE,tdV,tdC,mI,encK,Fl.lock,h1,hq,h3,hs,h5,e1,e2,e3,lvT,lvF] at hx hfr hf <;>
    simp [go_sem,ir54,ndH,rV,qI,qV,wI,wV,rE,qE,wE,Nd.cells,nilS,ndT,tdE,tdV,tdC,mI,encK,Fl.lock,h1,hq,h3,hs,h5,e1,e2,e3,lvT,lvF,hx,hfr,hf,purse_eq,List.range_succ]
  · skip
    by_cases hq:n.nq=true<;>by_cases h3:n.row=[] <;>
    simp [ndH,rV,qI,qV,wI,wV,rE,qE,wE,Nd.cells,nilS,ndT,tdE,tdV,tdC,mI,encK,Fl.lock,h1,hq,h3,hs,h5,e1,e2,e3,lvT,lvF] at hx hfr hf <;>
    simp [go_sem,ir54,ndH,rV,qI,qV,wI,wV,rE,qE,wE,Nd.cells,nilS,ndT,tdE,tdV,tdC,mI,encK,Fl.lock,h1,hq,h3,hs,h5,e1,e2,e3,lvT,lvF,hx,hfr,hf,purse_eq,List.range_succ]
set_option maxHeartbeats 8000000 in
theorem rin_form8 (n:Nd) (F:Fl) (hn:n.Ok) (hr:RawOk n.raw) (h1:¬ n.raw=[]) (hl5:n.run≤5) (f:Fr) (hs:n.sends=false) (k:Nat) (hN:nextF n.raw=(8,k)) (hd:frL n=true) (h5:¬ n.run=5) (hk6:¬ k=6):∃ F2,call E (.func (.func 54) [] []) [.ptr 0 0,.ptr (mI n) 0,.lit (.int .i64 (lv false))] (ndT n F [] f)=some (.tup [],ndT (failN n 7 true).2 F2 (failN n 7 true).1 f):=by
  have hx:=nnextT n F 8 k hN hr
  have hfr:=nframeT n F true hd hr (fun e=>by rw [hs] at e;cases e)
  have hk6':¬ (k:Int)=6:=by omega
  have hf:=nfail_spec n F.lock hn f 7 true
  have hkp:=fail_keep n 7 true
  have hks:=fail_ks n 7 true
  generalize failN n 7 true=z at hf hkp hks ⊢
  obtain ⟨ks,m⟩:=z
  obtain ⟨e1,e2,e3,-⟩:=hkp
  simp only [] at hf hks e1 e2 e3 ⊢
  refine ⟨F.lock,?_⟩
  rw [call_func E E54]
  rcases hks with rfl | rfl
  · skip
    by_cases hq:n.nq=true<;>by_cases h3:n.row=[] <;>
    simp [ndH,rV,qI,qV,wI,wV,rE,qE,wE,Nd.cells,nilS,ndT,tdE,tdV,tdC,mI,encK,Fl.lock,h1,hq,h3,hs,h5,e1,e2,e3,lvT,lvF] at hx hfr hf <;>
    simp [go_sem,ir54,ndH,rV,qI,qV,wI,wV,rE,qE,wE,Nd.cells,nilS,ndT,tdE,tdV,tdC,mI,encK,Fl.lock,h1,hq,h3,hs,h5,e1,e2,e3,lvT,lvF,hx,hfr,hf,hk6,hk6',purse_eq,List.range_succ]
  · skip
    by_cases hq:n.nq=true<;>by_cases h3:n.row=[] <;>
    simp [ndH,rV,qI,qV,wI,wV,rE,qE,wE,Nd.cells,nilS,ndT,tdE,tdV,tdC,mI,encK,Fl.lock,h1,hq,h3,hs,h5,e1,e2,e3,lvT,lvF] at hx hfr hf <;>
    simp [go_sem,ir54,ndH,rV,qI,qV,wI,wV,rE,qE,wE,Nd.cells,nilS,ndT,tdE,tdV,tdC,mI,encK,Fl.lock,h1,hq,h3,hs,h5,e1,e2,e3,lvT,lvF,hx,hfr,hf,hk6,hk6',purse_eq,List.range_succ]
set_option maxHeartbeats 8000000 in
theorem rin_over (n:Nd) (F:Fl) (hn:n.Ok) (hr:RawOk n.raw) (h1:¬ n.raw=[]) (hl5:n.run≤5) (f:Fr) (hs:n.sends=false) (k:Nat) (hN:nextF n.raw=(8,k)) (hd:frL n=true) (h5:¬ n.run=5) (hk:k=6):∃ F2,call E (.func (.func 54) [] []) [.ptr 0 0,.ptr (mI n) 0,.lit (.int .i64 (lv false))] (ndT n F [] f)=some (.tup [],ndT (overN n).2 F2 [9] f):=by
  have hx:=nnextT n F 8 k hN hr
  have hfr:=nframeT n F true hd hr (fun e=>by rw [hs] at e;cases e)
  subst hk
  have ho:=nover_spec n F.lock f
  simp only [overN] at ho ⊢
  refine ⟨F.lock,?_⟩
  rw [call_func E E54]
  by_cases hq:n.nq=true<;>by_cases h3:n.row=[] <;>
  simp [ndH,rV,qI,qV,wI,wV,rE,qE,wE,Nd.cells,nilS,ndT,tdE,tdV,tdC,mI,encK,Fl.lock,h1,hq,h3,hs,h5,lvT,lvF] at hx hfr ho <;>
  simp [go_sem,ir54,ndH,rV,qI,qV,wI,wV,rE,qE,wE,Nd.cells,nilS,ndT,tdE,tdV,tdC,mI,encK,Fl.lock,h1,hq,h3,hs,h5,lvT,lvF,hx,hfr,ho,purse_eq,List.range_succ]
set_option maxHeartbeats 8000000 in
theorem rin_end5 (n:Nd) (F:Fl) (hn:n.Ok) (hr:RawOk n.raw) (h1:¬ n.raw=[]) (hl5:n.run≤5) (f:Fr) (hs:n.sends=false) (k:Nat) (hN:nextF n.raw=(8,k)) (hd:frL n=true) (h5:¬ n.run=5) (hk:k=5) (h0:n.raw[0]?=some false):∃ F2,call E (.func (.func 54) [] []) [.ptr 0 0,.ptr (mI n) 0,.lit (.int .i64 (lv true))] (ndT n F [] f)=some (.tup [],ndT { (takeN n true).2 with ct:=n.ct.recv } F2 [2] (frameOf (n.raw++[true]))):=by
  have hx:=nnextT n F 8 k hN hr
  have hfr:=nframeT n F true hd hr (fun e=>by rw [hs] at e;cases e)
  subst hk
  obtain ⟨F2,ht⟩:=ntake_spec n F.lock hr h1 hl5 true
  have hok:=take_ok n true (fun e=>h5 e.1)
  have htk:=take_keep n true h1
  rw [hok] at ht
  clear hok
  have hmr:(takeN n true).2.raw=n.raw++[true]:=by unfold takeN;rw [if_neg h5,if_pos (by rw [hN];decide)]
  have hfacts:=end_facts n hr h1 5 hN h0
  have he:=nend_recv (takeN n true).2 F2 ⟨by rw [htk.2.1,htk.2.2.2.1];exact hn.nq,by rw [htk.2.2.2.1];exact hn.ql,by rw [htk.2.2.2.2.2.2.1];exact hn.ct⟩ htk.1 (by rw [htk.2.2.2.2.1];exact hs) (by rw [hmr];exact hfacts.1) (by rw [hmr];exact hfacts.2.1) (by rw [hmr];exact hfacts.2.2.1) (by rw [hmr];exact hfacts.2.2.2) f
  have hfo:frameOf (takeN n true).2.raw=frameOf (n.raw++[true]):=by rw [hmr]
  have hco:(takeN n true).2.ct.recv=n.ct.recv:=by rw [htk.2.2.2.2.2.2.1]
  rw [hfo,hco] at he
  clear hfo hco
  generalize frameOf (n.raw++[true])=g at he ⊢
  generalize n.ct.recv=c at he ⊢
  generalize (takeN n true).2=m at ht htk he ⊢
  obtain ⟨t1,t2,t3,-,t4,-⟩:=htk
  clear hmr hfacts
  refine ⟨F2.lock,?_⟩
  rw [call_func E E54]
  by_cases hq:n.nq=true<;>by_cases h3:n.row=[] <;>
  simp [ndH,rV,qI,qV,wI,wV,rE,qE,wE,Nd.cells,nilS,ndT,tdE,tdV,tdC,mI,encK,Fl.lock,h1,hq,h3,hs,h5,t1,t2,t3,t4,lvT,lvF] at hx hfr ht he <;>
  simp [go_sem,ir54,ndH,rV,qI,qV,wI,wV,rE,qE,wE,Nd.cells,nilS,ndT,tdE,tdV,tdC,mI,encK,Fl.lock,h1,hq,h3,hs,h5,t1,t2,t3,t4,lvT,lvF,hx,hfr,ht,he,purse_eq,List.range_succ]
set_option maxHeartbeats 8000000 in
theorem rin_end6 (n:Nd) (F:Fl) (hn:n.Ok) (hr:RawOk n.raw) (h1:¬ n.raw=[]) (hl5:n.run≤5) (f:Fr) (hs:n.sends=false) (k:Nat) (hN:nextF n.raw=(8,k)) (hd:frL n=true) (h5:¬ n.run=5) (hk:k=6):∃ F2,call E (.func (.func 54) [] []) [.ptr 0 0,.ptr (mI n) 0,.lit (.int .i64 (lv true))] (ndT n F [] f)=some (.tup [],ndT { (takeN n true).2 with mode:=8,k:=0 } F2 [] f):=by
  have hx:=nnextT n F 8 k hN hr
  have hfr:=nframeT n F true hd hr (fun e=>by rw [hs] at e;cases e)
  subst hk
  obtain ⟨F2,ht⟩:=ntake_spec n F.lock hr h1 hl5 true
  have hok:=take_ok n true (fun e=>h5 e.1)
  have htk:=take_keep n true h1
  rw [hok] at ht
  clear hok
  have he:=nend_last (takeN n true).2 F2 htk.1 (by rw [htk.2.2.2.2.1];exact hs) f
  generalize (takeN n true).2=m at ht htk he ⊢
  obtain ⟨t1,t2,t3,-,t4,-⟩:=htk
  refine ⟨F2,?_⟩
  rw [call_func E E54]
  by_cases hq:n.nq=true<;>by_cases h3:n.row=[] <;>
  simp [ndH,rV,qI,qV,wI,wV,rE,qE,wE,Nd.cells,nilS,ndT,tdE,tdV,tdC,mI,encK,Fl.lock,h1,hq,h3,hs,h5,t1,t2,t3,t4,lvT,lvF] at hx hfr ht he <;>
  simp [go_sem,ir54,ndH,rV,qI,qV,wI,wV,rE,qE,wE,Nd.cells,nilS,ndT,tdE,tdV,tdC,mI,encK,Fl.lock,h1,hq,h3,hs,h5,t1,t2,t3,t4,lvT,lvF,hx,hfr,ht,he,purse_eq,List.range_succ]
set_option maxHeartbeats 8000000 in
theorem rin_endx (n:Nd) (F:Fl) (hn:n.Ok) (hr:RawOk n.raw) (h1:¬ n.raw=[]) (hl5:n.run≤5) (f:Fr) (hs:n.sends=false) (k:Nat) (hN:nextF n.raw=(8,k)) (hd:frL n=true) (h5:¬ n.run=5) (hk6:¬ k=6) (hk5:¬ k=5):∃ F2,call E (.func (.func 54) [] []) [.ptr 0 0,.ptr (mI n) 0,.lit (.int .i64 (lv true))] (ndT n F [] f)=some (.tup [],ndT (takeN n true).2 F2 [] f):=by
  have hx:=nnextT n F 8 k hN hr
  have hfr:=nframeT n F true hd hr (fun e=>by rw [hs] at e;cases e)
  obtain ⟨F2,ht⟩:=ntake_spec n F.lock hr h1 hl5 true
  have hok:=take_ok n true (fun e=>h5 e.1)
  have htk:=take_keep n true h1
  rw [hok] at ht
  clear hok
  have hk6':¬ (k:Int)=6:=by omega
  have he:=nend_none (takeN n true).2 F2 htk.1 k hk6 (.inl hk5) f
  generalize (takeN n true).2=m at ht htk he ⊢
  obtain ⟨t1,t2,t3,-,t4,-⟩:=htk
  refine ⟨F2,?_⟩
  rw [call_func E E54]
  by_cases hq:n.nq=true<;>by_cases h3:n.row=[] <;>
  simp [ndH,rV,qI,qV,wI,wV,rE,qE,wE,Nd.cells,nilS,ndT,tdE,tdV,tdC,mI,encK,Fl.lock,h1,hq,h3,hs,h5,t1,t2,t3,t4,lvT,lvF] at hx hfr ht he <;>
  simp [go_sem,ir54,ndH,rV,qI,qV,wI,wV,rE,qE,wE,Nd.cells,nilS,ndT,tdE,tdV,tdC,mI,encK,Fl.lock,h1,hq,h3,hs,h5,t1,t2,t3,t4,lvT,lvF,hx,hfr,ht,he,hk6,hk6',purse_eq,List.range_succ]
end Go.AM.R1
