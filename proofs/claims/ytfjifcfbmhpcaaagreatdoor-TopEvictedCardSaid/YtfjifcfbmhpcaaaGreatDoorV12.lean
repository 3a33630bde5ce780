/-
  A part of the proof of TopEvicted.
-/
import Derived.Test.YtfjifcfbmhpcaaaGreatDoorV05
import Derived.Test.YtfjifcfbmhpcaaaGreatDoorV00
set_option linter.defProp false
set_option linter.unusedVariables false
set_option linter.unusedSimpArgs false
namespace Go.Proofs.YtfjifcfbmhpcaaaGreatDoor
open Go
open Go.IntKind renaming i64 → Zk
open _root_.Option renaming some->A0
section
set_option maxRecDepth 100000
namespace Nr
set_option maxHeartbeats 100000000 in
def FA6:=by
 have h:=(yF (yF (yF (yF (yF (λa b c d e f g h i R=>call_n Tryz.func359 (.sk 1 (.draw (od [0,13,18,1,13,4,19,1,33554321,0,20,3]) .nil)) [.agg #[.string a,.string b,.int Zk c,.int Zk d,.int Zk e,.bool f],.pointer (A0 g),.pointer (A0 h)] i R)
 (λa b c d e R=>call_n Tryz.func360 .nil [.slice a b c,d] e R))
 (yF (λa b c d R=>call_n Tryz.func362 (.sk 1 (.join 1 [] (rg [8,2,7,1,10,2,7,1,12,3,7,1,6,1,16,3,15,1,19,3,15,1,6,1]) (.step (.sk 1 (.join 1 [(7,tb)] (rg [10,2,7,1,12,3,7,1]) .nil .nil)) .nil .nil) (.draw (od [0,3,4,4,9,5,3,1,8,1,130958,0,15,1,13500304,0,30408593,0,18,1,134217619,0]) .nil))) [.pointer a,.int Zk b,.int Zk c] d R)
 (λa b R=>call_n Tryz.func363 (.sk 3 (.step (.loop [(8,ti)] (rg [9,2,4,1,11,9,8,1]) (.sk 2 (.step (.sk 1 (.draw (od [0,3,4,2,1155,0,6,2,65416,0]) .nil)) .nil .nil))) .nil .nil)) [.int Zk a] b R)))
 (yF (yF (λa b c d R=>call_n Tryz.func368 (.sk 4 (.step (.loop [(5,ti)] (rg [18,3,23,6,21,2,5,1]) (.sk 2 (.step (.draw (od [1,3,0,1,3716,0,8069,0,16262,0]) .nil) .nil .nil))) .nil (.sk 1 (.draw (od [0,4,3972,0,5,1]) (.sk 3 (.join 1 [(8,ti)] (rg [8,1]) .nil (.sk 1 (.step (.loop [(40,ti)] (rg [41,2,9,1,43,14,40,1]) .nil) .nil (.sk 1 (.step (.loop [(10,ti)] (rg [57,3,62,5,60,2,10,1]) (.sk 2 (.step (.draw (od [1,2,0,1,1667,0,3972,0,8069,0]) .nil) .nil .nil))) .nil (.sk 2 (.step (.loop [(67,ti)] (rg [68,2,12,1,70,13,67,1]) .nil) .nil .nil)))))))))))) [.slice a b c] d R)
 (λa b c d e f g h i R=>call_n Tryz.func380 (.sk 1 (.draw (od [0,10,11,1,10,1,12,3,8388495,0]) .nil)) [.agg #[.string a,.string b,.int Zk c],.pointer (A0 d),.pointer (A0 e),.pointer (A0 f),.pointer (A0 g),.pointer (A0 h)] i R))
 (yF (λa b c d e f g h R=>call_n Tryz.func381 .nil [.agg #[.string a,.string b,.int Zk c],.pointer (A0 d),.pointer (A0 e),.pointer (A0 f),.pointer (A0 g)] h R)
 (λa b c d R=>call_n Tryz.func382 .nil [.pointer a,.string b,.int .u32 c] d R))))
 (yF (yF (yF (λa b c R=>call_n Tryz.func383 .nil [.pointer a,.int Zk b] c R)
 (λa b c d R=>call_n Tryz.func384 (.sk 6 (.draw (od [0,3,4,4,9,1,11,1,3,1,8,1,10,1,524300,0,2089101,0,4194190,0]) .nil)) [.pointer a,.string b,.int Zk c] d R))
 (yF (λa b c d e f g R=>call_n Tryz.func385 .nil [.pointer a,.string b,.string c,.int Zk d,.int Zk e,f] g R)
 (λa b c d e f R=>call_n Tryz.func386 (.draw (od [0,11,524171,0]) .nil) [.pointer a,.pointer (A0 b),.pointer (A0 c),.pointer (A0 d),.pointer (A0 e)] f R)))
 (yF (yF (λa b c d R=>call_n Tryz.func387 (.draw (od [0,7,32647,0]) .nil) [.pointer a,.pointer (A0 b),.pointer (A0 c)] d R)
 (λa b c d e R=>call_n Tryz.func388 (.sk 2 (.step (.loop [(8,ti)] (rg [9,2,5,1,11,7,4,1,18,1,8,1]) .nil) .nil .nil)) [.slice a b c,d] e R))
 (yF (λa b c d e f g R=>call_n Tryz.func389 .nil [.agg #[.int Zk a,.string b,.string c,.int Zk d,.string e],.pointer (A0 f)] g R)
 (λa b c R=>call_n Tryz.func390 .nil [.pointer a,.int Zk b] c R)))))
 (yF (yF (yF (yF (λa R=>call_n Tryz.func392 .nil [] a R)
 (λa b c R=>call_n Tryz.func393 (.sk 1 (.draw (od [0,1,129,0,2,2,3972,0,8069,0]) (.sk 1 (.step (.loop [(17,ti)] (rg [18,2,7,1,20,8,8,4,28,25,12,1,53,13,13,1,66,13,17,1]) (.sk 2 (.step (.sk 1 (.draw (od [0,1,2,1,4,1,6,1,1,1,8,1,3,1,9,1,5,1,10,1,7,1,11,1]) (.draw (od [0,1,2,2,6,1,8,2,11,1,17,2,21,2,1,1,7,1,10,1,12,4,19,1,23,1,3204,0,5,1,16,1,20,1,24,2]) (.sk 1 (.draw (od [0,2,898,0]) .nil))))) .nil .nil))) .nil (.sk 1 (.step (.loop [(79,ti)] (rg [80,2,14,1,82,9,79,1]) (.sk 2 (.step (.sk 1 (.draw (od [0,2,3,2,2,1,5,3,65416,0]) .nil)) .nil .nil))) .nil .nil)))))) [.agg a,.agg b] c R))
 (yF (λa b c d R=>call_n Tryz.func394 (.sk 3 (.step (.loop [(10,ti)] (rg [11,4,4,2,15,12,10,1]) .nil) .nil (.sk 1 (.step (.loop [(6,ti)] (rg [27,2,31,25,29,2,6,1]) (.sk 2 (.step (.draw (od [0,4,5,1,7,3,12,3,16,1,19,3,4,1,10,1,15,1,22,1,16006,0,11,1,32538257,0,18,1,23,2,8589934489,0]) .nil) .nil .nil))) .nil .nil)))) [.slice a b c] d R)
 (λa b c d R=>call_n Tryz.func398 .nil [.agg #[.int .u32 a,.int Zk b],.pointer (A0 c)] d R)))
 (yF (yF (λa b c d R=>call_n Tryz.func399 (.sk 1 (.draw (od [0,1,385,0,2,3,8,1,5,1,9,1,14214,0,7,1,10,3]) .nil)) [.agg #[.int .u32 a,.int Zk b],.int .u32 c] d R)
 (λa b c d R=>call_n Tryz.func400 .nil [.pointer a,.int Zk b,c] d R))
 (yF (λc1 w R=>call_n Tryz.func401 .nil [.pointer c1] w R)
 (λa b R=>call_n Tryz.func402 (.sk 3 (.step (.loop [(3,ti)] (rg [11,4,5,1,15,4,3,1]) .nil) .nil .nil)) [.pointer a] b R))))
 (yF (yF (yF (λa R=>call_n Tryz.func403 .nil [] a R)
 (λa b c d R=>call_n Tryz.func404 (.sk 3 (.join 1 [(7,(.b (.int .u32)))] (rg [14,4,7,1]) .nil (.draw (od [0,2,5,2,11,1,2,2,7,2,3972,0,130953,0,10,1,12,2]) .nil))) [.int .u32 a,.agg b,.bool c] d R))
 (yF (λa b c R=>call_n Tryz.func406 .nil [.int .u32 a,.int Zk b] c R)
 (λa b c d R=>call_n Tryz.func429 .nil [.slice a b c] d R)))
 (yF (yF (λa b c d e f R=>call_n Tryz.func430 (.sk 1 (.draw (od [0,3,7,3,3,4,10,5]) (.step (.draw (od [0,3,7,3,3,4,10,6]) .nil) .nil (.draw (od [0,3,7,3,3,4,10,6]) .nil)))) [.slice a b c,.int Zk d,.int Zk e] f R)
 (λa b c d e f R=>call_n Tryz.func431 (.draw (od [0,7,8,3,7,1,11,2,2093965,0,14,1,8388495,0]) (.draw (od [0,3,4,3,8,2,3,1,7,1,10,2,917388,0,13,2,8388495,0]) .nil)) [.slice a b c,.int Zk d,.int Zk e] f R))
 (yF (λa b R=>call_n Tryz.func432 .nil [.pointer a] b R)
 (λa b c R=>call_n Tryz.func433 .nil [.pointer a,b] c R))))))
 simp -implicitDefEqProofs (maxSteps:=100000000) only[nlB,fl_seq,fl_reg,fl_cond,fl_block,fl_loop,fl_exit,fl_ret,fl_skip,List.cons_append,List.nil_append,qf4,AE.sk,ra,rg,ro,od,ti,tb,ts,tp,tl,tm,tv,Nat.reduceAdd,Nat.reduceMod,Nat.reduceDiv,Nat.reduceBEq,Tryz.f359,Tryz.f360,Tryz.f362,Tryz.f363,Tryz.f368,Tryz.f380,Tryz.f381,Tryz.f382,Tryz.f383,Tryz.f384,Tryz.f385,Tryz.f386,Tryz.f387,Tryz.f388,Tryz.f389,Tryz.f390,Tryz.f392,Tryz.f393,Tryz.f394,Tryz.f398,Tryz.f399,Tryz.f400,Tryz.f401,Tryz.f402,Tryz.f403,Tryz.f404,Tryz.f406,Tryz.f429,Tryz.f430,Tryz.f431,Tryz.f432,Tryz.f433]at h;simp -implicitDefEqProofs (maxSteps:=100000000) only[↓n_nil0,↓n_nil1,↓n_skip0,↓n_skip1,↓n_reg0,↓n_reg1,↓n_dr,↓n_dr2,↓n_cond0,↓n_cond1,↓n_block0,↓n_block1,↓n_loop,↓n_exit0,↓n_exit1,↓n_ret0,↓n_ret1,↓n_j1,↓n_j2,↓q_t0,↓q_t1,↓q_t2,↓q_b0,↓q_b1,↓q_b2,↓q_f0,↓q_f1,↓s_0,↓s_1,↓oe_0,↓oe_1,↓oe_2,↓de_0,↓de_1,↓se_1,↓s2_1,↓ne_0,↓ne_1,↓ne_2,↓ne_3,↓nt_0,↓nt_1,↓nt_2,↓nt_3,↓nt_4,↓rb_2,↓g_0,↓g_1,↓e_c,↓e_put,↓e_puts,↓v_c,↓v_t,↓v_g,↓v_f,↓nil_s,↓k_ptr,↓k_fun,↓k_ifc,↓bif_t,↓bif_f,↓isn_s,↓isn_n,↓un_not,↓un_neg,↓un_xor,↓mf,↓b_0,↓b_1,↓d_0,↓d_1,↓al_0,↓al_1,↓wl_a,↓wp_a,↓en_1,↓x1_0,↓x2_0,↓x2_1,↓x3_0,↓x3_1,↓x3_2,↓x4_0,↓x4_1,↓x4_2,↓x4_3,↓t_0,↓t_1,↓opR,↓opX,↓opW,↓opP,↓qi7,↓qb9,↓qe8,↓q09,↓qsa,↓ixK,↓q3c,↓slK,↓qc7,↓qj3,↓q86,↓qvc,↓qa2.asT',↓qwa,↓q66,↓asR,↓asT,↓as0,↓exR,↓qta,↓exT,↓exL,↓ex0,↓alT,↓alL,↓al0,↓ld0,↓ldL,↓st0,↓stL,↓exO,a_0,a_1,decide_true,decide_false,cl_a,cl_i,cl_b,cl_s,cl_p,cl_l,cl_m,cl_f,gs,kd,Two.kd,qn4,tup,qqc,qo5,q72,tys,q49,q68,q96,List.cons_append,List.nil_append,List.append_nil,Option.getD,Nat.reduceAdd,undef,Int.cast_ofNat_Int,rep,↓T0,↓T1,↓T2,↓T3,↓T4,↓T5,↓T6,↓T7,↓T8,↓T9,↓T10,↓T11,↓T12]at h;exact h
end Nr
def F359_of{a b c d e f g h i R}:=Nr.FA6.1.1.1.1.1 a b c d e f g h i R
def F360_of{a b c d e R}:=Nr.FA6.1.1.1.1.2 a b c d e R
def F362_of{a b c d R}:=Nr.FA6.1.1.1.2.1 a b c d R
def F363_of{a b R}:=Nr.FA6.1.1.1.2.2 a b R
def F368_of{a b c d R}:=Nr.FA6.1.1.2.1.1 a b c d R
def F380_of{a b c d e f g h i R}:=Nr.FA6.1.1.2.1.2 a b c d e f g h i R
def F381_of{a b c d e f g h R}:=Nr.FA6.1.1.2.2.1 a b c d e f g h R
def F382_of{a b c d R}:=Nr.FA6.1.1.2.2.2 a b c d R
def F383_of{a b c R}:=Nr.FA6.1.2.1.1.1 a b c R
def F384_of{a b c d R}:=Nr.FA6.1.2.1.1.2 a b c d R
def F385_of{a b c d e f g R}:=Nr.FA6.1.2.1.2.1 a b c d e f g R
def F386_of{a b c d e f R}:=Nr.FA6.1.2.1.2.2 a b c d e f R
def F387_of{a b c d R}:=Nr.FA6.1.2.2.1.1 a b c d R
def F388_of{a b c d e R}:=Nr.FA6.1.2.2.1.2 a b c d e R
def F389_of{a b c d e f g R}:=Nr.FA6.1.2.2.2.1 a b c d e f g R
def F390_of{a b c R}:=Nr.FA6.1.2.2.2.2 a b c R
def F392_of{a R}:=Nr.FA6.2.1.1.1.1 a R
def F393_of{a b c R}:=Nr.FA6.2.1.1.1.2 a b c R
def F394_of{a b c d R}:=Nr.FA6.2.1.1.2.1 a b c d R
def F398_of{a b c d R}:=Nr.FA6.2.1.1.2.2 a b c d R
def F399_of{a b c d R}:=Nr.FA6.2.1.2.1.1 a b c d R
def F400_of{a b c d R}:=Nr.FA6.2.1.2.1.2 a b c d R
def F401_of{c1 h R}:=Nr.FA6.2.1.2.2.1 c1 h R
def F402_of{a b R}:=Nr.FA6.2.1.2.2.2 a b R
def F403_of{a R}:=Nr.FA6.2.2.1.1.1 a R
def F404_of{a b c d R}:=Nr.FA6.2.2.1.1.2 a b c d R
def F406_of{a b c R}:=Nr.FA6.2.2.1.2.1 a b c R
def F429_of{a b c d R}:=Nr.FA6.2.2.1.2.2 a b c d R
def F430_of{a b c d e f R}:=Nr.FA6.2.2.2.1.1 a b c d e f R
def F431_of{a b c d e f R}:=Nr.FA6.2.2.2.1.2 a b c d e f R
def F432_of{a b R}:=Nr.FA6.2.2.2.2.1 a b R
def F433_of{a b c R}:=Nr.FA6.2.2.2.2.2 a b c R
end
end Go.Proofs.YtfjifcfbmhpcaaaGreatDoor
