/-
  A part of the proof of TopEvicted.
-/
import Derived.Test.YtfjifcfbmhpcaaaGreatDoorV05
import Derived.Test.YtfjifcfbmhpcaaaGreatDoorV00
set_option linter.defProp false
set_option linter.unusedVariables false
set_option linter.unusedSimpArgs false
namespace Go.Proofs.YtfjifcfbmhpcaaaGreatDoor
open Go
open Go.IntKind renaming i64 → Zk
section
set_option maxRecDepth 100000
namespace Nr
set_option maxHeartbeats 100000000 in
def FA5:=by
 have h:=(yF (yF (yF (yF (λa b c d R=>call_n Tryz.func293 (.sk 3 (.step (.loop [(12,ti)] (rg [13,4,4,2,17,16,12,1]) (.sk 2 (.step (.sk 1 (.draw (od [0,14,2328462,0,15,1,16777104,0]) .nil)) .nil .nil))) .nil .nil)) [.slice a b c] d R)
 (yF (λa b c d e R=>call_n Tryz.func302 (.sk 2 (.step (.loop [(8,ti)] (rg [9,2,5,1,11,7,4,1,18,1,8,1]) .nil) .nil .nil)) [.slice a b c,d] e R)
 (λa b R=>call_n Tryz.func303 .nil [.int .u8 a] b R)))
 (yF (λa b c R=>call_n Tryz.func309 .nil [.pointer a,.int .u8 b] c R)
 (yF (λa b c d e f g R=>call_n Tryz.func313 .nil [.pointer a,.string b,.string c,.string d,.string e,.int Zk f] g R)
 (λa b c d e R=>call_n Tryz.func314 (.sk 3 (.draw (od [0,5,6,1,8,2,5,1,7,1,10,4,4194190,0]) (.draw (od [0,5,6,4,5,1,10,1,507915,0,1048460,0]) (.draw (od [0,3,4,4,9,2,12,1,15,1,3,1,8,1,11,1,13,2,16777104,0,17,5]) .nil)))) [.pointer a,.pointer b,.string c,.string d] e R))))
 (yF (yF (λa b c d e f g h i R=>call_n Tryz.func315 (.sk 3 (.draw (od [0,3,5,2,3,2,32647,0,65416,0,9,1]) .nil)) [.pointer a,.agg #[.int Zk b,.string c,.string d,.int Zk e,.int Zk f],.int Zk g,.string h] i R)
 (yF (λa b R=>call_n Tryz.func316 .nil [.pointer a] b R)
 (λa b c d e f g h R=>call_n Tryz.func317 (.sk 1 (.draw (od [0,3,4,4,3,1,8,1,130953,0,10,1]) (.sk 2 (.draw (od [0,3,4,4,9,1,11,4,16,3,21,1,3,1,8,1,10,1,15,1,19,1,22,1,251658388,0,2147483543,0,24,4,51539607452,0,29,1]) (.sk 1 (.step (.draw (od [0,3,4,4,3,1,8,1,130953,0]) .nil) .nil .nil)))))) [.pointer a,.pointer b,.agg #[.int Zk c,.string d,.string e,.int Zk f,.int Zk g]] h R)))
 (yF (λa b c d e f g h R=>call_n Tryz.func318 (.sk 1 (.draw (od [0,3,4,4,9,1,11,1,13,3,18,1,3,1,8,1,10,1,12,1,16,1,19,1,31457425,0,268435348,0,21,4,6442450841,0,26,1]) .nil)) [.pointer a,.pointer b,.agg #[.int Zk c,.string d,.string e,.int Zk f,.int Zk g]] h R)
 (yF (λa b c d e f g h R=>call_n Tryz.func319 (.sk 1 (.draw (od [0,3,4,1,6,3,3,1,5,1,9,1,245898,0,524171,0,12,4,12582800,0,17,1]) (.draw (od [0,3,4,4,9,1,11,1,13,3,3,1,8,1,10,1,12,1,16,1,31457425,0,67108754,0,19,1]) .nil))) [.pointer a,.pointer b,.agg #[.int Zk c,.string d,.string e,.int Zk f,.int Zk g]] h R)
 (λa b c d e f g h R=>call_n Tryz.func320 .nil [.pointer a,.pointer b,.agg #[.int Zk c,.string d,.string e,.int Zk f,.int Zk g]] h R)))))
 (yF (yF (yF (λa b c d e f g h i j k R=>call_n Tryz.func322 .nil [.agg #[.string a,.int Zk b,.int Zk c,.slice d e f,.slice g h i],.pointer (some j)] k R)
 (yF (λa b c d e R=>call_n Tryz.func323 .nil [.agg #[.string a,.string b,.int Zk c],.pointer (some d)] e R)
 (λa b c d e f R=>call_n Tryz.func334 (.sk 2 (.step (.loop [(8,ti)] (rg [9,2,7,1,11,7,8,1]) .nil) .nil .nil)) [.agg a,.int .u8 b,.slice c d e] f R)))
 (yF (λa b c d R=>call_n Tryz.func335 .nil [.slice a b c] d R)
 (yF (λa b c d e R=>call_n Tryz.func348 .nil [.pointer a,.string b,.string c,.int Zk d] e R)
 (λa b c d e R=>call_n Tryz.func349 .nil [.pointer a,.string b,.string c,.string d] e R))))
 (yF (yF (λa b c d e f g R=>call_n Tryz.func350 (.sk 5 (.step (.loop [(5,(.b (.int .u8))),(14,ti)] (rg [15,2,6,1,17,11,5,1,28,1,14,1]) (.sk 2 (.step (.sk 1 (.draw (od [0,4,5,3,4,1,8,4]) .nil)) .nil .nil))) .nil .nil)) [.slice a b c,.slice d e f] g R)
 (yF (λa b c d R=>call_n Tryz.func351 (.sk 1 (.draw (od [0,3,4,4,3,1,8,1,123017,0,262026,0,11,4,6291343,0,16,1]) (.sk 2 (.draw (od [0,3,4,1,6,3,10,1,3,1,5,1,9,1,508043,0,1048460,0,13,1]) (.sk 2 (.draw (od [0,3,4,1,3,1,5,1,16262,0,7,1]) (.sk 4 (.step (.draw (od [0,3,4,1,3,1,5,1,16262,0]) .nil) .nil .nil)))))))) [.pointer a,.int Zk b,.string c] d R)
 (λa b c d e f g R=>call_n Tryz.func352 (.sk 3 (.draw (od [0,3,4,3,9,5,3,1,7,1,61576,0,4190222,0,8388495,0,16,2]) (.draw (od [0,4,6,1,4,2,7,1,57352,0,130697,0,10,2,1048460,0]) .nil))) [.pointer a,.agg #[.int Zk b,.string c,.string d,.int Zk e],.string f] g R)))
 (yF (yF (λa b c d R=>call_n Tryz.func353 (.sk 2 (.step (.sk 1 (.step .nil (.sk 1 (.step .nil (.draw (od [0,5,6,5,5,1,11,3]) .nil) .nil)) .nil)) .nil (.draw (od [0,5,7,2,5,2,9,1,262026,0]) .nil))) [.pointer a,.string b,.int Zk c] d R)
 (λa b c d e f g R=>call_n Tryz.func354 (.sk 4 (.join 1 [] (rg [43,10,42,1,53,1,13,1,55,2,54,1,57,1,13,1,59,10,58,1,69,1,13,1]) .nil (.sk 1 (.draw (od [0,6,7,5,6,1,12,4,16776976,0,17,1]) .nil)))) [.pointer a,.string b,.string c,.int Zk d,.int Zk e,.int Zk f] g R))
 (yF (λa b c d e f g h i j R=>call_n Tryz.func355 (.sk 3 (.draw (od [0,5,6,1,8,1,10,1,5,1,7,1,9,1,11,2,2097037,0]) .nil)) [.pointer a,.pointer b,.agg #[.string c,.string d,.int Zk e,.int Zk f,.int Zk g,.bool h],.int Zk i] j R)
 (λa b c d R=>call_n Tryz.func357 .nil [.pointer a,.string b,.int Zk c] d R))))))
 simp -implicitDefEqProofs (maxSteps:=100000000) only[nlB,fl_seq,fl_reg,fl_cond,fl_block,fl_loop,fl_exit,fl_ret,fl_skip,List.cons_append,List.nil_append,qf4,AE.sk,ra,rg,ro,od,ti,tb,ts,tp,tl,tm,tv,Nat.reduceAdd,Nat.reduceMod,Nat.reduceDiv,Nat.reduceBEq,Tryz.f293,Tryz.f302,Tryz.f303,Tryz.f309,Tryz.f313,Tryz.f314,Tryz.f315,Tryz.f316,Tryz.f317,Tryz.f318,Tryz.f319,Tryz.f320,Tryz.f322,Tryz.f323,Tryz.f334,Tryz.f335,Tryz.f348,Tryz.f349,Tryz.f350,Tryz.f351,Tryz.f352,Tryz.f353,Tryz.f354,Tryz.f355,Tryz.f357]at h;simp -implicitDefEqProofs (maxSteps:=100000000) only[↓n_nil0,↓n_nil1,↓n_skip0,↓n_skip1,↓n_reg0,↓n_reg1,↓n_dr,↓n_dr2,↓n_cond0,↓n_cond1,↓n_block0,↓n_block1,↓n_loop,↓n_exit0,↓n_exit1,↓n_ret0,↓n_ret1,↓n_j1,↓n_j2,↓q_t0,↓q_t1,↓q_t2,↓q_b0,↓q_b1,↓q_b2,↓q_f0,↓q_f1,↓s_0,↓s_1,↓oe_0,↓oe_1,↓oe_2,↓de_0,↓de_1,↓se_1,↓s2_1,↓ne_0,↓ne_1,↓ne_2,↓ne_3,↓nt_0,↓nt_1,↓nt_2,↓nt_3,↓nt_4,↓rb_2,↓g_0,↓g_1,↓e_c,↓e_put,↓e_puts,↓v_c,↓v_t,↓v_g,↓v_f,↓nil_s,↓k_ptr,↓k_fun,↓k_ifc,↓bif_t,↓bif_f,↓isn_s,↓isn_n,↓un_not,↓un_neg,↓un_xor,↓mf,↓b_0,↓b_1,↓d_0,↓d_1,↓al_0,↓al_1,↓wl_a,↓wp_a,↓en_1,↓x1_0,↓x2_0,↓x2_1,↓x3_0,↓x3_1,↓x3_2,↓x4_0,↓x4_1,↓x4_2,↓x4_3,↓t_0,↓t_1,↓opR,↓opX,↓opW,↓opP,↓qi7,↓qb9,↓qe8,↓q09,↓qsa,↓ixK,↓q3c,↓slK,↓qc7,↓qj3,↓q86,↓qvc,↓qa2.asT',↓qwa,↓q66,↓asR,↓asT,↓as0,↓exR,↓qta,↓exT,↓exL,↓ex0,↓alT,↓alL,↓al0,↓ld0,↓ldL,↓st0,↓stL,↓exO,a_0,a_1,decide_true,decide_false,cl_a,cl_i,cl_b,cl_s,cl_p,cl_l,cl_m,cl_f,gs,kd,Two.kd,qn4,tup,qqc,qo5,q72,tys,q49,q68,q96,List.cons_append,List.nil_append,List.append_nil,Option.getD,Nat.reduceAdd,undef,Int.cast_ofNat_Int,rep,↓T0,↓T1,↓T2,↓T3,↓T4,↓T5,↓T6,↓T7,↓T8,↓T9,↓T10,↓T11,↓T12]at h;exact h
end Nr
def F293_of{a b c d R}:=Nr.FA5.1.1.1.1 a b c d R
def F302_of{a b c d e R}:=Nr.FA5.1.1.1.2.1 a b c d e R
def F303_of{a b R}:=Nr.FA5.1.1.1.2.2 a b R
def F309_of{a b c R}:=Nr.FA5.1.1.2.1 a b c R
def F313_of{a b c d e f g R}:=Nr.FA5.1.1.2.2.1 a b c d e f g R
def F314_of{a b c d e R}:=Nr.FA5.1.1.2.2.2 a b c d e R
def F315_of{a b c d e f g h i R}:=Nr.FA5.1.2.1.1 a b c d e f g h i R
def F316_of{a b R}:=Nr.FA5.1.2.1.2.1 a b R
def F317_of{a b c d e f g h R}:=Nr.FA5.1.2.1.2.2 a b c d e f g h R
def F318_of{a b c d e f g h R}:=Nr.FA5.1.2.2.1 a b c d e f g h R
def F319_of{a b c d e f g h R}:=Nr.FA5.1.2.2.2.1 a b c d e f g h R
def F320_of{a b c d e f g h R}:=Nr.FA5.1.2.2.2.2 a b c d e f g h R
def F322_of{a b c d e f g h i j k R}:=Nr.FA5.2.1.1.1 a b c d e f g h i j k R
def F323_of{a b c d e R}:=Nr.FA5.2.1.1.2.1 a b c d e R
def F334_of{a b c d e f R}:=Nr.FA5.2.1.1.2.2 a b c d e f R
def F335_of{a b c d R}:=Nr.FA5.2.1.2.1 a b c d R
def F348_of{a b c d e R}:=Nr.FA5.2.1.2.2.1 a b c d e R
def F349_of{a b c d e R}:=Nr.FA5.2.1.2.2.2 a b c d e R
def F350_of{a b c d e f g R}:=Nr.FA5.2.2.1.1 a b c d e f g R
def F351_of{a b c d R}:=Nr.FA5.2.2.1.2.1 a b c d R
def F352_of{a b c d e f g R}:=Nr.FA5.2.2.1.2.2 a b c d e f g R
def F353_of{a b c d R}:=Nr.FA5.2.2.2.1.1 a b c d R
def F354_of{a b c d e f g R}:=Nr.FA5.2.2.2.1.2 a b c d e f g R
def F355_of{a b c d e f g h i j R}:=Nr.FA5.2.2.2.2.1 a b c d e f g h i j R
def F357_of{a b c d R}:=Nr.FA5.2.2.2.2.2 a b c d R
end
end Go.Proofs.YtfjifcfbmhpcaaaGreatDoor
