/-
  A part of the proof of TopEvicted.
-/
import Derived.Test.YtfjifcfbmhpcaaaGreatDoorV05
import Derived.Test.YtfjifcfbmhpcaaaGreatDoorV00
set_option linter.defProp false
set_option linter.unusedVariables false
set_option linter.unusedSimpArgs false
namespace Go.Proofs.YtfjifcfbmhpcaaaGreatDoor
open Go
open Go.IntKind renaming i64 → Zk
section
set_option maxRecDepth 100000
namespace Nr
set_option maxHeartbeats 100000000 in
def FA0:=by
 have h:=(yF (yF (yF (yF (λa b c d e f g R=>call_n Tryz.func3 (.sk 5 (.join 1 [(7,ti)] (rg [16,8,26,9,7,1,24,2,8,1]) (.step (.loop [(7,ti),(8,ti)] (rg [16,8,26,9,7,1,24,2,8,1]) .nil) .nil .nil) (.sk 6 (.join 1 [] (rg [79,10,91,9,11,1,100,8,12,1,108,14,13,1,122,39,4,1,89,2,10,1]) (.step (.loop [(10,ti)] (rg [79,10,91,9,11,1,100,8,12,1,108,14,13,1,122,39,4,1,89,2,10,1]) (.sk 2 (.step (.sk 2 (.draw (od [0,3,4,1,7,3,3,1,5,2,10,5]) .nil)) .nil .nil))) .nil .nil) .nil)))) [.slice a b c,.slice d e f] g R)
 (λa R=>call_n Tryz.func6 .nil [] a R))
 (yF (λa R=>call_n Tryz.func7 .nil [] a R)
 (yF (λa b c R=>call_n Tryz.func8 (.sk 4 (.draw (od [0,2,3,1,2,1,2180,0,8069,0]) .nil)) [.pointer a,.int Zk b] c R)
 (λa b c d e f g h i j R=>call_n Tryz.func9 (.sk 1 (.draw (od [0,3,4,1,3,1,5,7]) (.join 1 [] (rg [21,3,20,1,24,3,20,1,27,11,20,1,38,1]) .nil (.draw (od [0,2,3,2,2,1,5,2,25991,0,8,2,262026,0]) (.sk 4 (.join 1 [] (rg [60,12]) (.step (.draw (od [0,4,5,3,4,1,8,1,123017,0,261770,0,524171,0]) .nil) .nil .nil) (.sk 3 (.step (.loop [(82,ti)] (rg [83,3,9,1,86,12,82,1]) (.sk 2 (.step (.sk 1 (.draw (od [0,1,2,3,6,1,1,1,5,1,7,1,64520,0,130953,0,10,1,524171,0]) .nil)) .nil .nil))) .nil .nil)))))))) [.pointer a,.agg #[.int Zk b,.int Zk c,.int .u32 d,.string e,.int Zk f,.string g,.string h,.string i]] j R))))
 (yF (yF (λa b c d e f g h R=>call_n Tryz.func10 (.sk 2 (.step (.loop [(5,ti)] (rg [6,5,13,13,11,2,5,1]) .nil) .nil .nil)) [.agg #[.int Zk a,.int Zk b,.int Zk c,.slice d e f],.int Zk g] h R)
 (λa b R=>call_n Tryz.func11 .nil [.pointer a] b R))
 (yF (λa b c d e f g h R=>call_n Tryz.func12 (.sk 3 (.draw (od [5,1,7,1,0,2,3,1,6,1,8,1,642,0,3716,0,130697,0,261770,0,523915,0,1048204,0,2096781,0,4193934,0,15,2,33554193,0,18,1]) .nil)) [.agg #[.int Zk a,.int Zk b,.int Zk c,.int Zk d,.slice e f g]] h R)
 (yF (λa b c d e f g h i j R=>call_n Tryz.func15 (.sk 1 (.draw (od [1,2,128,0,3,6]) (.sk 2 (.join 2 [] (rg [21,19]) (.draw (od [0,12,13,1,12,1,14,1,8388495,0,16,2]) .nil) (.sk 5 (.step (.loop [] (rg [52,2]) .nil) .nil (.sk 1 (.step (.loop [(61,ti)] (rg [62,3,10,1,65,12,61,1]) (.sk 2 (.step (.sk 1 (.draw (od [0,1,2,3,6,1,1,1,5,1,7,1,64520,0,130953,0,10,1,524171,0]) .nil)) .nil .nil))) .nil .nil)))))))) [.pointer a,.agg #[.int Zk b,.int Zk c,.int .u32 d,.string e,.int Zk f,.string g,.string h,.string i]] j R)
 (λa b R=>call_n Tryz.func16 .nil [.pointer a] b R)))))
 (yF (yF (yF (λa b c d e f g h i j k l m n R=>call_n Tryz.func23 .nil [.agg #[.int Zk a,.int Zk b,.int Zk c,.int Zk d,.slice e f g],.agg #[.string h,.string i,.string j,.string k,.int Zk l,.int Zk m]] n R)
 (λa R=>call_n Tryz.func24 .nil [] a R))
 (yF (λa R=>call_n Tryz.func25 .nil [] a R)
 (yF (λa b c d R=>call_n Tryz.func26 .nil [.pointer a,.int Zk b,.string c] d R)
 (λa b c d e f R=>call_n Tryz.func27 .nil [.agg #[.int Zk a,.string b,.string c,.int Zk d,.int Zk e]] f R))))
 (yF (yF (λa b c d e f g h i j R=>call_n Tryz.func28 (.sk 2 (.draw (od [0,5,8069,0,6,1,32647,0]) (.sk 1 (.step (.loop [(25,ti)] (rg [26,3,7,1,30,7,29,1,37,2,8,2,39,18,10,1,57,27,25,1]) (.sk 2 (.step (.sk 1 (.draw (od [0,3,4,1,3,1,5,7]) (.sk 1 (.step (.draw (od [0,6,8198,0,32391,0,8,2,262026,0]) .nil) .nil (.draw (od [0,3,4,1,3,1,5,3,65416,0]) (.draw (od [0,3,4,1,6,1,8,1,10,1,13,1,19,1,3,1,5,1,7,1,9,1,11,2,14,5,20,6,17179869082,0]) .nil)))))) .nil .nil))) .nil .nil)))) [.pointer a,.agg #[.int Zk b,.int Zk c,.int .u32 d,.string e,.int Zk f,.string g,.string h,.string i]] j R)
 (yF (λa b c d e R=>call_n Tryz.func29 (.sk 1 (.step (.loop [(9,ti)] (rg [10,3,5,1,13,4,6,1,18,3,17,1,21,4,26,2,25,1,28,26,9,1]) (.sk 2 (.step (.sk 2 (.step (.sk 1 (.step .nil (.sk 1 (.step (.draw (od [0,4,5,1,4,1,6,1,24711,0,57480,0,9,2,524171,0]) .nil) .nil .nil)) .nil)) .nil .nil)) .nil .nil))) .nil .nil)) [.pointer a,.slice b c d] e R)
 (λa b c R=>call_n Tryz.func30 (.sk 4 (.draw (od [0,1,385,0,2,10,1048460,0,13,7,22,4,20,2,26,3]) (.sk 2 (.draw (od [0,4,5,3,9,4,4,1,8,1,13,2,8388495,0,16,1]) .nil)))) [.pointer a,.int Zk b] c R)))
 (yF (λa b R=>call_n Tryz.func31 .nil [.pointer a] b R)
 (yF (λa b R=>call_n Tryz.func32 (.sk 1 (.step (.loop [(2,tb)] (rg [4,1,15,12,3,1,27,11,5,10,2,1]) (.sk 2 (.step (.step (.loop [] (rg [15,12,3,1,27,11]) .nil) .nil .nil) .nil .nil))) .nil .nil)) [.pointer a] b R)
 (λa b R=>call_n Tryz.func33 .nil [a] b R))))))
 simp -implicitDefEqProofs (maxSteps:=100000000) only[nlB,fl_seq,fl_reg,fl_cond,fl_block,fl_loop,fl_exit,fl_ret,fl_skip,List.cons_append,List.nil_append,qf4,AE.sk,ra,rg,ro,od,ti,tb,ts,tp,tl,tm,tv,Nat.reduceAdd,Nat.reduceMod,Nat.reduceDiv,Nat.reduceBEq,Tryz.f3,Tryz.f6,Tryz.f7,Tryz.f8,Tryz.f9,Tryz.f10,Tryz.f11,Tryz.f12,Tryz.f15,Tryz.f16,Tryz.f23,Tryz.f24,Tryz.f25,Tryz.f26,Tryz.f27,Tryz.f28,Tryz.f29,Tryz.f30,Tryz.f31,Tryz.f32,Tryz.f33]at h;simp -implicitDefEqProofs (maxSteps:=100000000) only[↓n_nil0,↓n_nil1,↓n_skip0,↓n_skip1,↓n_reg0,↓n_reg1,↓n_dr,↓n_dr2,↓n_cond0,↓n_cond1,↓n_block0,↓n_block1,↓n_loop,↓n_exit0,↓n_exit1,↓n_ret0,↓n_ret1,↓n_j1,↓n_j2,↓q_t0,↓q_t1,↓q_t2,↓q_b0,↓q_b1,↓q_b2,↓q_f0,↓q_f1,↓s_0,↓s_1,↓oe_0,↓oe_1,↓oe_2,↓de_0,↓de_1,↓se_1,↓s2_1,↓ne_0,↓ne_1,↓ne_2,↓ne_3,↓nt_0,↓nt_1,↓nt_2,↓nt_3,↓nt_4,↓rb_2,↓g_0,↓g_1,↓e_c,↓e_put,↓e_puts,↓v_c,↓v_t,↓v_g,↓v_f,↓nil_s,↓k_ptr,↓k_fun,↓k_ifc,↓bif_t,↓bif_f,↓isn_s,↓isn_n,↓un_not,↓un_neg,↓un_xor,↓mf,↓b_0,↓b_1,↓d_0,↓d_1,↓al_0,↓al_1,↓wl_a,↓wp_a,↓en_1,↓x1_0,↓x2_0,↓x2_1,↓x3_0,↓x3_1,↓x3_2,↓x4_0,↓x4_1,↓x4_2,↓x4_3,↓t_0,↓t_1,↓opR,↓opX,↓opW,↓opP,↓qi7,↓qb9,↓qe8,↓q09,↓qsa,↓ixK,↓q3c,↓slK,↓qc7,↓qj3,↓q86,↓qvc,↓qa2.asT',↓qwa,↓q66,↓asR,↓asT,↓as0,↓exR,↓qta,↓exT,↓exL,↓ex0,↓alT,↓alL,↓al0,↓ld0,↓ldL,↓st0,↓stL,↓exO,a_0,a_1,decide_true,decide_false,cl_a,cl_i,cl_b,cl_s,cl_p,cl_l,cl_m,cl_f,gs,kd,Two.kd,qn4,tup,qqc,qo5,q72,tys,q49,q68,q96,List.cons_append,List.nil_append,List.append_nil,Option.getD,Nat.reduceAdd,undef,Int.cast_ofNat_Int,rep,↓T0,↓T1,↓T2,↓T3,↓T4,↓T5,↓T6,↓T7,↓T8,↓T9,↓T10,↓T11,↓T12]at h;exact h
end Nr
def F6_of{a R}:=Nr.FA0.1.1.1.2 a R
def F7_of{a R}:=Nr.FA0.1.1.2.1 a R
def F8_of{a b c R}:=Nr.FA0.1.1.2.2.1 a b c R
def F9_of{a b c d e f g h i j R}:=Nr.FA0.1.1.2.2.2 a b c d e f g h i j R
def F11_of{a b R}:=Nr.FA0.1.2.1.2 a b R
def F12_of{a b c d e f g h R}:=Nr.FA0.1.2.2.1 a b c d e f g h R
def F15_of{a b c d e f g h i j R}:=Nr.FA0.1.2.2.2.1 a b c d e f g h i j R
def F16_of{a b R}:=Nr.FA0.1.2.2.2.2 a b R
def F23_of{a b c d e f g h i j k l m n R}:=Nr.FA0.2.1.1.1 a b c d e f g h i j k l m n R
def F24_of{a R}:=Nr.FA0.2.1.1.2 a R
def F25_of{a R}:=Nr.FA0.2.1.2.1 a R
def F26_of{a b c d R}:=Nr.FA0.2.1.2.2.1 a b c d R
def F27_of{a b c d e f R}:=Nr.FA0.2.1.2.2.2 a b c d e f R
def F28_of{a b c d e f g h i j R}:=Nr.FA0.2.2.1.1 a b c d e f g h i j R
def F29_of{a b c d e R}:=Nr.FA0.2.2.1.2.1 a b c d e R
def F30_of{a b c R}:=Nr.FA0.2.2.1.2.2 a b c R
def F31_of{a b R}:=Nr.FA0.2.2.2.1 a b R
def F32_of{a b R}:=Nr.FA0.2.2.2.2.1 a b R
def F33_of{a b R}:=Nr.FA0.2.2.2.2.2 a b R
end
end Go.Proofs.YtfjifcfbmhpcaaaGreatDoor
