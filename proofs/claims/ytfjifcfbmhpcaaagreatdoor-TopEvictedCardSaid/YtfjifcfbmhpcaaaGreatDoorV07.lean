/-
  A part of the proof of TopEvicted.
-/
import Derived.Test.YtfjifcfbmhpcaaaGreatDoorV05
import Derived.Test.YtfjifcfbmhpcaaaGreatDoorV00
set_option linter.defProp false
set_option linter.unusedVariables false
set_option linter.unusedSimpArgs false
namespace Go.Proofs.YtfjifcfbmhpcaaaGreatDoor
open Go
open Go.IntKind renaming i64 → Zk
section
set_option maxRecDepth 100000
namespace Nr
set_option maxHeartbeats 100000000 in
def FA1:=by
 have h:=(yF (yF (yF (yF (yF (λa b R=>call_n Tryz.func34 .nil [.map a] b R)
 (λa b c d e f g h R=>call_n Tryz.func35 (.sk 2 (.step (.loop [(15,ti)] (rg [16,3,4,1,19,3,2,1,22,1,15,1]) .nil) .nil .nil)) [.agg #[.int Zk a,.int Zk b,.int Zk c,.int Zk d,.slice e f g]] h R))
 (yF (λa b c d e f g h R=>call_n Tryz.func36 .nil [.agg #[.int Zk a,.int Zk b,.int Zk c,.int Zk d,.slice e f g]] h R)
 (yF (λa b c R=>call_n Tryz.func38 .nil [.int Zk a,.int Zk b] c R)
 (λa R=>call_n Tryz.func39 .nil [] a R))))
 (yF (yF (λa b R=>call_n Tryz.func40 .nil [.string a] b R)
 (yF (λa R=>call_n Tryz.func41 .nil [] a R)
 (λa R=>call_n Tryz.func42 .nil [] a R)))
 (yF (λa R=>call_n Tryz.func43 .nil [] a R)
 (yF (λa R=>call_n Tryz.func44 .nil [] a R)
 (λa b c R=>call_n Tryz.func45 .nil [.pointer a,.int Zk b] c R)))))
 (yF (yF (yF (λa b R=>call_n Tryz.func46 (.sk 4 (.step (.loop [(3,tb),(20,ti)] (rg [21,3,6,1,24,14,7,2,38,7,3,1,45,7,3,1,52,1,20,1]) (.sk 2 (.step (.sk 1 (.draw (od [0,3,4,1,7,3,11,1,3,1,5,2,14,1,10,1,12,2,15,1]) (.join 1 [(3,tb)] (rg [38,7,3,1]) .nil .nil))) .nil .nil))) .nil (.sk 1 (.step (.loop [(3,tb),(59,ti)] (rg [60,3,10,1,63,11,3,1,74,1,59,1]) .nil) .nil (.sk 1 (.step (.loop [(3,tb),(77,ti)] (rg [78,3,12,1,81,26,3,1,107,1,77,1]) (.sk 2 (.step (.sk 1 (.draw (od [0,3,4,1,3,1,5,9,15,1,14,1,16,6]) .nil)) .nil .nil))) .nil .nil)))))) [.pointer a] b R)
 (yF (λa b R=>call_n Tryz.func47 (.sk 3 (.step (.loop [(3,tl)] (rg [11,5,5,1,4,1,16,9,3,1]) .nil) .nil .nil)) [.pointer a] b R)
 (λa b R=>call_n Tryz.func48 .nil [.pointer a] b R)))
 (yF (λa b c R=>call_n Tryz.func49 .nil [.pointer a,.string b] c R)
 (yF (λa b R=>call_n Tryz.func50 .nil [.pointer a] b R)
 (λa b c d e f g R=>call_n Tryz.func51 .nil [.agg #[.string a,.string b,.string c,.string d,.int Zk e,.int Zk f]] g R))))
 (yF (yF (λa b R=>call_n Tryz.func52 .nil [.pointer a] b R)
 (yF (λa b c d R=>call_n Tryz.func53 .nil [.slice a b c] d R)
 (λa b c d e f R=>call_n Tryz.func54 (.sk 4 (.draw (od [0,1,3,1,6,1,9,1,1,1,4,1,7,1,10,1,898,0,8069,0,65416,0,524171,0,1048332,0,13,1]) (.sk 1 (.step (.loop [(3,tl),(29,ti)] (rg [30,4,5,2,34,10,3,1,44,1,29,1]) .nil) .nil .nil)))) [.agg #[.int Zk a,.string b,.string c,.int Zk d,.int Zk e]] f R)))
 (yF (λa b c R=>call_n Tryz.func55 (.sk 2 (.step (.loop [] (rg [12,4,6,1,16,7,4,1]) .nil) .nil .nil)) [.pointer a,.int Zk b] c R)
 (yF (λa b c R=>call_n Tryz.func56 (.sk 3 (.draw (od [0,3,4,1,6,2,3,1,5,1,8,2,245770,0,524171,0]) .nil)) [.pointer a,.int Zk b] c R)
 (λa b c R=>call_n Tryz.func57 .nil [.pointer a,.int Zk b] c R))))))
 (yF (yF (yF (yF (λa b R=>call_n Tryz.func58 .nil [.int Zk a] b R)
 (yF (λa b c d e f g R=>call_n Tryz.func59 .nil [.int Zk a,.agg #[.int Zk b,.string c,.string d,.int Zk e,.int Zk f]] g R)
 (λa b R=>call_n Tryz.func60 .nil [.pointer a] b R)))
 (yF (λa b R=>call_n Tryz.func61 .nil [.pointer a] b R)
 (yF (λa b R=>call_n Tryz.func63 .nil [a] b R)
 (λa b c R=>call_n Tryz.func65 (.sk 1 (.step (.loop [] (rg [6,4,3,1,10,4]) .nil) .nil .nil)) [a,.pointer (some b)] c R))))
 (yF (yF (λa b c d R=>call_n Tryz.func66 .nil [.int Zk a,.int Zk b,.int Zk c] d R)
 (yF (λa b c d e R=>call_n Tryz.func67 .nil [.slice a b c,d] e R)
 (λa b c d e f g h i j R=>call_n Tryz.func68 .nil [.agg #[.string a,.int Zk b,.int Zk c,.slice d e f,.slice g h i]] j R)))
 (yF (λa b c d e f g h i j R=>call_n Tryz.func69 (.sk 2 (.join 1 [(3,tb)] (rg [7,6,3,1]) .nil (.join 1 [] (rg [14,1,13,1,15,4,13,1,19,4,13,1,23,4,13,1,2,1]) .nil .nil))) [.agg #[.string a,.int Zk b,.int Zk c,.slice d e f,.slice g h i]] j R)
 (yF (λa b c d e R=>call_n Tryz.func70 (.sk 2 (.step (.loop [(5,ti)] (rg [6,4,12,14,4,1,10,2,5,1]) (.sk 2 (.step (.draw (od [0,5,7,4,5,1,11,1,16262,0,1048460,0,13,1]) .nil) .nil .nil))) .nil .nil)) [.slice a b c,d] e R)
 (λa b c d e f g h i j R=>call_n Tryz.func71 .nil [.agg #[.string a,.int Zk b,.int Zk c,.slice d e f,.slice g h i]] j R)))))
 (yF (yF (yF (λa b R=>call_n Tryz.func72 .nil [.int Zk a] b R)
 (yF (λa b c d e f g h i j k R=>call_n Tryz.func73 (.sk 1 (.draw (od [0,3,4,1,3,1,5,1,16262,0,7,5]) (.sk 2 (.draw (od [0,3,4,6,3,1,10,1,491659,0,12,1,2088973,0,4194190,0]) .nil)))) [.pointer a,.agg #[.int Zk b,.int Zk c,.int .u32 d,.string e,.int Zk f,.string g,.string h,.string i],.pointer j] k R)
 (λa b c d e f g h i j k R=>call_n Tryz.func74 (.sk 1 (.draw (od [0,4,5,1,7,1,4,1,6,1,8,1,98441,0,261770,0,11,2,2097037,0]) .nil)) [.pointer a,.agg #[.int Zk b,.int Zk c,.int .u32 d,.string e,.int Zk f,.string g,.string h,.string i],.pointer j] k R)))
 (yF (λa b c d e f g h i j k R=>call_n Tryz.func75 (.sk 1 (.draw (od [0,3,4,1,6,1,3,1,5,1,7,1,65416,0,9,1]) .nil)) [.pointer a,.agg #[.int Zk b,.int Zk c,.int .u32 d,.string e,.int Zk f,.string g,.string h,.string i],.pointer j] k R)
 (yF (λa b c d e f g h i j k R=>call_n Tryz.func76 (.sk 1 (.draw (od [0,3,4,1,3,1,5,1,16262,0,7,1]) .nil)) [.pointer a,.agg #[.int Zk b,.int Zk c,.int .u32 d,.string e,.int Zk f,.string g,.string h,.string i],.pointer j] k R)
 (λa b c d e f g h i j k R=>call_n Tryz.func77 .nil [.pointer a,.agg #[.int Zk b,.int Zk c,.int .u32 d,.string e,.int Zk f,.string g,.string h,.string i],.pointer j] k R))))
 (yF (yF (λa b c d e f g h i j k R=>call_n Tryz.func78 (.sk 1 (.draw (od [0,3,4,1,3,1,5,1,16262,0,7,5]) (.sk 2 (.draw (od [0,3,4,3,11,1,3,1,7,1,61576,0,130953,0,10,1]) (.step (.loop [(37,ti)] (rg [38,3,10,1,41,4,37,1]) .nil) .nil (.sk 1 (.step (.loop [(47,ti)] (rg [48,3,12,1,51,4,47,1]) .nil) .nil .nil))))))) [.pointer a,.agg #[.int Zk b,.int Zk c,.int .u32 d,.string e,.int Zk f,.string g,.string h,.string i],.pointer j] k R)
 (yF (λa b c d e f g h i j k R=>call_n Tryz.func79 (.sk 1 (.draw (od [0,3,4,1,6,1,3,1,5,1,7,1,65416,0,9,1]) (.sk 2 (.step (.loop [(27,ti)] (rg [28,3,8,1,32,6,31,1,38,2,9,2,40,32,27,1]) (.sk 2 (.step (.sk 2 (.draw (od [0,14,15,1,14,1,16,7,24,1,23,1,25,3]) .nil)) .nil .nil))) .nil .nil)))) [.pointer a,.agg #[.int Zk b,.int Zk c,.int .u32 d,.string e,.int Zk f,.string g,.string h,.string i],.pointer j] k R)
 (λa b c d e f g h i j k R=>call_n Tryz.func80 (.sk 1 (.draw (od [0,3,4,1,6,3,3,1,5,1,9,1,245898,0,524171,0,12,4,12582800,0,17,1]) .nil)) [.pointer a,.agg #[.int Zk b,.int Zk c,.int .u32 d,.string e,.int Zk f,.string g,.string h,.string i],.pointer j] k R)))
 (yF (λa b c d R=>call_n Tryz.func81 .nil [.pointer a,.int Zk b,c] d R)
 (yF (λa b R=>call_n Tryz.func82 .nil [.pointer a] b R)
 (λa b c d R=>call_n Tryz.func83 (.sk 1 (.draw (od [0,3,4,4,9,3,13,3,3,1,8,1,12,1,16,1,33423505,0,67108754,0,19,1]) (.draw (od [0,3,4,3,8,1,3,1,7,1,130953,0]) (.join 1 [(8,tb)] (rg [41,34,8,1]) (.draw (od [0,3,4,4,3,1,8,1,130953,0,10,5,16,4,15,1,20,1,536870805,0,22,5,28,3,27,1,31,1,1099511627680,0,33,2]) .nil) (.draw (od [0,3,4,3,8,3,12,4,3,1,7,1,11,1,16,1,33489041,0,67108754,0,19,5]) (.draw (od [0,3,4,4,9,1,3,1,8,1,262026,0]) (.join 1 [] (rg [108,10]) .nil (.sk 2 (.join 1 [] (rg [125,18]) (.step (.draw (od [0,5,6,4,11,4,5,1,10,1,15,1,16760848,0,33554321,0]) .nil) .nil .nil) .nil))))))))) [.pointer a,.pointer b,.pointer c] d R)))))))
 simp -implicitDefEqProofs (maxSteps:=100000000) only[nlB,fl_seq,fl_reg,fl_cond,fl_block,fl_loop,fl_exit,fl_ret,fl_skip,List.cons_append,List.nil_append,qf4,AE.sk,ra,rg,ro,od,ti,tb,ts,tp,tl,tm,tv,Nat.reduceAdd,Nat.reduceMod,Nat.reduceDiv,Nat.reduceBEq,Tryz.f34,Tryz.f35,Tryz.f36,Tryz.f38,Tryz.f39,Tryz.f40,Tryz.f41,Tryz.f42,Tryz.f43,Tryz.f44,Tryz.f45,Tryz.f46,Tryz.f47,Tryz.f48,Tryz.f49,Tryz.f50,Tryz.f51,Tryz.f52,Tryz.f53,Tryz.f54,Tryz.f55,Tryz.f56,Tryz.f57,Tryz.f58,Tryz.f59,Tryz.f60,Tryz.f61,Tryz.f63,Tryz.f65,Tryz.f66,Tryz.f67,Tryz.f68,Tryz.f69,Tryz.f70,Tryz.f71,Tryz.f72,Tryz.f73,Tryz.f74,Tryz.f75,Tryz.f76,Tryz.f77,Tryz.f78,Tryz.f79,Tryz.f80,Tryz.f81,Tryz.f82,Tryz.f83]at h;simp -implicitDefEqProofs (maxSteps:=100000000) only[↓n_nil0,↓n_nil1,↓n_skip0,↓n_skip1,↓n_reg0,↓n_reg1,↓n_dr,↓n_dr2,↓n_cond0,↓n_cond1,↓n_block0,↓n_block1,↓n_loop,↓n_exit0,↓n_exit1,↓n_ret0,↓n_ret1,↓n_j1,↓n_j2,↓q_t0,↓q_t1,↓q_t2,↓q_b0,↓q_b1,↓q_b2,↓q_f0,↓q_f1,↓s_0,↓s_1,↓oe_0,↓oe_1,↓oe_2,↓de_0,↓de_1,↓se_1,↓s2_1,↓ne_0,↓ne_1,↓ne_2,↓ne_3,↓nt_0,↓nt_1,↓nt_2,↓nt_3,↓nt_4,↓rb_2,↓g_0,↓g_1,↓e_c,↓e_put,↓e_puts,↓v_c,↓v_t,↓v_g,↓v_f,↓nil_s,↓k_ptr,↓k_fun,↓k_ifc,↓bif_t,↓bif_f,↓isn_s,↓isn_n,↓un_not,↓un_neg,↓un_xor,↓mf,↓b_0,↓b_1,↓d_0,↓d_1,↓al_0,↓al_1,↓wl_a,↓wp_a,↓en_1,↓x1_0,↓x2_0,↓x2_1,↓x3_0,↓x3_1,↓x3_2,↓x4_0,↓x4_1,↓x4_2,↓x4_3,↓t_0,↓t_1,↓opR,↓opX,↓opW,↓opP,↓qi7,↓qb9,↓qe8,↓q09,↓qsa,↓ixK,↓q3c,↓slK,↓qc7,↓qj3,↓q86,↓qvc,↓qa2.asT',↓qwa,↓q66,↓asR,↓asT,↓as0,↓exR,↓qta,↓exT,↓exL,↓ex0,↓alT,↓alL,↓al0,↓ld0,↓ldL,↓st0,↓stL,↓exO,a_0,a_1,decide_true,decide_false,cl_a,cl_i,cl_b,cl_s,cl_p,cl_l,cl_m,cl_f,gs,kd,Two.kd,qn4,tup,qqc,qo5,q72,tys,q49,q68,q96,List.cons_append,List.nil_append,List.append_nil,Option.getD,Nat.reduceAdd,undef,Int.cast_ofNat_Int,rep,↓T0,↓T1,↓T2,↓T3,↓T4,↓T5,↓T6,↓T7,↓T8,↓T9,↓T10,↓T11,↓T12]at h;exact h
end Nr
def F34_of{a b R}:=Nr.FA1.1.1.1.1.1 a b R
def F35_of{a b c d e f g h R}:=Nr.FA1.1.1.1.1.2 a b c d e f g h R
def F36_of{a b c d e f g h R}:=Nr.FA1.1.1.1.2.1 a b c d e f g h R
def F38_of{a b c R}:=Nr.FA1.1.1.1.2.2.1 a b c R
def F39_of{a R}:=Nr.FA1.1.1.1.2.2.2 a R
def F40_of{a b R}:=Nr.FA1.1.1.2.1.1 a b R
def F41_of{a R}:=Nr.FA1.1.1.2.1.2.1 a R
def F42_of{a R}:=Nr.FA1.1.1.2.1.2.2 a R
def F43_of{a R}:=Nr.FA1.1.1.2.2.1 a R
def F44_of{a R}:=Nr.FA1.1.1.2.2.2.1 a R
def F45_of{a b c R}:=Nr.FA1.1.1.2.2.2.2 a b c R
def F46_of{a b R}:=Nr.FA1.1.2.1.1.1 a b R
def F47_of{a b R}:=Nr.FA1.1.2.1.1.2.1 a b R
def F48_of{a b R}:=Nr.FA1.1.2.1.1.2.2 a b R
def F49_of{a b c R}:=Nr.FA1.1.2.1.2.1 a b c R
def F50_of{a b R}:=Nr.FA1.1.2.1.2.2.1 a b R
def F51_of{a b c d e f g R}:=Nr.FA1.1.2.1.2.2.2 a b c d e f g R
def F52_of{a b R}:=Nr.FA1.1.2.2.1.1 a b R
def F53_of{a b c d R}:=Nr.FA1.1.2.2.1.2.1 a b c d R
def F54_of{a b c d e f R}:=Nr.FA1.1.2.2.1.2.2 a b c d e f R
def F55_of{a b c R}:=Nr.FA1.1.2.2.2.1 a b c R
def F56_of{a b c R}:=Nr.FA1.1.2.2.2.2.1 a b c R
def F57_of{a b c R}:=Nr.FA1.1.2.2.2.2.2 a b c R
def F58_of{a b R}:=Nr.FA1.2.1.1.1.1 a b R
def F59_of{a b c d e f g R}:=Nr.FA1.2.1.1.1.2.1 a b c d e f g R
def F60_of{a b R}:=Nr.FA1.2.1.1.1.2.2 a b R
def F61_of{a b R}:=Nr.FA1.2.1.1.2.1 a b R
def F63_of{a b R}:=Nr.FA1.2.1.1.2.2.1 a b R
def F65_of{a b c R}:=Nr.FA1.2.1.1.2.2.2 a b c R
def F66_of{a b c d R}:=Nr.FA1.2.1.2.1.1 a b c d R
def F67_of{a b c d e R}:=Nr.FA1.2.1.2.1.2.1 a b c d e R
def F68_of{a b c d e f g h i j R}:=Nr.FA1.2.1.2.1.2.2 a b c d e f g h i j R
def F69_of{a b c d e f g h i j R}:=Nr.FA1.2.1.2.2.1 a b c d e f g h i j R
def F70_of{a b c d e R}:=Nr.FA1.2.1.2.2.2.1 a b c d e R
def F71_of{a b c d e f g h i j R}:=Nr.FA1.2.1.2.2.2.2 a b c d e f g h i j R
def F72_of{a b R}:=Nr.FA1.2.2.1.1.1 a b R
def F73_of{a b c d e f g h i j k R}:=Nr.FA1.2.2.1.1.2.1 a b c d e f g h i j k R
def F74_of{a b c d e f g h i j k R}:=Nr.FA1.2.2.1.1.2.2 a b c d e f g h i j k R
def F75_of{a b c d e f g h i j k R}:=Nr.FA1.2.2.1.2.1 a b c d e f g h i j k R
def F76_of{a b c d e f g h i j k R}:=Nr.FA1.2.2.1.2.2.1 a b c d e f g h i j k R
def F77_of{a b c d e f g h i j k R}:=Nr.FA1.2.2.1.2.2.2 a b c d e f g h i j k R
def F78_of{a b c d e f g h i j k R}:=Nr.FA1.2.2.2.1.1 a b c d e f g h i j k R
def F79_of{a b c d e f g h i j k R}:=Nr.FA1.2.2.2.1.2.1 a b c d e f g h i j k R
def F80_of{a b c d e f g h i j k R}:=Nr.FA1.2.2.2.1.2.2 a b c d e f g h i j k R
def F81_of{a b c d R}:=Nr.FA1.2.2.2.2.1 a b c d R
def F82_of{a b R}:=Nr.FA1.2.2.2.2.2.1 a b R
def F83_of{a b c d R}:=Nr.FA1.2.2.2.2.2.2 a b c d R
end
end Go.Proofs.YtfjifcfbmhpcaaaGreatDoor
