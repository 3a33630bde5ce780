/-
  A part of the proof of TopEvicted.
-/
import Derived.Test.YtfjifcfbmhpcaaaGreatDoorV05
import Derived.Test.YtfjifcfbmhpcaaaGreatDoorV00
set_option linter.defProp false
set_option linter.unusedVariables false
set_option linter.unusedSimpArgs false
namespace Go.Proofs.YtfjifcfbmhpcaaaGreatDoor
open Go
open Go.IntKind renaming i64 → Zk
section
set_option maxRecDepth 100000
namespace Nr
set_option maxHeartbeats 100000000 in
def FA2:=by
 have h:=(yF (yF (yF (yF (yF (λa b c R=>call_n Tryz.func84 (.sk 1 (.draw (od [0,3,4,4,3,1,8,1,130953,0,10,1]) (.join 1 [(6,tb)] (rg [17,17,6,1]) (.draw (od [0,8,9,4,8,1,13,1,4194190,0,15,3]) .nil) (.sk 1 (.join 1 [] (rg [35,6]) .nil .nil))))) [.pointer a,.pointer b] c R)
 (yF (λa b c R=>call_n Tryz.func85 (.sk 8 (.step (.sk 1 (.step (.draw (od [0,3,4,4,12,1,3,1,8,1,123017,0,262026,0,11,1]) (.step (.loop [(66,ti)] (rg [67,3,7,1,70,12,66,1]) (.sk 2 (.step (.sk 1 (.draw (od [0,3,4,1,3,1,5,1,16262,0]) .nil)) .nil .nil))) .nil .nil)) (.sk 1 (.step (.sk 2 (.draw (od [0,3,4,4,3,1,8,1,130953,0]) .nil)) (.sk 1 (.step (.sk 2 (.step (.draw (od [0,3,4,4,3,1,8,1,130953,0]) .nil) .nil .nil)) .nil .nil)) .nil)) .nil)) .nil .nil)) [.pointer a,.int Zk b] c R)
 (λa b c d e R=>call_n Tryz.func87 .nil [.agg #[.int Zk a,.int Zk b],.agg #[.int Zk c,.int Zk d]] e R)))
 (yF (λa b c R=>call_n Tryz.func88 .nil [.int Zk a,.int Zk b] c R)
 (yF (λa b c d R=>call_n Tryz.func89 (.sk 3 (.step (.loop [(7,tl),(18,ti)] (rg [19,3,9,1,22,6,10,1,28,9,7,1,37,4,18,1]) .nil) .nil .nil)) [.pointer a,b,c] d R)
 (λa b R=>call_n Tryz.func90 .nil [.pointer a] b R))))
 (yF (yF (λa b R=>call_n Tryz.func91 .nil [.pointer a] b R)
 (yF (λa b c d R=>call_n Tryz.func92 .nil [.slice a b c] d R)
 (λa b R=>call_n Tryz.func93 .nil [.map a] b R)))
 (yF (yF (λa b c d e f R=>call_n Tryz.func95 .nil [.agg #[.int Zk a,.string b,.string c,.int Zk d,.int Zk e]] f R)
 (λa b R=>call_n Tryz.func96 .nil [.string a] b R))
 (yF (λa b R=>call_n Tryz.func97 (.sk 5 (.step (.loop [(3,tl),(12,ti)] (rg [13,2,4,1,15,7,5,1,22,12,3,1,34,1,12,1]) .nil) .nil .nil)) [.int Zk a] b R)
 (λa b R=>call_n Tryz.func98 .nil [.int Zk a] b R)))))
 (yF (yF (yF (λa b c R=>call_n Tryz.func99 .nil [a,b] c R)
 (yF (λa b R=>call_n Tryz.func100 .nil [.map a] b R)
 (λa b c R=>call_n Tryz.func101 (.sk 1 (.draw (od [0,3,4,3,3,1,7,3]) .nil)) [.pointer a,.pointer b] c R)))
 (yF (yF (λa b c d e R=>call_n Tryz.func102 .nil [.slice a b c,d] e R)
 (λa b c R=>call_n Tryz.func103 (.sk 1 (.step (.sk 1 (.step .nil (.sk 1 (.step (.draw (od [0,4,5,3,4,1,8,3,524171,0,12,2]) .nil) .nil .nil)) .nil)) .nil .nil)) [.pointer a,.pointer b] c R))
 (yF (λa b R=>call_n Tryz.func104 .nil [.pointer a] b R)
 (λa b c d e f g h i R=>call_n Tryz.func105 (.sk 4 (.draw (od [0,3,4,1,6,1,3,1,5,1,32647,0,8,1]) .nil)) [.pointer a,.int Zk b,.agg #[.int Zk c,.string d,.string e,.int Zk f,.int Zk g],.int Zk h] i R))))
 (yF (yF (λa b c R=>call_n Tryz.func106 .nil [.pointer a,.int Zk b] c R)
 (yF (λa b c d e R=>call_n Tryz.func110 (.sk 2 (.step (.loop [(8,ti)] (rg [9,2,5,1,11,7,4,1,18,1,8,1]) .nil) .nil .nil)) [.slice a b c,d] e R)
 (λa b c d e R=>call_n Tryz.func111 .nil [.slice a b c,d] e R)))
 (yF (yF (λa b c R=>call_n Tryz.func112 .nil [.agg #[.int .u32 a,.int Zk b]] c R)
 (λa b c R=>call_n Tryz.func113 (.sk 3 (.draw (od [0,1,4,1,1,1,5,1,898,0,3,1,14214,0,7,2]) .nil)) [.agg #[.int .u32 a,.int Zk b]] c R))
 (yF (λa b c d e R=>call_n Tryz.func114 .nil [.slice a b c,d] e R)
 (λa b c d R=>call_n Tryz.func115 .nil [.agg #[.string a,.string b,.int Zk c]] d R))))))
 (yF (yF (yF (yF (λa b c d R=>call_n Tryz.func116 .nil [.agg #[.string a,.string b,.int Zk c]] d R)
 (yF (λa b R=>call_n Tryz.func117 .nil [.string a] b R)
 (λa b c d e R=>call_n Tryz.func118 (.sk 2 (.step (.loop [(5,ti)] (rg [6,4,12,14,4,1,10,2,5,1]) (.sk 2 (.step (.draw (od [0,5,7,4,5,1,11,1,16262,0,1048460,0,13,1]) .nil) .nil .nil))) .nil .nil)) [.slice a b c,d] e R)))
 (yF (yF (λa b c d R=>call_n Tryz.func119 .nil [.agg #[.string a,.string b,.int Zk c]] d R)
 (λa b c R=>call_n Tryz.func120 (.sk 4 (.draw (od [0,3,4,3,8,1,3,1,7,1,137,0,131210,0,11,1,983052,0,2097037,0]) .nil)) [.pointer a,.int .u32 b] c R))
 (yF (λa b c d e f R=>call_n Tryz.func122 (.sk 1 (.step (.loop [(10,ti)] (rg [11,3,7,1,14,14,10,1]) (.sk 2 (.step (.sk 1 (.draw (od [0,3,4,4,10,1,3,1,8,1,123017,0,11,1,1048460,0]) .nil)) .nil .nil))) .nil .nil)) [.pointer a,.int Zk b,.slice c d e] f R)
 (λa b c d e f R=>call_n Tryz.func123 .nil [.pointer a,.int Zk b,.slice c d e] f R))))
 (yF (yF (λa b c d R=>call_n Tryz.func124 (.sk 1 (.step (.loop [(6,tp),(7,tb)] (rg [19,1,27,6,26,1,33,3,8,3,36,15,52,2,51,1,54,2,11,2,56,10,21,3,20,1,24,2,6,2]) (.sk 2 (.step (.sk 1 (.join 2 [] (rg [36,15]) .nil .nil)) .nil .nil))) .nil .nil)) [.pointer a,.int Zk b,.string c] d R)
 (yF (λa b c d R=>call_n Tryz.func125 .nil [.pointer a,.int Zk b,.int Zk c] d R)
 (λa b c R=>call_n Tryz.func126 .nil [.pointer a,.int Zk b] c R)))
 (yF (yF (λa b c R=>call_n Tryz.func127 (.sk 5 (.step (.loop [(6,tl)] (rg [27,28,7,1,55,15,6,1]) (.draw (od [0,10,16,3,10,6,19,3]) (.sk 1 (.step (.sk 1 (.draw (od [0,3,4,3,3,1,7,1,65416,0]) .nil)) .nil .nil)))) .nil .nil)) [.pointer a,.int Zk b] c R)
 (λa b c d e f g h R=>call_n Tryz.func129 (.sk 1 (.draw (od [0,3,4,1,3,1,5,1,16262,0]) .nil)) [.pointer a,.agg #[.string b,.string c,.int Zk d,.int Zk e,.int Zk f,.bool g]] h R))
 (yF (λa b c d R=>call_n Tryz.func130 .nil [.pointer a,.string b,.string c] d R)
 (λa b c d R=>call_n Tryz.func131 .nil [.pointer a,.string b,.int Zk c] d R)))))
 (yF (yF (yF (λa b c d R=>call_n Tryz.func132 .nil [.pointer a,.int Zk b,.int Zk c] d R)
 (yF (λa b c R=>call_n Tryz.func133 .nil [.pointer a,.int Zk b] c R)
 (λa b c d e f R=>call_n Tryz.func134 .nil [.pointer a,.int Zk b,.slice c d e] f R)))
 (yF (yF (λa b c R=>call_n Tryz.func135 .nil [.pointer a,.int Zk b] c R)
 (λa b c R=>call_n Tryz.func136 .nil [.pointer a,.int Zk b] c R))
 (yF (λa b c R=>call_n Tryz.func137 .nil [.pointer a,.int Zk b] c R)
 (λa b c d R=>call_n Tryz.func138 .nil [.pointer a,.int Zk b,.int Zk c] d R))))
 (yF (yF (λa b c R=>call_n Tryz.func139 .nil [.pointer a,.int Zk b] c R)
 (yF (λa b c d e f R=>call_n Tryz.func140 .nil [.pointer a,.int Zk b,.slice c d e] f R)
 (λa b c R=>call_n Tryz.func141 .nil [.pointer a,.int Zk b] c R)))
 (yF (yF (λa b c R=>call_n Tryz.func142 .nil [.pointer a,.int Zk b] c R)
 (λa b c d e f g h R=>call_n Tryz.func143 (.sk 4 (.draw (od [0,3,4,3,8,1,11,1,17,1,3,1,7,1,9,2,12,5,18,6,4294967192,0]) .nil)) [.pointer a,.int Zk b,.slice c d e,.bool f,.bool g] h R))
 (yF (λa b c R=>call_n Tryz.func144 (.sk 3 (.step (.draw (od [0,8,65416,0]) .nil) .nil .nil)) [.pointer a,.int Zk b] c R)
 (λa b c R=>call_n Tryz.func145 .nil [.pointer a,.int Zk b] c R)))))))
 simp -implicitDefEqProofs (maxSteps:=100000000) only[nlB,fl_seq,fl_reg,fl_cond,fl_block,fl_loop,fl_exit,fl_ret,fl_skip,List.cons_append,List.nil_append,qf4,AE.sk,ra,rg,ro,od,ti,tb,ts,tp,tl,tm,tv,Nat.reduceAdd,Nat.reduceMod,Nat.reduceDiv,Nat.reduceBEq,Tryz.f84,Tryz.f85,Tryz.f87,Tryz.f88,Tryz.f89,Tryz.f90,Tryz.f91,Tryz.f92,Tryz.f93,Tryz.f95,Tryz.f96,Tryz.f97,Tryz.f98,Tryz.f99,Tryz.f100,Tryz.f101,Tryz.f102,Tryz.f103,Tryz.f104,Tryz.f105,Tryz.f106,Tryz.f110,Tryz.f111,Tryz.f112,Tryz.f113,Tryz.f114,Tryz.f115,Tryz.f116,Tryz.f117,Tryz.f118,Tryz.f119,Tryz.f120,Tryz.f122,Tryz.f123,Tryz.f124,Tryz.f125,Tryz.f126,Tryz.f127,Tryz.f129,Tryz.f130,Tryz.f131,Tryz.f132,Tryz.f133,Tryz.f134,Tryz.f135,Tryz.f136,Tryz.f137,Tryz.f138,Tryz.f139,Tryz.f140,Tryz.f141,Tryz.f142,Tryz.f143,Tryz.f144,Tryz.f145]at h;simp -implicitDefEqProofs (maxSteps:=100000000) only[↓n_nil0,↓n_nil1,↓n_skip0,↓n_skip1,↓n_reg0,↓n_reg1,↓n_dr,↓n_dr2,↓n_cond0,↓n_cond1,↓n_block0,↓n_block1,↓n_loop,↓n_exit0,↓n_exit1,↓n_ret0,↓n_ret1,↓n_j1,↓n_j2,↓q_t0,↓q_t1,↓q_t2,↓q_b0,↓q_b1,↓q_b2,↓q_f0,↓q_f1,↓s_0,↓s_1,↓oe_0,↓oe_1,↓oe_2,↓de_0,↓de_1,↓se_1,↓s2_1,↓ne_0,↓ne_1,↓ne_2,↓ne_3,↓nt_0,↓nt_1,↓nt_2,↓nt_3,↓nt_4,↓rb_2,↓g_0,↓g_1,↓e_c,↓e_put,↓e_puts,↓v_c,↓v_t,↓v_g,↓v_f,↓nil_s,↓k_ptr,↓k_fun,↓k_ifc,↓bif_t,↓bif_f,↓isn_s,↓isn_n,↓un_not,↓un_neg,↓un_xor,↓mf,↓b_0,↓b_1,↓d_0,↓d_1,↓al_0,↓al_1,↓wl_a,↓wp_a,↓en_1,↓x1_0,↓x2_0,↓x2_1,↓x3_0,↓x3_1,↓x3_2,↓x4_0,↓x4_1,↓x4_2,↓x4_3,↓t_0,↓t_1,↓opR,↓opX,↓opW,↓opP,↓qi7,↓qb9,↓qe8,↓q09,↓qsa,↓ixK,↓q3c,↓slK,↓qc7,↓qj3,↓q86,↓qvc,↓qa2.asT',↓qwa,↓q66,↓asR,↓asT,↓as0,↓exR,↓qta,↓exT,↓exL,↓ex0,↓alT,↓alL,↓al0,↓ld0,↓ldL,↓st0,↓stL,↓exO,a_0,a_1,decide_true,decide_false,cl_a,cl_i,cl_b,cl_s,cl_p,cl_l,cl_m,cl_f,gs,kd,Two.kd,qn4,tup,qqc,qo5,q72,tys,q49,q68,q96,List.cons_append,List.nil_append,List.append_nil,Option.getD,Nat.reduceAdd,undef,Int.cast_ofNat_Int,rep,↓T0,↓T1,↓T2,↓T3,↓T4,↓T5,↓T6,↓T7,↓T8,↓T9,↓T10,↓T11,↓T12]at h;exact h
end Nr
def F84_of{a b c R}:=Nr.FA2.1.1.1.1.1 a b c R
def F85_of{a b c R}:=Nr.FA2.1.1.1.1.2.1 a b c R
def F87_of{a b c d e R}:=Nr.FA2.1.1.1.1.2.2 a b c d e R
def F88_of{a b c R}:=Nr.FA2.1.1.1.2.1 a b c R
def F89_of{a b c d R}:=Nr.FA2.1.1.1.2.2.1 a b c d R
def F90_of{a b R}:=Nr.FA2.1.1.1.2.2.2 a b R
def F91_of{a b R}:=Nr.FA2.1.1.2.1.1 a b R
def F92_of{a b c d R}:=Nr.FA2.1.1.2.1.2.1 a b c d R
def F93_of{a b R}:=Nr.FA2.1.1.2.1.2.2 a b R
def F95_of{a b c d e f R}:=Nr.FA2.1.1.2.2.1.1 a b c d e f R
def F96_of{a b R}:=Nr.FA2.1.1.2.2.1.2 a b R
def F97_of{a b R}:=Nr.FA2.1.1.2.2.2.1 a b R
def F98_of{a b R}:=Nr.FA2.1.1.2.2.2.2 a b R
def F99_of{a b c R}:=Nr.FA2.1.2.1.1.1 a b c R
def F100_of{a b R}:=Nr.FA2.1.2.1.1.2.1 a b R
def F101_of{a b c R}:=Nr.FA2.1.2.1.1.2.2 a b c R
def F102_of{a b c d e R}:=Nr.FA2.1.2.1.2.1.1 a b c d e R
def F103_of{a b c R}:=Nr.FA2.1.2.1.2.1.2 a b c R
def F104_of{a b R}:=Nr.FA2.1.2.1.2.2.1 a b R
def F105_of{a b c d e f g h i R}:=Nr.FA2.1.2.1.2.2.2 a b c d e f g h i R
def F106_of{a b c R}:=Nr.FA2.1.2.2.1.1 a b c R
def F110_of{a b c d e R}:=Nr.FA2.1.2.2.1.2.1 a b c d e R
def F111_of{a b c d e R}:=Nr.FA2.1.2.2.1.2.2 a b c d e R
def F112_of{a b c R}:=Nr.FA2.1.2.2.2.1.1 a b c R
def F113_of{a b c R}:=Nr.FA2.1.2.2.2.1.2 a b c R
def F114_of{a b c d e R}:=Nr.FA2.1.2.2.2.2.1 a b c d e R
def F115_of{a b c d R}:=Nr.FA2.1.2.2.2.2.2 a b c d R
def F116_of{a b c d R}:=Nr.FA2.2.1.1.1.1 a b c d R
def F117_of{a b R}:=Nr.FA2.2.1.1.1.2.1 a b R
def F118_of{a b c d e R}:=Nr.FA2.2.1.1.1.2.2 a b c d e R
def F119_of{a b c d R}:=Nr.FA2.2.1.1.2.1.1 a b c d R
def F120_of{a b c R}:=Nr.FA2.2.1.1.2.1.2 a b c R
def F122_of{a b c d e f R}:=Nr.FA2.2.1.1.2.2.1 a b c d e f R
def F123_of{a b c d e f R}:=Nr.FA2.2.1.1.2.2.2 a b c d e f R
def F124_of{a b c d R}:=Nr.FA2.2.1.2.1.1 a b c d R
def F125_of{a b c d R}:=Nr.FA2.2.1.2.1.2.1 a b c d R
def F126_of{a b c R}:=Nr.FA2.2.1.2.1.2.2 a b c R
def F127_of{a b c R}:=Nr.FA2.2.1.2.2.1.1 a b c R
def F129_of{a b c d e f g h R}:=Nr.FA2.2.1.2.2.1.2 a b c d e f g h R
def F130_of{a b c d R}:=Nr.FA2.2.1.2.2.2.1 a b c d R
def F131_of{a b c d R}:=Nr.FA2.2.1.2.2.2.2 a b c d R
def F132_of{a b c d R}:=Nr.FA2.2.2.1.1.1 a b c d R
def F133_of{a b c R}:=Nr.FA2.2.2.1.1.2.1 a b c R
def F134_of{a b c d e f R}:=Nr.FA2.2.2.1.1.2.2 a b c d e f R
def F135_of{a b c R}:=Nr.FA2.2.2.1.2.1.1 a b c R
def F136_of{a b c R}:=Nr.FA2.2.2.1.2.1.2 a b c R
def F137_of{a b c R}:=Nr.FA2.2.2.1.2.2.1 a b c R
def F138_of{a b c d R}:=Nr.FA2.2.2.1.2.2.2 a b c d R
def F139_of{a b c R}:=Nr.FA2.2.2.2.1.1 a b c R
def F140_of{a b c d e f R}:=Nr.FA2.2.2.2.1.2.1 a b c d e f R
def F141_of{a b c R}:=Nr.FA2.2.2.2.1.2.2 a b c R
def F142_of{a b c R}:=Nr.FA2.2.2.2.2.1.1 a b c R
def F143_of{a b c d e f g h R}:=Nr.FA2.2.2.2.2.1.2 a b c d e f g h R
def F144_of{a b c R}:=Nr.FA2.2.2.2.2.2.1 a b c R
def F145_of{a b c R}:=Nr.FA2.2.2.2.2.2.2 a b c R
end
end Go.Proofs.YtfjifcfbmhpcaaaGreatDoor
