/-
  A part of the proof of TopEvicted.
-/
import Derived.Test.YtfjifcfbmhpcaaaGreatDoorV05
import Derived.Test.YtfjifcfbmhpcaaaGreatDoorV00
set_option linter.defProp false
set_option linter.unusedVariables false
set_option linter.unusedSimpArgs false
namespace Go.Proofs.YtfjifcfbmhpcaaaGreatDoor
open Go
open Go.IntKind renaming i64 → Zk
section
set_option maxRecDepth 100000
namespace Nr
set_option maxHeartbeats 100000000 in
def FA3:=by
 have h:=(yF (yF (yF (yF (yF (λa b c d R=>call_n Tryz.func147 (.sk 3 (.draw (od [0,3,4,1,6,1,3,1,5,1,7,3,12,2,10,2,14,1,8388495,0]) .nil)) [.pointer a,.string b,.int Zk c] d R)
 (yF (λa b c R=>call_n Tryz.func148 (.sk 1 (.step (.loop [(13,ti)] (rg [14,3,5,1,17,4,13,1]) .nil) .nil .nil)) [.pointer a,.string b] c R)
 (λa b c R=>call_n Tryz.func149 (.sk 7 (.step (.loop [(7,tl),(33,ti)] (rg [34,3,9,1,37,7,7,1,44,1,33,1]) .nil) .nil .nil)) [.pointer a,.int Zk b] c R)))
 (yF (yF (λa b c R=>call_n Tryz.func150 .nil [.pointer a,.int Zk b] c R)
 (λa b c R=>call_n Tryz.func151 .nil [.pointer a,.int Zk b] c R))
 (yF (λa b R=>call_n Tryz.func153 .nil [.int Zk a] b R)
 (λa b R=>call_n Tryz.func154 .nil [a] b R))))
 (yF (yF (λa b R=>call_n Tryz.func155 .nil [.map a] b R)
 (yF (λa b c R=>call_n Tryz.func156 (.sk 1 (.step (.loop [] (rg [6,4,3,1,10,4]) .nil) .nil .nil)) [a,.pointer (some b)] c R)
 (λa b c R=>call_n Tryz.func158 .nil [.string a,.bool b] c R)))
 (yF (yF (λa b c R=>call_n Tryz.func159 .nil [.int Zk a,.bool b] c R)
 (λa R=>call_n Tryz.func160 .nil [] a R))
 (yF (λa b R=>call_n Tryz.func161 .nil [a] b R)
 (λa b c R=>call_n Tryz.func163 (.sk 1 (.step (.loop [] (rg [7,4,4,1,11,4]) .nil) .nil .nil)) [a,.pointer (some b)] c R)))))
 (yF (yF (yF (λa b c d e R=>call_n Tryz.func164 (.sk 2 (.step (.loop [(8,ti)] (rg [9,2,5,1,11,7,4,1,18,1,8,1]) .nil) .nil .nil)) [.slice a b c,d] e R)
 (yF (λa b c R=>call_n Tryz.func165 (.step (.loop [] (rg [8,5,14,5,13,1,19,3,3,3,22,11,34,2,33,1,36,2,6,2,38,7]) (.sk 2 (.step (.sk 3 (.draw (od [5,1,0,5,6,3,130953,0]) .nil)) .nil .nil))) .nil .nil) [a,.pointer (some b)] c R)
 (λa b c d R=>call_n Tryz.func166 (.sk 8 (.step (.sk 1 (.join 1 [(20,tb)] (rg [23,2,20,1]) .nil .nil)) .nil .nil)) [.slice a b c] d R)))
 (yF (yF (λa b c d e R=>call_n Tryz.func179 (.sk 2 (.step (.loop [(8,ti)] (rg [9,2,5,1,11,7,4,1,18,1,8,1]) .nil) .nil .nil)) [.slice a b c,d] e R)
 (λa b c R=>call_n Tryz.func180 (.sk 1 (.draw (od [0,10,11,1,10,1,12,1,1703821,0,14,4]) .nil)) [.agg #[.int .u32 a,.int Zk b]] c R))
 (yF (λa b R=>call_n Tryz.func181 (.sk 3 (.step (.loop [(3,tl),(5,ti)] (rg [6,2,4,1,8,11,3,1,19,1,5,1]) .nil) .nil .nil)) [.int .u32 a] b R)
 (λa b R=>call_n Tryz.func182 .nil [.int Zk a] b R))))
 (yF (yF (λa b c d e R=>call_n Tryz.func183 (.sk 2 (.step (.loop [(8,ti)] (rg [9,2,5,1,11,7,4,1,18,1,8,1]) .nil) .nil .nil)) [.slice a b c,d] e R)
 (yF (λa b c R=>call_n Tryz.func184 (.sk 3 (.join 2 [] (rg [14,15,4,1]) (.sk 1 (.step (.draw (od [0,3,4,2,1923,0,16262,0,7,1]) .nil) .nil .nil)) .nil)) [.string a,.string b] c R)
 (λa b R=>call_n Tryz.func185 .nil [.int Zk a] b R)))
 (yF (yF (λa b c d R=>call_n Tryz.func187 (.sk 2 (.step (.sk 1 (.join 1 [(35,tb)] (rg [42,2,35,1]) .nil (.step .nil (.sk 1 (.step (.sk 1 (.draw (od [0,8,65416,0]) .nil)) .nil .nil)) .nil))) .nil .nil)) [.pointer a,.int Zk b,.int Zk c] d R)
 (λa b c d R=>call_n Tryz.func188 .nil [.pointer a,.int Zk b,c] d R))
 (yF (λc1 cap2 j R=>call_n Tryz.func189 (.sk 3 (.draw (od [0,5,8069,0,6,1]) .nil)) [.pointer c1,.pointer (some cap2)] j R)
 (λa b c d e R=>call_n Tryz.func190 (.sk 1 (.draw (od [0,4,5,3,10,3,4,1,8,2,13,2,8388495,0,16,5]) .nil)) [.pointer a,.slice b c d] e R))))))
 (yF (yF (yF (yF (λa b c R=>call_n Tryz.func191 (.sk 2 (.draw (od [0,14,18,1,14,4,19,1]) .nil)) [.pointer a,.int Zk b] c R)
 (yF (λa b c R=>call_n Tryz.func192 .nil [.pointer a,.int Zk b] c R)
 (λa b c d R=>call_n Tryz.func193 .nil [.pointer a,.int Zk b,.int Zk c] d R)))
 (yF (yF (λa b c d e f g h i R=>call_n Tryz.func194 (.sk 1 (.draw (od [0,5,6,4,5,1,10,1,507915,0,1048460,0]) (.sk 2 (.draw (od [1,2,128,0,3,6]) .nil)))) [.pointer a,.pointer b,.agg #[.int Zk c,.string d,.string e,.int Zk f,.int Zk g],.string h] i R)
 (λc1 cap2 j R=>call_n Tryz.func195 (.sk 3 (.draw (od [0,10,262026,0]) .nil)) [.pointer c1,.pointer (some cap2)] j R))
 (yF (λc1 w R=>call_n Tryz.func196 .nil [.pointer c1] w R)
 (λa b R=>call_n Tryz.func197 .nil [a] b R))))
 (yF (yF (λa b R=>call_n Tryz.func198 .nil [.int Zk a] b R)
 (yF (λa b c R=>call_n Tryz.func199 (.sk 1 (.draw (od [0,13]) .nil)) [.pointer a,.pointer (some b)] c R)
 (λa b c R=>call_n Tryz.func200 (.draw (od [0,10,262026,0]) .nil) [.pointer a,.pointer (some b)] c R)))
 (yF (yF (λa b c R=>call_n Tryz.func201 .nil [.pointer a,.int Zk b] c R)
 (λa b c R=>call_n Tryz.func202 (.sk 1 (.step (.loop [] (rg [8,5,4,2,13,6]) .nil) .nil .nil)) [.map a,b] c R))
 (yF (λa b c d e R=>call_n Tryz.func203 .nil [.string a,.pointer b,.pointer (some c),.pointer (some d)] e R)
 (λa b c d R=>call_n Tryz.func204 (.sk 2 (.step (.sk 1 (.step .nil (.sk 1 (.step .nil (.draw (od [0,9,10,3,9,1,13,5]) .nil) .nil)) .nil)) .nil .nil)) [.pointer a,.string b,.int Zk c] d R)))))
 (yF (yF (yF (λa b c d e f g h R=>call_n Tryz.func205 (.sk 1 (.draw (od [0,3,4,1,3,1,5,1,8326,0,24711,0,65416,0]) .nil)) [.pointer a,.int Zk b,.agg #[.int Zk c,.string d,.string e,.int Zk f,.int Zk g]] h R)
 (yF (λa b c d e R=>call_n Tryz.func206 .nil [.pointer a,.string b,.string c,d] e R)
 (λa b c d e f g h R=>call_n Tryz.func207 (.sk 2 (.draw (od [0,7,8071,0,8,1,130953,0]) (.draw (od [0,7,32647,0]) .nil))) [.agg #[.string a,.string b,.int Zk c],.pointer (some d),.pointer (some e),.pointer (some f),.pointer (some g)] h R)))
 (yF (yF (λa b c d R=>call_n Tryz.func208 .nil [.pointer a,.int Zk b,c] d R)
 (λc1 cap2 j R=>call_n Tryz.func209 (.sk 1 (.draw (od [0,5,8069,0,6,1]) .nil)) [.pointer c1,.pointer (some cap2)] j R))
 (yF (λa b c R=>call_n Tryz.func210 (.sk 5 (.draw (od [0,3,4,3,3,1,7,3]) (.step (.draw (od [0,3,4,3,3,1,7,5,1048460,0]) .nil) .nil .nil))) [.pointer a,.int Zk b] c R)
 (λa b c R=>call_n Tryz.func211 .nil [.pointer a,.int Zk b] c R))))
 (yF (yF (yF (λa b R=>call_n Tryz.func212 (.sk 1 (.draw (od [0,3,5,3,3,2,8,3]) .nil)) [.pointer a] b R)
 (λc1 w R=>call_n Tryz.func213 .nil [.pointer c1] w R))
 (yF (λa b R=>call_n Tryz.func214 .nil [.pointer a] b R)
 (λc1 w R=>call_n Tryz.func215 .nil [.pointer c1] w R)))
 (yF (yF (λa b R=>call_n Tryz.func216 .nil [.int Zk a] b R)
 (λa b c R=>call_n Tryz.func217 .nil [.pointer a,.int Zk b] c R))
 (yF (λc1 w R=>call_n Tryz.func218 .nil [.pointer c1] w R)
 (λc1 cap2 j R=>call_n Tryz.func219 (.sk 1 (.draw (od [2,3,0,2,5,9,15,2,4194190,0,17,3]) .nil)) [.pointer c1,.pointer (some cap2)] j R)))))))
 simp -implicitDefEqProofs (maxSteps:=100000000) only[nlB,fl_seq,fl_reg,fl_cond,fl_block,fl_loop,fl_exit,fl_ret,fl_skip,List.cons_append,List.nil_append,qf4,AE.sk,ra,rg,ro,od,ti,tb,ts,tp,tl,tm,tv,Nat.reduceAdd,Nat.reduceMod,Nat.reduceDiv,Nat.reduceBEq,Tryz.f147,Tryz.f148,Tryz.f149,Tryz.f150,Tryz.f151,Tryz.f153,Tryz.f154,Tryz.f155,Tryz.f156,Tryz.f158,Tryz.f159,Tryz.f160,Tryz.f161,Tryz.f163,Tryz.f164,Tryz.f165,Tryz.f166,Tryz.f179,Tryz.f180,Tryz.f181,Tryz.f182,Tryz.f183,Tryz.f184,Tryz.f185,Tryz.f187,Tryz.f188,Tryz.f189,Tryz.f190,Tryz.f191,Tryz.f192,Tryz.f193,Tryz.f194,Tryz.f195,Tryz.f196,Tryz.f197,Tryz.f198,Tryz.f199,Tryz.f200,Tryz.f201,Tryz.f202,Tryz.f203,Tryz.f204,Tryz.f205,Tryz.f206,Tryz.f207,Tryz.f208,Tryz.f209,Tryz.f210,Tryz.f211,Tryz.f212,Tryz.f213,Tryz.f214,Tryz.f215,Tryz.f216,Tryz.f217,Tryz.f218,Tryz.f219]at h;simp -implicitDefEqProofs (maxSteps:=100000000) only[↓n_nil0,↓n_nil1,↓n_skip0,↓n_skip1,↓n_reg0,↓n_reg1,↓n_dr,↓n_dr2,↓n_cond0,↓n_cond1,↓n_block0,↓n_block1,↓n_loop,↓n_exit0,↓n_exit1,↓n_ret0,↓n_ret1,↓n_j1,↓n_j2,↓q_t0,↓q_t1,↓q_t2,↓q_b0,↓q_b1,↓q_b2,↓q_f0,↓q_f1,↓s_0,↓s_1,↓oe_0,↓oe_1,↓oe_2,↓de_0,↓de_1,↓se_1,↓s2_1,↓ne_0,↓ne_1,↓ne_2,↓ne_3,↓nt_0,↓nt_1,↓nt_2,↓nt_3,↓nt_4,↓rb_2,↓g_0,↓g_1,↓e_c,↓e_put,↓e_puts,↓v_c,↓v_t,↓v_g,↓v_f,↓nil_s,↓k_ptr,↓k_fun,↓k_ifc,↓bif_t,↓bif_f,↓isn_s,↓isn_n,↓un_not,↓un_neg,↓un_xor,↓mf,↓b_0,↓b_1,↓d_0,↓d_1,↓al_0,↓al_1,↓wl_a,↓wp_a,↓en_1,↓x1_0,↓x2_0,↓x2_1,↓x3_0,↓x3_1,↓x3_2,↓x4_0,↓x4_1,↓x4_2,↓x4_3,↓t_0,↓t_1,↓opR,↓opX,↓opW,↓opP,↓qi7,↓qb9,↓qe8,↓q09,↓qsa,↓ixK,↓q3c,↓slK,↓qc7,↓qj3,↓q86,↓qvc,↓qa2.asT',↓qwa,↓q66,↓asR,↓asT,↓as0,↓exR,↓qta,↓exT,↓exL,↓ex0,↓alT,↓alL,↓al0,↓ld0,↓ldL,↓st0,↓stL,↓exO,a_0,a_1,decide_true,decide_false,cl_a,cl_i,cl_b,cl_s,cl_p,cl_l,cl_m,cl_f,gs,kd,Two.kd,qn4,tup,qqc,qo5,q72,tys,q49,q68,q96,List.cons_append,List.nil_append,List.append_nil,Option.getD,Nat.reduceAdd,undef,Int.cast_ofNat_Int,rep,↓T0,↓T1,↓T2,↓T3,↓T4,↓T5,↓T6,↓T7,↓T8,↓T9,↓T10,↓T11,↓T12]at h;exact h
end Nr
def F147_of{a b c d R}:=Nr.FA3.1.1.1.1.1 a b c d R
def F148_of{a b c R}:=Nr.FA3.1.1.1.1.2.1 a b c R
def F149_of{a b c R}:=Nr.FA3.1.1.1.1.2.2 a b c R
def F150_of{a b c R}:=Nr.FA3.1.1.1.2.1.1 a b c R
def F151_of{a b c R}:=Nr.FA3.1.1.1.2.1.2 a b c R
def F153_of{a b R}:=Nr.FA3.1.1.1.2.2.1 a b R
def F154_of{a b R}:=Nr.FA3.1.1.1.2.2.2 a b R
def F155_of{a b R}:=Nr.FA3.1.1.2.1.1 a b R
def F156_of{a b c R}:=Nr.FA3.1.1.2.1.2.1 a b c R
def F158_of{a b c R}:=Nr.FA3.1.1.2.1.2.2 a b c R
def F159_of{a b c R}:=Nr.FA3.1.1.2.2.1.1 a b c R
def F160_of{a R}:=Nr.FA3.1.1.2.2.1.2 a R
def F161_of{a b R}:=Nr.FA3.1.1.2.2.2.1 a b R
def F163_of{a b c R}:=Nr.FA3.1.1.2.2.2.2 a b c R
def F164_of{a b c d e R}:=Nr.FA3.1.2.1.1.1 a b c d e R
def F165_of{a b c R}:=Nr.FA3.1.2.1.1.2.1 a b c R
def F166_of{a b c d R}:=Nr.FA3.1.2.1.1.2.2 a b c d R
def F179_of{a b c d e R}:=Nr.FA3.1.2.1.2.1.1 a b c d e R
def F180_of{a b c R}:=Nr.FA3.1.2.1.2.1.2 a b c R
def F181_of{a b R}:=Nr.FA3.1.2.1.2.2.1 a b R
def F182_of{a b R}:=Nr.FA3.1.2.1.2.2.2 a b R
def F183_of{a b c d e R}:=Nr.FA3.1.2.2.1.1 a b c d e R
def F184_of{a b c R}:=Nr.FA3.1.2.2.1.2.1 a b c R
def F185_of{a b R}:=Nr.FA3.1.2.2.1.2.2 a b R
def F187_of{a b c d R}:=Nr.FA3.1.2.2.2.1.1 a b c d R
def F188_of{a b c d R}:=Nr.FA3.1.2.2.2.1.2 a b c d R
def F189_of{c1 cap2 h R}:=Nr.FA3.1.2.2.2.2.1 c1 cap2 h R
def F190_of{a b c d e R}:=Nr.FA3.1.2.2.2.2.2 a b c d e R
def F191_of{a b c R}:=Nr.FA3.2.1.1.1.1 a b c R
def F192_of{a b c R}:=Nr.FA3.2.1.1.1.2.1 a b c R
def F193_of{a b c d R}:=Nr.FA3.2.1.1.1.2.2 a b c d R
def F194_of{a b c d e f g h i R}:=Nr.FA3.2.1.1.2.1.1 a b c d e f g h i R
def F195_of{c1 cap2 h R}:=Nr.FA3.2.1.1.2.1.2 c1 cap2 h R
def F196_of{c1 h R}:=Nr.FA3.2.1.1.2.2.1 c1 h R
def F197_of{a b R}:=Nr.FA3.2.1.1.2.2.2 a b R
def F198_of{a b R}:=Nr.FA3.2.1.2.1.1 a b R
def F199_of{a b c R}:=Nr.FA3.2.1.2.1.2.1 a b c R
def F200_of{a b c R}:=Nr.FA3.2.1.2.1.2.2 a b c R
def F201_of{a b c R}:=Nr.FA3.2.1.2.2.1.1 a b c R
def F202_of{a b c R}:=Nr.FA3.2.1.2.2.1.2 a b c R
def F203_of{a b c d e R}:=Nr.FA3.2.1.2.2.2.1 a b c d e R
def F204_of{a b c d R}:=Nr.FA3.2.1.2.2.2.2 a b c d R
def F205_of{a b c d e f g h R}:=Nr.FA3.2.2.1.1.1 a b c d e f g h R
def F206_of{a b c d e R}:=Nr.FA3.2.2.1.1.2.1 a b c d e R
def F207_of{a b c d e f g h R}:=Nr.FA3.2.2.1.1.2.2 a b c d e f g h R
def F208_of{a b c d R}:=Nr.FA3.2.2.1.2.1.1 a b c d R
def F209_of{c1 cap2 h R}:=Nr.FA3.2.2.1.2.1.2 c1 cap2 h R
def F210_of{a b c R}:=Nr.FA3.2.2.1.2.2.1 a b c R
def F211_of{a b c R}:=Nr.FA3.2.2.1.2.2.2 a b c R
def F212_of{a b R}:=Nr.FA3.2.2.2.1.1.1 a b R
def F213_of{c1 h R}:=Nr.FA3.2.2.2.1.1.2 c1 h R
def F214_of{a b R}:=Nr.FA3.2.2.2.1.2.1 a b R
def F215_of{c1 h R}:=Nr.FA3.2.2.2.1.2.2 c1 h R
def F216_of{a b R}:=Nr.FA3.2.2.2.2.1.1 a b R
def F217_of{a b c R}:=Nr.FA3.2.2.2.2.1.2 a b c R
def F218_of{c1 h R}:=Nr.FA3.2.2.2.2.2.1 c1 h R
def F219_of{c1 cap2 h R}:=Nr.FA3.2.2.2.2.2.2 c1 cap2 h R
end
end Go.Proofs.YtfjifcfbmhpcaaaGreatDoor
