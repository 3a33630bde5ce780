/-
  A part of the proof of TopBad.
-/
import Derived.Test.YtfjifcfbmhpcaaaGreatDoorB05
import Derived.Test.YtfjifcfbmhpcaaaGreatDoorB00
set_option linter.all false
namespace Go.Proofs.YtfjifcfbmhpcaaaGreatDoor
open Go
open Go.IntKind renaming i64 → Zk
open _root_.List renaming cons_append->A0,nil_append->A1,append_nil->A5
open _root_.Nat renaming reduceAdd->A2,reduceMod->A6,reduceDiv->A7,reduceBEq->A8
open _root_.Int renaming cast_ofNat_Int->A3
open _root_.Option renaming some->A4,getD->A9
section
set_option maxRecDepth 100000
namespace Nr
set_option maxHeartbeats 100000000 in
def FA0:=by
 have h:=(yF (yF (yF (yF (λa b c d e f g R=>call_n Tryz.func3 (.sk 5 (.join 1 [(7,ti)] (rg [16,8,26,9,7,1,24,2,8,1]) (.step (.loop [(7,ti),(8,ti)] (rg [16,8,26,9,7,1,24,2,8,1]) .nil) .nil .nil) (.sk 6 (.join 1 [] (rg [79,10,91,9,11,1,100,8,12,1,108,14,13,1,122,39,4,1,89,2,10,1]) (.step (.loop [(10,ti)] (rg [79,10,91,9,11,1,100,8,12,1,108,14,13,1,122,39,4,1,89,2,10,1]) (.sk 2 (.step (.sk 2 (.draw (od [0,3,4,1,7,3,3,1,5,2,10,5]) .nil)) .nil .nil))) .nil .nil) .nil)))) [.slice a b c,.slice d e f] g R)
 (λa R=>call_n Tryz.func6 .nil [] a R))
 (yF (λa R=>call_n Tryz.func7 .nil [] a R)
 (yF (λa b c R=>call_n Tryz.func8 (.sk 4 (.draw (od [0,2,3,1,2,1,2180,0,8069,0]) .nil)) [.pointer a,.int Zk b] c R)
 (λa b c d e f g h i j R=>call_n Tryz.func9 (.sk 1 (.draw (od [0,3,4,1,3,1,5,7]) (.join 1 [] (rg [21,3,20,1,24,3,20,1,27,11,20,1,38,1]) .nil (.draw (od [0,2,3,2,2,1,5,2,25991,0,8,2,262026,0]) (.sk 4 (.join 1 [] (rg [60,12]) (.step (.draw (od [0,4,5,3,4,1,8,1,123017,0,261770,0,524171,0]) .nil) .nil .nil) (.sk 3 (.step (.loop [(82,ti)] (rg [83,3,9,1,86,12,82,1]) (.sk 2 (.step (.sk 1 (.draw (od [0,1,2,3,6,1,1,1,5,1,7,1,64520,0,130953,0,10,1,524171,0]) .nil)) .nil .nil))) .nil .nil)))))))) [.pointer a,.agg #[.int Zk b,.int Zk c,.int .u32 d,.string e,.int Zk f,.string g,.string h,.string i]] j R))))
 (yF (yF (λa b c d e f g h R=>call_n Tryz.func10 (.sk 2 (.step (.loop [(5,ti)] (rg [6,5,13,13,11,2,5,1]) .nil) .nil .nil)) [.agg #[.int Zk a,.int Zk b,.int Zk c,.slice d e f],.int Zk g] h R)
 (λa b R=>call_n Tryz.func11 .nil [.pointer a] b R))
 (yF (λa b c d e f g h R=>call_n Tryz.func12 (.sk 3 (.draw (od [5,1,7,1,0,2,3,1,6,1,8,1,642,0,3716,0,130697,0,261770,0,523915,0,1048204,0,2096781,0,4193934,0,15,2,33554193,0,18,1]) .nil)) [.agg #[.int Zk a,.int Zk b,.int Zk c,.int Zk d,.slice e f g]] h R)
 (yF (λa b c d e f g h i j R=>call_n Tryz.func15 (.sk 1 (.draw (od [1,2,128,0,3,6]) (.sk 2 (.join 2 [] (rg [21,19]) (.draw (od [0,12,13,1,12,1,14,1,8388495,0,16,2]) .nil) (.sk 5 (.step (.loop [] (rg [52,2]) .nil) .nil (.sk 1 (.step (.loop [(61,ti)] (rg [62,3,10,1,65,12,61,1]) (.sk 2 (.step (.sk 1 (.draw (od [0,1,2,3,6,1,1,1,5,1,7,1,64520,0,130953,0,10,1,524171,0]) .nil)) .nil .nil))) .nil .nil)))))))) [.pointer a,.agg #[.int Zk b,.int Zk c,.int .u32 d,.string e,.int Zk f,.string g,.string h,.string i]] j R)
 (λa b R=>call_n Tryz.func16 .nil [.pointer a] b R)))))
 (yF (yF (yF (λa b c d e f g h i j k l m n R=>call_n Tryz.func23 .nil [.agg #[.int Zk a,.int Zk b,.int Zk c,.int Zk d,.slice e f g],.agg #[.string h,.string i,.string j,.string k,.int Zk l,.int Zk m]] n R)
 (λa R=>call_n Tryz.func24 .nil [] a R))
 (yF (λa R=>call_n Tryz.func25 .nil [] a R)
 (yF (λa b c d R=>call_n Tryz.func26 .nil [.pointer a,.int Zk b,.string c] d R)
 (λa b c d e f R=>call_n Tryz.func27 .nil [.agg #[.int Zk a,.string b,.string c,.int Zk d,.int Zk e]] f R))))
 (yF (yF (λa b c d e f g h i j R=>call_n Tryz.func28 (.sk 2 (.draw (od [0,5,8069,0,6,1,32647,0]) (.sk 1 (.step (.loop [(25,ti)] (rg [26,3,7,1,30,7,29,1,37,2,8,2,39,18,10,1,57,27,25,1]) (.sk 2 (.step (.sk 1 (.draw (od [0,3,4,1,3,1,5,7]) (.sk 1 (.step (.draw (od [0,6,8198,0,32391,0,8,2,262026,0]) .nil) .nil (.draw (od [0,3,4,1,3,1,5,3,65416,0]) (.draw (od [0,3,4,1,6,1,8,1,10,1,13,1,19,1,3,1,5,1,7,1,9,1,11,2,14,5,20,6,17179869082,0]) .nil)))))) .nil .nil))) .nil .nil)))) [.pointer a,.agg #[.int Zk b,.int Zk c,.int .u32 d,.string e,.int Zk f,.string g,.string h,.string i]] j R)
 (yF (λa b c d e R=>call_n Tryz.func29 (.sk 1 (.step (.loop [(9,ti)] (rg [10,3,5,1,13,4,6,1,18,3,17,1,21,4,26,2,25,1,28,26,9,1]) (.sk 2 (.step (.sk 2 (.step (.sk 1 (.step .nil (.sk 1 (.step (.draw (od [0,4,5,1,4,1,6,1,24711,0,57480,0,9,2,524171,0]) .nil) .nil .nil)) .nil)) .nil .nil)) .nil .nil))) .nil .nil)) [.pointer a,.slice b c d] e R)
 (λa b c R=>call_n Tryz.func30 (.sk 4 (.draw (od [0,1,385,0,2,10,1048460,0,13,7,22,4,20,2,26,3]) (.sk 2 (.draw (od [0,4,5,3,9,4,4,1,8,1,13,2,8388495,0,16,1]) .nil)))) [.pointer a,.int Zk b] c R)))
 (yF (λa b R=>call_n Tryz.func31 .nil [.pointer a] b R)
 (yF (λa b R=>call_n Tryz.func32 (.sk 1 (.step (.loop [(2,tb)] (rg [4,1,15,12,3,1,27,11,5,10,2,1]) (.sk 2 (.step (.step (.loop [] (rg [15,12,3,1,27,11]) .nil) .nil .nil) .nil .nil))) .nil .nil)) [.pointer a] b R)
 (λa b R=>call_n Tryz.func33 .nil [a] b R))))))
 simp -implicitDefEqProofs (maxSteps:=100000000) only[nlB,fl_seq,fl_reg,fl_cond,fl_block,fl_loop,fl_exit,fl_ret,fl_skip,A0,A1,qf4,AE.sk,ra,rg,ro,od,ti,tb,ts,tp,tl,tm,tv,A2,A6,A7,A8,Tryz.f3,Tryz.f6,Tryz.f7,Tryz.f8,Tryz.f9,Tryz.f10,Tryz.f11,Tryz.f12,Tryz.f15,Tryz.f16,Tryz.f23,Tryz.f24,Tryz.f25,Tryz.f26,Tryz.f27,Tryz.f28,Tryz.f29,Tryz.f30,Tryz.f31,Tryz.f32,Tryz.f33]at h;simp -implicitDefEqProofs (maxSteps:=100000000) only[↓n_nil0,↓n_nil1,↓n_skip0,↓n_skip1,↓n_reg0,↓n_reg1,↓n_dr,↓n_dr2,↓n_cond0,↓n_cond1,↓n_block0,↓n_block1,↓n_loop,↓n_exit0,↓n_exit1,↓n_ret0,↓n_ret1,↓n_j1,↓n_j2,↓q_t0,↓q_t1,↓q_t2,↓q_b0,↓q_b1,↓q_b2,↓q_f0,↓q_f1,↓s_0,↓s_1,↓oe_0,↓oe_1,↓oe_2,↓de_0,↓de_1,↓se_1,↓s2_1,↓ne_0,↓ne_1,↓ne_2,↓ne_3,↓nt_0,↓nt_1,↓nt_2,↓nt_3,↓nt_4,↓rb_2,↓g_0,↓g_1,↓e_c,↓e_put,↓e_puts,↓v_c,↓v_t,↓v_g,↓v_f,↓nil_s,↓k_ptr,↓k_fun,↓k_ifc,↓bif_t,↓bif_f,↓isn_s,↓isn_n,↓un_not,↓un_neg,↓un_xor,↓mf,↓b_0,↓b_1,↓d_0,↓d_1,↓al_0,↓al_1,↓wl_a,↓wp_a,↓en_1,↓x1_0,↓x2_0,↓x2_1,↓x3_0,↓x3_1,↓x3_2,↓x4_0,↓x4_1,↓x4_2,↓x4_3,↓t_0,↓t_1,↓opR,↓opX,↓opW,↓opP,↓qi7,↓qb9,↓qe8,↓q09,↓qsa,↓ixK,↓q3c,↓slK,↓qc7,↓qj3,↓q86,↓qvc,↓qa2.asT',↓qwa,↓q66,↓asR,↓asT,↓as0,↓exR,↓qta,↓exT,↓exL,↓ex0,↓alT,↓alL,↓al0,↓ld0,↓ldL,↓st0,↓stL,↓exO,a_0,a_1,decide_true,decide_false,cl_a,cl_i,cl_b,cl_s,cl_p,cl_l,cl_m,cl_f,gs,kd,Two.kd,qn4,tup,qqc,qo5,q72,tys,q49,q68,q96,A0,A1,A5,A9,A2,undef,A3,rep,↓T0,↓T1,↓T2,↓T3,↓T4,↓T5,↓T6,↓T7,↓T8,↓T9,↓T10,↓T11,↓T12]at h;exact h
end Nr
def F6_of{a R}:=Nr.FA0.1.1.1.2 a R
def F7_of{a R}:=Nr.FA0.1.1.2.1 a R
def F8_of{a b c R}:=Nr.FA0.1.1.2.2.1 a b c R
def F9_of{a b c d e f g h i j R}:=Nr.FA0.1.1.2.2.2 a b c d e f g h i j R
def F11_of{a b R}:=Nr.FA0.1.2.1.2 a b R
def F12_of{a b c d e f g h R}:=Nr.FA0.1.2.2.1 a b c d e f g h R
def F15_of{a b c d e f g h i j R}:=Nr.FA0.1.2.2.2.1 a b c d e f g h i j R
def F16_of{a b R}:=Nr.FA0.1.2.2.2.2 a b R
def F23_of{a b c d e f g h i j k l m n R}:=Nr.FA0.2.1.1.1 a b c d e f g h i j k l m n R
def F24_of{a R}:=Nr.FA0.2.1.1.2 a R
def F25_of{a R}:=Nr.FA0.2.1.2.1 a R
def F26_of{a b c d R}:=Nr.FA0.2.1.2.2.1 a b c d R
def F27_of{a b c d e f R}:=Nr.FA0.2.1.2.2.2 a b c d e f R
def F28_of{a b c d e f g h i j R}:=Nr.FA0.2.2.1.1 a b c d e f g h i j R
def F29_of{a b c d e R}:=Nr.FA0.2.2.1.2.1 a b c d e R
def F30_of{a b c R}:=Nr.FA0.2.2.1.2.2 a b c R
def F31_of{a b R}:=Nr.FA0.2.2.2.1 a b R
def F32_of{a b R}:=Nr.FA0.2.2.2.2.1 a b R
def F33_of{a b R}:=Nr.FA0.2.2.2.2.2 a b R
end
section
set_option maxRecDepth 100000
namespace Nr
set_option maxHeartbeats 100000000 in
def FA1:=by
 have h:=(yF (yF (yF (yF (yF (λa b R=>call_n Tryz.func34 .nil [.map a] b R)
 (λa b c d e f g h R=>call_n Tryz.func35 (.sk 2 (.step (.loop [(15,ti)] (rg [16,3,4,1,19,3,2,1,22,1,15,1]) .nil) .nil .nil)) [.agg #[.int Zk a,.int Zk b,.int Zk c,.int Zk d,.slice e f g]] h R))
 (yF (λa b c d e f g h R=>call_n Tryz.func36 .nil [.agg #[.int Zk a,.int Zk b,.int Zk c,.int Zk d,.slice e f g]] h R)
 (yF (λa b c R=>call_n Tryz.func38 .nil [.int Zk a,.int Zk b] c R)
 (λa R=>call_n Tryz.func39 .nil [] a R))))
 (yF (yF (λa b R=>call_n Tryz.func40 .nil [.string a] b R)
 (yF (λa R=>call_n Tryz.func41 .nil [] a R)
 (λa R=>call_n Tryz.func42 .nil [] a R)))
 (yF (λa R=>call_n Tryz.func43 .nil [] a R)
 (yF (λa R=>call_n Tryz.func44 .nil [] a R)
 (λa b c R=>call_n Tryz.func45 .nil [.pointer a,.int Zk b] c R)))))
 (yF (yF (yF (λa b R=>call_n Tryz.func46 (.sk 4 (.step (.loop [(3,tb),(20,ti)] (rg [21,3,6,1,24,14,7,2,38,7,3,1,45,7,3,1,52,1,20,1]) (.sk 2 (.step (.sk 1 (.draw (od [0,3,4,1,7,3,11,1,3,1,5,2,14,1,10,1,12,2,15,1]) (.join 1 [(3,tb)] (rg [38,7,3,1]) .nil .nil))) .nil .nil))) .nil (.sk 1 (.step (.loop [(3,tb),(59,ti)] (rg [60,3,10,1,63,11,3,1,74,1,59,1]) .nil) .nil (.sk 1 (.step (.loop [(3,tb),(77,ti)] (rg [78,3,12,1,81,26,3,1,107,1,77,1]) (.sk 2 (.step (.sk 1 (.draw (od [0,3,4,1,3,1,5,9,15,1,14,1,16,6]) .nil)) .nil .nil))) .nil .nil)))))) [.pointer a] b R)
 (yF (λa b R=>call_n Tryz.func47 (.sk 3 (.step (.loop [(3,tl)] (rg [11,5,5,1,4,1,16,9,3,1]) .nil) .nil .nil)) [.pointer a] b R)
 (λa b R=>call_n Tryz.func48 .nil [.pointer a] b R)))
 (yF (λa b c R=>call_n Tryz.func49 .nil [.pointer a,.string b] c R)
 (yF (λa b R=>call_n Tryz.func50 .nil [.pointer a] b R)
 (λa b c d e f g R=>call_n Tryz.func51 .nil [.agg #[.string a,.string b,.string c,.string d,.int Zk e,.int Zk f]] g R))))
 (yF (yF (λa b R=>call_n Tryz.func52 .nil [.pointer a] b R)
 (yF (λa b c d R=>call_n Tryz.func53 .nil [.slice a b c] d R)
 (λa b c d e f R=>call_n Tryz.func54 (.sk 4 (.draw (od [0,1,3,1,6,1,9,1,1,1,4,1,7,1,10,1,898,0,8069,0,65416,0,524171,0,1048332,0,13,1]) (.sk 1 (.step (.loop [(3,tl),(29,ti)] (rg [30,4,5,2,34,10,3,1,44,1,29,1]) .nil) .nil .nil)))) [.agg #[.int Zk a,.string b,.string c,.int Zk d,.int Zk e]] f R)))
 (yF (λa b c R=>call_n Tryz.func55 (.sk 2 (.step (.loop [] (rg [12,4,6,1,16,7,4,1]) .nil) .nil .nil)) [.pointer a,.int Zk b] c R)
 (yF (λa b c R=>call_n Tryz.func56 (.sk 3 (.draw (od [0,3,4,1,6,2,3,1,5,1,8,2,245770,0,524171,0]) .nil)) [.pointer a,.int Zk b] c R)
 (λa b c R=>call_n Tryz.func57 .nil [.pointer a,.int Zk b] c R))))))
 (yF (yF (yF (yF (λa b R=>call_n Tryz.func58 .nil [.int Zk a] b R)
 (yF (λa b c d e f g R=>call_n Tryz.func59 .nil [.int Zk a,.agg #[.int Zk b,.string c,.string d,.int Zk e,.int Zk f]] g R)
 (λa b R=>call_n Tryz.func60 .nil [.pointer a] b R)))
 (yF (λa b R=>call_n Tryz.func61 .nil [.pointer a] b R)
 (yF (λa b R=>call_n Tryz.func63 .nil [a] b R)
 (λa b c R=>call_n Tryz.func65 (.sk 1 (.step (.loop [] (rg [6,4,3,1,10,4]) .nil) .nil .nil)) [a,.pointer (A4 b)] c R))))
 (yF (yF (λa b c d R=>call_n Tryz.func66 .nil [.int Zk a,.int Zk b,.int Zk c] d R)
 (yF (λa b c d e R=>call_n Tryz.func67 .nil [.slice a b c,d] e R)
 (λa b c d e f g h i j R=>call_n Tryz.func68 .nil [.agg #[.string a,.int Zk b,.int Zk c,.slice d e f,.slice g h i]] j R)))
 (yF (λa b c d e f g h i j R=>call_n Tryz.func69 (.sk 2 (.join 1 [(3,tb)] (rg [7,6,3,1]) .nil (.join 1 [] (rg [14,1,13,1,15,4,13,1,19,4,13,1,23,4,13,1,2,1]) .nil .nil))) [.agg #[.string a,.int Zk b,.int Zk c,.slice d e f,.slice g h i]] j R)
 (yF (λa b c d e R=>call_n Tryz.func70 (.sk 2 (.step (.loop [(5,ti)] (rg [6,4,12,14,4,1,10,2,5,1]) (.sk 2 (.step (.draw (od [0,5,7,4,5,1,11,1,16262,0,1048460,0,13,1]) .nil) .nil .nil))) .nil .nil)) [.slice a b c,d] e R)
 (λa b c d e f g h i j R=>call_n Tryz.func71 .nil [.agg #[.string a,.int Zk b,.int Zk c,.slice d e f,.slice g h i]] j R)))))
 (yF (yF (yF (λa b R=>call_n Tryz.func72 .nil [.int Zk a] b R)
 (yF (λa b c d e f g h i j k R=>call_n Tryz.func73 (.sk 1 (.draw (od [0,3,4,1,3,1,5,1,16262,0,7,5]) (.sk 2 (.draw (od [0,3,4,6,3,1,10,1,491659,0,12,1,2088973,0,4194190,0]) .nil)))) [.pointer a,.agg #[.int Zk b,.int Zk c,.int .u32 d,.string e,.int Zk f,.string g,.string h,.string i],.pointer j] k R)
 (λa b c d e f g h i j k R=>call_n Tryz.func74 (.sk 1 (.draw (od [0,4,5,1,7,1,4,1,6,1,8,1,98441,0,261770,0,11,2,2097037,0]) .nil)) [.pointer a,.agg #[.int Zk b,.int Zk c,.int .u32 d,.string e,.int Zk f,.string g,.string h,.string i],.pointer j] k R)))
 (yF (λa b c d e f g h i j k R=>call_n Tryz.func75 (.sk 1 (.draw (od [0,3,4,1,6,1,3,1,5,1,7,1,65416,0,9,1]) .nil)) [.pointer a,.agg #[.int Zk b,.int Zk c,.int .u32 d,.string e,.int Zk f,.string g,.string h,.string i],.pointer j] k R)
 (yF (λa b c d e f g h i j k R=>call_n Tryz.func76 (.sk 1 (.draw (od [0,3,4,1,3,1,5,1,16262,0,7,1]) .nil)) [.pointer a,.agg #[.int Zk b,.int Zk c,.int .u32 d,.string e,.int Zk f,.string g,.string h,.string i],.pointer j] k R)
 (λa b c d e f g h i j k R=>call_n Tryz.func77 .nil [.pointer a,.agg #[.int Zk b,.int Zk c,.int .u32 d,.string e,.int Zk f,.string g,.string h,.string i],.pointer j] k R))))
 (yF (yF (λa b c d e f g h i j k R=>call_n Tryz.func78 (.sk 1 (.draw (od [0,3,4,1,3,1,5,1,16262,0,7,5]) (.sk 2 (.draw (od [0,3,4,3,11,1,3,1,7,1,61576,0,130953,0,10,1]) (.step (.loop [(37,ti)] (rg [38,3,10,1,41,4,37,1]) .nil) .nil (.sk 1 (.step (.loop [(47,ti)] (rg [48,3,12,1,51,4,47,1]) .nil) .nil .nil))))))) [.pointer a,.agg #[.int Zk b,.int Zk c,.int .u32 d,.string e,.int Zk f,.string g,.string h,.string i],.pointer j] k R)
 (yF (λa b c d e f g h i j k R=>call_n Tryz.func79 (.sk 1 (.draw (od [0,3,4,1,6,1,3,1,5,1,7,1,65416,0,9,1]) (.sk 2 (.step (.loop [(27,ti)] (rg [28,3,8,1,32,6,31,1,38,2,9,2,40,32,27,1]) (.sk 2 (.step (.sk 2 (.draw (od [0,14,15,1,14,1,16,7,24,1,23,1,25,3]) .nil)) .nil .nil))) .nil .nil)))) [.pointer a,.agg #[.int Zk b,.int Zk c,.int .u32 d,.string e,.int Zk f,.string g,.string h,.string i],.pointer j] k R)
 (λa b c d e f g h i j k R=>call_n Tryz.func80 (.sk 1 (.draw (od [0,3,4,1,6,3,3,1,5,1,9,1,245898,0,524171,0,12,4,12582800,0,17,1]) .nil)) [.pointer a,.agg #[.int Zk b,.int Zk c,.int .u32 d,.string e,.int Zk f,.string g,.string h,.string i],.pointer j] k R)))
 (yF (λa b c d R=>call_n Tryz.func81 .nil [.pointer a,.int Zk b,c] d R)
 (yF (λa b R=>call_n Tryz.func82 .nil [.pointer a] b R)
 (λa b c d R=>call_n Tryz.func83 (.sk 1 (.draw (od [0,3,4,4,9,3,13,3,3,1,8,1,12,1,16,1,33423505,0,67108754,0,19,1]) (.draw (od [0,3,4,3,8,1,3,1,7,1,130953,0]) (.join 1 [(8,tb)] (rg [41,34,8,1]) (.draw (od [0,3,4,4,3,1,8,1,130953,0,10,5,16,4,15,1,20,1,536870805,0,22,5,28,3,27,1,31,1,1099511627680,0,33,2]) .nil) (.draw (od [0,3,4,3,8,3,12,4,3,1,7,1,11,1,16,1,33489041,0,67108754,0,19,5]) (.draw (od [0,3,4,4,9,1,3,1,8,1,262026,0]) (.join 1 [] (rg [108,10]) .nil (.sk 2 (.join 1 [] (rg [125,18]) (.step (.draw (od [0,5,6,4,11,4,5,1,10,1,15,1,16760848,0,33554321,0]) .nil) .nil .nil) .nil))))))))) [.pointer a,.pointer b,.pointer c] d R)))))))
 simp -implicitDefEqProofs (maxSteps:=100000000) only[nlB,fl_seq,fl_reg,fl_cond,fl_block,fl_loop,fl_exit,fl_ret,fl_skip,A0,A1,qf4,AE.sk,ra,rg,ro,od,ti,tb,ts,tp,tl,tm,tv,A2,A6,A7,A8,Tryz.f34,Tryz.f35,Tryz.f36,Tryz.f38,Tryz.f39,Tryz.f40,Tryz.f41,Tryz.f42,Tryz.f43,Tryz.f44,Tryz.f45,Tryz.f46,Tryz.f47,Tryz.f48,Tryz.f49,Tryz.f50,Tryz.f51,Tryz.f52,Tryz.f53,Tryz.f54,Tryz.f55,Tryz.f56,Tryz.f57,Tryz.f58,Tryz.f59,Tryz.f60,Tryz.f61,Tryz.f63,Tryz.f65,Tryz.f66,Tryz.f67,Tryz.f68,Tryz.f69,Tryz.f70,Tryz.f71,Tryz.f72,Tryz.f73,Tryz.f74,Tryz.f75,Tryz.f76,Tryz.f77,Tryz.f78,Tryz.f79,Tryz.f80,Tryz.f81,Tryz.f82,Tryz.f83]at h;simp -implicitDefEqProofs (maxSteps:=100000000) only[↓n_nil0,↓n_nil1,↓n_skip0,↓n_skip1,↓n_reg0,↓n_reg1,↓n_dr,↓n_dr2,↓n_cond0,↓n_cond1,↓n_block0,↓n_block1,↓n_loop,↓n_exit0,↓n_exit1,↓n_ret0,↓n_ret1,↓n_j1,↓n_j2,↓q_t0,↓q_t1,↓q_t2,↓q_b0,↓q_b1,↓q_b2,↓q_f0,↓q_f1,↓s_0,↓s_1,↓oe_0,↓oe_1,↓oe_2,↓de_0,↓de_1,↓se_1,↓s2_1,↓ne_0,↓ne_1,↓ne_2,↓ne_3,↓nt_0,↓nt_1,↓nt_2,↓nt_3,↓nt_4,↓rb_2,↓g_0,↓g_1,↓e_c,↓e_put,↓e_puts,↓v_c,↓v_t,↓v_g,↓v_f,↓nil_s,↓k_ptr,↓k_fun,↓k_ifc,↓bif_t,↓bif_f,↓isn_s,↓isn_n,↓un_not,↓un_neg,↓un_xor,↓mf,↓b_0,↓b_1,↓d_0,↓d_1,↓al_0,↓al_1,↓wl_a,↓wp_a,↓en_1,↓x1_0,↓x2_0,↓x2_1,↓x3_0,↓x3_1,↓x3_2,↓x4_0,↓x4_1,↓x4_2,↓x4_3,↓t_0,↓t_1,↓opR,↓opX,↓opW,↓opP,↓qi7,↓qb9,↓qe8,↓q09,↓qsa,↓ixK,↓q3c,↓slK,↓qc7,↓qj3,↓q86,↓qvc,↓qa2.asT',↓qwa,↓q66,↓asR,↓asT,↓as0,↓exR,↓qta,↓exT,↓exL,↓ex0,↓alT,↓alL,↓al0,↓ld0,↓ldL,↓st0,↓stL,↓exO,a_0,a_1,decide_true,decide_false,cl_a,cl_i,cl_b,cl_s,cl_p,cl_l,cl_m,cl_f,gs,kd,Two.kd,qn4,tup,qqc,qo5,q72,tys,q49,q68,q96,A0,A1,A5,A9,A2,undef,A3,rep,↓T0,↓T1,↓T2,↓T3,↓T4,↓T5,↓T6,↓T7,↓T8,↓T9,↓T10,↓T11,↓T12]at h;exact h
end Nr
def F34_of{a b R}:=Nr.FA1.1.1.1.1.1 a b R
def F35_of{a b c d e f g h R}:=Nr.FA1.1.1.1.1.2 a b c d e f g h R
def F36_of{a b c d e f g h R}:=Nr.FA1.1.1.1.2.1 a b c d e f g h R
def F38_of{a b c R}:=Nr.FA1.1.1.1.2.2.1 a b c R
def F39_of{a R}:=Nr.FA1.1.1.1.2.2.2 a R
def F40_of{a b R}:=Nr.FA1.1.1.2.1.1 a b R
def F41_of{a R}:=Nr.FA1.1.1.2.1.2.1 a R
def F42_of{a R}:=Nr.FA1.1.1.2.1.2.2 a R
def F43_of{a R}:=Nr.FA1.1.1.2.2.1 a R
def F44_of{a R}:=Nr.FA1.1.1.2.2.2.1 a R
def F45_of{a b c R}:=Nr.FA1.1.1.2.2.2.2 a b c R
def F46_of{a b R}:=Nr.FA1.1.2.1.1.1 a b R
def F47_of{a b R}:=Nr.FA1.1.2.1.1.2.1 a b R
def F48_of{a b R}:=Nr.FA1.1.2.1.1.2.2 a b R
def F49_of{a b c R}:=Nr.FA1.1.2.1.2.1 a b c R
def F50_of{a b R}:=Nr.FA1.1.2.1.2.2.1 a b R
def F51_of{a b c d e f g R}:=Nr.FA1.1.2.1.2.2.2 a b c d e f g R
def F52_of{a b R}:=Nr.FA1.1.2.2.1.1 a b R
def F53_of{a b c d R}:=Nr.FA1.1.2.2.1.2.1 a b c d R
def F54_of{a b c d e f R}:=Nr.FA1.1.2.2.1.2.2 a b c d e f R
def F55_of{a b c R}:=Nr.FA1.1.2.2.2.1 a b c R
def F56_of{a b c R}:=Nr.FA1.1.2.2.2.2.1 a b c R
def F57_of{a b c R}:=Nr.FA1.1.2.2.2.2.2 a b c R
def F58_of{a b R}:=Nr.FA1.2.1.1.1.1 a b R
def F59_of{a b c d e f g R}:=Nr.FA1.2.1.1.1.2.1 a b c d e f g R
def F60_of{a b R}:=Nr.FA1.2.1.1.1.2.2 a b R
def F61_of{a b R}:=Nr.FA1.2.1.1.2.1 a b R
def F63_of{a b R}:=Nr.FA1.2.1.1.2.2.1 a b R
def F65_of{a b c R}:=Nr.FA1.2.1.1.2.2.2 a b c R
def F66_of{a b c d R}:=Nr.FA1.2.1.2.1.1 a b c d R
def F67_of{a b c d e R}:=Nr.FA1.2.1.2.1.2.1 a b c d e R
def F68_of{a b c d e f g h i j R}:=Nr.FA1.2.1.2.1.2.2 a b c d e f g h i j R
def F69_of{a b c d e f g h i j R}:=Nr.FA1.2.1.2.2.1 a b c d e f g h i j R
def F70_of{a b c d e R}:=Nr.FA1.2.1.2.2.2.1 a b c d e R
def F71_of{a b c d e f g h i j R}:=Nr.FA1.2.1.2.2.2.2 a b c d e f g h i j R
def F72_of{a b R}:=Nr.FA1.2.2.1.1.1 a b R
def F73_of{a b c d e f g h i j k R}:=Nr.FA1.2.2.1.1.2.1 a b c d e f g h i j k R
def F74_of{a b c d e f g h i j k R}:=Nr.FA1.2.2.1.1.2.2 a b c d e f g h i j k R
def F75_of{a b c d e f g h i j k R}:=Nr.FA1.2.2.1.2.1 a b c d e f g h i j k R
def F76_of{a b c d e f g h i j k R}:=Nr.FA1.2.2.1.2.2.1 a b c d e f g h i j k R
def F77_of{a b c d e f g h i j k R}:=Nr.FA1.2.2.1.2.2.2 a b c d e f g h i j k R
def F78_of{a b c d e f g h i j k R}:=Nr.FA1.2.2.2.1.1 a b c d e f g h i j k R
def F79_of{a b c d e f g h i j k R}:=Nr.FA1.2.2.2.1.2.1 a b c d e f g h i j k R
def F80_of{a b c d e f g h i j k R}:=Nr.FA1.2.2.2.1.2.2 a b c d e f g h i j k R
def F81_of{a b c d R}:=Nr.FA1.2.2.2.2.1 a b c d R
def F82_of{a b R}:=Nr.FA1.2.2.2.2.2.1 a b R
def F83_of{a b c d R}:=Nr.FA1.2.2.2.2.2.2 a b c d R
end
section
set_option maxRecDepth 100000
namespace Nr
set_option maxHeartbeats 100000000 in
def FA2:=by
 have h:=(yF (yF (yF (yF (yF (λa b c R=>call_n Tryz.func84 (.sk 1 (.draw (od [0,3,4,4,3,1,8,1,130953,0,10,1]) (.join 1 [(6,tb)] (rg [17,17,6,1]) (.draw (od [0,8,9,4,8,1,13,1,4194190,0,15,3]) .nil) (.sk 1 (.join 1 [] (rg [35,6]) .nil .nil))))) [.pointer a,.pointer b] c R)
 (yF (λa b c R=>call_n Tryz.func85 (.sk 8 (.step (.sk 1 (.step (.draw (od [0,3,4,4,12,1,3,1,8,1,123017,0,262026,0,11,1]) (.step (.loop [(66,ti)] (rg [67,3,7,1,70,12,66,1]) (.sk 2 (.step (.sk 1 (.draw (od [0,3,4,1,3,1,5,1,16262,0]) .nil)) .nil .nil))) .nil .nil)) (.sk 1 (.step (.sk 2 (.draw (od [0,3,4,4,3,1,8,1,130953,0]) .nil)) (.sk 1 (.step (.sk 2 (.step (.draw (od [0,3,4,4,3,1,8,1,130953,0]) .nil) .nil .nil)) .nil .nil)) .nil)) .nil)) .nil .nil)) [.pointer a,.int Zk b] c R)
 (λa b c d e R=>call_n Tryz.func87 .nil [.agg #[.int Zk a,.int Zk b],.agg #[.int Zk c,.int Zk d]] e R)))
 (yF (λa b c R=>call_n Tryz.func88 .nil [.int Zk a,.int Zk b] c R)
 (yF (λa b c d R=>call_n Tryz.func89 (.sk 3 (.step (.loop [(7,tl),(18,ti)] (rg [19,3,9,1,22,6,10,1,28,9,7,1,37,4,18,1]) .nil) .nil .nil)) [.pointer a,b,c] d R)
 (λa b R=>call_n Tryz.func90 .nil [.pointer a] b R))))
 (yF (yF (λa b R=>call_n Tryz.func91 .nil [.pointer a] b R)
 (yF (λa b c d R=>call_n Tryz.func92 .nil [.slice a b c] d R)
 (λa b R=>call_n Tryz.func93 .nil [.map a] b R)))
 (yF (yF (λa b c d e f R=>call_n Tryz.func95 .nil [.agg #[.int Zk a,.string b,.string c,.int Zk d,.int Zk e]] f R)
 (λa b R=>call_n Tryz.func96 .nil [.string a] b R))
 (yF (λa b R=>call_n Tryz.func97 (.sk 5 (.step (.loop [(3,tl),(12,ti)] (rg [13,2,4,1,15,7,5,1,22,12,3,1,34,1,12,1]) .nil) .nil .nil)) [.int Zk a] b R)
 (λa b R=>call_n Tryz.func98 .nil [.int Zk a] b R)))))
 (yF (yF (yF (λa b c R=>call_n Tryz.func99 .nil [a,b] c R)
 (yF (λa b R=>call_n Tryz.func100 .nil [.map a] b R)
 (λa b c R=>call_n Tryz.func101 (.sk 1 (.draw (od [0,3,4,3,3,1,7,3]) .nil)) [.pointer a,.pointer b] c R)))
 (yF (yF (λa b c d e R=>call_n Tryz.func102 .nil [.slice a b c,d] e R)
 (λa b c R=>call_n Tryz.func103 (.sk 1 (.step (.sk 1 (.step .nil (.sk 1 (.step (.draw (od [0,4,5,3,4,1,8,3,524171,0,12,2]) .nil) .nil .nil)) .nil)) .nil .nil)) [.pointer a,.pointer b] c R))
 (yF (λa b R=>call_n Tryz.func104 .nil [.pointer a] b R)
 (λa b c d e f g h i R=>call_n Tryz.func105 (.sk 4 (.draw (od [0,3,4,1,6,1,3,1,5,1,32647,0,8,1]) .nil)) [.pointer a,.int Zk b,.agg #[.int Zk c,.string d,.string e,.int Zk f,.int Zk g],.int Zk h] i R))))
 (yF (yF (λa b c R=>call_n Tryz.func106 .nil [.pointer a,.int Zk b] c R)
 (yF (λa b c d e R=>call_n Tryz.func110 (.sk 2 (.step (.loop [(8,ti)] (rg [9,2,5,1,11,7,4,1,18,1,8,1]) .nil) .nil .nil)) [.slice a b c,d] e R)
 (λa b c d e R=>call_n Tryz.func111 .nil [.slice a b c,d] e R)))
 (yF (yF (λa b c R=>call_n Tryz.func112 .nil [.agg #[.int .u32 a,.int Zk b]] c R)
 (λa b c R=>call_n Tryz.func113 (.sk 3 (.draw (od [0,1,4,1,1,1,5,1,898,0,3,1,14214,0,7,2]) .nil)) [.agg #[.int .u32 a,.int Zk b]] c R))
 (yF (λa b c d e R=>call_n Tryz.func114 .nil [.slice a b c,d] e R)
 (λa b c d R=>call_n Tryz.func115 .nil [.agg #[.string a,.string b,.int Zk c]] d R))))))
 (yF (yF (yF (yF (λa b c d R=>call_n Tryz.func116 .nil [.agg #[.string a,.string b,.int Zk c]] d R)
 (yF (λa b R=>call_n Tryz.func117 .nil [.string a] b R)
 (λa b c d e R=>call_n Tryz.func118 (.sk 2 (.step (.loop [(5,ti)] (rg [6,4,12,14,4,1,10,2,5,1]) (.sk 2 (.step (.draw (od [0,5,7,4,5,1,11,1,16262,0,1048460,0,13,1]) .nil) .nil .nil))) .nil .nil)) [.slice a b c,d] e R)))
 (yF (yF (λa b c d R=>call_n Tryz.func119 .nil [.agg #[.string a,.string b,.int Zk c]] d R)
 (λa b c R=>call_n Tryz.func120 (.sk 4 (.draw (od [0,3,4,3,8,1,3,1,7,1,137,0,131210,0,11,1,983052,0,2097037,0]) .nil)) [.pointer a,.int .u32 b] c R))
 (yF (λa b c d e f R=>call_n Tryz.func122 (.sk 1 (.step (.loop [(10,ti)] (rg [11,3,7,1,14,14,10,1]) (.sk 2 (.step (.sk 1 (.draw (od [0,3,4,4,10,1,3,1,8,1,123017,0,11,1,1048460,0]) .nil)) .nil .nil))) .nil .nil)) [.pointer a,.int Zk b,.slice c d e] f R)
 (λa b c d e f R=>call_n Tryz.func123 .nil [.pointer a,.int Zk b,.slice c d e] f R))))
 (yF (yF (λa b c d R=>call_n Tryz.func124 (.sk 1 (.step (.loop [(6,tp),(7,tb)] (rg [19,1,27,6,26,1,33,3,8,3,36,15,52,2,51,1,54,2,11,2,56,10,21,3,20,1,24,2,6,2]) (.sk 2 (.step (.sk 1 (.join 2 [] (rg [36,15]) .nil .nil)) .nil .nil))) .nil .nil)) [.pointer a,.int Zk b,.string c] d R)
 (yF (λa b c d R=>call_n Tryz.func125 .nil [.pointer a,.int Zk b,.int Zk c] d R)
 (λa b c R=>call_n Tryz.func126 .nil [.pointer a,.int Zk b] c R)))
 (yF (yF (λa b c R=>call_n Tryz.func127 (.sk 5 (.step (.loop [(6,tl)] (rg [27,28,7,1,55,15,6,1]) (.draw (od [0,10,16,3,10,6,19,3]) (.sk 1 (.step (.sk 1 (.draw (od [0,3,4,3,3,1,7,1,65416,0]) .nil)) .nil .nil)))) .nil .nil)) [.pointer a,.int Zk b] c R)
 (λa b c d e f g h R=>call_n Tryz.func129 (.sk 1 (.draw (od [0,3,4,1,3,1,5,1,16262,0]) .nil)) [.pointer a,.agg #[.string b,.string c,.int Zk d,.int Zk e,.int Zk f,.bool g]] h R))
 (yF (λa b c d R=>call_n Tryz.func130 .nil [.pointer a,.string b,.string c] d R)
 (λa b c d R=>call_n Tryz.func131 .nil [.pointer a,.string b,.int Zk c] d R)))))
 (yF (yF (yF (λa b c d R=>call_n Tryz.func132 .nil [.pointer a,.int Zk b,.int Zk c] d R)
 (yF (λa b c R=>call_n Tryz.func133 .nil [.pointer a,.int Zk b] c R)
 (λa b c d e f R=>call_n Tryz.func134 .nil [.pointer a,.int Zk b,.slice c d e] f R)))
 (yF (yF (λa b c R=>call_n Tryz.func135 .nil [.pointer a,.int Zk b] c R)
 (λa b c R=>call_n Tryz.func136 .nil [.pointer a,.int Zk b] c R))
 (yF (λa b c R=>call_n Tryz.func137 .nil [.pointer a,.int Zk b] c R)
 (λa b c d R=>call_n Tryz.func138 .nil [.pointer a,.int Zk b,.int Zk c] d R))))
 (yF (yF (λa b c R=>call_n Tryz.func139 .nil [.pointer a,.int Zk b] c R)
 (yF (λa b c d e f R=>call_n Tryz.func140 .nil [.pointer a,.int Zk b,.slice c d e] f R)
 (λa b c R=>call_n Tryz.func141 .nil [.pointer a,.int Zk b] c R)))
 (yF (yF (λa b c R=>call_n Tryz.func142 .nil [.pointer a,.int Zk b] c R)
 (λa b c d e f g h R=>call_n Tryz.func143 (.sk 4 (.draw (od [0,3,4,3,8,1,11,1,17,1,3,1,7,1,9,2,12,5,18,6,4294967192,0]) .nil)) [.pointer a,.int Zk b,.slice c d e,.bool f,.bool g] h R))
 (yF (λa b c R=>call_n Tryz.func144 (.sk 3 (.step (.draw (od [0,8,65416,0]) .nil) .nil .nil)) [.pointer a,.int Zk b] c R)
 (λa b c R=>call_n Tryz.func145 .nil [.pointer a,.int Zk b] c R)))))))
 simp -implicitDefEqProofs (maxSteps:=100000000) only[nlB,fl_seq,fl_reg,fl_cond,fl_block,fl_loop,fl_exit,fl_ret,fl_skip,A0,A1,qf4,AE.sk,ra,rg,ro,od,ti,tb,ts,tp,tl,tm,tv,A2,A6,A7,A8,Tryz.f84,Tryz.f85,Tryz.f87,Tryz.f88,Tryz.f89,Tryz.f90,Tryz.f91,Tryz.f92,Tryz.f93,Tryz.f95,Tryz.f96,Tryz.f97,Tryz.f98,Tryz.f99,Tryz.f100,Tryz.f101,Tryz.f102,Tryz.f103,Tryz.f104,Tryz.f105,Tryz.f106,Tryz.f110,Tryz.f111,Tryz.f112,Tryz.f113,Tryz.f114,Tryz.f115,Tryz.f116,Tryz.f117,Tryz.f118,Tryz.f119,Tryz.f120,Tryz.f122,Tryz.f123,Tryz.f124,Tryz.f125,Tryz.f126,Tryz.f127,Tryz.f129,Tryz.f130,Tryz.f131,Tryz.f132,Tryz.f133,Tryz.f134,Tryz.f135,Tryz.f136,Tryz.f137,Tryz.f138,Tryz.f139,Tryz.f140,Tryz.f141,Tryz.f142,Tryz.f143,Tryz.f144,Tryz.f145]at h;simp -implicitDefEqProofs (maxSteps:=100000000) only[↓n_nil0,↓n_nil1,↓n_skip0,↓n_skip1,↓n_reg0,↓n_reg1,↓n_dr,↓n_dr2,↓n_cond0,↓n_cond1,↓n_block0,↓n_block1,↓n_loop,↓n_exit0,↓n_exit1,↓n_ret0,↓n_ret1,↓n_j1,↓n_j2,↓q_t0,↓q_t1,↓q_t2,↓q_b0,↓q_b1,↓q_b2,↓q_f0,↓q_f1,↓s_0,↓s_1,↓oe_0,↓oe_1,↓oe_2,↓de_0,↓de_1,↓se_1,↓s2_1,↓ne_0,↓ne_1,↓ne_2,↓ne_3,↓nt_0,↓nt_1,↓nt_2,↓nt_3,↓nt_4,↓rb_2,↓g_0,↓g_1,↓e_c,↓e_put,↓e_puts,↓v_c,↓v_t,↓v_g,↓v_f,↓nil_s,↓k_ptr,↓k_fun,↓k_ifc,↓bif_t,↓bif_f,↓isn_s,↓isn_n,↓un_not,↓un_neg,↓un_xor,↓mf,↓b_0,↓b_1,↓d_0,↓d_1,↓al_0,↓al_1,↓wl_a,↓wp_a,↓en_1,↓x1_0,↓x2_0,↓x2_1,↓x3_0,↓x3_1,↓x3_2,↓x4_0,↓x4_1,↓x4_2,↓x4_3,↓t_0,↓t_1,↓opR,↓opX,↓opW,↓opP,↓qi7,↓qb9,↓qe8,↓q09,↓qsa,↓ixK,↓q3c,↓slK,↓qc7,↓qj3,↓q86,↓qvc,↓qa2.asT',↓qwa,↓q66,↓asR,↓asT,↓as0,↓exR,↓qta,↓exT,↓exL,↓ex0,↓alT,↓alL,↓al0,↓ld0,↓ldL,↓st0,↓stL,↓exO,a_0,a_1,decide_true,decide_false,cl_a,cl_i,cl_b,cl_s,cl_p,cl_l,cl_m,cl_f,gs,kd,Two.kd,qn4,tup,qqc,qo5,q72,tys,q49,q68,q96,A0,A1,A5,A9,A2,undef,A3,rep,↓T0,↓T1,↓T2,↓T3,↓T4,↓T5,↓T6,↓T7,↓T8,↓T9,↓T10,↓T11,↓T12]at h;exact h
end Nr
def F84_of{a b c R}:=Nr.FA2.1.1.1.1.1 a b c R
def F85_of{a b c R}:=Nr.FA2.1.1.1.1.2.1 a b c R
def F87_of{a b c d e R}:=Nr.FA2.1.1.1.1.2.2 a b c d e R
def F88_of{a b c R}:=Nr.FA2.1.1.1.2.1 a b c R
def F89_of{a b c d R}:=Nr.FA2.1.1.1.2.2.1 a b c d R
def F90_of{a b R}:=Nr.FA2.1.1.1.2.2.2 a b R
def F91_of{a b R}:=Nr.FA2.1.1.2.1.1 a b R
def F92_of{a b c d R}:=Nr.FA2.1.1.2.1.2.1 a b c d R
def F93_of{a b R}:=Nr.FA2.1.1.2.1.2.2 a b R
def F95_of{a b c d e f R}:=Nr.FA2.1.1.2.2.1.1 a b c d e f R
def F96_of{a b R}:=Nr.FA2.1.1.2.2.1.2 a b R
def F97_of{a b R}:=Nr.FA2.1.1.2.2.2.1 a b R
def F98_of{a b R}:=Nr.FA2.1.1.2.2.2.2 a b R
def F99_of{a b c R}:=Nr.FA2.1.2.1.1.1 a b c R
def F100_of{a b R}:=Nr.FA2.1.2.1.1.2.1 a b R
def F101_of{a b c R}:=Nr.FA2.1.2.1.1.2.2 a b c R
def F102_of{a b c d e R}:=Nr.FA2.1.2.1.2.1.1 a b c d e R
def F103_of{a b c R}:=Nr.FA2.1.2.1.2.1.2 a b c R
def F104_of{a b R}:=Nr.FA2.1.2.1.2.2.1 a b R
def F105_of{a b c d e f g h i R}:=Nr.FA2.1.2.1.2.2.2 a b c d e f g h i R
def F106_of{a b c R}:=Nr.FA2.1.2.2.1.1 a b c R
def F110_of{a b c d e R}:=Nr.FA2.1.2.2.1.2.1 a b c d e R
def F111_of{a b c d e R}:=Nr.FA2.1.2.2.1.2.2 a b c d e R
def F112_of{a b c R}:=Nr.FA2.1.2.2.2.1.1 a b c R
def F113_of{a b c R}:=Nr.FA2.1.2.2.2.1.2 a b c R
def F114_of{a b c d e R}:=Nr.FA2.1.2.2.2.2.1 a b c d e R
def F115_of{a b c d R}:=Nr.FA2.1.2.2.2.2.2 a b c d R
def F116_of{a b c d R}:=Nr.FA2.2.1.1.1.1 a b c d R
def F117_of{a b R}:=Nr.FA2.2.1.1.1.2.1 a b R
def F118_of{a b c d e R}:=Nr.FA2.2.1.1.1.2.2 a b c d e R
def F119_of{a b c d R}:=Nr.FA2.2.1.1.2.1.1 a b c d R
def F120_of{a b c R}:=Nr.FA2.2.1.1.2.1.2 a b c R
def F122_of{a b c d e f R}:=Nr.FA2.2.1.1.2.2.1 a b c d e f R
def F123_of{a b c d e f R}:=Nr.FA2.2.1.1.2.2.2 a b c d e f R
def F124_of{a b c d R}:=Nr.FA2.2.1.2.1.1 a b c d R
def F125_of{a b c d R}:=Nr.FA2.2.1.2.1.2.1 a b c d R
def F126_of{a b c R}:=Nr.FA2.2.1.2.1.2.2 a b c R
def F127_of{a b c R}:=Nr.FA2.2.1.2.2.1.1 a b c R
def F129_of{a b c d e f g h R}:=Nr.FA2.2.1.2.2.1.2 a b c d e f g h R
def F130_of{a b c d R}:=Nr.FA2.2.1.2.2.2.1 a b c d R
def F131_of{a b c d R}:=Nr.FA2.2.1.2.2.2.2 a b c d R
def F132_of{a b c d R}:=Nr.FA2.2.2.1.1.1 a b c d R
def F133_of{a b c R}:=Nr.FA2.2.2.1.1.2.1 a b c R
def F134_of{a b c d e f R}:=Nr.FA2.2.2.1.1.2.2 a b c d e f R
def F135_of{a b c R}:=Nr.FA2.2.2.1.2.1.1 a b c R
def F136_of{a b c R}:=Nr.FA2.2.2.1.2.1.2 a b c R
def F137_of{a b c R}:=Nr.FA2.2.2.1.2.2.1 a b c R
def F138_of{a b c d R}:=Nr.FA2.2.2.1.2.2.2 a b c d R
def F139_of{a b c R}:=Nr.FA2.2.2.2.1.1 a b c R
def F140_of{a b c d e f R}:=Nr.FA2.2.2.2.1.2.1 a b c d e f R
def F141_of{a b c R}:=Nr.FA2.2.2.2.1.2.2 a b c R
def F142_of{a b c R}:=Nr.FA2.2.2.2.2.1.1 a b c R
def F143_of{a b c d e f g h R}:=Nr.FA2.2.2.2.2.1.2 a b c d e f g h R
def F144_of{a b c R}:=Nr.FA2.2.2.2.2.2.1 a b c R
def F145_of{a b c R}:=Nr.FA2.2.2.2.2.2.2 a b c R
end
section
set_option maxRecDepth 100000
namespace Nr
set_option maxHeartbeats 100000000 in
def FA3:=by
 have h:=(yF (yF (yF (yF (yF (λa b c d R=>call_n Tryz.func147 (.sk 3 (.draw (od [0,3,4,1,6,1,3,1,5,1,7,3,12,2,10,2,14,1,8388495,0]) .nil)) [.pointer a,.string b,.int Zk c] d R)
 (yF (λa b c R=>call_n Tryz.func148 (.sk 1 (.step (.loop [(13,ti)] (rg [14,3,5,1,17,4,13,1]) .nil) .nil .nil)) [.pointer a,.string b] c R)
 (λa b c R=>call_n Tryz.func149 (.sk 7 (.step (.loop [(7,tl),(33,ti)] (rg [34,3,9,1,37,7,7,1,44,1,33,1]) .nil) .nil .nil)) [.pointer a,.int Zk b] c R)))
 (yF (yF (λa b c R=>call_n Tryz.func150 .nil [.pointer a,.int Zk b] c R)
 (λa b c R=>call_n Tryz.func151 .nil [.pointer a,.int Zk b] c R))
 (yF (λa b R=>call_n Tryz.func153 .nil [.int Zk a] b R)
 (λa b R=>call_n Tryz.func154 .nil [a] b R))))
 (yF (yF (λa b R=>call_n Tryz.func155 .nil [.map a] b R)
 (yF (λa b c R=>call_n Tryz.func156 (.sk 1 (.step (.loop [] (rg [6,4,3,1,10,4]) .nil) .nil .nil)) [a,.pointer (A4 b)] c R)
 (λa b c R=>call_n Tryz.func158 .nil [.string a,.bool b] c R)))
 (yF (yF (λa b c R=>call_n Tryz.func159 .nil [.int Zk a,.bool b] c R)
 (λa R=>call_n Tryz.func160 .nil [] a R))
 (yF (λa b R=>call_n Tryz.func161 .nil [a] b R)
 (λa b c R=>call_n Tryz.func163 (.sk 1 (.step (.loop [] (rg [7,4,4,1,11,4]) .nil) .nil .nil)) [a,.pointer (A4 b)] c R)))))
 (yF (yF (yF (λa b c d e R=>call_n Tryz.func164 (.sk 2 (.step (.loop [(8,ti)] (rg [9,2,5,1,11,7,4,1,18,1,8,1]) .nil) .nil .nil)) [.slice a b c,d] e R)
 (yF (λa b c R=>call_n Tryz.func165 (.step (.loop [] (rg [8,5,14,5,13,1,19,3,3,3,22,11,34,2,33,1,36,2,6,2,38,7]) (.sk 2 (.step (.sk 3 (.draw (od [5,1,0,5,6,3,130953,0]) .nil)) .nil .nil))) .nil .nil) [a,.pointer (A4 b)] c R)
 (λa b c d R=>call_n Tryz.func166 (.sk 8 (.step (.sk 1 (.join 1 [(20,tb)] (rg [23,2,20,1]) .nil .nil)) .nil .nil)) [.slice a b c] d R)))
 (yF (yF (λa b c d e R=>call_n Tryz.func179 (.sk 2 (.step (.loop [(8,ti)] (rg [9,2,5,1,11,7,4,1,18,1,8,1]) .nil) .nil .nil)) [.slice a b c,d] e R)
 (λa b c R=>call_n Tryz.func180 (.sk 1 (.draw (od [0,10,11,1,10,1,12,1,1703821,0,14,4]) .nil)) [.agg #[.int .u32 a,.int Zk b]] c R))
 (yF (λa b R=>call_n Tryz.func181 (.sk 3 (.step (.loop [(3,tl),(5,ti)] (rg [6,2,4,1,8,11,3,1,19,1,5,1]) .nil) .nil .nil)) [.int .u32 a] b R)
 (λa b R=>call_n Tryz.func182 .nil [.int Zk a] b R))))
 (yF (yF (λa b c d e R=>call_n Tryz.func183 (.sk 2 (.step (.loop [(8,ti)] (rg [9,2,5,1,11,7,4,1,18,1,8,1]) .nil) .nil .nil)) [.slice a b c,d] e R)
 (yF (λa b c R=>call_n Tryz.func184 (.sk 3 (.join 2 [] (rg [14,15,4,1]) (.sk 1 (.step (.draw (od [0,3,4,2,1923,0,16262,0,7,1]) .nil) .nil .nil)) .nil)) [.string a,.string b] c R)
 (λa b R=>call_n Tryz.func185 .nil [.int Zk a] b R)))
 (yF (yF (λa b c d R=>call_n Tryz.func187 (.sk 2 (.step (.sk 1 (.join 1 [(35,tb)] (rg [42,2,35,1]) .nil (.step .nil (.sk 1 (.step (.sk 1 (.draw (od [0,8,65416,0]) .nil)) .nil .nil)) .nil))) .nil .nil)) [.pointer a,.int Zk b,.int Zk c] d R)
 (λa b c d R=>call_n Tryz.func188 .nil [.pointer a,.int Zk b,c] d R))
 (yF (λc1 cap2 w R=>call_n Tryz.func189 (.sk 3 (.draw (od [0,5,8069,0,6,1]) .nil)) [.pointer c1,.pointer (A4 cap2)] w R)
 (λa b c d e R=>call_n Tryz.func190 (.sk 1 (.draw (od [0,4,5,3,10,3,4,1,8,2,13,2,8388495,0,16,5]) .nil)) [.pointer a,.slice b c d] e R))))))
 (yF (yF (yF (yF (λa b c R=>call_n Tryz.func191 (.sk 2 (.draw (od [0,14,18,1,14,4,19,1]) .nil)) [.pointer a,.int Zk b] c R)
 (yF (λa b c R=>call_n Tryz.func192 .nil [.pointer a,.int Zk b] c R)
 (λa b c d R=>call_n Tryz.func193 .nil [.pointer a,.int Zk b,.int Zk c] d R)))
 (yF (yF (λa b c d e f g h i R=>call_n Tryz.func194 (.sk 1 (.draw (od [0,5,6,4,5,1,10,1,507915,0,1048460,0]) (.sk 2 (.draw (od [1,2,128,0,3,6]) .nil)))) [.pointer a,.pointer b,.agg #[.int Zk c,.string d,.string e,.int Zk f,.int Zk g],.string h] i R)
 (λc1 cap2 w R=>call_n Tryz.func195 (.sk 3 (.draw (od [0,10,262026,0]) .nil)) [.pointer c1,.pointer (A4 cap2)] w R))
 (yF (λc1 j R=>call_n Tryz.func196 .nil [.pointer c1] j R)
 (λa b R=>call_n Tryz.func197 .nil [a] b R))))
 (yF (yF (λa b R=>call_n Tryz.func198 .nil [.int Zk a] b R)
 (yF (λa b c R=>call_n Tryz.func199 (.sk 1 (.draw (od [0,13]) .nil)) [.pointer a,.pointer (A4 b)] c R)
 (λa b c R=>call_n Tryz.func200 (.draw (od [0,10,262026,0]) .nil) [.pointer a,.pointer (A4 b)] c R)))
 (yF (yF (λa b c R=>call_n Tryz.func201 .nil [.pointer a,.int Zk b] c R)
 (λa b c R=>call_n Tryz.func202 (.sk 1 (.step (.loop [] (rg [8,5,4,2,13,6]) .nil) .nil .nil)) [.map a,b] c R))
 (yF (λa b c d e R=>call_n Tryz.func203 .nil [.string a,.pointer b,.pointer (A4 c),.pointer (A4 d)] e R)
 (λa b c d R=>call_n Tryz.func204 (.sk 2 (.step (.sk 1 (.step .nil (.sk 1 (.step .nil (.draw (od [0,9,10,3,9,1,13,5]) .nil) .nil)) .nil)) .nil .nil)) [.pointer a,.string b,.int Zk c] d R)))))
 (yF (yF (yF (λa b c d e f g h R=>call_n Tryz.func205 (.sk 1 (.draw (od [0,3,4,1,3,1,5,1,8326,0,24711,0,65416,0]) .nil)) [.pointer a,.int Zk b,.agg #[.int Zk c,.string d,.string e,.int Zk f,.int Zk g]] h R)
 (yF (λa b c d e R=>call_n Tryz.func206 .nil [.pointer a,.string b,.string c,d] e R)
 (λa b c d e f g h R=>call_n Tryz.func207 (.sk 2 (.draw (od [0,7,8071,0,8,1,130953,0]) (.draw (od [0,7,32647,0]) .nil))) [.agg #[.string a,.string b,.int Zk c],.pointer (A4 d),.pointer (A4 e),.pointer (A4 f),.pointer (A4 g)] h R)))
 (yF (yF (λa b c d R=>call_n Tryz.func208 .nil [.pointer a,.int Zk b,c] d R)
 (λc1 cap2 w R=>call_n Tryz.func209 (.sk 1 (.draw (od [0,5,8069,0,6,1]) .nil)) [.pointer c1,.pointer (A4 cap2)] w R))
 (yF (λa b c R=>call_n Tryz.func210 (.sk 5 (.draw (od [0,3,4,3,3,1,7,3]) (.step (.draw (od [0,3,4,3,3,1,7,5,1048460,0]) .nil) .nil .nil))) [.pointer a,.int Zk b] c R)
 (λa b c R=>call_n Tryz.func211 .nil [.pointer a,.int Zk b] c R))))
 (yF (yF (yF (λa b R=>call_n Tryz.func212 (.sk 1 (.draw (od [0,3,5,3,3,2,8,3]) .nil)) [.pointer a] b R)
 (λc1 j R=>call_n Tryz.func213 .nil [.pointer c1] j R))
 (yF (λa b R=>call_n Tryz.func214 .nil [.pointer a] b R)
 (λc1 j R=>call_n Tryz.func215 .nil [.pointer c1] j R)))
 (yF (yF (λa b R=>call_n Tryz.func216 .nil [.int Zk a] b R)
 (λa b c R=>call_n Tryz.func217 .nil [.pointer a,.int Zk b] c R))
 (yF (λc1 j R=>call_n Tryz.func218 .nil [.pointer c1] j R)
 (λc1 cap2 w R=>call_n Tryz.func219 (.sk 1 (.draw (od [2,3,0,2,5,9,15,2,4194190,0,17,3]) .nil)) [.pointer c1,.pointer (A4 cap2)] w R)))))))
 simp -implicitDefEqProofs (maxSteps:=100000000) only[nlB,fl_seq,fl_reg,fl_cond,fl_block,fl_loop,fl_exit,fl_ret,fl_skip,A0,A1,qf4,AE.sk,ra,rg,ro,od,ti,tb,ts,tp,tl,tm,tv,A2,A6,A7,A8,Tryz.f147,Tryz.f148,Tryz.f149,Tryz.f150,Tryz.f151,Tryz.f153,Tryz.f154,Tryz.f155,Tryz.f156,Tryz.f158,Tryz.f159,Tryz.f160,Tryz.f161,Tryz.f163,Tryz.f164,Tryz.f165,Tryz.f166,Tryz.f179,Tryz.f180,Tryz.f181,Tryz.f182,Tryz.f183,Tryz.f184,Tryz.f185,Tryz.f187,Tryz.f188,Tryz.f189,Tryz.f190,Tryz.f191,Tryz.f192,Tryz.f193,Tryz.f194,Tryz.f195,Tryz.f196,Tryz.f197,Tryz.f198,Tryz.f199,Tryz.f200,Tryz.f201,Tryz.f202,Tryz.f203,Tryz.f204,Tryz.f205,Tryz.f206,Tryz.f207,Tryz.f208,Tryz.f209,Tryz.f210,Tryz.f211,Tryz.f212,Tryz.f213,Tryz.f214,Tryz.f215,Tryz.f216,Tryz.f217,Tryz.f218,Tryz.f219]at h;simp -implicitDefEqProofs (maxSteps:=100000000) only[↓n_nil0,↓n_nil1,↓n_skip0,↓n_skip1,↓n_reg0,↓n_reg1,↓n_dr,↓n_dr2,↓n_cond0,↓n_cond1,↓n_block0,↓n_block1,↓n_loop,↓n_exit0,↓n_exit1,↓n_ret0,↓n_ret1,↓n_j1,↓n_j2,↓q_t0,↓q_t1,↓q_t2,↓q_b0,↓q_b1,↓q_b2,↓q_f0,↓q_f1,↓s_0,↓s_1,↓oe_0,↓oe_1,↓oe_2,↓de_0,↓de_1,↓se_1,↓s2_1,↓ne_0,↓ne_1,↓ne_2,↓ne_3,↓nt_0,↓nt_1,↓nt_2,↓nt_3,↓nt_4,↓rb_2,↓g_0,↓g_1,↓e_c,↓e_put,↓e_puts,↓v_c,↓v_t,↓v_g,↓v_f,↓nil_s,↓k_ptr,↓k_fun,↓k_ifc,↓bif_t,↓bif_f,↓isn_s,↓isn_n,↓un_not,↓un_neg,↓un_xor,↓mf,↓b_0,↓b_1,↓d_0,↓d_1,↓al_0,↓al_1,↓wl_a,↓wp_a,↓en_1,↓x1_0,↓x2_0,↓x2_1,↓x3_0,↓x3_1,↓x3_2,↓x4_0,↓x4_1,↓x4_2,↓x4_3,↓t_0,↓t_1,↓opR,↓opX,↓opW,↓opP,↓qi7,↓qb9,↓qe8,↓q09,↓qsa,↓ixK,↓q3c,↓slK,↓qc7,↓qj3,↓q86,↓qvc,↓qa2.asT',↓qwa,↓q66,↓asR,↓asT,↓as0,↓exR,↓qta,↓exT,↓exL,↓ex0,↓alT,↓alL,↓al0,↓ld0,↓ldL,↓st0,↓stL,↓exO,a_0,a_1,decide_true,decide_false,cl_a,cl_i,cl_b,cl_s,cl_p,cl_l,cl_m,cl_f,gs,kd,Two.kd,qn4,tup,qqc,qo5,q72,tys,q49,q68,q96,A0,A1,A5,A9,A2,undef,A3,rep,↓T0,↓T1,↓T2,↓T3,↓T4,↓T5,↓T6,↓T7,↓T8,↓T9,↓T10,↓T11,↓T12]at h;exact h
end Nr
def F147_of{a b c d R}:=Nr.FA3.1.1.1.1.1 a b c d R
def F148_of{a b c R}:=Nr.FA3.1.1.1.1.2.1 a b c R
def F149_of{a b c R}:=Nr.FA3.1.1.1.1.2.2 a b c R
def F150_of{a b c R}:=Nr.FA3.1.1.1.2.1.1 a b c R
def F151_of{a b c R}:=Nr.FA3.1.1.1.2.1.2 a b c R
def F153_of{a b R}:=Nr.FA3.1.1.1.2.2.1 a b R
def F154_of{a b R}:=Nr.FA3.1.1.1.2.2.2 a b R
def F155_of{a b R}:=Nr.FA3.1.1.2.1.1 a b R
def F156_of{a b c R}:=Nr.FA3.1.1.2.1.2.1 a b c R
def F158_of{a b c R}:=Nr.FA3.1.1.2.1.2.2 a b c R
def F159_of{a b c R}:=Nr.FA3.1.1.2.2.1.1 a b c R
def F160_of{a R}:=Nr.FA3.1.1.2.2.1.2 a R
def F161_of{a b R}:=Nr.FA3.1.1.2.2.2.1 a b R
def F163_of{a b c R}:=Nr.FA3.1.1.2.2.2.2 a b c R
def F164_of{a b c d e R}:=Nr.FA3.1.2.1.1.1 a b c d e R
def F165_of{a b c R}:=Nr.FA3.1.2.1.1.2.1 a b c R
def F166_of{a b c d R}:=Nr.FA3.1.2.1.1.2.2 a b c d R
def F179_of{a b c d e R}:=Nr.FA3.1.2.1.2.1.1 a b c d e R
def F180_of{a b c R}:=Nr.FA3.1.2.1.2.1.2 a b c R
def F181_of{a b R}:=Nr.FA3.1.2.1.2.2.1 a b R
def F182_of{a b R}:=Nr.FA3.1.2.1.2.2.2 a b R
def F183_of{a b c d e R}:=Nr.FA3.1.2.2.1.1 a b c d e R
def F184_of{a b c R}:=Nr.FA3.1.2.2.1.2.1 a b c R
def F185_of{a b R}:=Nr.FA3.1.2.2.1.2.2 a b R
def F187_of{a b c d R}:=Nr.FA3.1.2.2.2.1.1 a b c d R
def F188_of{a b c d R}:=Nr.FA3.1.2.2.2.1.2 a b c d R
def F189_of{c1 cap2 h R}:=Nr.FA3.1.2.2.2.2.1 c1 cap2 h R
def F190_of{a b c d e R}:=Nr.FA3.1.2.2.2.2.2 a b c d e R
def F191_of{a b c R}:=Nr.FA3.2.1.1.1.1 a b c R
def F192_of{a b c R}:=Nr.FA3.2.1.1.1.2.1 a b c R
def F193_of{a b c d R}:=Nr.FA3.2.1.1.1.2.2 a b c d R
def F194_of{a b c d e f g h i R}:=Nr.FA3.2.1.1.2.1.1 a b c d e f g h i R
def F195_of{c1 cap2 h R}:=Nr.FA3.2.1.1.2.1.2 c1 cap2 h R
def F196_of{c1 h R}:=Nr.FA3.2.1.1.2.2.1 c1 h R
def F197_of{a b R}:=Nr.FA3.2.1.1.2.2.2 a b R
def F198_of{a b R}:=Nr.FA3.2.1.2.1.1 a b R
def F199_of{a b c R}:=Nr.FA3.2.1.2.1.2.1 a b c R
def F200_of{a b c R}:=Nr.FA3.2.1.2.1.2.2 a b c R
def F201_of{a b c R}:=Nr.FA3.2.1.2.2.1.1 a b c R
def F202_of{a b c R}:=Nr.FA3.2.1.2.2.1.2 a b c R
def F203_of{a b c d e R}:=Nr.FA3.2.1.2.2.2.1 a b c d e R
def F204_of{a b c d R}:=Nr.FA3.2.1.2.2.2.2 a b c d R
def F205_of{a b c d e f g h R}:=Nr.FA3.2.2.1.1.1 a b c d e f g h R
def F206_of{a b c d e R}:=Nr.FA3.2.2.1.1.2.1 a b c d e R
def F207_of{a b c d e f g h R}:=Nr.FA3.2.2.1.1.2.2 a b c d e f g h R
def F208_of{a b c d R}:=Nr.FA3.2.2.1.2.1.1 a b c d R
def F209_of{c1 cap2 h R}:=Nr.FA3.2.2.1.2.1.2 c1 cap2 h R
def F210_of{a b c R}:=Nr.FA3.2.2.1.2.2.1 a b c R
def F211_of{a b c R}:=Nr.FA3.2.2.1.2.2.2 a b c R
def F212_of{a b R}:=Nr.FA3.2.2.2.1.1.1 a b R
def F213_of{c1 h R}:=Nr.FA3.2.2.2.1.1.2 c1 h R
def F214_of{a b R}:=Nr.FA3.2.2.2.1.2.1 a b R
def F215_of{c1 h R}:=Nr.FA3.2.2.2.1.2.2 c1 h R
def F216_of{a b R}:=Nr.FA3.2.2.2.2.1.1 a b R
def F217_of{a b c R}:=Nr.FA3.2.2.2.2.1.2 a b c R
def F218_of{c1 h R}:=Nr.FA3.2.2.2.2.2.1 c1 h R
def F219_of{c1 cap2 h R}:=Nr.FA3.2.2.2.2.2.2 c1 cap2 h R
end
section
set_option maxRecDepth 100000
namespace Nr
set_option maxHeartbeats 100000000 in
def FA4:=by
 have h:=(yF (yF (yF (yF (yF (λc1 l R=>call_n Tryz.func220 (.sk 1 (.draw (od [0,3,4,3,3,1,7,1,65416,0,9,1]) .nil)) [.pointer c1] l R)
 (λc1 l R=>call_n Tryz.func221 .nil [.pointer c1] l R))
 (yF (λa b c R=>call_n Tryz.func222 .nil [a,.int Zk b] c R)
 (yF (λa b c d R=>call_n Tryz.func223 (.sk 1 (.draw (od [0,13,14,3,13,1,17,4]) .nil)) [.pointer a,.pointer (A4 b),.pointer (A4 c)] d R)
 (λa b c d R=>call_n Tryz.func224 (.draw (od [0,7,32647,0]) .nil) [.pointer a,.pointer (A4 b),.pointer (A4 c)] d R))))
 (yF (yF (λa b c d R=>call_n Tryz.func225 .nil [.pointer a,.string b,.int Zk c] d R)
 (yF (λa b c R=>call_n Tryz.func226 .nil [.pointer a,.int Zk b] c R)
 (λa b c d e f R=>call_n Tryz.func227 (.sk 5 (.draw (od [0,6,16262,0,7,1]) .nil)) [.slice a b c,.int Zk d,.int Zk e] f R)))
 (yF (λa b c R=>call_n Tryz.func228 .nil [.pointer a,.int Zk b] c R)
 (yF (λa b R=>call_n Tryz.func237 .nil [a] b R)
 (λa b c R=>call_n Tryz.func239 (.sk 1 (.step (.loop [] (rg [6,4,3,1,10,4]) .nil) .nil .nil)) [a,.pointer (A4 b)] c R)))))
 (yF (yF (yF (λa b c d e f g R=>call_n Tryz.func241 (.sk 3 (.step (.loop [(5,tl),(11,ti)] (rg [12,3,7,1,15,3,4,1,18,4,5,1,22,1,11,1]) .nil) .nil .nil)) [.slice a b c,.slice d e f] g R)
 (λa b c d R=>call_n Tryz.func244 .nil [.slice a b c] d R))
 (yF (λa b c d R=>call_n Tryz.func245 (.sk 1 (.draw (od [0,2,3,1,9,1,2,1,4,5,156554,0,425867,0,1048460,0]) .nil)) [.pointer a,.pointer (A4 b),.pointer (A4 c)] d R)
 (yF (λa b c d R=>call_n Tryz.func246 .nil [.slice a b c] d R)
 (λa b c d R=>call_n Tryz.func247 (.sk 1 (.draw (od [0,2,3,1,9,1,2,1,4,5,156554,0,425867,0,1048460,0]) .nil)) [.pointer a,.pointer (A4 b),.pointer (A4 c)] d R))))
 (yF (yF (λa b c d R=>call_n Tryz.func248 (.sk 6 (.step (.loop [(6,ti),(28,ti)] (rg [29,3,8,1,32,6,6,1,38,1,28,1]) .nil) .nil .nil)) [.slice a b c] d R)
 (yF (λcap1 cap2 w R=>call_n Tryz.func249 .nil [.pointer (A4 cap1),.pointer (A4 cap2)] w R)
 (λcap1 cap2 w R=>call_n Tryz.func250 .nil [.pointer (A4 cap1),.pointer (A4 cap2)] w R)))
 (yF (λcap1 cap2 w R=>call_n Tryz.func251 .nil [.pointer (A4 cap1),.pointer (A4 cap2)] w R)
 (yF (λcap1 cap2 w R=>call_n Tryz.func252 .nil [.pointer (A4 cap1),.pointer (A4 cap2)] w R)
 (λa b R=>call_n Tryz.func258 .nil [.int Zk a] b R))))))
 (yF (yF (yF (yF (λa b c R=>call_n Tryz.func264 (.sk 1 (.step (.loop [(0,ts)] (rg [5,10,0,1]) .nil) .nil .nil)) [.string a,.pointer b] c R)
 (λa b c R=>call_n Tryz.func265 (.sk 1 (.step (.loop [(0,ts)] (rg [5,16,0,1]) .nil) .nil .nil)) [.string a,.pointer b] c R))
 (yF (λa b c R=>call_n Tryz.func268 .nil [.pointer a,.int Zk b] c R)
 (yF (λa b c d e f g h i R=>call_n Tryz.func269 (.sk 3 (.draw (od [0,3,4,3,8,3,12,3,16,1,18,1,3,1,7,1,11,1,15,1,17,1,134217619,0,20,1]) .nil)) [.pointer a,.agg #[.int Zk b,.string c,.string d,.int Zk e,.int Zk f],.int Zk g,.string h] i R)
 (λa b c R=>call_n Tryz.func270 .nil [a,.int Zk b] c R))))
 (yF (yF (λa b c R=>call_n Tryz.func271 .nil [a,b] c R)
 (yF (λa b c d R=>call_n Tryz.func272 (.sk 5 (.draw (od [0,3,4,4,9,3,13,3,3,1,8,1,17,1,12,1,16,1,18,1]) .nil)) [.pointer a,.int Zk b,.int Zk c] d R)
 (λa b R=>call_n Tryz.func273 .nil [.pointer a] b R)))
 (yF (λa b c d R=>call_n Tryz.func274 .nil [.pointer a,.int Zk b,.int Zk c] d R)
 (yF (λa b c d e f g h i R=>call_n Tryz.func275 (.sk 1 (.join 2 [] (rg [12,16]) .nil (.sk 1 (.join 1 [] (rg [33,8]) (.step (.draw (od [0,3,4,2,3,1,12678,0,7,2,130953,0]) .nil) .nil .nil) (.draw2 (od [0,3,5,3,10,5,3,2,8,1,123017,0,8126479,0,16769168,0,33554321,0,18,4,805306262,0,23,1]) (.draw (od [0,7,32647,0]) (.sk 1 (.join 1 [] (rg [73,7]) .nil .nil)))))))) [.pointer a,.pointer b,.agg #[.int Zk c,.string d,.string e,.int Zk f,.int Zk g],.string h] i R)
 (λa R=>call_n Tryz.func276 .nil [] a R)))))
 (yF (yF (yF (λa b c d R=>call_n Tryz.func277 (.sk 2 (.step (.loop [(7,ti)] (rg [12,3,8,1,15,8,9,1,23,2,10,1,25,10,9,1,35,10,7,1]) (.step (.sk 5 (.join 2 [(9,ti)] (rg [25,10,9,1]) .nil .nil)) .nil .nil)) .nil .nil)) [a,.int Zk b,.int Zk c] d R)
 (λa b c d e f g h i R=>call_n Tryz.func278 .nil [.agg #[.int Zk a,.int Zk b,.int Zk c,.int Zk d,.slice e f g],.string h] i R))
 (yF (λa b c d e f g h i j k R=>call_n Tryz.func279 .nil [.agg #[.string a,.int Zk b,.int Zk c,.slice d e f,.slice g h i],.string j] k R)
 (yF (λa b c R=>call_n Tryz.func280 .nil [.pointer a,.int Zk b] c R)
 (λa b c R=>call_n Tryz.func281 (.step (.loop [(1,ti)] (rg [5,3,4,1,8,15,1,1]) .nil) .nil .nil) [a,.int Zk b] c R))))
 (yF (yF (λa b R=>call_n Tryz.func282 .nil [.int Zk a] b R)
 (yF (λa b c d e R=>call_n Tryz.func283 (.sk 2 (.step (.loop [(8,ti)] (rg [9,2,5,1,11,7,4,1,18,1,8,1]) .nil) .nil .nil)) [.slice a b c,d] e R)
 (λa b c d e f g R=>call_n Tryz.func284 .nil [.agg #[.int Zk a,.string b,.string c,.int Zk d,.string e],.pointer (A4 f)] g R)))
 (yF (λa b c d e f g h i R=>call_n Tryz.func290 (.sk 1 (.draw (od [0,1,2,4,1,1,6,3]) (.step (.sk 1 (.step (.draw (od [0,4,5,3,4,1,49544,0,9,2,514955,0,12,2,4194190,0]) .nil) (.draw (od [0,14,15,3,14,1,18,4]) (.step .nil (.sk 1 (.step (.sk 1 (.draw (od [0,4,6,1,4,2,7,1,65416,0,9,1]) .nil)) .nil .nil)) .nil)) .nil)) .nil .nil))) [.pointer a,.pointer b,.agg #[.int Zk c,.string d,.string e,.int Zk f,.int Zk g],.int Zk h] i R)
 (yF (λa b R=>call_n Tryz.func291 (.sk 1 (.draw (od [0,4,5,4,4,1,9,2,524171,0,12,1]) .nil)) [.pointer a] b R)
 (λa b c d e f g R=>call_n Tryz.func292 (.sk 3 (.draw (od [0,1,2,1,1,1,1923,0,3972,0]) .nil)) [.slice a b c,.slice d e f] g R)))))))
 simp -implicitDefEqProofs (maxSteps:=100000000) only[nlB,fl_seq,fl_reg,fl_cond,fl_block,fl_loop,fl_exit,fl_ret,fl_skip,A0,A1,qf4,AE.sk,ra,rg,ro,od,ti,tb,ts,tp,tl,tm,tv,A2,A6,A7,A8,Tryz.f220,Tryz.f221,Tryz.f222,Tryz.f223,Tryz.f224,Tryz.f225,Tryz.f226,Tryz.f227,Tryz.f228,Tryz.f237,Tryz.f239,Tryz.f241,Tryz.f244,Tryz.f245,Tryz.f246,Tryz.f247,Tryz.f248,Tryz.f249,Tryz.f250,Tryz.f251,Tryz.f252,Tryz.f258,Tryz.f264,Tryz.f265,Tryz.f268,Tryz.f269,Tryz.f270,Tryz.f271,Tryz.f272,Tryz.f273,Tryz.f274,Tryz.f275,Tryz.f276,Tryz.f277,Tryz.f278,Tryz.f279,Tryz.f280,Tryz.f281,Tryz.f282,Tryz.f283,Tryz.f284,Tryz.f290,Tryz.f291,Tryz.f292]at h;simp -implicitDefEqProofs (maxSteps:=100000000) only[↓n_nil0,↓n_nil1,↓n_skip0,↓n_skip1,↓n_reg0,↓n_reg1,↓n_dr,↓n_dr2,↓n_cond0,↓n_cond1,↓n_block0,↓n_block1,↓n_loop,↓n_exit0,↓n_exit1,↓n_ret0,↓n_ret1,↓n_j1,↓n_j2,↓q_t0,↓q_t1,↓q_t2,↓q_b0,↓q_b1,↓q_b2,↓q_f0,↓q_f1,↓s_0,↓s_1,↓oe_0,↓oe_1,↓oe_2,↓de_0,↓de_1,↓se_1,↓s2_1,↓ne_0,↓ne_1,↓ne_2,↓ne_3,↓nt_0,↓nt_1,↓nt_2,↓nt_3,↓nt_4,↓rb_2,↓g_0,↓g_1,↓e_c,↓e_put,↓e_puts,↓v_c,↓v_t,↓v_g,↓v_f,↓nil_s,↓k_ptr,↓k_fun,↓k_ifc,↓bif_t,↓bif_f,↓isn_s,↓isn_n,↓un_not,↓un_neg,↓un_xor,↓mf,↓b_0,↓b_1,↓d_0,↓d_1,↓al_0,↓al_1,↓wl_a,↓wp_a,↓en_1,↓x1_0,↓x2_0,↓x2_1,↓x3_0,↓x3_1,↓x3_2,↓x4_0,↓x4_1,↓x4_2,↓x4_3,↓t_0,↓t_1,↓opR,↓opX,↓opW,↓opP,↓qi7,↓qb9,↓qe8,↓q09,↓qsa,↓ixK,↓q3c,↓slK,↓qc7,↓qj3,↓q86,↓qvc,↓qa2.asT',↓qwa,↓q66,↓asR,↓asT,↓as0,↓exR,↓qta,↓exT,↓exL,↓ex0,↓alT,↓alL,↓al0,↓ld0,↓ldL,↓st0,↓stL,↓exO,a_0,a_1,decide_true,decide_false,cl_a,cl_i,cl_b,cl_s,cl_p,cl_l,cl_m,cl_f,gs,kd,Two.kd,qn4,tup,qqc,qo5,q72,tys,q49,q68,q96,A0,A1,A5,A9,A2,undef,A3,rep,↓T0,↓T1,↓T2,↓T3,↓T4,↓T5,↓T6,↓T7,↓T8,↓T9,↓T10,↓T11,↓T12]at h;exact h
end Nr
def F220_of{c1 h R}:=Nr.FA4.1.1.1.1.1 c1 h R
def F221_of{c1 h R}:=Nr.FA4.1.1.1.1.2 c1 h R
def F222_of{a b c R}:=Nr.FA4.1.1.1.2.1 a b c R
def F223_of{a b c d R}:=Nr.FA4.1.1.1.2.2.1 a b c d R
def F224_of{a b c d R}:=Nr.FA4.1.1.1.2.2.2 a b c d R
def F225_of{a b c d R}:=Nr.FA4.1.1.2.1.1 a b c d R
def F226_of{a b c R}:=Nr.FA4.1.1.2.1.2.1 a b c R
def F227_of{a b c d e f R}:=Nr.FA4.1.1.2.1.2.2 a b c d e f R
def F228_of{a b c R}:=Nr.FA4.1.1.2.2.1 a b c R
def F237_of{a b R}:=Nr.FA4.1.1.2.2.2.1 a b R
def F239_of{a b c R}:=Nr.FA4.1.1.2.2.2.2 a b c R
def F241_of{a b c d e f g R}:=Nr.FA4.1.2.1.1.1 a b c d e f g R
def F244_of{a b c d R}:=Nr.FA4.1.2.1.1.2 a b c d R
def F245_of{a b c d R}:=Nr.FA4.1.2.1.2.1 a b c d R
def F246_of{a b c d R}:=Nr.FA4.1.2.1.2.2.1 a b c d R
def F247_of{a b c d R}:=Nr.FA4.1.2.1.2.2.2 a b c d R
def F248_of{a b c d R}:=Nr.FA4.1.2.2.1.1 a b c d R
def F249_of{cap1 cap2 h R}:=Nr.FA4.1.2.2.1.2.1 cap1 cap2 h R
def F250_of{cap1 cap2 h R}:=Nr.FA4.1.2.2.1.2.2 cap1 cap2 h R
def F251_of{cap1 cap2 h R}:=Nr.FA4.1.2.2.2.1 cap1 cap2 h R
def F252_of{cap1 cap2 h R}:=Nr.FA4.1.2.2.2.2.1 cap1 cap2 h R
def F258_of{a b R}:=Nr.FA4.1.2.2.2.2.2 a b R
def F264_of{a b c R}:=Nr.FA4.2.1.1.1.1 a b c R
def F265_of{a b c R}:=Nr.FA4.2.1.1.1.2 a b c R
def F268_of{a b c R}:=Nr.FA4.2.1.1.2.1 a b c R
def F269_of{a b c d e f g h i R}:=Nr.FA4.2.1.1.2.2.1 a b c d e f g h i R
def F270_of{a b c R}:=Nr.FA4.2.1.1.2.2.2 a b c R
def F271_of{a b c R}:=Nr.FA4.2.1.2.1.1 a b c R
def F272_of{a b c d R}:=Nr.FA4.2.1.2.1.2.1 a b c d R
def F273_of{a b R}:=Nr.FA4.2.1.2.1.2.2 a b R
def F274_of{a b c d R}:=Nr.FA4.2.1.2.2.1 a b c d R
def F275_of{a b c d e f g h i R}:=Nr.FA4.2.1.2.2.2.1 a b c d e f g h i R
def F276_of{a R}:=Nr.FA4.2.1.2.2.2.2 a R
def F277_of{a b c d R}:=Nr.FA4.2.2.1.1.1 a b c d R
def F278_of{a b c d e f g h i R}:=Nr.FA4.2.2.1.1.2 a b c d e f g h i R
def F279_of{a b c d e f g h i j k R}:=Nr.FA4.2.2.1.2.1 a b c d e f g h i j k R
def F280_of{a b c R}:=Nr.FA4.2.2.1.2.2.1 a b c R
def F281_of{a b c R}:=Nr.FA4.2.2.1.2.2.2 a b c R
def F282_of{a b R}:=Nr.FA4.2.2.2.1.1 a b R
def F283_of{a b c d e R}:=Nr.FA4.2.2.2.1.2.1 a b c d e R
def F284_of{a b c d e f g R}:=Nr.FA4.2.2.2.1.2.2 a b c d e f g R
def F290_of{a b c d e f g h i R}:=Nr.FA4.2.2.2.2.1 a b c d e f g h i R
def F291_of{a b R}:=Nr.FA4.2.2.2.2.2.1 a b R
def F292_of{a b c d e f g R}:=Nr.FA4.2.2.2.2.2.2 a b c d e f g R
end
section
set_option maxRecDepth 100000
namespace Nr
set_option maxHeartbeats 100000000 in
def FA5:=by
 have h:=(yF (yF (yF (yF (λa b c d R=>call_n Tryz.func293 (.sk 3 (.step (.loop [(12,ti)] (rg [13,4,4,2,17,16,12,1]) (.sk 2 (.step (.sk 1 (.draw (od [0,14,2328462,0,15,1,16777104,0]) .nil)) .nil .nil))) .nil .nil)) [.slice a b c] d R)
 (yF (λa b c d e R=>call_n Tryz.func302 (.sk 2 (.step (.loop [(8,ti)] (rg [9,2,5,1,11,7,4,1,18,1,8,1]) .nil) .nil .nil)) [.slice a b c,d] e R)
 (λa b R=>call_n Tryz.func303 .nil [.int .u8 a] b R)))
 (yF (λa b c R=>call_n Tryz.func309 .nil [.pointer a,.int .u8 b] c R)
 (yF (λa b c d e f g R=>call_n Tryz.func313 .nil [.pointer a,.string b,.string c,.string d,.string e,.int Zk f] g R)
 (λa b c d e R=>call_n Tryz.func314 (.sk 3 (.draw (od [0,5,6,1,8,2,5,1,7,1,10,4,4194190,0]) (.draw (od [0,5,6,4,5,1,10,1,507915,0,1048460,0]) (.draw (od [0,3,4,4,9,2,12,1,15,1,3,1,8,1,11,1,13,2,16777104,0,17,5]) .nil)))) [.pointer a,.pointer b,.string c,.string d] e R))))
 (yF (yF (λa b c d e f g h i R=>call_n Tryz.func315 (.sk 3 (.draw (od [0,3,5,2,3,2,32647,0,65416,0,9,1]) .nil)) [.pointer a,.agg #[.int Zk b,.string c,.string d,.int Zk e,.int Zk f],.int Zk g,.string h] i R)
 (yF (λa b R=>call_n Tryz.func316 .nil [.pointer a] b R)
 (λa b c d e f g h R=>call_n Tryz.func317 (.sk 1 (.draw (od [0,3,4,4,3,1,8,1,130953,0,10,1]) (.sk 2 (.draw (od [0,3,4,4,9,1,11,4,16,3,21,1,3,1,8,1,10,1,15,1,19,1,22,1,251658388,0,2147483543,0,24,4,51539607452,0,29,1]) (.sk 1 (.step (.draw (od [0,3,4,4,3,1,8,1,130953,0]) .nil) .nil .nil)))))) [.pointer a,.pointer b,.agg #[.int Zk c,.string d,.string e,.int Zk f,.int Zk g]] h R)))
 (yF (λa b c d e f g h R=>call_n Tryz.func318 (.sk 1 (.draw (od [0,3,4,4,9,1,11,1,13,3,18,1,3,1,8,1,10,1,12,1,16,1,19,1,31457425,0,268435348,0,21,4,6442450841,0,26,1]) .nil)) [.pointer a,.pointer b,.agg #[.int Zk c,.string d,.string e,.int Zk f,.int Zk g]] h R)
 (yF (λa b c d e f g h R=>call_n Tryz.func319 (.sk 1 (.draw (od [0,3,4,1,6,3,3,1,5,1,9,1,245898,0,524171,0,12,4,12582800,0,17,1]) (.draw (od [0,3,4,4,9,1,11,1,13,3,3,1,8,1,10,1,12,1,16,1,31457425,0,67108754,0,19,1]) .nil))) [.pointer a,.pointer b,.agg #[.int Zk c,.string d,.string e,.int Zk f,.int Zk g]] h R)
 (λa b c d e f g h R=>call_n Tryz.func320 .nil [.pointer a,.pointer b,.agg #[.int Zk c,.string d,.string e,.int Zk f,.int Zk g]] h R)))))
 (yF (yF (yF (λa b c d e f g h i j k R=>call_n Tryz.func322 .nil [.agg #[.string a,.int Zk b,.int Zk c,.slice d e f,.slice g h i],.pointer (A4 j)] k R)
 (yF (λa b c d e R=>call_n Tryz.func323 .nil [.agg #[.string a,.string b,.int Zk c],.pointer (A4 d)] e R)
 (λa b c d e f R=>call_n Tryz.func334 (.sk 2 (.step (.loop [(8,ti)] (rg [9,2,7,1,11,7,8,1]) .nil) .nil .nil)) [.agg a,.int .u8 b,.slice c d e] f R)))
 (yF (λa b c d R=>call_n Tryz.func335 .nil [.slice a b c] d R)
 (yF (λa b c d e R=>call_n Tryz.func348 .nil [.pointer a,.string b,.string c,.int Zk d] e R)
 (λa b c d e R=>call_n Tryz.func349 .nil [.pointer a,.string b,.string c,.string d] e R))))
 (yF (yF (λa b c d e f g R=>call_n Tryz.func350 (.sk 5 (.step (.loop [(5,(.b (.int .u8))),(14,ti)] (rg [15,2,6,1,17,11,5,1,28,1,14,1]) (.sk 2 (.step (.sk 1 (.draw (od [0,4,5,3,4,1,8,4]) .nil)) .nil .nil))) .nil .nil)) [.slice a b c,.slice d e f] g R)
 (yF (λa b c d R=>call_n Tryz.func351 (.sk 1 (.draw (od [0,3,4,4,3,1,8,1,123017,0,262026,0,11,4,6291343,0,16,1]) (.sk 2 (.draw (od [0,3,4,1,6,3,10,1,3,1,5,1,9,1,508043,0,1048460,0,13,1]) (.sk 2 (.draw (od [0,3,4,1,3,1,5,1,16262,0,7,1]) (.sk 4 (.step (.draw (od [0,3,4,1,3,1,5,1,16262,0]) .nil) .nil .nil)))))))) [.pointer a,.int Zk b,.string c] d R)
 (λa b c d e f g R=>call_n Tryz.func352 (.sk 3 (.draw (od [0,3,4,3,9,5,3,1,7,1,61576,0,4190222,0,8388495,0,16,2]) (.draw (od [0,4,6,1,4,2,7,1,57352,0,130697,0,10,2,1048460,0]) .nil))) [.pointer a,.agg #[.int Zk b,.string c,.string d,.int Zk e],.string f] g R)))
 (yF (yF (λa b c d R=>call_n Tryz.func353 (.sk 2 (.step (.sk 1 (.step .nil (.sk 1 (.step .nil (.draw (od [0,5,6,5,5,1,11,3]) .nil) .nil)) .nil)) .nil (.draw (od [0,5,7,2,5,2,9,1,262026,0]) .nil))) [.pointer a,.string b,.int Zk c] d R)
 (λa b c d e f g R=>call_n Tryz.func354 (.sk 4 (.join 1 [] (rg [43,10,42,1,53,1,13,1,55,2,54,1,57,1,13,1,59,10,58,1,69,1,13,1]) .nil (.sk 1 (.draw (od [0,6,7,5,6,1,12,4,16776976,0,17,1]) .nil)))) [.pointer a,.string b,.string c,.int Zk d,.int Zk e,.int Zk f] g R))
 (yF (λa b c d e f g h i j R=>call_n Tryz.func355 (.sk 3 (.draw (od [0,5,6,1,8,1,10,1,5,1,7,1,9,1,11,2,2097037,0]) .nil)) [.pointer a,.pointer b,.agg #[.string c,.string d,.int Zk e,.int Zk f,.int Zk g,.bool h],.int Zk i] j R)
 (λa b c d R=>call_n Tryz.func357 .nil [.pointer a,.string b,.int Zk c] d R))))))
 simp -implicitDefEqProofs (maxSteps:=100000000) only[nlB,fl_seq,fl_reg,fl_cond,fl_block,fl_loop,fl_exit,fl_ret,fl_skip,A0,A1,qf4,AE.sk,ra,rg,ro,od,ti,tb,ts,tp,tl,tm,tv,A2,A6,A7,A8,Tryz.f293,Tryz.f302,Tryz.f303,Tryz.f309,Tryz.f313,Tryz.f314,Tryz.f315,Tryz.f316,Tryz.f317,Tryz.f318,Tryz.f319,Tryz.f320,Tryz.f322,Tryz.f323,Tryz.f334,Tryz.f335,Tryz.f348,Tryz.f349,Tryz.f350,Tryz.f351,Tryz.f352,Tryz.f353,Tryz.f354,Tryz.f355,Tryz.f357]at h;simp -implicitDefEqProofs (maxSteps:=100000000) only[↓n_nil0,↓n_nil1,↓n_skip0,↓n_skip1,↓n_reg0,↓n_reg1,↓n_dr,↓n_dr2,↓n_cond0,↓n_cond1,↓n_block0,↓n_block1,↓n_loop,↓n_exit0,↓n_exit1,↓n_ret0,↓n_ret1,↓n_j1,↓n_j2,↓q_t0,↓q_t1,↓q_t2,↓q_b0,↓q_b1,↓q_b2,↓q_f0,↓q_f1,↓s_0,↓s_1,↓oe_0,↓oe_1,↓oe_2,↓de_0,↓de_1,↓se_1,↓s2_1,↓ne_0,↓ne_1,↓ne_2,↓ne_3,↓nt_0,↓nt_1,↓nt_2,↓nt_3,↓nt_4,↓rb_2,↓g_0,↓g_1,↓e_c,↓e_put,↓e_puts,↓v_c,↓v_t,↓v_g,↓v_f,↓nil_s,↓k_ptr,↓k_fun,↓k_ifc,↓bif_t,↓bif_f,↓isn_s,↓isn_n,↓un_not,↓un_neg,↓un_xor,↓mf,↓b_0,↓b_1,↓d_0,↓d_1,↓al_0,↓al_1,↓wl_a,↓wp_a,↓en_1,↓x1_0,↓x2_0,↓x2_1,↓x3_0,↓x3_1,↓x3_2,↓x4_0,↓x4_1,↓x4_2,↓x4_3,↓t_0,↓t_1,↓opR,↓opX,↓opW,↓opP,↓qi7,↓qb9,↓qe8,↓q09,↓qsa,↓ixK,↓q3c,↓slK,↓qc7,↓qj3,↓q86,↓qvc,↓qa2.asT',↓qwa,↓q66,↓asR,↓asT,↓as0,↓exR,↓qta,↓exT,↓exL,↓ex0,↓alT,↓alL,↓al0,↓ld0,↓ldL,↓st0,↓stL,↓exO,a_0,a_1,decide_true,decide_false,cl_a,cl_i,cl_b,cl_s,cl_p,cl_l,cl_m,cl_f,gs,kd,Two.kd,qn4,tup,qqc,qo5,q72,tys,q49,q68,q96,A0,A1,A5,A9,A2,undef,A3,rep,↓T0,↓T1,↓T2,↓T3,↓T4,↓T5,↓T6,↓T7,↓T8,↓T9,↓T10,↓T11,↓T12]at h;exact h
end Nr
def F293_of{a b c d R}:=Nr.FA5.1.1.1.1 a b c d R
def F302_of{a b c d e R}:=Nr.FA5.1.1.1.2.1 a b c d e R
def F303_of{a b R}:=Nr.FA5.1.1.1.2.2 a b R
def F309_of{a b c R}:=Nr.FA5.1.1.2.1 a b c R
def F313_of{a b c d e f g R}:=Nr.FA5.1.1.2.2.1 a b c d e f g R
def F314_of{a b c d e R}:=Nr.FA5.1.1.2.2.2 a b c d e R
def F315_of{a b c d e f g h i R}:=Nr.FA5.1.2.1.1 a b c d e f g h i R
def F316_of{a b R}:=Nr.FA5.1.2.1.2.1 a b R
def F317_of{a b c d e f g h R}:=Nr.FA5.1.2.1.2.2 a b c d e f g h R
def F318_of{a b c d e f g h R}:=Nr.FA5.1.2.2.1 a b c d e f g h R
def F319_of{a b c d e f g h R}:=Nr.FA5.1.2.2.2.1 a b c d e f g h R
def F320_of{a b c d e f g h R}:=Nr.FA5.1.2.2.2.2 a b c d e f g h R
def F322_of{a b c d e f g h i j k R}:=Nr.FA5.2.1.1.1 a b c d e f g h i j k R
def F323_of{a b c d e R}:=Nr.FA5.2.1.1.2.1 a b c d e R
def F334_of{a b c d e f R}:=Nr.FA5.2.1.1.2.2 a b c d e f R
def F335_of{a b c d R}:=Nr.FA5.2.1.2.1 a b c d R
def F348_of{a b c d e R}:=Nr.FA5.2.1.2.2.1 a b c d e R
def F349_of{a b c d e R}:=Nr.FA5.2.1.2.2.2 a b c d e R
def F350_of{a b c d e f g R}:=Nr.FA5.2.2.1.1 a b c d e f g R
def F351_of{a b c d R}:=Nr.FA5.2.2.1.2.1 a b c d R
def F352_of{a b c d e f g R}:=Nr.FA5.2.2.1.2.2 a b c d e f g R
def F353_of{a b c d R}:=Nr.FA5.2.2.2.1.1 a b c d R
def F354_of{a b c d e f g R}:=Nr.FA5.2.2.2.1.2 a b c d e f g R
def F355_of{a b c d e f g h i j R}:=Nr.FA5.2.2.2.2.1 a b c d e f g h i j R
def F357_of{a b c d R}:=Nr.FA5.2.2.2.2.2 a b c d R
end
section
set_option maxRecDepth 100000
namespace Nr
set_option maxHeartbeats 100000000 in
def FA6:=by
 have h:=(yF (yF (yF (yF (yF (λa b c d e f g h i R=>call_n Tryz.func359 (.sk 1 (.draw (od [0,13,18,1,13,4,19,1,33554321,0,20,3]) .nil)) [.agg #[.string a,.string b,.int Zk c,.int Zk d,.int Zk e,.bool f],.pointer (A4 g),.pointer (A4 h)] i R)
 (λa b c d e R=>call_n Tryz.func360 .nil [.slice a b c,d] e R))
 (yF (λa b c d R=>call_n Tryz.func362 (.sk 1 (.join 1 [] (rg [8,2,7,1,10,2,7,1,12,3,7,1,6,1,16,3,15,1,19,3,15,1,6,1]) (.step (.sk 1 (.join 1 [(7,tb)] (rg [10,2,7,1,12,3,7,1]) .nil .nil)) .nil .nil) (.draw (od [0,3,4,4,9,5,3,1,8,1,130958,0,15,1,13500304,0,30408593,0,18,1,134217619,0]) .nil))) [.pointer a,.int Zk b,.int Zk c] d R)
 (λa b R=>call_n Tryz.func363 (.sk 3 (.step (.loop [(8,ti)] (rg [9,2,4,1,11,9,8,1]) (.sk 2 (.step (.sk 1 (.draw (od [0,3,4,2,1155,0,6,2,65416,0]) .nil)) .nil .nil))) .nil .nil)) [.int Zk a] b R)))
 (yF (yF (λa b c d R=>call_n Tryz.func368 (.sk 4 (.step (.loop [(5,ti)] (rg [18,3,23,6,21,2,5,1]) (.sk 2 (.step (.draw (od [1,3,0,1,3716,0,8069,0,16262,0]) .nil) .nil .nil))) .nil (.sk 1 (.draw (od [0,4,3972,0,5,1]) (.sk 3 (.join 1 [(8,ti)] (rg [8,1]) .nil (.sk 1 (.step (.loop [(40,ti)] (rg [41,2,9,1,43,14,40,1]) .nil) .nil (.sk 1 (.step (.loop [(10,ti)] (rg [57,3,62,5,60,2,10,1]) (.sk 2 (.step (.draw (od [1,2,0,1,1667,0,3972,0,8069,0]) .nil) .nil .nil))) .nil (.sk 2 (.step (.loop [(67,ti)] (rg [68,2,12,1,70,13,67,1]) .nil) .nil .nil)))))))))))) [.slice a b c] d R)
 (λa b c d e f g h i R=>call_n Tryz.func380 (.sk 1 (.draw (od [0,10,11,1,10,1,12,3,8388495,0]) .nil)) [.agg #[.string a,.string b,.int Zk c],.pointer (A4 d),.pointer (A4 e),.pointer (A4 f),.pointer (A4 g),.pointer (A4 h)] i R))
 (yF (λa b c d e f g h R=>call_n Tryz.func381 .nil [.agg #[.string a,.string b,.int Zk c],.pointer (A4 d),.pointer (A4 e),.pointer (A4 f),.pointer (A4 g)] h R)
 (λa b c d R=>call_n Tryz.func382 .nil [.pointer a,.string b,.int .u32 c] d R))))
 (yF (yF (yF (λa b c R=>call_n Tryz.func383 .nil [.pointer a,.int Zk b] c R)
 (λa b c d R=>call_n Tryz.func384 (.sk 6 (.draw (od [0,3,4,4,9,1,11,1,3,1,8,1,10,1,524300,0,2089101,0,4194190,0]) .nil)) [.pointer a,.string b,.int Zk c] d R))
 (yF (λa b c d e f g R=>call_n Tryz.func385 .nil [.pointer a,.string b,.string c,.int Zk d,.int Zk e,f] g R)
 (λa b c d e f R=>call_n Tryz.func386 (.draw (od [0,11,524171,0]) .nil) [.pointer a,.pointer (A4 b),.pointer (A4 c),.pointer (A4 d),.pointer (A4 e)] f R)))
 (yF (yF (λa b c d R=>call_n Tryz.func387 (.draw (od [0,7,32647,0]) .nil) [.pointer a,.pointer (A4 b),.pointer (A4 c)] d R)
 (λa b c d e R=>call_n Tryz.func388 (.sk 2 (.step (.loop [(8,ti)] (rg [9,2,5,1,11,7,4,1,18,1,8,1]) .nil) .nil .nil)) [.slice a b c,d] e R))
 (yF (λa b c d e f g R=>call_n Tryz.func389 .nil [.agg #[.int Zk a,.string b,.string c,.int Zk d,.string e],.pointer (A4 f)] g R)
 (λa b c R=>call_n Tryz.func390 .nil [.pointer a,.int Zk b] c R)))))
 (yF (yF (yF (yF (λa R=>call_n Tryz.func392 .nil [] a R)
 (λa b c R=>call_n Tryz.func393 (.sk 1 (.draw (od [0,1,129,0,2,2,3972,0,8069,0]) (.sk 1 (.step (.loop [(17,ti)] (rg [18,2,7,1,20,8,8,4,28,25,12,1,53,13,13,1,66,13,17,1]) (.sk 2 (.step (.sk 1 (.draw (od [0,1,2,1,4,1,6,1,1,1,8,1,3,1,9,1,5,1,10,1,7,1,11,1]) (.draw (od [0,1,2,2,6,1,8,2,11,1,17,2,21,2,1,1,7,1,10,1,12,4,19,1,23,1,3204,0,5,1,16,1,20,1,24,2]) (.sk 1 (.draw (od [0,2,898,0]) .nil))))) .nil .nil))) .nil (.sk 1 (.step (.loop [(79,ti)] (rg [80,2,14,1,82,9,79,1]) (.sk 2 (.step (.sk 1 (.draw (od [0,2,3,2,2,1,5,3,65416,0]) .nil)) .nil .nil))) .nil .nil)))))) [.agg a,.agg b] c R))
 (yF (λa b c d R=>call_n Tryz.func394 (.sk 3 (.step (.loop [(10,ti)] (rg [11,4,4,2,15,12,10,1]) .nil) .nil (.sk 1 (.step (.loop [(6,ti)] (rg [27,2,31,25,29,2,6,1]) (.sk 2 (.step (.draw (od [0,4,5,1,7,3,12,3,16,1,19,3,4,1,10,1,15,1,22,1,16006,0,11,1,32538257,0,18,1,23,2,8589934489,0]) .nil) .nil .nil))) .nil .nil)))) [.slice a b c] d R)
 (λa b c d R=>call_n Tryz.func398 .nil [.agg #[.int .u32 a,.int Zk b],.pointer (A4 c)] d R)))
 (yF (yF (λa b c d R=>call_n Tryz.func399 (.sk 1 (.draw (od [0,1,385,0,2,3,8,1,5,1,9,1,14214,0,7,1,10,3]) .nil)) [.agg #[.int .u32 a,.int Zk b],.int .u32 c] d R)
 (λa b c d R=>call_n Tryz.func400 .nil [.pointer a,.int Zk b,c] d R))
 (yF (λc1 w R=>call_n Tryz.func401 .nil [.pointer c1] w R)
 (λa b R=>call_n Tryz.func402 (.sk 3 (.step (.loop [(3,ti)] (rg [11,4,5,1,15,4,3,1]) .nil) .nil .nil)) [.pointer a] b R))))
 (yF (yF (yF (λa R=>call_n Tryz.func403 .nil [] a R)
 (λa b c d R=>call_n Tryz.func404 (.sk 3 (.join 1 [(7,(.b (.int .u32)))] (rg [14,4,7,1]) .nil (.draw (od [0,2,5,2,11,1,2,2,7,2,3972,0,130953,0,10,1,12,2]) .nil))) [.int .u32 a,.agg b,.bool c] d R))
 (yF (λa b c R=>call_n Tryz.func406 .nil [.int .u32 a,.int Zk b] c R)
 (λa b c d R=>call_n Tryz.func429 .nil [.slice a b c] d R)))
 (yF (yF (λa b c d e f R=>call_n Tryz.func430 (.sk 1 (.draw (od [0,3,7,3,3,4,10,5]) (.step (.draw (od [0,3,7,3,3,4,10,6]) .nil) .nil (.draw (od [0,3,7,3,3,4,10,6]) .nil)))) [.slice a b c,.int Zk d,.int Zk e] f R)
 (λa b c d e f R=>call_n Tryz.func431 (.draw (od [0,7,8,3,7,1,11,2,2093965,0,14,1,8388495,0]) (.draw (od [0,3,4,3,8,2,3,1,7,1,10,2,917388,0,13,2,8388495,0]) .nil)) [.slice a b c,.int Zk d,.int Zk e] f R))
 (yF (λa b R=>call_n Tryz.func432 .nil [.pointer a] b R)
 (λa b c R=>call_n Tryz.func433 .nil [.pointer a,b] c R))))))
 simp -implicitDefEqProofs (maxSteps:=100000000) only[nlB,fl_seq,fl_reg,fl_cond,fl_block,fl_loop,fl_exit,fl_ret,fl_skip,A0,A1,qf4,AE.sk,ra,rg,ro,od,ti,tb,ts,tp,tl,tm,tv,A2,A6,A7,A8,Tryz.f359,Tryz.f360,Tryz.f362,Tryz.f363,Tryz.f368,Tryz.f380,Tryz.f381,Tryz.f382,Tryz.f383,Tryz.f384,Tryz.f385,Tryz.f386,Tryz.f387,Tryz.f388,Tryz.f389,Tryz.f390,Tryz.f392,Tryz.f393,Tryz.f394,Tryz.f398,Tryz.f399,Tryz.f400,Tryz.f401,Tryz.f402,Tryz.f403,Tryz.f404,Tryz.f406,Tryz.f429,Tryz.f430,Tryz.f431,Tryz.f432,Tryz.f433]at h;simp -implicitDefEqProofs (maxSteps:=100000000) only[↓n_nil0,↓n_nil1,↓n_skip0,↓n_skip1,↓n_reg0,↓n_reg1,↓n_dr,↓n_dr2,↓n_cond0,↓n_cond1,↓n_block0,↓n_block1,↓n_loop,↓n_exit0,↓n_exit1,↓n_ret0,↓n_ret1,↓n_j1,↓n_j2,↓q_t0,↓q_t1,↓q_t2,↓q_b0,↓q_b1,↓q_b2,↓q_f0,↓q_f1,↓s_0,↓s_1,↓oe_0,↓oe_1,↓oe_2,↓de_0,↓de_1,↓se_1,↓s2_1,↓ne_0,↓ne_1,↓ne_2,↓ne_3,↓nt_0,↓nt_1,↓nt_2,↓nt_3,↓nt_4,↓rb_2,↓g_0,↓g_1,↓e_c,↓e_put,↓e_puts,↓v_c,↓v_t,↓v_g,↓v_f,↓nil_s,↓k_ptr,↓k_fun,↓k_ifc,↓bif_t,↓bif_f,↓isn_s,↓isn_n,↓un_not,↓un_neg,↓un_xor,↓mf,↓b_0,↓b_1,↓d_0,↓d_1,↓al_0,↓al_1,↓wl_a,↓wp_a,↓en_1,↓x1_0,↓x2_0,↓x2_1,↓x3_0,↓x3_1,↓x3_2,↓x4_0,↓x4_1,↓x4_2,↓x4_3,↓t_0,↓t_1,↓opR,↓opX,↓opW,↓opP,↓qi7,↓qb9,↓qe8,↓q09,↓qsa,↓ixK,↓q3c,↓slK,↓qc7,↓qj3,↓q86,↓qvc,↓qa2.asT',↓qwa,↓q66,↓asR,↓asT,↓as0,↓exR,↓qta,↓exT,↓exL,↓ex0,↓alT,↓alL,↓al0,↓ld0,↓ldL,↓st0,↓stL,↓exO,a_0,a_1,decide_true,decide_false,cl_a,cl_i,cl_b,cl_s,cl_p,cl_l,cl_m,cl_f,gs,kd,Two.kd,qn4,tup,qqc,qo5,q72,tys,q49,q68,q96,A0,A1,A5,A9,A2,undef,A3,rep,↓T0,↓T1,↓T2,↓T3,↓T4,↓T5,↓T6,↓T7,↓T8,↓T9,↓T10,↓T11,↓T12]at h;exact h
end Nr
def F359_of{a b c d e f g h i R}:=Nr.FA6.1.1.1.1.1 a b c d e f g h i R
def F360_of{a b c d e R}:=Nr.FA6.1.1.1.1.2 a b c d e R
def F362_of{a b c d R}:=Nr.FA6.1.1.1.2.1 a b c d R
def F363_of{a b R}:=Nr.FA6.1.1.1.2.2 a b R
def F368_of{a b c d R}:=Nr.FA6.1.1.2.1.1 a b c d R
def F380_of{a b c d e f g h i R}:=Nr.FA6.1.1.2.1.2 a b c d e f g h i R
def F381_of{a b c d e f g h R}:=Nr.FA6.1.1.2.2.1 a b c d e f g h R
def F382_of{a b c d R}:=Nr.FA6.1.1.2.2.2 a b c d R
def F383_of{a b c R}:=Nr.FA6.1.2.1.1.1 a b c R
def F384_of{a b c d R}:=Nr.FA6.1.2.1.1.2 a b c d R
def F385_of{a b c d e f g R}:=Nr.FA6.1.2.1.2.1 a b c d e f g R
def F386_of{a b c d e f R}:=Nr.FA6.1.2.1.2.2 a b c d e f R
def F387_of{a b c d R}:=Nr.FA6.1.2.2.1.1 a b c d R
def F388_of{a b c d e R}:=Nr.FA6.1.2.2.1.2 a b c d e R
def F389_of{a b c d e f g R}:=Nr.FA6.1.2.2.2.1 a b c d e f g R
def F390_of{a b c R}:=Nr.FA6.1.2.2.2.2 a b c R
def F392_of{a R}:=Nr.FA6.2.1.1.1.1 a R
def F393_of{a b c R}:=Nr.FA6.2.1.1.1.2 a b c R
def F394_of{a b c d R}:=Nr.FA6.2.1.1.2.1 a b c d R
def F398_of{a b c d R}:=Nr.FA6.2.1.1.2.2 a b c d R
def F399_of{a b c d R}:=Nr.FA6.2.1.2.1.1 a b c d R
def F400_of{a b c d R}:=Nr.FA6.2.1.2.1.2 a b c d R
def F401_of{c1 h R}:=Nr.FA6.2.1.2.2.1 c1 h R
def F402_of{a b R}:=Nr.FA6.2.1.2.2.2 a b R
def F403_of{a R}:=Nr.FA6.2.2.1.1.1 a R
def F404_of{a b c d R}:=Nr.FA6.2.2.1.1.2 a b c d R
def F406_of{a b c R}:=Nr.FA6.2.2.1.2.1 a b c R
def F429_of{a b c d R}:=Nr.FA6.2.2.1.2.2 a b c d R
def F430_of{a b c d e f R}:=Nr.FA6.2.2.2.1.1 a b c d e f R
def F431_of{a b c d e f R}:=Nr.FA6.2.2.2.1.2 a b c d e f R
def F432_of{a b R}:=Nr.FA6.2.2.2.2.1 a b R
def F433_of{a b c R}:=Nr.FA6.2.2.2.2.2 a b c R
end
end Go.Proofs.YtfjifcfbmhpcaaaGreatDoor
