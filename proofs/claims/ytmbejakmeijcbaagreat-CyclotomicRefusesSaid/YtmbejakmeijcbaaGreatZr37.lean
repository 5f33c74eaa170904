/- Runs at orders up to 512, joined. -/
import Derived.Test.YtmbejakmeijcbaaGreatZr15
import Derived.Test.YtmbejakmeijcbaaGreatZr16
import Derived.Test.YtmbejakmeijcbaaGreatZr17
import Derived.Test.YtmbejakmeijcbaaGreatZr18
import Derived.Test.YtmbejakmeijcbaaGreatZr19
import Derived.Test.YtmbejakmeijcbaaGreatZr20
import Derived.Test.YtmbejakmeijcbaaGreatZr21
import Derived.Test.YtmbejakmeijcbaaGreatZr22
import Derived.Test.YtmbejakmeijcbaaGreatZr24
import Derived.Test.YtmbejakmeijcbaaGreatZr25
import Derived.Test.YtmbejakmeijcbaaGreatZr26
import Derived.Test.YtmbejakmeijcbaaGreatZr27
import Derived.Test.YtmbejakmeijcbaaGreatZr28
import Derived.Test.YtmbejakmeijcbaaGreatZr29
import Derived.Test.YtmbejakmeijcbaaGreatZr30
import Derived.Test.YtmbejakmeijcbaaGreatZr31
import Derived.Test.YtmbejakmeijcbaaGreatZr32
import Derived.Test.YtmbejakmeijcbaaGreatZr33
import Derived.Test.YtmbejakmeijcbaaGreatZr34
import Derived.Test.YtmbejakmeijcbaaGreatZr35
import Derived.Test.YtmbejakmeijcbaaGreatZr36
import Derived.Test.YtmbejakmeijcbaaGreatZr14
import Derived.Test.YtmbejakmeijcbaaGreatZr13
namespace Go.Proofs.YtmbejakmeijcbaaGreat
namespace Dv
theorem run_at {B : Nat → Bool} {n c w s : Nat} (h1 : 1 ≤ n) (h : (List.range w).all (fun k => B (k + s)) = true) (e : (n - 1) / w = c) (h0 : 0 < w := by decide) (hs : s = w * c + 1 := by rfl) : B n = true := by
 have d := Nat.div_add_mod (n - 1) w
 have l := Nat.mod_lt (n - 1) h0
 rw [e] at d
 have := List.all_eq_true.1 h (n - s) (List.mem_range.2 (by omega))
 rwa [show n - s + s = n by omega] at this
theorem mob_run {n : Nat} (h1 : 1 ≤ n) (h2 : n ≤ 512) : mobB n = true := by
 have hlt : (n - 1) / 32 < 16 := by omega
 match hc : (n - 1) / 32, hlt with
 | 0, _ => exact run_at h1 mob_r0 hc
 | 1, _ => exact run_at h1 mob_r1 hc
 | 2, _ => exact run_at h1 mob_r2 hc
 | 3, _ => exact run_at h1 mob_r3 hc
 | 4, _ => exact run_at h1 mob_r4 hc
 | 5, _ => exact run_at h1 mob_r5 hc
 | 6, _ => exact run_at h1 mob_r6 hc
 | 7, _ => exact run_at h1 mob_r7 hc
 | 8, _ => exact run_at h1 mob_r8 hc
 | 9, _ => exact run_at h1 mob_r9 hc
 | 10, _ => exact run_at h1 mob_r10 hc
 | 11, _ => exact run_at h1 mob_r11 hc
 | 12, _ => exact run_at h1 mob_r12 hc
 | 13, _ => exact run_at h1 mob_r13 hc
 | 14, _ => exact run_at h1 mob_r14 hc
 | 15, _ => exact run_at h1 mob_r15 hc
 | _ + 16, h => exact absurd h (by omega)
theorem phi_run {n : Nat} (h1 : 1 ≤ n) (h2 : n ≤ 512) : phiB n = true := by
 have hlt : (n - 1) / 32 < 16 := by omega
 match hc : (n - 1) / 32, hlt with
 | 0, _ => exact run_at h1 phi_r0 hc
 | 1, _ => exact run_at h1 phi_r1 hc
 | 2, _ => exact run_at h1 phi_r2 hc
 | 3, _ => exact run_at h1 phi_r3 hc
 | 4, _ => exact run_at h1 phi_r4 hc
 | 5, _ => exact run_at h1 phi_r5 hc
 | 6, _ => exact run_at h1 phi_r6 hc
 | 7, _ => exact run_at h1 phi_r7 hc
 | 8, _ => exact run_at h1 phi_r8 hc
 | 9, _ => exact run_at h1 phi_r9 hc
 | 10, _ => exact run_at h1 phi_r10 hc
 | 11, _ => exact run_at h1 phi_r11 hc
 | 12, _ => exact run_at h1 phi_r12 hc
 | 13, _ => exact run_at h1 phi_r13 hc
 | 14, _ => exact run_at h1 phi_r14 hc
 | 15, _ => exact run_at h1 phi_r15 hc
 | _ + 16, h => exact absurd h (by omega)
theorem div_run {n : Nat} (h1 : 1 ≤ n) (h2 : n ≤ 512) : divJ n = true := by
 have hlt : (n - 1) / 2 < 256 := by omega
 match hc : (n - 1) / 2, hlt with
 | 0, _ => exact run_at h1 div_r0 hc
 | 1, _ => exact run_at h1 div_r1 hc
 | 2, _ => exact run_at h1 div_r2 hc
 | 3, _ => exact run_at h1 div_r3 hc
 | 4, _ => exact run_at h1 div_r4 hc
 | 5, _ => exact run_at h1 div_r5 hc
 | 6, _ => exact run_at h1 div_r6 hc
 | 7, _ => exact run_at h1 div_r7 hc
 | 8, _ => exact run_at h1 div_r8 hc
 | 9, _ => exact run_at h1 div_r9 hc
 | 10, _ => exact run_at h1 div_r10 hc
 | 11, _ => exact run_at h1 div_r11 hc
 | 12, _ => exact run_at h1 div_r12 hc
 | 13, _ => exact run_at h1 div_r13 hc
 | 14, _ => exact run_at h1 div_r14 hc
 | 15, _ => exact run_at h1 div_r15 hc
 | 16, _ => exact run_at h1 div_r16 hc
 | 17, _ => exact run_at h1 div_r17 hc
 | 18, _ => exact run_at h1 div_r18 hc
 | 19, _ => exact run_at h1 div_r19 hc
 | 20, _ => exact run_at h1 div_r20 hc
 | 21, _ => exact run_at h1 div_r21 hc
 | 22, _ => exact run_at h1 div_r22 hc
 | 23, _ => exact run_at h1 div_r23 hc
 | 24, _ => exact run_at h1 div_r24 hc
 | 25, _ => exact run_at h1 div_r25 hc
 | 26, _ => exact run_at h1 div_r26 hc
 | 27, _ => exact run_at h1 div_r27 hc
 | 28, _ => exact run_at h1 div_r28 hc
 | 29, _ => exact run_at h1 div_r29 hc
 | 30, _ => exact run_at h1 div_r30 hc
 | 31, _ => exact run_at h1 div_r31 hc
 | 32, _ => exact run_at h1 div_r32 hc
 | 33, _ => exact run_at h1 div_r33 hc
 | 34, _ => exact run_at h1 div_r34 hc
 | 35, _ => exact run_at h1 div_r35 hc
 | 36, _ => exact run_at h1 div_r36 hc
 | 37, _ => exact run_at h1 div_r37 hc
 | 38, _ => exact run_at h1 div_r38 hc
 | 39, _ => exact run_at h1 div_r39 hc
 | 40, _ => exact run_at h1 div_r40 hc
 | 41, _ => exact run_at h1 div_r41 hc
 | 42, _ => exact run_at h1 div_r42 hc
 | 43, _ => exact run_at h1 div_r43 hc
 | 44, _ => exact run_at h1 div_r44 hc
 | 45, _ => exact run_at h1 div_r45 hc
 | 46, _ => exact run_at h1 div_r46 hc
 | 47, _ => exact run_at h1 div_r47 hc
 | 48, _ => exact run_at h1 div_r48 hc
 | 49, _ => exact run_at h1 div_r49 hc
 | 50, _ => exact run_at h1 div_r50 hc
 | 51, _ => exact run_at h1 div_r51 hc
 | 52, _ => exact run_at h1 div_r52 hc
 | 53, _ => exact run_at h1 div_r53 hc
 | 54, _ => exact run_at h1 div_r54 hc
 | 55, _ => exact run_at h1 div_r55 hc
 | 56, _ => exact run_at h1 div_r56 hc
 | 57, _ => exact run_at h1 div_r57 hc
 | 58, _ => exact run_at h1 div_r58 hc
 | 59, _ => exact run_at h1 div_r59 hc
 | 60, _ => exact run_at h1 div_r60 hc
 | 61, _ => exact run_at h1 div_r61 hc
 | 62, _ => exact run_at h1 div_r62 hc
 | 63, _ => exact run_at h1 div_r63 hc
 | 64, _ => exact run_at h1 div_r64 hc
 | 65, _ => exact run_at h1 div_r65 hc
 | 66, _ => exact run_at h1 div_r66 hc
 | 67, _ => exact run_at h1 div_r67 hc
 | 68, _ => exact run_at h1 div_r68 hc
 | 69, _ => exact run_at h1 div_r69 hc
 | 70, _ => exact run_at h1 div_r70 hc
 | 71, _ => exact run_at h1 div_r71 hc
 | 72, _ => exact run_at h1 div_r72 hc
 | 73, _ => exact run_at h1 div_r73 hc
 | 74, _ => exact run_at h1 div_r74 hc
 | 75, _ => exact run_at h1 div_r75 hc
 | 76, _ => exact run_at h1 div_r76 hc
 | 77, _ => exact run_at h1 div_r77 hc
 | 78, _ => exact run_at h1 div_r78 hc
 | 79, _ => exact run_at h1 div_r79 hc
 | 80, _ => exact run_at h1 div_r80 hc
 | 81, _ => exact run_at h1 div_r81 hc
 | 82, _ => exact run_at h1 div_r82 hc
 | 83, _ => exact run_at h1 div_r83 hc
 | 84, _ => exact run_at h1 div_r84 hc
 | 85, _ => exact run_at h1 div_r85 hc
 | 86, _ => exact run_at h1 div_r86 hc
 | 87, _ => exact run_at h1 div_r87 hc
 | 88, _ => exact run_at h1 div_r88 hc
 | 89, _ => exact run_at h1 div_r89 hc
 | 90, _ => exact run_at h1 div_r90 hc
 | 91, _ => exact run_at h1 div_r91 hc
 | 92, _ => exact run_at h1 div_r92 hc
 | 93, _ => exact run_at h1 div_r93 hc
 | 94, _ => exact run_at h1 div_r94 hc
 | 95, _ => exact run_at h1 div_r95 hc
 | 96, _ => exact run_at h1 div_r96 hc
 | 97, _ => exact run_at h1 div_r97 hc
 | 98, _ => exact run_at h1 div_r98 hc
 | 99, _ => exact run_at h1 div_r99 hc
 | 100, _ => exact run_at h1 div_r100 hc
 | 101, _ => exact run_at h1 div_r101 hc
 | 102, _ => exact run_at h1 div_r102 hc
 | 103, _ => exact run_at h1 div_r103 hc
 | 104, _ => exact run_at h1 div_r104 hc
 | 105, _ => exact run_at h1 div_r105 hc
 | 106, _ => exact run_at h1 div_r106 hc
 | 107, _ => exact run_at h1 div_r107 hc
 | 108, _ => exact run_at h1 div_r108 hc
 | 109, _ => exact run_at h1 div_r109 hc
 | 110, _ => exact run_at h1 div_r110 hc
 | 111, _ => exact run_at h1 div_r111 hc
 | 112, _ => exact run_at h1 div_r112 hc
 | 113, _ => exact run_at h1 div_r113 hc
 | 114, _ => exact run_at h1 div_r114 hc
 | 115, _ => exact run_at h1 div_r115 hc
 | 116, _ => exact run_at h1 div_r116 hc
 | 117, _ => exact run_at h1 div_r117 hc
 | 118, _ => exact run_at h1 div_r118 hc
 | 119, _ => exact run_at h1 div_r119 hc
 | 120, _ => exact run_at h1 div_r120 hc
 | 121, _ => exact run_at h1 div_r121 hc
 | 122, _ => exact run_at h1 div_r122 hc
 | 123, _ => exact run_at h1 div_r123 hc
 | 124, _ => exact run_at h1 div_r124 hc
 | 125, _ => exact run_at h1 div_r125 hc
 | 126, _ => exact run_at h1 div_r126 hc
 | 127, _ => exact run_at h1 div_r127 hc
 | 128, _ => exact run_at h1 div_r128 hc
 | 129, _ => exact run_at h1 div_r129 hc
 | 130, _ => exact run_at h1 div_r130 hc
 | 131, _ => exact run_at h1 div_r131 hc
 | 132, _ => exact run_at h1 div_r132 hc
 | 133, _ => exact run_at h1 div_r133 hc
 | 134, _ => exact run_at h1 div_r134 hc
 | 135, _ => exact run_at h1 div_r135 hc
 | 136, _ => exact run_at h1 div_r136 hc
 | 137, _ => exact run_at h1 div_r137 hc
 | 138, _ => exact run_at h1 div_r138 hc
 | 139, _ => exact run_at h1 div_r139 hc
 | 140, _ => exact run_at h1 div_r140 hc
 | 141, _ => exact run_at h1 div_r141 hc
 | 142, _ => exact run_at h1 div_r142 hc
 | 143, _ => exact run_at h1 div_r143 hc
 | 144, _ => exact run_at h1 div_r144 hc
 | 145, _ => exact run_at h1 div_r145 hc
 | 146, _ => exact run_at h1 div_r146 hc
 | 147, _ => exact run_at h1 div_r147 hc
 | 148, _ => exact run_at h1 div_r148 hc
 | 149, _ => exact run_at h1 div_r149 hc
 | 150, _ => exact run_at h1 div_r150 hc
 | 151, _ => exact run_at h1 div_r151 hc
 | 152, _ => exact run_at h1 div_r152 hc
 | 153, _ => exact run_at h1 div_r153 hc
 | 154, _ => exact run_at h1 div_r154 hc
 | 155, _ => exact run_at h1 div_r155 hc
 | 156, _ => exact run_at h1 div_r156 hc
 | 157, _ => exact run_at h1 div_r157 hc
 | 158, _ => exact run_at h1 div_r158 hc
 | 159, _ => exact run_at h1 div_r159 hc
 | 160, _ => exact run_at h1 div_r160 hc
 | 161, _ => exact run_at h1 div_r161 hc
 | 162, _ => exact run_at h1 div_r162 hc
 | 163, _ => exact run_at h1 div_r163 hc
 | 164, _ => exact run_at h1 div_r164 hc
 | 165, _ => exact run_at h1 div_r165 hc
 | 166, _ => exact run_at h1 div_r166 hc
 | 167, _ => exact run_at h1 div_r167 hc
 | 168, _ => exact run_at h1 div_r168 hc
 | 169, _ => exact run_at h1 div_r169 hc
 | 170, _ => exact run_at h1 div_r170 hc
 | 171, _ => exact run_at h1 div_r171 hc
 | 172, _ => exact run_at h1 div_r172 hc
 | 173, _ => exact run_at h1 div_r173 hc
 | 174, _ => exact run_at h1 div_r174 hc
 | 175, _ => exact run_at h1 div_r175 hc
 | 176, _ => exact run_at h1 div_r176 hc
 | 177, _ => exact run_at h1 div_r177 hc
 | 178, _ => exact run_at h1 div_r178 hc
 | 179, _ => exact run_at h1 div_r179 hc
 | 180, _ => exact run_at h1 div_r180 hc
 | 181, _ => exact run_at h1 div_r181 hc
 | 182, _ => exact run_at h1 div_r182 hc
 | 183, _ => exact run_at h1 div_r183 hc
 | 184, _ => exact run_at h1 div_r184 hc
 | 185, _ => exact run_at h1 div_r185 hc
 | 186, _ => exact run_at h1 div_r186 hc
 | 187, _ => exact run_at h1 div_r187 hc
 | 188, _ => exact run_at h1 div_r188 hc
 | 189, _ => exact run_at h1 div_r189 hc
 | 190, _ => exact run_at h1 div_r190 hc
 | 191, _ => exact run_at h1 div_r191 hc
 | 192, _ => exact run_at h1 div_r192 hc
 | 193, _ => exact run_at h1 div_r193 hc
 | 194, _ => exact run_at h1 div_r194 hc
 | 195, _ => exact run_at h1 div_r195 hc
 | 196, _ => exact run_at h1 div_r196 hc
 | 197, _ => exact run_at h1 div_r197 hc
 | 198, _ => exact run_at h1 div_r198 hc
 | 199, _ => exact run_at h1 div_r199 hc
 | 200, _ => exact run_at h1 div_r200 hc
 | 201, _ => exact run_at h1 div_r201 hc
 | 202, _ => exact run_at h1 div_r202 hc
 | 203, _ => exact run_at h1 div_r203 hc
 | 204, _ => exact run_at h1 div_r204 hc
 | 205, _ => exact run_at h1 div_r205 hc
 | 206, _ => exact run_at h1 div_r206 hc
 | 207, _ => exact run_at h1 div_r207 hc
 | 208, _ => exact run_at h1 div_r208 hc
 | 209, _ => exact run_at h1 div_r209 hc
 | 210, _ => exact run_at h1 div_r210 hc
 | 211, _ => exact run_at h1 div_r211 hc
 | 212, _ => exact run_at h1 div_r212 hc
 | 213, _ => exact run_at h1 div_r213 hc
 | 214, _ => exact run_at h1 div_r214 hc
 | 215, _ => exact run_at h1 div_r215 hc
 | 216, _ => exact run_at h1 div_r216 hc
 | 217, _ => exact run_at h1 div_r217 hc
 | 218, _ => exact run_at h1 div_r218 hc
 | 219, _ => exact run_at h1 div_r219 hc
 | 220, _ => exact run_at h1 div_r220 hc
 | 221, _ => exact run_at h1 div_r221 hc
 | 222, _ => exact run_at h1 div_r222 hc
 | 223, _ => exact run_at h1 div_r223 hc
 | 224, _ => exact run_at h1 div_r224 hc
 | 225, _ => exact run_at h1 div_r225 hc
 | 226, _ => exact run_at h1 div_r226 hc
 | 227, _ => exact run_at h1 div_r227 hc
 | 228, _ => exact run_at h1 div_r228 hc
 | 229, _ => exact run_at h1 div_r229 hc
 | 230, _ => exact run_at h1 div_r230 hc
 | 231, _ => exact run_at h1 div_r231 hc
 | 232, _ => exact run_at h1 div_r232 hc
 | 233, _ => exact run_at h1 div_r233 hc
 | 234, _ => exact run_at h1 div_r234 hc
 | 235, _ => exact run_at h1 div_r235 hc
 | 236, _ => exact run_at h1 div_r236 hc
 | 237, _ => exact run_at h1 div_r237 hc
 | 238, _ => exact run_at h1 div_r238 hc
 | 239, _ => exact run_at h1 div_r239 hc
 | 240, _ => exact run_at h1 div_r240 hc
 | 241, _ => exact run_at h1 div_r241 hc
 | 242, _ => exact run_at h1 div_r242 hc
 | 243, _ => exact run_at h1 div_r243 hc
 | 244, _ => exact run_at h1 div_r244 hc
 | 245, _ => exact run_at h1 div_r245 hc
 | 246, _ => exact run_at h1 div_r246 hc
 | 247, _ => exact run_at h1 div_r247 hc
 | 248, _ => exact run_at h1 div_r248 hc
 | 249, _ => exact run_at h1 div_r249 hc
 | 250, _ => exact run_at h1 div_r250 hc
 | 251, _ => exact run_at h1 div_r251 hc
 | 252, _ => exact run_at h1 div_r252 hc
 | 253, _ => exact run_at h1 div_r253 hc
 | 254, _ => exact run_at h1 div_r254 hc
 | 255, _ => exact run_at h1 div_r255 hc
 | _ + 256, h => exact absurd h (by omega)
theorem rph_run {n : Nat} (h1 : 1 ≤ n) (h2 : n ≤ 512) : rphB n = true := by
 have hlt : (n - 1) / 32 < 16 := by omega
 match hc : (n - 1) / 32, hlt with
 | 0, _ => exact run_at h1 rph_r0 hc
 | 1, _ => exact run_at h1 rph_r1 hc
 | 2, _ => exact run_at h1 rph_r2 hc
 | 3, _ => exact run_at h1 rph_r3 hc
 | 4, _ => exact run_at h1 rph_r4 hc
 | 5, _ => exact run_at h1 rph_r5 hc
 | 6, _ => exact run_at h1 rph_r6 hc
 | 7, _ => exact run_at h1 rph_r7 hc
 | 8, _ => exact run_at h1 rph_r8 hc
 | 9, _ => exact run_at h1 rph_r9 hc
 | 10, _ => exact run_at h1 rph_r10 hc
 | 11, _ => exact run_at h1 rph_r11 hc
 | 12, _ => exact run_at h1 rph_r12 hc
 | 13, _ => exact run_at h1 rph_r13 hc
 | 14, _ => exact run_at h1 rph_r14 hc
 | 15, _ => exact run_at h1 rph_r15 hc
 | _ + 16, h => exact absurd h (by omega)
theorem ch_run {n : Nat} (h1 : 1 ≤ n) (h2 : n ≤ 512) : chB n = true := by
 have hlt : (n - 1) / 32 < 16 := by omega
 match hc : (n - 1) / 32, hlt with
 | 0, _ => exact run_at h1 ch_r0 hc
 | 1, _ => exact run_at h1 ch_r1 hc
 | 2, _ => exact run_at h1 ch_r2 hc
 | 3, _ => exact run_at h1 ch_r3 hc
 | 4, _ => exact run_at h1 ch_r4 hc
 | 5, _ => exact run_at h1 ch_r5 hc
 | 6, _ => exact run_at h1 ch_r6 hc
 | 7, _ => exact run_at h1 ch_r7 hc
 | 8, _ => exact run_at h1 ch_r8 hc
 | 9, _ => exact run_at h1 ch_r9 hc
 | 10, _ => exact run_at h1 ch_r10 hc
 | 11, _ => exact run_at h1 ch_r11 hc
 | 12, _ => exact run_at h1 ch_r12 hc
 | 13, _ => exact run_at h1 ch_r13 hc
 | 14, _ => exact run_at h1 ch_r14 hc
 | 15, _ => exact run_at h1 ch_r15 hc
 | _ + 16, h => exact absurd h (by omega)
end Dv
end Go.Proofs.YtmbejakmeijcbaaGreat
/- The document's polynomials over the rational numbers: normal form, degree, product. -/
namespace Go.Proofs.YtmbejakmeijcbaaGreat
open Go.RowKit
namespace Rf
end Rf
end Go.Proofs.YtmbejakmeijcbaaGreat
/- The document's fractions and polynomials over the rational numbers: whole numbers, negatives, differences, ratios; lists of whole numbers, places, sums. -/
namespace Go.Proofs.YtmbejakmeijcbaaGreat
open Go.RowKit
namespace Rf
end Rf
end Go.Proofs.YtmbejakmeijcbaaGreat
/- The document's division of polynomials over the rational numbers by a monic one. -/
namespace Go.Proofs.YtmbejakmeijcbaaGreat
open Go.RowKit
namespace Rf
end Rf
end Go.Proofs.YtmbejakmeijcbaaGreat
/- Cyclotomic fields in the program: conjugates, lifts, rational numbers, roots of unity. -/
namespace Go.Proofs.YtmbejakmeijcbaaGreat
open Go.RowKit
namespace Rf
set_option maxHeartbeats 4000000 in
theorem agcd_ok {a b : Nat} (ha : a ≤ 1000000) (hb : b ≤ 1000000) : FnOK Tryz.prog true 54 [.c (.int .i64 a), .c (.int .i64 b)] (.c (.int .i64 (Nat.gcd a b : Nat))) := by
 refine fn_ok (E := E1) E1_ok Tryz.func54 rfl mixed (by kernel_rfl) (by kernel_rfl) ?_
 conv => whnf
 refine loop_ints (fun x : Nat × Nat => gst [(0, .c (.int .i64 x.1)), (1, .c (.int .i64 x.2))] []) (fun x => x.2) (fun x => x.1 ≤ 1000000 ∧ x.2 ≤ 1000000 ∧ Nat.gcd x.1 x.2 = Nat.gcd a b) (a, b) rfl (Weak.gen [] rfl trivial ⟨⟨_, rfl, rfl⟩, ⟨_, rfl, rfl⟩, trivial⟩) ⟨ha, hb, rfl⟩ ?_
 intro ⟨u, v⟩ ⟨hu, hv, hg⟩
 conv => whnf
 refine bcase (fun (h : (!decide ((v : Int) = 0)) = true) => ?_) fun (h : (!decide ((v : Int) = 0)) = false) => ?_
 ·have h : v ≠ 0 := by rintro rfl; simp at h
  have hlt := Nat.mod_lt u (Nat.pos_of_ne_zero h)
  have hr : Int.tmod (u : Int) (v : Int) = ((u % v : Nat) : Int) := by rw [Int.natCast_emod]; exact Int.tmod_eq_emod_of_nonneg (by omega)
  conv => whnf
  refine ⟨by omega, ?_⟩
  conv => whnf
  exact ⟨(v, u % v), hlt, Weak.gen [] rfl trivial ⟨⟨_, rfl, rfl⟩, ⟨_, rfl, hr⟩, trivial⟩, hv, by show u % v ≤ _; omega, by show Nat.gcd v (u % v) = _; rw [← hg, Nat.gcd_comm u v, Nat.gcd_rec v u, Nat.gcd_comm]⟩
 ·have h : v = 0 := by
   have : (v : Int) = 0 := by simpa using h
   omega
  have hg : u = Nat.gcd a b := by rw [← hg, h, Nat.gcd_zero_right]
  conv => whnf
  refine ⟨rfl, Sub.int ?_⟩
  rw [← hg]
  have hw : IntKind.i64.wrap (-((u : Nat) : Int)) = -((u : Nat) : Int) := inR_wrap (i64 (by omega) (by omega))
  have hu : u ≤ 1000000 := hu
  show (if (0 : Int) > (if IntKind.i64.wrap (-((u : Nat) : Int)) > (u : Int) then IntKind.i64.wrap (-((u : Nat) : Int)) else (u : Int)) then (0 : Int) else if IntKind.i64.wrap (-((u : Nat) : Int)) > (u : Int) then IntKind.i64.wrap (-((u : Nat) : Int)) else (u : Int)) = u
  rw [hw]
  split <;> split <;> omega
abbrev rs (t : Int) (n : Nat) : Nat := (t % (n : Int)).toNat
theorem rs_lt (t : Int) {n : Nat} (h : 1 ≤ n) : rs t n < n := by
 have := Int.emod_lt_of_pos t (show (0 : Int) < n by omega)
 have := Int.emod_nonneg t (show (n : Int) ≠ 0 by omega)
 show (t % (n : Int)).toNat < n
 omega
theorem tmod_rs {t : Int} {n : Nat} (h : 1 ≤ n) : (Int.tmod t n < 0 → Int.tmod t n + n = (rs t n : Nat)) ∧ (¬ Int.tmod t n < 0 → Int.tmod t n = (rs t n : Nat)) ∧ -(n : Int) < Int.tmod t n ∧ Int.tmod t n < n := by
 have e0 := Int.emod_lt_of_pos t (show (0 : Int) < n by omega)
 have e1 := Int.emod_nonneg t (show (n : Int) ≠ 0 by omega)
 have t0 := @Int.emod_eq_tmod t n
 have t3 := Int.lt_tmod_of_pos t (show (0 : Int) < n by omega)
 have t4 := Int.tmod_lt_of_pos t (show (0 : Int) < n by omega)
 obtain ⟨K, hK⟩ : ∃ K, K = rs t n := ⟨_, rfl⟩
 have hK' : K = (t % (n : Int)).toNat := hK
 rw [← hK]
 refine ⟨fun h => ?_, fun h => ?_, by omega, t4⟩
 ·split at t0 <;> omega
 ·split at t0 <;> omega
set_option maxHeartbeats 8000000 in
theorem Cy.galois_ok {n d N D e : Nat} {φ : List Int} {T : List (List Int)} (C : Cy n d φ T) {t : Int} {A r : Nat → Rat} {q : Nat → RawR} (hA : Ev N q A D e) (h0 : 0 < D) (hD : D ≤ 2 ^ 1000000) (he : e ≤ 40000) (hr : Q.Rm d (Q.fr φ) A r) (hg : Nat.gcd (rs t n) n = 1) : FnOK Tryz.prog true 24 [.c (.int .i64 n), .c (.int .i64 t), .c (ql N q)] (.t2 (.c (nql (Q.tq (Q.im n (rs t n) d T r) d) (Q.im n (rs t n) d T r))) (.c (.int .i64 0))) := by
 have n1 := C.tab.n1
 have n2 := C.tab.n2
 have hK := rs_lt t n1
 obtain ⟨t1, t2, t3⟩ := tmod_rs (t := t) n1
 have hd := C.tab.d2
 have hb := (nNormal_r C.fk hA.val (by have := hA.len; omega) hA.fit hA.bd h0 hD (by omega) hr).1
 have hn := C.normal_ok hA h0 hD (by omega) hr
 have hi := C.image_ok (t := rs t n) (N := Q.tq r d) (r := r) (by omega) (by have := Q.tq_le r d; omega) hb h0 hD (by omega)
 rw [show Q.im n (rs t n) (Q.tq r d) T r = Q.im n (rs t n) d T r from (Q.im_more (Q.tq_fin hr.1) (Q.tq_le r d)).symm] at hi
 have hG := agcd_ok (a := rs t n) (b := n) (by omega) (by omega)
 rw [hg] at hG
 have hc := C.chk
 clear hr hA hb C
 generalize rs t n = K at *
 generalize Q.im n K d T r = s at *
 generalize Q.tq s d = M at *
 generalize Q.tq r d = L at *
 rcases Classical.em (Int.tmod t n < 0) with h | h
 all_goals
  refine fn_okS (E := E1) E1_ok Tryz.func24 rfl (by kernel_rfl) ?_
  refine swp_seq0 E1_ok mixed (by kernel_rfl) ?_
  conv => whnf
  refine swp_seq0 E1_ok mixed (by kernel_rfl) ?_
  conv => whnf
  refine ⟨_, hc, ?_⟩
  conv => whnf
  refine swp_seq E1_ok mixed (by kernel_rfl) ?_
  conv => whnf
  refine ⟨by omega, ?_⟩
  conv => whnf
  first
   |refine bpos (show decide (Int.tmod t n < 0) = true from decide_eq_true h) ?_
    conv => whnf
    refine ⟨i64 (by omega) (by omega), ?_⟩
    conv => whnf
   |refine bneg (show decide (Int.tmod t n < 0) = false from decide_eq_false h) ?_
    conv => whnf
  refine ⟨gst [(0, .c (.int .i64 n)), (1, .c (.int .i64 (K : Int))), (2, .c (ql N q))] [], Weak.gen [] rfl trivial ⟨⟨_, rfl, rfl⟩, ⟨_, rfl, by first | exact t1 h | exact t2 h⟩, .inl ⟨_, _, rfl, rfl, fun _ _ _ _ => rfl⟩, trivial⟩, ?_⟩
  refine swp_of E1_ok mixed (by kernel_rfl) ?_
  conv => whnf
  refine ⟨_, hG, ?_⟩
  conv => whnf
  refine ⟨_, hn, ?_⟩
  conv => whnf
  refine ⟨_, hi, ?_⟩
  conv => whnf
  exact ⟨rfl, Sub.refl _⟩
set_option maxHeartbeats 8000000 in
theorem Cy.galois_no {n d N : Nat} {φ : List Int} {T : List (List Int)} (C : Cy n d φ T) {t : Int} {q : Nat → RawR} (hg : Nat.gcd (rs t n) n ≠ 1) : FnOK Tryz.prog true 24 [.c (.int .i64 n), .c (.int .i64 t), .c (ql N q)] (.t2 (.c .nil) (.c (.int .i64 9))) := by
 have n1 := C.tab.n1
 have n2 := C.tab.n2
 have hK := rs_lt t n1
 obtain ⟨t1, t2, t3⟩ := tmod_rs (t := t) n1
 have hG := agcd_ok (a := rs t n) (b := n) (by omega) (by omega)
 have hc := C.chk
 clear C
 generalize rs t n = K at *
 generalize Nat.gcd K n = g at *
 rcases Classical.em (Int.tmod t n < 0) with h | h
 all_goals
  refine fn_okS (E := E1) E1_ok Tryz.func24 rfl (by kernel_rfl) ?_
  refine swp_seq0 E1_ok mixed (by kernel_rfl) ?_
  conv => whnf
  refine swp_seq0 E1_ok mixed (by kernel_rfl) ?_
  conv => whnf
  refine ⟨_, hc, ?_⟩
  conv => whnf
  refine swp_seq E1_ok mixed (by kernel_rfl) ?_
  conv => whnf
  refine ⟨by omega, ?_⟩
  conv => whnf
  first
   |refine bpos (show decide (Int.tmod t n < 0) = true from decide_eq_true h) ?_
    conv => whnf
    refine ⟨i64 (by omega) (by omega), ?_⟩
    conv => whnf
   |refine bneg (show decide (Int.tmod t n < 0) = false from decide_eq_false h) ?_
    conv => whnf
  refine ⟨gst [(0, .c (.int .i64 n)), (1, .c (.int .i64 (K : Int)))] [], Weak.gen [] rfl trivial ⟨⟨_, rfl, rfl⟩, ⟨_, rfl, by first | exact t1 h | exact t2 h⟩, trivial⟩, ?_⟩
  refine swp_of E1_ok mixed (by kernel_rfl) ?_
  conv => whnf
  refine ⟨_, hG, ?_⟩
  conv => whnf
  refine bpos (show (!decide (((g : Nat) : Int) = 1)) = true by simp; omega) ?_
  conv => whnf
  exact ⟨rfl, Sub.refl _⟩
end Rf
end Go.Proofs.YtmbejakmeijcbaaGreat
/- Cyclotomic fields in the program: equal elements, roots of unity, rational numbers, conjugates, lifts. -/
namespace Go.Proofs.YtmbejakmeijcbaaGreat
open Go.RowKit
namespace Rf
theorem sub_eq_zero {x y : Rat} : x - y = 0 ↔ x = y := by grind
set_option maxHeartbeats 4000000 in
theorem equal1_ok {x y : Rat} (hx : qlen x ≤ 1048576) (hy : qlen y ≤ 1048576) (hs : qlen (x - y) ≤ 1048576) : FnOK Tryz.prog true 78 [.g (nq x), .g (nq y)] (.c (.bool (decide (x = y)))) := by
 have h1 := qcmp_ok (q := ofR x) (p := ofR y) (L := 1048576) (L' := 1048576) (ofR_fit hx) (ofR_fit hy) (by decide) (by decide) (K := 1048576) (by rw [ofR_val, ofR_val]; exact hs) (by decide)
 rw [ofR_val, ofR_val] at h1
 have e : decide ((x - y).num.sign = 0) = decide (x = y) := decide_eq_decide.2 (Int.sign_eq_zero_iff_zero.trans (Rat.num_eq_zero.trans sub_eq_zero))
 refine fn_ok (E := E1) E1_ok Tryz.func78 rfl mixed (by kernel_rfl) (by kernel_rfl) ?_
 conv => whnf
 refine ⟨_, h1, ?_⟩
 conv => whnf
 exact ⟨rfl, sub_bool e⟩
set_option maxHeartbeats 4000000 in
theorem eqf_ok {n m : Nat} {v w : Nat → Rat} {r : Bool} (hn : n ≤ 4096) (h : ∀ i, qlen (v i) ≤ 1048576) (h' : ∀ i, qlen (w i) ≤ 1048576) (h2 : ∀ i, qlen (v i - w i) ≤ 1048576) (hr : r = true ↔ n = m ∧ ∀ i, i < n → v i = w i) : FnOK Tryz.prog true 77 [.c (nql n v), .c (nql m w), .c (.fn 78)] (.c (.bool r)) := by
 have s1 := fun i => equal1_ok (h i) (h' i) (h2 i)
 have r0 : n ≠ m → false = r := fun a => (Bool.eq_false_iff.2 fun e => a (hr.1 e).1).symm
 have r1 : ∀ i, i < n → v i ≠ w i → false = r := fun i b c => (Bool.eq_false_iff.2 fun e => c ((hr.1 e).2 i b)).symm
 have r2 : n = m → (∀ i, i < n → v i = w i) → true = r := fun a b => (hr.2 ⟨a, b⟩).symm
 clear h h' h2 hr
 refine fn_ok (E := E1) E1_ok Tryz.func77 rfl mixed (by kernel_rfl) (by kernel_rfl) ?_
 conv => whnf
 refine bcase (fun (h : (!decide ((n : Int) = m)) = true) => ?_) fun (h : (!decide ((n : Int) = m)) = false) => ?_
 ·have h := r0 fun e => by subst e; simp at h
  conv => whnf
  exact ⟨rfl, sub_bool h⟩
 have h : n = m := by
  have : (n : Int) = m := by simpa using h
  omega
 have r2 := r2 h
 conv => whnf
 refine loop_ints (fun i : Nat => gst [(1, .c (nql m w)), (2, .c (.fn 78)), (15, .c (nql n v)), (16, .c (.int .i64 n)), (17, .c (.int .i64 i))] []) (fun i => n - i) (fun i => i ≤ n ∧ ∀ k, k < i → v k = w k) 0 rfl (Weak.gen [] rfl trivial ⟨.inl ⟨_, _, rfl, rfl, fun _ _ _ _ => rfl⟩, ⟨rfl, rfl⟩, .inl ⟨_, _, rfl, rfl, fun _ _ _ _ => rfl⟩, ⟨_, rfl, rfl⟩, ⟨_, rfl, rfl⟩, trivial⟩) ⟨Nat.zero_le _, fun k hk => by omega⟩ fun i ⟨hi, hk⟩ => ?_
 have s1 := s1 i
 have r1 := r1 i
 conv => whnf
 refine bcase (fun (h1 : decide ((i : Int) < n) = true) => ?_) fun (h1 : decide ((i : Int) < n) = false) => ?_
 ·have h1 := of_decide_eq_true h1
  have r1 := r1 (by omega)
  conv => whnf
  refine ⟨by omega, by omega, ?_⟩
  conv => whnf
  refine ⟨by omega, by omega, ?_⟩
  conv => whnf
  refine ⟨_, s1, ?_⟩
  conv => whnf
  refine bcase (fun (h2 : (!decide (v i = w i)) = true) => ?_) fun (h2 : (!decide (v i = w i)) = false) => ?_
  ·have h2 := r1 (by simpa using h2)
   conv => whnf
   exact ⟨rfl, sub_bool h2⟩
  ·have h2 : v i = w i := by simpa using h2
   conv => whnf
   refine ⟨i64 (by omega) (by omega), ?_⟩
   conv => whnf
   refine ⟨i + 1, by omega, Weak.gen [] rfl trivial ⟨.inl ⟨_, _, rfl, rfl, fun _ _ _ _ => rfl⟩, ⟨rfl, rfl⟩, .inl ⟨_, _, rfl, rfl, fun _ _ _ _ => rfl⟩, ⟨_, rfl, rfl⟩, ⟨_, rfl, rfl⟩, trivial⟩, by omega, fun k hk' => ?_⟩
   by_cases e : k = i
   ·rw [e]; exact h2
   ·exact hk k (by omega)
 ·have h1 := r2 fun k hk' => hk k (by have := of_decide_eq_false h1; omega)
  conv => whnf
  exact ⟨rfl, sub_bool h1⟩
theorem nf_same {d : Nat} {v w : Nat → Rat} (hv : Q.Fin d v) (hw : Q.Fin d w) : (Q.tq v d = Q.tq w d ∧ ∀ i, i < Q.tq v d → v i = w i) ↔ ∀ i, v i = w i := by
 refine ⟨fun ⟨a, b⟩ i => ?_, fun h => ?_⟩
 ·rcases Nat.lt_or_ge i (Q.tq v d) with c | c
  ·exact b i c
  ·rw [Q.tq_fin hv i c, Q.tq_fin hw i (by omega)]
 ·have e : v = w := funext h
  subst e
  exact ⟨rfl, fun _ _ => rfl⟩
set_option maxHeartbeats 4000000 in
open Classical in
theorem equal_ok {d : Nat} {v w : Nat → Rat} (hv : Q.Fin d v) (hw : Q.Fin d w) (hd : d ≤ 12) (h : ∀ i, qlen (v i) ≤ 1048576) (h' : ∀ i, qlen (w i) ≤ 1048576) (h2 : ∀ i, qlen (v i - w i) ≤ 1048576) : FnOK Tryz.prog true 46 [.c (nql (Q.tq v d) v), .c (nql (Q.tq w d) w)] (.c (.bool (decide (∀ i, v i = w i)))) := by
 have s1 := eqf_ok (n := Q.tq v d) (m := Q.tq w d) (r := decide (∀ i, v i = w i)) (by have := Q.tq_le v d; omega) h h' h2 (by rw [decide_eq_true_iff]; exact (nf_same hv hw).symm)
 generalize decide (∀ i, v i = w i) = r at *
 generalize Q.tq v d = n at *
 generalize Q.tq w d = m at *
 refine fn_ok (E := E1) E1_ok Tryz.func46 rfl mixed (by kernel_rfl) (by kernel_rfl) ?_
 conv => whnf
 refine ⟨_, s1, ?_⟩
 conv => whnf
 exact ⟨rfl, Sub.refl _⟩
theorem more_lt {b : Nat} (h : 8 + b < 32 * KD) : 2 ^ 8 * 2 ^ b < Dg.B ^ KD := by
 have h3 := pow_lt_B (e := 8 + b) (L := KD) h
 rwa [Nat.pow_add] at h3
theorem bd_diff' {D a b : Nat} {x y : Rat} (hx : Bd D (2 ^ a) x) (hy : Bd 1 255 y) (h0 : 0 < D) (hD : D ≤ 2 ^ b) (ha : a ≤ b) (hb : b ≤ 1000000) (hl : D < Dg.B ^ KD) : qlen (x - y) ≤ 1048576 := by
 have h1 := hy.scale D
 rw [Nat.one_mul] at h1
 refine bd_fit (hx.sub h1) h0 hl ?_
 have h2 := pow_le2 ha
 refine Nat.lt_of_le_of_lt ?_ (more_lt (b := b) (by show 8 + b < 32 * 1048576; omega))
 generalize 2 ^ b = P at *
 omega
theorem bd_diff {D a : Nat} {x y : Rat} (hx : Bd D (2 ^ a) x) (hy : Bd 1 255 y) (h0 : 0 < D) (hD : D ≤ 2 ^ 1000000) (ha : a ≤ 100000) : qlen (x - y) ≤ 1048576 :=
 bd_diff' (b := 1000000) hx hy h0 hD (Nat.le_trans ha (by decide)) (Nat.le_refl _) (le_lim hD)
def hit (n : Nat) (T : List (List Int)) (r : Nat → Rat) (k : Nat) : Prop := ∀ j, r j = mn n T 1 (k : Nat) j
set_option maxHeartbeats 8000000 in
open Classical in
theorem Cy.root_ok {n d N D e : Nat} {φ : List Int} {T : List (List Int)} (C : Cy n d φ T) {A r : Nat → Rat} {q : Nat → RawR} {K : Int} {b : Bool} (hA : Ev N q A D e) (h0 : 0 < D) (hD : D ≤ 2 ^ 1000000) (he : e ≤ 40000) (hr : Q.Rm d (Q.fr φ) A r) (hK : (∃ k : Nat, K = k ∧ b = true ∧ k < n ∧ hit n T r k ∧ ∀ i, i < k → ¬ hit n T r i) ∨ K = 0 ∧ b = false ∧ ∀ i, i < n → ¬ hit n T r i) : FnOK Tryz.prog true 13 [.c (.int .i64 n), .c (ql N q)] (.t3 (.c (.int .i64 K)) (.c (.bool b)) (.c (.int .i64 0))) := by
 have n1 := C.tab.n1
 have n2 := C.tab.n2
 have hb := (nNormal_r C.fk hA.val (by have := hA.len; omega) hA.fit hA.bd h0 hD (by omega) hr).1
 have hn := C.normal_ok hA h0 hD (by omega) hr
 have hm : ∀ i : Nat, FnOK Tryz.prog true 43 [.c (.int .i64 n), .c (.int .i64 i), .g (nq 1)] (.c (nql (Q.tq (mn n T 1 i) d) (mn n T 1 i))) := fun i => C.mono_ok (k := i) (c := 1) (D := 1) (e := 0) (Bd.int 1) (by decide) (one_le_pow2 1000000) (by decide)
 have hw : ∀ i j : Nat, Bd 1 255 (mn n T 1 i j) := fun i j => by
  have h1 := (Bd.int 1).mul (C.bd (((i : Nat) : Int) % (n : Int)).toNat j)
  exact h1
 have hq : ∀ i : Nat, FnOK Tryz.prog true 46 [.c (nql (Q.tq r d) r), .c (nql (Q.tq (mn n T 1 i) d) (mn n T 1 i))] (.c (.bool (decide (hit n T r i)))) := fun i => equal_ok hr.1 (C.mn_fin 1 i) C.tab.d2 (fun j => bd_fit (hb j) h0 (le_lim hD) (two_lt (by omega))) (fun j => bd_fit (hw i j) (by decide) one_lt_kd (Nat.lt_trans (show 255 < 2 ^ 8 by decide) (pow_lt_B (e := 8) (L := KD) (by decide)))) fun j => bd_diff (hb j) (hw i j) h0 hD (by omega)
 have ho := qof_one
 have hc := C.chk
 have e1 : ∀ i, i < n → hit n T r i → (∀ j, j < i → ¬ hit n T r j) → K = (i : Nat) ∧ b = true := fun i hi h1 h2 => by
  rcases hK with ⟨k, k1, k2, k3, k4, k5⟩ | ⟨_, _, k3⟩
  ·refine ⟨?_, k2⟩
   rcases Nat.lt_trichotomy i k with c | c | c
   ·exact absurd h1 (k5 i c)
   ·rw [k1, c]
   ·exact absurd k4 (h2 k c)
  ·exact absurd h1 (k3 i hi)
 have e2 : (∀ j, j < n → ¬ hit n T r j) → K = 0 ∧ b = false := fun h => by
  rcases hK with ⟨k, k1, k2, k3, k4, k5⟩ | ⟨k1, k2, _⟩
  ·exact absurd k4 (h k k3)
  ·exact ⟨k1, k2⟩
 clear hK hr hA hb C
 generalize hit n T r = H at *
 generalize Q.tq r d = L at *
 refine fn_ok (E := E1) E1_ok Tryz.func13 rfl mixed (by kernel_rfl) (by kernel_rfl) ?_
 conv => whnf
 refine ⟨_, hc, ?_⟩
 conv => whnf
 refine ⟨_, hn, ?_⟩
 conv => whnf
 refine loop_ints (fun i : Nat => gst [(0, .c (.int .i64 n)), (1, .c (nql L r)), (17, .c (.int .i64 n)), (18, .c (.int .i64 i))] []) (fun i => n - i) (fun i => i ≤ n ∧ ∀ k, k < i → ¬ H k) 0 rfl (Weak.gen [] rfl trivial ⟨⟨_, rfl, rfl⟩, .inl ⟨_, _, rfl, rfl, fun _ _ _ _ => rfl⟩, ⟨_, rfl, rfl⟩, ⟨_, rfl, rfl⟩, trivial⟩) ⟨Nat.zero_le _, fun k hk => by omega⟩ fun i ⟨hi, hk⟩ => ?_
 have hm := hm i
 have hq := hq i
 have e1 := e1 i
 conv => whnf
 refine bcase (fun (h1 : decide ((i : Int) < n) = true) => ?_) fun (h1 : decide ((i : Int) < n) = false) => ?_
 ·have h1 := of_decide_eq_true h1
  have e1 := e1 (by omega)
  conv => whnf
  refine ⟨_, ho, ?_⟩
  conv => whnf
  refine ⟨_, hm, ?_⟩
  conv => whnf
  refine ⟨_, hq, ?_⟩
  conv => whnf
  refine bcase (fun (h2 : decide (H i) = true) => ?_) fun (h2 : decide (H i) = false) => ?_
  ·have h2 := e1 (of_decide_eq_true h2) hk
   conv => whnf
   exact ⟨rfl, subT3 (Sub.int h2.1.symm) (sub_bool h2.2.symm) (Sub.refl _)⟩
  ·have h2 := of_decide_eq_false h2
   conv => whnf
   refine ⟨i64 (by omega) (by omega), ?_⟩
   conv => whnf
   refine ⟨i + 1, by omega, Weak.gen [] rfl trivial ⟨⟨_, rfl, rfl⟩, .inl ⟨_, _, rfl, rfl, fun _ _ _ _ => rfl⟩, ⟨_, rfl, rfl⟩, ⟨_, rfl, rfl⟩, trivial⟩, by omega, fun k hk' => ?_⟩
   by_cases e : k = i
   ·rw [e]; exact h2
   ·exact hk k (by omega)
 ·have h1 := e2 fun k hk' => hk k (by have := of_decide_eq_false h1; omega)
  conv => whnf
  exact ⟨rfl, subT3 (Sub.int h1.1.symm) (sub_bool h1.2.symm) (Sub.refl _)⟩
end Rf
end Go.Proofs.YtmbejakmeijcbaaGreat
/- The document's elements: the same or not; normal forms, sums and products in a field; monomials and images. -/
namespace Go.Proofs.YtmbejakmeijcbaaGreat
open Go.RowKit
namespace Rf
structure Fr (d : Nat) (P : Nat → Int) (f : Nat → Rat) : Prop where
 mon : Q.Mon d f
 low : d ≤ 12
 pos : 1 ≤ d
 val : (fun i => ((P i : Int) : Rat)) = f
 len : ∀ i, zlen (P i) ≤ 2
end Rf
end Go.Proofs.YtmbejakmeijcbaaGreat
/- The document's cyclotomic fields: powers of the root of unity, images, coordinates, rational numbers, roots. -/
namespace Go.Proofs.YtmbejakmeijcbaaGreat
open Go.RowKit
namespace Rf
end Rf
end Go.Proofs.YtmbejakmeijcbaaGreat
/- Rational numbers, conjugates, lifts in the program; roots of unity, rational numbers, lifts in the document. -/
namespace Go.Proofs.YtmbejakmeijcbaaGreat
open Go.RowKit
namespace Rf
set_option maxHeartbeats 8000000 in
theorem Cy.rat_yes {n d N D e : Nat} {φ : List Int} {T : List (List Int)} (C : Cy n d φ T) {A r : Nat → Rat} {q : Nat → RawR} (hA : Ev N q A D e) (h0 : 0 < D) (hD : D ≤ 2 ^ 1000000) (he : e ≤ 40000) (hr : Q.Rm d (Q.fr φ) A r) (hz : ∀ j, 1 ≤ j → r j = 0) : FnOK Tryz.prog true 20 [.c (.int .i64 n), .c (ql N q)] (.t3 (.g (nq (r 0))) (.c (.bool true)) (.c (.int .i64 0))) := by
 have hn := C.normal_ok hA h0 hD (by omega) hr
 have hc := C.chk
 have ho := qof_zero
 have hL : Q.tq r d = 0 ∧ r 0 = 0 ∨ Q.tq r d = 1 := by
  rcases Nat.lt_trichotomy (Q.tq r d) 1 with c | c | c
  ·have e0 : Q.tq r d = 0 := by omega
   exact .inl ⟨e0, Q.tq_fin hr.1 0 (by omega)⟩
  ·exact .inr c
  ·obtain ⟨k, hk⟩ : ∃ k, Q.tq r d = k + 1 := ⟨Q.tq r d - 1, by omega⟩
   exact absurd (hz k (by omega)) (Q.tq_top hk)
 clear hr hA C
 rcases hL with ⟨e1, e2⟩ | e1
 ·rw [e1] at hn
  have g : Sub (.g (nq 0)) (.g (nq (r 0))) := by rw [e2]; exact Sub.refl _
  refine fn_ok (E := E1) E1_ok Tryz.func20 rfl mixed (by kernel_rfl) (by kernel_rfl) ?_
  conv => whnf
  refine ⟨_, hc, ?_⟩
  conv => whnf
  refine ⟨_, hn, ?_⟩
  conv => whnf
  refine ⟨_, ho, ?_⟩
  conv => whnf
  exact ⟨rfl, subT3 g (Sub.refl _) (Sub.refl _)⟩
 ·rw [e1] at hn
  refine fn_ok (E := E1) E1_ok Tryz.func20 rfl mixed (by kernel_rfl) (by kernel_rfl) ?_
  conv => whnf
  refine ⟨_, hc, ?_⟩
  conv => whnf
  refine ⟨_, hn, ?_⟩
  conv => whnf
  refine ⟨by omega, by omega, ?_⟩
  conv => whnf
  exact ⟨rfl, Sub.refl _⟩
set_option maxHeartbeats 8000000 in
theorem Cy.rat_no {n d N D e : Nat} {φ : List Int} {T : List (List Int)} (C : Cy n d φ T) {A r : Nat → Rat} {q : Nat → RawR} (hA : Ev N q A D e) (h0 : 0 < D) (hD : D ≤ 2 ^ 1000000) (he : e ≤ 40000) (hr : Q.Rm d (Q.fr φ) A r) (hz : ¬ ∀ j, 1 ≤ j → r j = 0) : FnOK Tryz.prog true 20 [.c (.int .i64 n), .c (ql N q)] (.t3 (.g zcells) (.c (.bool false)) (.c (.int .i64 0))) := by
 have hn := C.normal_ok hA h0 hD (by omega) hr
 have hc := C.chk
 have hL : 2 ≤ Q.tq r d := by
  rcases Nat.lt_or_ge (Q.tq r d) 2 with c | c
  ·exact absurd (fun j hj => Q.tq_fin hr.1 j (by omega)) hz
  ·exact c
 have hL2 := Q.tq_le r d
 have hd := C.tab.d2
 clear hr hA C hz
 generalize Q.tq r d = L at *
 refine fn_ok (E := E1) E1_ok Tryz.func20 rfl mixed (by kernel_rfl) (by kernel_rfl) ?_
 conv => whnf
 refine ⟨_, hc, ?_⟩
 conv => whnf
 refine ⟨_, hn, ?_⟩
 conv => whnf
 refine bneg (show decide ((L : Int) = 0) = false from decide_eq_false (by omega)) ?_
 conv => whnf
 refine bneg (show decide ((L : Int) = 1) = false from decide_eq_false (by omega)) ?_
 conv => whnf
 exact ⟨rfl, Sub.refl _⟩
end Rf
end Go.Proofs.YtmbejakmeijcbaaGreat
/- The law CyclotomicZetas over abstract arguments. -/
namespace Go.Proofs.YtmbejakmeijcbaaGreat
open Go.RowKit
namespace Rf
end Rf
end Go.Proofs.YtmbejakmeijcbaaGreat
/- The laws' test of the elements: few and short coefficients. -/
namespace Go.Proofs.YtmbejakmeijcbaaGreat
open Go.RowKit
namespace Rf
noncomputable def tyEl (T : TypeId) : Option TI := if T == 81 then some ⟨false, 1, [.nil], 24, [], some 25, none, 0⟩ else tyE T
theorem tyEl_at : tyOf Tryz.prog 81 = some ⟨false, 1, [.nil], 24, [], some 25, none, 0⟩ := by kernel_rfl
theorem tyEl_ok (T : TypeId) (ti : TI) (h : tyEl T = some ti) : tyOf Tryz.prog T = some ti := by
 unfold tyEl at h
 by_cases e : T = 81
 ·subst e
  rw [if_pos (by simp)] at h
  cases h
  exact tyEl_at
 ·rw [if_neg (by simpa using e)] at h
  exact tyE_ok T ti h
noncomputable def E0e : Env := ⟨Tryz.prog, false, tyEl, 0⟩
noncomputable def E1e : Env := ⟨Tryz.prog, true, tyEl, 0⟩
theorem E0e_ok : EnvOK E0e := ⟨tyEl_ok⟩
theorem E1e_ok : EnvOK E1e := ⟨tyEl_ok⟩
def okd (a : RawR) : Prop := a.num.ds.length ≤ 1 ∧ a.den.ds.length ≤ 1
set_option maxHeartbeats 4000000 in
theorem short15_ok {k : Nat} {n : Nat → Nat} {q : Nat → Nat → RawR} {r : Bool} (hk : k ≤ 2) (hr : r = true ↔ ∀ i, i < k → n i ≤ 16 ∧ ∀ j, j < n i → okd (q i j)) : FnOK Tryz.prog false 19 [.c (.row 1 k fun i _ => ql (n i) (q i))] (.c (.bool r)) := by
 refine fn_ok (E := E0e) E0e_ok Tryz.func19 rfl mixed (by kernel_rfl) (by kernel_rfl) ?_
 conv => whnf
 refine loop_ints (fun i : Nat => gst [(0, .c (.row 1 k fun i _ => ql (n i) (q i))), (3, .c (.int .i64 i))] []) (fun i => k - i) (fun i => i ≤ k ∧ ∀ a, a < i → n a ≤ 16 ∧ ∀ j, j < n a → okd (q a j)) 0 rfl (Weak.gen [] rfl trivial ⟨.inl ⟨_, _, rfl, rfl, fun _ _ _ _ => rfl⟩, ⟨_, rfl, rfl⟩, trivial⟩) ⟨Nat.zero_le _, fun a h => by omega⟩ fun i ⟨hi, hg⟩ => ?_
 have r1 : i < k → 16 < n i → false = r := fun a b => (Bool.eq_false_iff.2 fun e => by have := (hr.1 e i a).1; omega).symm
 have r2 : ∀ j, i < k → j < n i → ¬ okd (q i j) → false = r := fun j a b d => (Bool.eq_false_iff.2 fun e => d ((hr.1 e i a).2 j b)).symm
 have r3 : ¬ i < k → true = r := fun a => (hr.2 fun b hb => hg b (by omega)).symm
 clear hr
 conv => whnf
 refine bcase (fun (h : decide ((i : Int) < k) = true) => ?_) fun (h : decide ((i : Int) < k) = false) => ?_
 ·have h := of_decide_eq_true h
  conv => whnf
  refine ⟨by omega, by omega, ?_⟩
  conv => whnf
  refine bcase (fun (h1 : decide ((16 : Int) < n i) = true) => ?_) fun (h1 : decide ((16 : Int) < n i) = false) => ?_
  ·have h1 := of_decide_eq_true h1
   have g := r1 (by omega) (by omega)
   conv => whnf
   exact ⟨rfl, sub_bool g⟩
  ·have h1 := of_decide_eq_false h1
   conv => whnf
   refine loop_ints (fun j : Nat => gst [(0, .c (.row 1 k fun i _ => ql (n i) (q i))), (3, .c (.int .i64 i)), (4, .c (.int .i64 j))] []) (fun j => n i - j) (fun j => j ≤ n i ∧ ∀ b, b < j → okd (q i b)) 0 rfl (Weak.gen [] rfl trivial ⟨.inl ⟨_, _, rfl, rfl, fun _ _ _ _ => rfl⟩, ⟨_, rfl, rfl⟩, ⟨_, rfl, rfl⟩, trivial⟩) ⟨Nat.zero_le _, fun a h => by omega⟩ fun j ⟨hj, hh⟩ => ?_
   conv => whnf
   refine ⟨by omega, by omega, ?_⟩
   conv => whnf
   refine bcase (fun (h2 : decide ((j : Int) < n i) = true) => ?_) fun (h2 : decide ((j : Int) < n i) = false) => ?_
   ·have h2 := of_decide_eq_true h2
    have s1 := r2 j (by omega) (by omega)
    conv => whnf
    refine ⟨by omega, by omega, ?_⟩
    conv => whnf
    refine ⟨by omega, by show (j : Int) < (n i : Int); omega, ?_⟩
    conv => whnf
    refine bcase (fun (a1 : gw false (decide ((1 : Int) < (q i j).num.ds.length)) = true) => ?_) fun (a1 : gw false (decide ((1 : Int) < (q i j).num.ds.length)) = false) => ?_
    ·have a1 := of_decide_eq_false (gwf a1)
     conv => whnf
     refine ⟨by omega, by omega, ?_⟩
     conv => whnf
     refine ⟨by omega, by show (j : Int) < (n i : Int); omega, ?_⟩
     conv => whnf
     refine bcase (fun (a2 : decide ((1 : Int) < (q i j).den.ds.length) = true) => ?_) fun (a2 : decide ((1 : Int) < (q i j).den.ds.length) = false) => ?_
     ·have a2 := of_decide_eq_true a2
      have s4 := s1 fun e => by have := e.2; omega
      conv => whnf
      exact ⟨rfl, sub_bool s4⟩
     ·have a2 := of_decide_eq_false a2
      conv => whnf
      refine ⟨i64 (by omega) (by omega), ?_⟩
      conv => whnf
      refine ⟨j + 1, by omega, Weak.gen [] rfl trivial ⟨.inl ⟨_, _, rfl, rfl, fun _ _ _ _ => rfl⟩, ⟨_, rfl, rfl⟩, ⟨_, rfl, rfl⟩, trivial⟩, by omega, fun a ha => ?_⟩
      by_cases e : a = j
      ·rw [e]; exact ⟨by omega, by omega⟩
      ·exact hh a (by omega)
    ·have a1 := of_decide_eq_true (gwf' a1)
     have s4 := s1 fun e => by have := e.1; omega
     conv => whnf
     exact ⟨rfl, sub_bool s4⟩
   ·have h2 := of_decide_eq_false h2
    conv => whnf
    refine ⟨i64 (by omega) (by omega), ?_⟩
    conv => whnf
    refine ⟨i + 1, by omega, Weak.gen [] rfl trivial ⟨.inl ⟨_, _, rfl, rfl, fun _ _ _ _ => rfl⟩, ⟨_, rfl, rfl⟩, trivial⟩, by omega, fun a ha => ?_⟩
    by_cases e : a = i
    ·rw [e]; exact ⟨by omega, fun b hb => hh b (by omega)⟩
    ·exact hg a (by omega)
 ·have h := of_decide_eq_false h
  have g := r3 (by omega)
  conv => whnf
  exact ⟨rfl, sub_bool g⟩
theorem short15_one {n : Nat} {q : Nat → RawR} {r : Bool} (hr : r = true ↔ n ≤ 16 ∧ ∀ j, j < n → okd (q j)) : FnOK Tryz.prog false 19 [.c (.row 1 1 (rowF 1 [ql n q]))] (.c (.bool r)) := by
 have h := short15_ok (k := 1) (n := fun _ => n) (q := fun _ => q) (r := r) (by decide) (by
  rw [hr]
  exact ⟨fun a i _ => a, fun a => a 0 (by decide)⟩)
 refine arg_ok h fun D w vs h => ?_
 match vs, h with
 | [v1], ⟨h1, _⟩ =>
  refine ⟨subRowG rfl (fun i j hi hj => ?_) D w v1 h1, trivial⟩
  match i, j, hi, hj with
  | 0, 0, _, _ => rfl
end Rf
end Go.Proofs.YtmbejakmeijcbaaGreat
/- The law CyclotomicRoots over abstract arguments; elements that the laws' test lets by. -/
namespace Go.Proofs.YtmbejakmeijcbaaGreat
open Go.RowKit
namespace Rf
theorem okd_small {a : RawR} (h : dgq a) (h' : okd a) : a.val.den ≤ 4294967296 ∧ a.val.num.natAbs ≤ 4294967296 := by
 have f : a.Fit 1 := ⟨h.1, h.2, h'.1, h'.2⟩
 have hz := lenZ (f.qlen (Nat.le_refl _))
 have h1 := zlen_lt a.val.num
 have h2 := zlen_lt (a.val.den : Int)
 have p : ∀ z, z ≤ 1 → Dg.B ^ z ≤ 4294967296 := fun z hz => by
  match z, hz with
  | 0, _ => decide
  | 1, _ => decide
 have := p _ hz.1
 have := p _ hz.2
 have e : ((a.val.den : Int)).natAbs = a.val.den := Int.natAbs_natCast _
 omega
theorem qx_small15 {n : Nat} {q : Nat → RawR} (hq : ∀ j, j < n → dgq (q j)) (h : ∀ j, j < n → okd (q j)) (i : Nat) : (Q.qx n (fun i => (q i).val) i).den ≤ 4294967296 ∧ (Q.qx n (fun i => (q i).val) i).num.natAbs ≤ 4294967296 := by
 unfold Q.qx
 split
 ·rename_i hi
  exact okd_small (hq i hi) (h i hi)
 ·exact ⟨by decide, by decide⟩
theorem pow_words (k : Nat) : 4294967296 ^ k = 2 ^ (32 * k) := by
 rw [show (4294967296 : Nat) = 2 ^ 32 from rfl, ← Nat.pow_mul]
theorem pow_word_succ (k : Nat) : 4294967296 * 4294967296 ^ k = 2 ^ (32 * (k + 1)) := by rw [← pow_words, Nat.pow_succ, Nat.mul_comm]
theorem pair15 {n m : Nat} {q p : Nat → RawR} (hq : ∀ j, j < n → dgq (q j)) (hp : ∀ j, j < m → dgq (p j)) (hn : n ≤ 16) (hm : m ≤ 16) (oq : ∀ j, j < n → okd (q j)) (op : ∀ j, j < m → okd (p j)) : ∃ D, 0 < D ∧ D ≤ 2 ^ (32 * 32) ∧ Ev n q (Q.qx n fun i => (q i).val) D (32 * (32 + 1)) ∧ Ev m p (Q.qx m fun i => (p i).val) D (32 * (32 + 1)) := by
 have fq : Q.Fin 16 (Q.qx n fun i => (q i).val) := (Q.qx_fin _ _).mono hn
 have fp : Q.Fin 16 (Q.qx m fun i => (p i).val) := (Q.qx_fin _ _).mono hm
 have tq := qx_small15 hq oq
 have tp := qx_small15 hp op
 have eq : ∀ i, i < n → (q i).Fit KD := fun i hi => ⟨(hq i hi).1, (hq i hi).2, Nat.le_trans (oq i hi).1 (by decide), Nat.le_trans (oq i hi).2 (by decide)⟩
 have ep : ∀ i, i < m → (p i).Fit KD := fun i hi => ⟨(hp i hi).1, (hp i hi).2, Nat.le_trans (op i hi).1 (by decide), Nat.le_trans (op i hi).2 (by decide)⟩
 obtain ⟨D, d0, d1, d2⟩ := Q.common 4294967296 (by decide) (fun i => if i < 16 then Q.qx n (fun i => (q i).val) i else Q.qx m (fun i => (p i).val) (i - 16)) 32 fun i _ => by
  show (if i < 16 then Q.qx n (fun i => (q i).val) i else Q.qx m (fun i => (p i).val) (i - 16)).den ≤ 4294967296 ∧ (if i < 16 then Q.qx n (fun i => (q i).val) i else Q.qx m (fun i => (p i).val) (i - 16)).num.natAbs ≤ 4294967296
  split
  ·exact tq i
  ·exact tp (i - 16)
 have e1 := pow_words 32
 have e2 := pow_word_succ 32
 rw [e1] at d1
 rw [e2] at d2
 refine ⟨D, d0, d1, ⟨rfl, by omega, eq, fun k => ?_⟩, ⟨rfl, by omega, ep, fun k => ?_⟩⟩
 ·rcases Nat.lt_or_ge k 16 with a | a
  ·have := d2 k (by omega)
   rwa [if_pos a] at this
  ·rw [fq k a]; exact Bd.zero _ _
 ·rcases Nat.lt_or_ge k 16 with a | a
  ·have := d2 (k + 16) (by omega)
   rwa [if_neg (by omega), show k + 16 - 16 = k by omega] at this
  ·rw [fp k a]; exact Bd.zero _ _
theorem least {P : Nat → Prop} (h : ∃ k, P k) : ∃ k, P k ∧ ∀ i, i < k → ¬ P i := by
 obtain ⟨k, hk⟩ := h
 induction k using Nat.strongRecOn with
 | ind k ih =>
  by_cases c : ∃ i, i < k ∧ P i
  ·obtain ⟨i, hi, hp⟩ := c
   exact ih i hi hp
  ·exact ⟨k, hk, fun i hi hp => c ⟨i, hi, hp⟩⟩
theorem root_is (n : Nat) (T : List (List Int)) (r : Nat → Rat) : ∃ (K : Int) (b : Bool), (∃ k : Nat, K = k ∧ b = true ∧ k < n ∧ hit n T r k ∧ ∀ i, i < k → ¬ hit n T r i) ∨ K = 0 ∧ b = false ∧ ∀ i, i < n → ¬ hit n T r i := by
 by_cases h : ∃ k, k < n ∧ hit n T r k
 ·obtain ⟨k, ⟨h1, h2⟩, h3⟩ := least h
  exact ⟨k, true, .inl ⟨k, rfl, rfl, h1, h2, fun i hi hh => h3 i hi ⟨by omega, hh⟩⟩⟩
 ·exact ⟨0, false, .inr ⟨rfl, rfl, fun i hi hh => h ⟨i, hi, hh⟩⟩⟩
end Rf
end Go.Proofs.YtmbejakmeijcbaaGreat
/- The law CyclotomicGalois over abstract arguments. -/
namespace Go.Proofs.YtmbejakmeijcbaaGreat
open Go.RowKit
namespace Rf
theorem rs_int (t : Int) {n : Nat} (h : 1 ≤ n) : ((rs t n : Nat) : Int) = t % n := by
 have := Int.emod_nonneg t (show (n : Int) ≠ 0 by omega)
 show (((t % (n : Int)).toNat : Nat) : Int) = _
 omega
theorem rs_gcd (t : Int) {n : Nat} (h : 1 ≤ n) : Nat.gcd (rs t n) n = Nat.gcd t.natAbs n := by
 have e := rs_int t h
 have e2 := Int.emod_add_mul_ediv t n
 refine Nat.dvd_antisymm (Nat.dvd_gcd ?_ (Nat.gcd_dvd_right _ _)) (Nat.dvd_gcd ?_ (Nat.gcd_dvd_right _ _))
 ·have h1 := Nat.gcd_dvd_left (rs t n) n
  have h2 := Nat.gcd_dvd_right (rs t n) n
  generalize Nat.gcd (rs t n) n = g at *
  have h3 : (g : Int) ∣ t % n := by rw [← e]; exact Int.natCast_dvd_natCast.2 h1
  have h4 := Int.dvd_add h3 (Int.dvd_trans (Int.natCast_dvd_natCast.2 h2) (Int.dvd_mul_right (n : Int) (t / n)))
  rw [e2] at h4
  exact Int.ofNat_dvd_left.1 h4
 ·have h1 := Nat.gcd_dvd_left t.natAbs n
  have h2 := Nat.gcd_dvd_right t.natAbs n
  generalize Nat.gcd t.natAbs n = g at *
  have h4 := Int.dvd_sub (Int.ofNat_dvd_left.2 h1) (Int.dvd_trans (Int.natCast_dvd_natCast.2 h2) (Int.dvd_mul_right (n : Int) (t / n)))
  rw [show t - (n : Int) * (t / n) = t % n by omega, ← e] at h4
  exact Int.natCast_dvd_natCast.1 h4
section
variable {n d : Nat} {φ : List Int} {T : List (List Int)}
theorem Cy.ex_rm (C : Cy n d φ T) {m : Nat} {A : Nat → Rat} (hA : Q.Fin m A) : ∃ r, Q.Rm d (Q.fr φ) A r :=
 ⟨_, Q.dvs_rm C.tab.mon (N := m) (hA.mono (by omega))⟩
end
end Rf
end Go.Proofs.YtmbejakmeijcbaaGreat
/- The law CyclotomicGalois: its walk over what its calls hand back. -/
namespace Go.Proofs.YtmbejakmeijcbaaGreat
open Go.RowKit
namespace Rf
end Rf
end Go.Proofs.YtmbejakmeijcbaaGreat
/- The law CyclotomicGalois over abstract arguments. -/
namespace Go.Proofs.YtmbejakmeijcbaaGreat
open Go.RowKit
namespace Rf
set_option maxHeartbeats 4000000 in
theorem conj_of {n d N L : Nat} {q : Nat → RawR} {v : Nat → Rat} (h : FnOK Tryz.prog true 24 [.c (.int .i64 n), .c (.int .i64 (-1)), .c (ql N q)] (.t2 (.c (nql L v)) (.c (.int .i64 0)))) (_ : d = d) : FnOK Tryz.prog true 25 [.c (.int .i64 n), .c (ql N q)] (.t2 (.c (nql L v)) (.c (.int .i64 0))) := by
 refine fn_ok (E := E1) E1_ok Tryz.func25 rfl mixed (by kernel_rfl) (by kernel_rfl) ?_
 conv => whnf
 refine ⟨_, h, ?_⟩
 conv => whnf
 exact ⟨rfl, Sub.refl _⟩
structure Dn (D : Nat) : Prop where
 pos : 0 < D
 a : D ≤ 2 ^ 100000
 b : D ≤ 2 ^ 1000000
 aa : D * D ≤ 2 ^ 100000
 bb : D * D ≤ 2 ^ 1000000
 pp : 0 < D * D
theorem dn15 {D : Nat} (h0 : 0 < D) (h : D ≤ 2 ^ (32 * 32)) : Dn D :=
 ⟨h0, le_pow (a := 32 * 32) (b := 100000) h (by decide), le_pow (a := 32 * 32) (b := 1000000) h (by decide), le_pow (a := 2048) (b := 100000) (mul_le_pow (a := 32 * 32) (b := 32 * 32) (c := 2048) h h rfl) (by decide), le_pow (a := 2048) (b := 1000000) (mul_le_pow (a := 32 * 32) (b := 32 * 32) (c := 2048) h h rfl) (by decide), Nat.mul_pos h0 h0⟩
end Rf
end Go.Proofs.YtmbejakmeijcbaaGreat
/- The program's cyclotomic functions where the order is refused. -/
namespace Go.Proofs.YtmbejakmeijcbaaGreat
open Go.RowKit
namespace Rf
theorem ne_pos {e : Int} (he : e ≠ 0) : (!decide (e = 0)) = true := by rw [decide_eq_false he]; rfl
set_option maxHeartbeats 4000000 in
theorem zeta_no {n k e : Int} (hc : FnOK Tryz.prog true 42 [.c (.int .i64 n)] (.c (.int .i64 e))) (he : e ≠ 0) : FnOK Tryz.prog true 12 [.c (.int .i64 n), .c (.int .i64 k)] (.t2 (.c .nil) (.c (.int .i64 e))) := by
 refine fn_ok (E := E1) E1_ok Tryz.func12 rfl mixed (by kernel_rfl) (by kernel_rfl) ?_
 conv => whnf
 refine ⟨_, hc, ?_⟩
 conv => whnf
 refine bpos (ne_pos he) ?_
 conv => whnf
 exact ⟨rfl, Sub.refl _⟩
set_option maxHeartbeats 4000000 in
theorem galois_err {n t e : Int} {N : Nat} {q : Nat → RawR} (hc : FnOK Tryz.prog true 42 [.c (.int .i64 n)] (.c (.int .i64 e))) (he : e ≠ 0) : FnOK Tryz.prog true 24 [.c (.int .i64 n), .c (.int .i64 t), .c (ql N q)] (.t2 (.c .nil) (.c (.int .i64 e))) := by
 refine fn_ok (E := E1) E1_ok Tryz.func24 rfl mixed (by kernel_rfl) (by kernel_rfl) ?_
 conv => whnf
 refine ⟨_, hc, ?_⟩
 conv => whnf
 refine bpos (ne_pos he) ?_
 conv => whnf
 exact ⟨rfl, Sub.refl _⟩
set_option maxHeartbeats 4000000 in
theorem conj_err {n e : Int} {N : Nat} {q : Nat → RawR} (h : FnOK Tryz.prog true 24 [.c (.int .i64 n), .c (.int .i64 (-1)), .c (ql N q)] (.t2 (.c .nil) (.c (.int .i64 e)))) : FnOK Tryz.prog true 25 [.c (.int .i64 n), .c (ql N q)] (.t2 (.c .nil) (.c (.int .i64 e))) := by
 refine fn_ok (E := E1) E1_ok Tryz.func25 rfl mixed (by kernel_rfl) (by kernel_rfl) ?_
 conv => whnf
 refine ⟨_, h, ?_⟩
 conv => whnf
 exact ⟨rfl, Sub.refl _⟩
set_option maxHeartbeats 4000000 in
theorem root_err {n e : Int} {N : Nat} {q : Nat → RawR} (hc : FnOK Tryz.prog true 42 [.c (.int .i64 n)] (.c (.int .i64 e))) (he : e ≠ 0) : FnOK Tryz.prog true 13 [.c (.int .i64 n), .c (ql N q)] (.t3 (.c (.int .i64 0)) (.c (.bool false)) (.c (.int .i64 e))) := by
 refine fn_ok (E := E1) E1_ok Tryz.func13 rfl mixed (by kernel_rfl) (by kernel_rfl) ?_
 conv => whnf
 refine ⟨_, hc, ?_⟩
 conv => whnf
 refine bpos (ne_pos he) ?_
 conv => whnf
 exact ⟨rfl, Sub.refl _⟩
set_option maxHeartbeats 4000000 in
theorem rat_err {n e : Int} {N : Nat} {q : Nat → RawR} (hc : FnOK Tryz.prog true 42 [.c (.int .i64 n)] (.c (.int .i64 e))) (he : e ≠ 0) : FnOK Tryz.prog true 20 [.c (.int .i64 n), .c (ql N q)] (.t3 (.g zcells) (.c (.bool false)) (.c (.int .i64 e))) := by
 refine fn_ok (E := E1) E1_ok Tryz.func20 rfl mixed (by kernel_rfl) (by kernel_rfl) ?_
 conv => whnf
 refine ⟨_, hc, ?_⟩
 conv => whnf
 refine bpos (ne_pos he) ?_
 conv => whnf
 exact ⟨rfl, Sub.refl _⟩
set_option maxHeartbeats 4000000 in
theorem field_err {n e : Int} (hc : FnOK Tryz.prog true 42 [.c (.int .i64 n)] (.c (.int .i64 e))) (he : e ≠ 0) : FnOK Tryz.prog true 31 [.c (.int .i64 n)] (.t2 (.g [.nil]) (.c (.int .i64 e))) := by
 refine fn_ok (E := E1) E1_ok Tryz.func31 rfl mixed (by kernel_rfl) (by kernel_rfl) ?_
 conv => whnf
 refine ⟨_, hc, ?_⟩
 conv => whnf
 refine bpos (ne_pos he) ?_
 conv => whnf
 exact ⟨rfl, Sub.refl _⟩
end Rf
end Go.Proofs.YtmbejakmeijcbaaGreat
/- The errors of orders off the totient: the program's check, the document's Fails; the program's Polynomial out of range. -/
namespace Go.Proofs.YtmbejakmeijcbaaGreat
open Go.RowKit
namespace Rf
set_option maxHeartbeats 4000000 in
theorem check_of {n p : Nat} (h1 : 1 ≤ n) (h2 : n ≤ 512) (hp : FnOK Tryz.prog false 75 [.c (.int .i64 n)] (.t2 (.c (.int .i64 p)) (.c (.int .i64 0)))) : FnOK Tryz.prog false 42 [.c (.int .i64 n)] (.c (.int .i64 (if 12 < p then 7 else 0))) := by
 have e1 : 12 < p → (7 : Int) = if 12 < p then 7 else 0 := fun h => (if_pos h).symm
 have e2 : ¬ 12 < p → (0 : Int) = if 12 < p then 7 else 0 := fun h => (if_neg h).symm
 generalize (if 12 < p then (7 : Int) else 0) = z at *
 refine fn_ok (E := E0) E0_ok Tryz.func42 rfl mixed (by kernel_rfl) (by kernel_rfl) ?_
 conv => whnf
 refine bpos (show gw false (decide ((n : Int) < 1)) = true by rw [decide_eq_false (by omega)]; rfl) ?_
 conv => whnf
 refine bneg (show decide ((512 : Int) < n) = false from decide_eq_false (by omega)) ?_
 conv => whnf
 refine ⟨_, hp, ?_⟩
 conv => whnf
 refine bcase (fun (h : decide ((12 : Int) < p) = true) => ?_) fun (h : decide ((12 : Int) < p) = false) => ?_
 ·have e1 := e1 (by have := of_decide_eq_true h; omega)
  conv => whnf
  exact ⟨rfl, Sub.int e1⟩
 ·have e2 := e2 (by have := of_decide_eq_false h; omega)
  conv => whnf
  exact ⟨rfl, Sub.int e2⟩
set_option maxHeartbeats 4000000 in
theorem fails_of {n p : Nat} (h1 : 1 ≤ n) (h2 : n ≤ 512) (hp : FnOK Tryz.prog false 36 [.c (.int .i64 n)] (.c (.int .i64 p))) : FnOK Tryz.prog false 11 [.c (.int .i64 n)] (.c (.int .i64 (if 12 < p then 7 else 0))) := by
 have e1 : 12 < p → (7 : Int) = if 12 < p then 7 else 0 := fun h => (if_pos h).symm
 have e2 : ¬ 12 < p → (0 : Int) = if 12 < p then 7 else 0 := fun h => (if_neg h).symm
 generalize (if 12 < p then (7 : Int) else 0) = z at *
 refine fn_ok (E := E0) E0_ok Tryz.func11 rfl mixed (by kernel_rfl) (by kernel_rfl) ?_
 conv => whnf
 refine bpos (show gw false (decide ((n : Int) < 1)) = true by rw [decide_eq_false (by omega)]; rfl) ?_
 conv => whnf
 refine bneg (show decide ((512 : Int) < n) = false from decide_eq_false (by omega)) ?_
 conv => whnf
 refine ⟨_, hp, ?_⟩
 conv => whnf
 refine bcase (fun (h : decide ((12 : Int) < p) = true) => ?_) fun (h : decide ((12 : Int) < p) = false) => ?_
 ·have e1 := e1 (by have := of_decide_eq_true h; omega)
  conv => whnf
  exact ⟨rfl, Sub.int e1⟩
 ·have e2 := e2 (by have := of_decide_eq_false h; omega)
  conv => whnf
  exact ⟨rfl, Sub.int e2⟩
set_option maxHeartbeats 4000000 in
theorem check_out {n : Int} (h : n < 1 ∨ 512 < n) : FnOK Tryz.prog false 42 [.c (.int .i64 n)] (.c (.int .i64 2)) := by
 refine fn_ok (E := E0) E0_ok Tryz.func42 rfl mixed (by kernel_rfl) (by kernel_rfl) ?_
 conv => whnf
 refine bcase (fun (h1 : gw false (decide (n < 1)) = true) => ?_) fun (h1 : gw false (decide (n < 1)) = false) => ?_
 ·have h1 := of_decide_eq_false (gwf h1)
  conv => whnf
  refine bpos (show decide ((512 : Int) < n) = true from decide_eq_true (by omega)) ?_
  conv => whnf
  exact ⟨rfl, Sub.refl _⟩
 ·conv => whnf
  exact ⟨rfl, Sub.refl _⟩
set_option maxHeartbeats 4000000 in
theorem poly_out {n : Int} (h : n < 1 ∨ 512 < n) : FnOK Tryz.prog false 35 [.c (.int .i64 n)] (.t2 (.c .nil) (.c (.int .i64 2))) := by
 refine fn_ok (E := E0) E0_ok Tryz.func35 rfl mixed (by kernel_rfl) (by kernel_rfl) ?_
 conv => whnf
 refine bcase (fun (h1 : gw false (decide (n < 1)) = true) => ?_) fun (h1 : gw false (decide (n < 1)) = false) => ?_
 ·have h1 := of_decide_eq_false (gwf h1)
  conv => whnf
  refine bpos (show decide ((512 : Int) < n) = true from decide_eq_true (by omega)) ?_
  conv => whnf
  exact ⟨rfl, Sub.refl _⟩
 ·conv => whnf
  exact ⟨rfl, Sub.refl _⟩
end Rf
end Go.Proofs.YtmbejakmeijcbaaGreat
/- The program's Lift where it refuses. -/
namespace Go.Proofs.YtmbejakmeijcbaaGreat
open Go.RowKit
namespace Rf
set_option maxHeartbeats 8000000 in
theorem lift_err {n m a b : Int} {N : Nat} {q : Nat → RawR} (ha : FnOK Tryz.prog true 42 [.c (.int .i64 n)] (.c (.int .i64 a))) (hb : FnOK Tryz.prog true 42 [.c (.int .i64 m)] (.c (.int .i64 b))) (hn : a = 0 → 1 ≤ n) (h : a ≠ 0 ∨ b ≠ 0 ∨ Int.tmod m n ≠ 0) : FnOK Tryz.prog true 29 [.c (.int .i64 n), .c (.int .i64 m), .c (ql N q)] (.t2 (.c .nil) (.c (.int .i64 (if a ≠ 0 then a else if b ≠ 0 then b else 12)))) := by
 have hc : ∀ i : Nat, FnOK Tryz.prog true 42 [.c (.int .i64 (if i = 0 then n else m))] (.c (.int .i64 (if i = 0 then a else b))) := fun i => by
  split
  ·exact ha
  ·exact hb
 have z1 : ∀ i : Nat, i < 2 → (1 ≤ i → a = 0) → (if i = 0 then a else b) ≠ 0 → (if i = 0 then a else b) = if a ≠ 0 then a else if b ≠ 0 then b else 12 := fun i hi h1 h2 => by
  by_cases e : i = 0
  ·rw [if_pos e] at h2 ⊢
   rw [if_pos h2]
  ·rw [if_neg e] at h2 ⊢
   rw [if_neg (fun h => h (h1 (by omega))), if_pos h2]
 have z2 : a = 0 → b = 0 → (12 : Int) = if a ≠ 0 then a else if b ≠ 0 then b else 12 := fun h1 h2 => by rw [if_neg (fun h => h h1), if_neg (fun h => h h2)]
 generalize (if a ≠ 0 then a else if b ≠ 0 then b else (12 : Int)) = z at *
 refine fn_ok (E := E1) E1_ok Tryz.func29 rfl mixed (by kernel_rfl) (by kernel_rfl) ?_
 conv => whnf
 refine loop_ints (fun i : Nat => gst [(0, .c (.int .i64 n)), (1, .c (.int .i64 m)), (2, .c (ql N q)), (13, .c (.gs 0 0)), (14, .c (.int .i64 2)), (15, .c (.int .i64 i))] [⟨3, 1, 2, fun i _ => .int .i64 (if i = 0 then n else m)⟩]) (fun i => 2 - i) (fun i => i ≤ 2 ∧ (1 ≤ i → a = 0) ∧ (2 ≤ i → b = 0)) 0 rfl (Weak.gen [some 0] rfl ⟨⟨_, rfl, rfl, rfl, rfl, rfl, fun x y hx hy => ?_⟩, trivial⟩ ⟨⟨_, rfl, rfl⟩, ⟨_, rfl, rfl⟩, .inl ⟨_, _, rfl, rfl, fun _ _ _ _ => rfl⟩, ⟨_, rfl, rfl, rfl⟩, ⟨_, rfl, rfl⟩, ⟨_, rfl, rfl⟩, trivial⟩) ⟨Nat.zero_le _, fun h => by omega, fun h => by omega⟩ fun i hI => ?_
 ·match x, y, hx, hy with
  | 0, 0, _, _ => exact ⟨_, rfl, rfl⟩
  | 1, 0, _, _ => exact ⟨_, rfl, rfl⟩
 have hc := hc i
 have z1 := z1 i
 have y1 : i < 2 → (if i = 0 then a else b) = 0 → (1 ≤ i + 1 → a = 0) ∧ (2 ≤ i + 1 → b = 0) := fun hi h0 => by
  by_cases e : i = 0
  ·rw [if_pos e] at h0
   exact ⟨fun _ => h0, fun h => by omega⟩
  ·rw [if_neg e] at h0
   exact ⟨fun _ => hI.2.1 (by omega), fun _ => h0⟩
 conv => whnf
 refine bcase (fun (h : decide ((i : Int) < 2) = true) => ?_) fun (h : decide ((i : Int) < 2) = false) => ?_
 ·have h := of_decide_eq_true h
  conv => whnf
  refine ⟨by omega, by show (i : Int) < ((2 : Nat) : Int); omega, ?_⟩
  conv => whnf
  refine ⟨_, hc, ?_⟩
  conv => whnf
  refine bcase (fun (h1 : (!decide ((if i = 0 then a else b) = 0)) = true) => ?_) fun (h1 : (!decide ((if i = 0 then a else b) = 0)) = false) => ?_
  ·have z1 := z1 (by omega) hI.2.1 (by simpa using h1)
   conv => whnf
   exact ⟨rfl, (show Sub (.t2 (.c .nil) (.c (.int .i64 (if i = 0 then a else b)))) (.t2 (.c .nil) (.c (.int .i64 z))) by rw [z1]; exact Sub.refl _)⟩
  ·have y1 := y1 (by omega) (by simpa using h1)
   conv => whnf
   refine ⟨i64 (by omega) (by omega), ?_⟩
   conv => whnf
   exact ⟨i + 1, by omega, Weak.gen [some 0] rfl ⟨⟨_, rfl, rfl, rfl, rfl, rfl, fun x y hx hy => ⟨_, rfl, rfl⟩⟩, trivial⟩ ⟨⟨_, rfl, rfl⟩, ⟨_, rfl, rfl⟩, .inl ⟨_, _, rfl, rfl, fun _ _ _ _ => rfl⟩, ⟨_, rfl, rfl, rfl⟩, ⟨_, rfl, rfl⟩, ⟨_, rfl, rfl⟩, trivial⟩, by omega, y1.1, y1.2⟩
 ·have h2 := of_decide_eq_false h
  have a0 := hI.2.1 (by omega)
  have b0 := hI.2.2 (by omega)
  have n1 := hn a0
  have z2 := z2 a0 b0
  have ht : Int.tmod m n ≠ 0 := by
   rcases ‹a ≠ 0 ∨ b ≠ 0 ∨ Int.tmod m n ≠ 0› with h | h | h
   ·exact absurd a0 h
   ·exact absurd b0 h
   ·exact h
  conv => whnf
  refine ⟨by omega, ?_⟩
  conv => whnf
  refine bpos (show (!decide (Int.tmod m n = 0)) = true by rw [decide_eq_false ht]; rfl) ?_
  conv => whnf
  exact ⟨rfl, (show Sub (.t2 (.c .nil) (.c (.int .i64 12))) (.t2 (.c .nil) (.c (.int .i64 z))) by rw [z2]; exact Sub.refl _)⟩
end Rf
end Go.Proofs.YtmbejakmeijcbaaGreat
