/- ImageNew answers true for every number of words, whatever lies in memory, where the listed package variables hold what the program's text lays in them. This text is a part of that proof. -/
import Derived.Test.YtdgpahkdoponiaaGreatDoorEg
import Derived.Test.YtdgpahkdoponiaaGreatDoorProg
import Derived.WalkKit
import Derived.WalkSpells
import Derived.LoopTactic
import Derived.Lib.Hide
namespace Go.Ev
open Go.Proofs
set_option linter.unusedVariables false
set_option linter.unusedSimpArgs false

/-! The tables of the program. -/
noncomputable def T0 : TI := ⟨Tryz.t0, Tryz.t0.desc⟩
noncomputable def T1 : TI := ⟨Tryz.t1, Tryz.t1.desc⟩
noncomputable def T2 : TI := ⟨Tryz.t2, Tryz.t2.desc⟩
noncomputable def T3 : TI := ⟨Tryz.t3, Tryz.t3.desc⟩
noncomputable def T4 : TI := ⟨Tryz.t4, Tryz.t4.desc⟩
noncomputable def T5 : TI := ⟨Tryz.t5, Tryz.t5.desc⟩
noncomputable def T6 : TI := ⟨Tryz.t6, Tryz.t5.desc⟩
noncomputable def T7 : TI := ⟨Tryz.t7, Tryz.t7.desc⟩
noncomputable def T8 : TI := ⟨Tryz.t8, Tryz.t7.desc⟩
noncomputable def T9 : TI := ⟨Tryz.t9, Tryz.t9.desc⟩
noncomputable def T10 : TI := ⟨Tryz.t10, Tryz.t9.desc⟩
noncomputable def T11 : TI := ⟨Tryz.t11, Tryz.t9.desc⟩
noncomputable def T12 : TI := ⟨Tryz.t12, Tryz.t12.desc⟩
noncomputable def T13 : TI := ⟨Tryz.t13, Tryz.t13.desc⟩
noncomputable def T14 : TI := ⟨Tryz.t14, Tryz.t13.desc⟩
noncomputable def T15 : TI := ⟨Tryz.t15, Tryz.t15.desc⟩
noncomputable def T16 : TI := ⟨Tryz.t16, Tryz.t16.desc⟩
noncomputable def T17 : TI := ⟨Tryz.t17, Tryz.t17.desc⟩
noncomputable def T18 : TI := ⟨Tryz.t18, Tryz.t18.desc⟩
noncomputable def T19 : TI := ⟨Tryz.t19, Tryz.t18.desc⟩
noncomputable def T20 : TI := ⟨Tryz.t20, Tryz.t20.desc⟩
noncomputable def T21 : TI := ⟨Tryz.t21, Tryz.t21.desc⟩
noncomputable def T22 : TI := ⟨Tryz.t22, Tryz.t22.desc⟩
noncomputable def T23 : TI := ⟨Tryz.t23, Tryz.t23.desc⟩
noncomputable def T24 : TI := ⟨Tryz.t24, Tryz.t24.desc⟩
noncomputable def T25 : TI := ⟨Tryz.t25, Tryz.t25.desc⟩
noncomputable def T26 : TI := ⟨Tryz.t26, Tryz.t26.desc⟩
noncomputable def T27 : TI := ⟨Tryz.t27, Tryz.t27.desc⟩
noncomputable def T28 : TI := ⟨Tryz.t28, Tryz.t27.desc⟩
noncomputable def T29 : TI := ⟨Tryz.t29, Tryz.t29.desc⟩
noncomputable def T30 : TI := ⟨Tryz.t30, Tryz.t30.desc⟩
noncomputable def T31 : TI := ⟨Tryz.t31, Tryz.t30.desc⟩
noncomputable def T32 : TI := ⟨Tryz.t32, Tryz.t3.desc⟩
noncomputable def T33 : TI := ⟨Tryz.t33, Tryz.t33.desc⟩
noncomputable def T34 : TI := ⟨Tryz.t34, Tryz.t34.desc⟩
noncomputable def T35 : TI := ⟨Tryz.t35, Tryz.t35.desc⟩
noncomputable def T36 : TI := ⟨Tryz.t36, Tryz.t36.desc⟩
noncomputable def T37 : TI := ⟨Tryz.t37, Tryz.t37.desc⟩
noncomputable def T38 : TI := ⟨Tryz.t38, Tryz.t38.desc⟩
noncomputable def T39 : TI := ⟨Tryz.t39, Tryz.t39.desc⟩
noncomputable def T40 : TI := ⟨Tryz.t40, Tryz.t40.desc⟩
noncomputable def T41 : TI := ⟨Tryz.t41, Tryz.t41.desc⟩
noncomputable def T42 : TI := ⟨Tryz.t42, Tryz.t42.desc⟩
noncomputable def T43 : TI := ⟨Tryz.t43, Tryz.t43.desc⟩
noncomputable def T44 : TI := ⟨Tryz.t44, Tryz.t44.desc⟩
noncomputable def T45 : TI := ⟨Tryz.t45, Tryz.t44.desc⟩
noncomputable def T46 : TI := ⟨Tryz.t46, Tryz.t46.desc⟩
noncomputable def T47 : TI := ⟨Tryz.t47, Tryz.t47.desc⟩
noncomputable def T48 : TI := ⟨Tryz.t48, Tryz.t48.desc⟩
noncomputable def T49 : TI := ⟨Tryz.t49, Tryz.t49.desc⟩
noncomputable def T50 : TI := ⟨Tryz.t50, Tryz.t50.desc⟩
noncomputable def T51 : TI := ⟨Tryz.t51, Tryz.t51.desc⟩
noncomputable def T52 : TI := ⟨Tryz.t52, Tryz.t52.desc⟩
noncomputable def T53 : TI := ⟨Tryz.t53, Tryz.t53.desc⟩
noncomputable def T54 : TI := ⟨Tryz.t54, Tryz.t54.desc⟩
noncomputable def T55 : TI := ⟨Tryz.t55, Tryz.t55.desc⟩
noncomputable def T56 : TI := ⟨Tryz.t56, Tryz.t56.desc⟩
noncomputable def T57 : TI := ⟨Tryz.t57, Tryz.t56.desc⟩
noncomputable def T58 : TI := ⟨Tryz.t58, Tryz.t58.desc⟩
noncomputable def T59 : TI := ⟨Tryz.t59, Tryz.t59.desc⟩
noncomputable def T60 : TI := ⟨Tryz.t60, Tryz.t60.desc⟩
noncomputable def T61 : TI := ⟨Tryz.t61, Tryz.t61.desc⟩
noncomputable def T62 : TI := ⟨Tryz.t62, Tryz.t61.desc⟩
noncomputable def T63 : TI := ⟨Tryz.t63, Tryz.t63.desc⟩
noncomputable def T64 : TI := ⟨Tryz.t64, Tryz.t63.desc⟩
noncomputable def T65 : TI := ⟨Tryz.t65, Tryz.t65.desc⟩
noncomputable def T66 : TI := ⟨Tryz.t66, Tryz.t66.desc⟩
noncomputable def T67 : TI := ⟨Tryz.t67, Tryz.t66.desc⟩
noncomputable def T68 : TI := ⟨Tryz.t68, Tryz.t68.desc⟩
noncomputable def T69 : TI := ⟨Tryz.t69, Tryz.t68.desc⟩
noncomputable def T70 : TI := ⟨Tryz.t70, Tryz.t70.desc⟩
noncomputable def T71 : TI := ⟨Tryz.t71, Tryz.t71.desc⟩
noncomputable def T72 : TI := ⟨Tryz.t72, Tryz.t72.desc⟩
noncomputable def T73 : TI := ⟨Tryz.t73, Tryz.t73.desc⟩
noncomputable def T74 : TI := ⟨Tryz.t74, Tryz.t74.desc⟩
noncomputable def T75 : TI := ⟨Tryz.t75, Tryz.t75.desc⟩
noncomputable def T76 : TI := ⟨Tryz.t76, Tryz.t76.desc⟩
noncomputable def T77 : TI := ⟨Tryz.t77, Tryz.t77.desc⟩
noncomputable def T78 : TI := ⟨Tryz.t78, Tryz.t78.desc⟩
noncomputable def T79 : TI := ⟨Tryz.t79, Tryz.t79.desc⟩
noncomputable def T80 : TI := ⟨Tryz.t80, Tryz.t80.desc⟩
noncomputable def T81 : TI := ⟨Tryz.t81, Tryz.t81.desc⟩
noncomputable def T82 : TI := ⟨Tryz.t82, Tryz.t82.desc⟩
noncomputable def T83 : TI := ⟨Tryz.t83, Tryz.t83.desc⟩
noncomputable def T84 : TI := ⟨Tryz.t84, Tryz.t84.desc⟩
noncomputable def T85 : TI := ⟨Tryz.t85, Tryz.t85.desc⟩
noncomputable def T86 : TI := ⟨Tryz.t86, Tryz.t86.desc⟩
noncomputable def T87 : TI := ⟨Tryz.t87, Tryz.t87.desc⟩
noncomputable def T88 : TI := ⟨Tryz.t88, Tryz.t88.desc⟩
noncomputable def T89 : TI := ⟨Tryz.t89, Tryz.t89.desc⟩
noncomputable def T90 : TI := ⟨Tryz.t90, Tryz.t90.desc⟩
noncomputable def T91 : TI := ⟨Tryz.t91, Tryz.t91.desc⟩
noncomputable def T92 : TI := ⟨Tryz.t92, Tryz.t91.desc⟩
noncomputable def T93 : TI := ⟨Tryz.t93, Tryz.t93.desc⟩
noncomputable def T94 : TI := ⟨Tryz.t94, Tryz.t94.desc⟩
noncomputable def T95 : TI := ⟨Tryz.t95, Tryz.t94.desc⟩
noncomputable def T96 : TI := ⟨Tryz.t96, Tryz.t96.desc⟩
noncomputable def T97 : TI := ⟨Tryz.t97, Tryz.t96.desc⟩
noncomputable def T98 : TI := ⟨Tryz.t98, Tryz.t98.desc⟩
noncomputable def T99 : TI := ⟨Tryz.t99, Tryz.t99.desc⟩
noncomputable def T100 : TI := ⟨Tryz.t100, Tryz.t100.desc⟩
noncomputable def T101 : TI := ⟨Tryz.t101, Tryz.t101.desc⟩
noncomputable def T102 : TI := ⟨Tryz.t102, Tryz.t102.desc⟩
noncomputable def T103 : TI := ⟨Tryz.t103, Tryz.t103.desc⟩
noncomputable def T104 : TI := ⟨Tryz.t104, Tryz.t104.desc⟩
noncomputable def T105 : TI := ⟨Tryz.t105, Tryz.t105.desc⟩
noncomputable def T106 : TI := ⟨Tryz.t106, Tryz.t106.desc⟩
noncomputable def T107 : TI := ⟨Tryz.t107, Tryz.t106.desc⟩
noncomputable def T108 : TI := ⟨Tryz.t108, Tryz.t108.desc⟩
noncomputable def T109 : TI := ⟨Tryz.t109, Tryz.t109.desc⟩
noncomputable def T110 : TI := ⟨Tryz.t110, Tryz.t109.desc⟩
noncomputable def T111 : TI := ⟨Tryz.t111, Tryz.t111.desc⟩
noncomputable def T112 : TI := ⟨Tryz.t112, Tryz.t112.desc⟩
noncomputable def T113 : TI := ⟨Tryz.t113, Tryz.t113.desc⟩
noncomputable def T114 : TI := ⟨Tryz.t114, Tryz.t113.desc⟩
noncomputable def T115 : TI := ⟨Tryz.t115, Tryz.t115.desc⟩
noncomputable def T116 : TI := ⟨Tryz.t116, Tryz.t116.desc⟩
noncomputable def T117 : TI := ⟨Tryz.t117, Tryz.t117.desc⟩
noncomputable def T118 : TI := ⟨Tryz.t118, Tryz.t117.desc⟩
noncomputable def T119 : TI := ⟨Tryz.t119, Tryz.t119.desc⟩
noncomputable def T120 : TI := ⟨Tryz.t120, Tryz.t120.desc⟩
noncomputable def T121 : TI := ⟨Tryz.t121, Tryz.t121.desc⟩
noncomputable def T122 : TI := ⟨Tryz.t122, Tryz.t122.desc⟩
noncomputable def T123 : TI := ⟨Tryz.t123, Tryz.t123.desc⟩
noncomputable def T124 : TI := ⟨Tryz.t124, Tryz.t124.desc⟩
noncomputable def T125 : TI := ⟨Tryz.t125, Tryz.t125.desc⟩
noncomputable def T126 : TI := ⟨Tryz.t126, Tryz.t126.desc⟩
noncomputable def T127 : TI := ⟨Tryz.t127, Tryz.t127.desc⟩
noncomputable def T128 : TI := ⟨Tryz.t128, Tryz.t128.desc⟩
noncomputable def T129 : TI := ⟨Tryz.t129, Tryz.t129.desc⟩
noncomputable def T130 : TI := ⟨Tryz.t130, Tryz.t130.desc⟩
noncomputable def T131 : TI := ⟨Tryz.t131, Tryz.t131.desc⟩
noncomputable def T132 : TI := ⟨Tryz.t132, Tryz.t132.desc⟩
noncomputable def T133 : TI := ⟨Tryz.t133, Tryz.t133.desc⟩
noncomputable def T134 : TI := ⟨Tryz.t134, Tryz.t134.desc⟩
noncomputable def T135 : TI := ⟨Tryz.t135, Tryz.t135.desc⟩
noncomputable def T136 : TI := ⟨Tryz.t136, Tryz.t136.desc⟩
noncomputable def T137 : TI := ⟨Tryz.t137, Tryz.t137.desc⟩
noncomputable def T138 : TI := ⟨Tryz.t138, Tryz.t137.desc⟩
noncomputable def T139 : TI := ⟨Tryz.t139, Tryz.t139.desc⟩
noncomputable def T140 : TI := ⟨Tryz.t140, Tryz.t140.desc⟩
noncomputable def T141 : TI := ⟨Tryz.t141, Tryz.t141.desc⟩
noncomputable def T142 : TI := ⟨Tryz.t142, Tryz.t142.desc⟩
noncomputable def T143 : TI := ⟨Tryz.t143, Tryz.t142.desc⟩
noncomputable def T144 : TI := ⟨Tryz.t144, Tryz.t144.desc⟩
noncomputable def T145 : TI := ⟨Tryz.t145, Tryz.t145.desc⟩
noncomputable def T146 : TI := ⟨Tryz.t146, Tryz.t146.desc⟩
noncomputable def T147 : TI := ⟨Tryz.t147, Tryz.t147.desc⟩
noncomputable def T148 : TI := ⟨Tryz.t148, Tryz.t148.desc⟩
noncomputable def T149 : TI := ⟨Tryz.t149, Tryz.t148.desc⟩
noncomputable def T150 : TI := ⟨Tryz.t150, Tryz.t150.desc⟩
noncomputable def T151 : TI := ⟨Tryz.t151, Tryz.t151.desc⟩
noncomputable def T152 : TI := ⟨Tryz.t152, Tryz.t152.desc⟩
noncomputable def T153 : TI := ⟨Tryz.t153, Tryz.t153.desc⟩
noncomputable def T154 : TI := ⟨Tryz.t154, Tryz.t154.desc⟩
noncomputable def T155 : TI := ⟨Tryz.t155, Tryz.t155.desc⟩
noncomputable def T156 : TI := ⟨Tryz.t156, Tryz.t156.desc⟩
noncomputable def T157 : TI := ⟨Tryz.t157, Tryz.t157.desc⟩
noncomputable def T158 : TI := ⟨Tryz.t158, Tryz.t158.desc⟩
noncomputable def T159 : TI := ⟨Tryz.t159, Tryz.t159.desc⟩
noncomputable def T160 : TI := ⟨Tryz.t160, Tryz.t160.desc⟩
noncomputable def T161 : TI := ⟨Tryz.t161, Tryz.t160.desc⟩
noncomputable def T162 : TI := ⟨Tryz.t162, Tryz.t162.desc⟩
noncomputable def T163 : TI := ⟨Tryz.t163, Tryz.t163.desc⟩
noncomputable def T164 : TI := ⟨Tryz.t164, Tryz.t164.desc⟩
noncomputable def T165 : TI := ⟨Tryz.t165, Tryz.t165.desc⟩
noncomputable def T166 : TI := ⟨Tryz.t166, Tryz.t166.desc⟩
noncomputable def T167 : TI := ⟨Tryz.t167, Tryz.t167.desc⟩
noncomputable def T168 : TI := ⟨Tryz.t168, Tryz.t168.desc⟩
noncomputable def T169 : TI := ⟨Tryz.t169, Tryz.t169.desc⟩
noncomputable def T170 : TI := ⟨Tryz.t170, Tryz.t170.desc⟩
noncomputable def T171 : TI := ⟨Tryz.t171, Tryz.t171.desc⟩
noncomputable def T172 : TI := ⟨Tryz.t172, Tryz.t172.desc⟩
noncomputable def T173 : TI := ⟨Tryz.t173, Tryz.t173.desc⟩
noncomputable def T174 : TI := ⟨Tryz.t174, Tryz.t174.desc⟩
noncomputable def T175 : TI := ⟨Tryz.t175, Tryz.t175.desc⟩
noncomputable def T176 : TI := ⟨Tryz.t176, Tryz.t175.desc⟩
noncomputable def T177 : TI := ⟨Tryz.t177, Tryz.t177.desc⟩
noncomputable def T178 : TI := ⟨Tryz.t178, Tryz.t178.desc⟩
noncomputable def T179 : TI := ⟨Tryz.t179, Tryz.t179.desc⟩
noncomputable def T180 : TI := ⟨Tryz.t180, Tryz.t180.desc⟩
noncomputable def T181 : TI := ⟨Tryz.t181, Tryz.t181.desc⟩
noncomputable def T182 : TI := ⟨Tryz.t182, Tryz.t181.desc⟩
noncomputable def T183 : TI := ⟨Tryz.t183, Tryz.t183.desc⟩
noncomputable def T184 : TI := ⟨Tryz.t184, Tryz.t184.desc⟩
noncomputable def T185 : TI := ⟨Tryz.t185, Tryz.t185.desc⟩
noncomputable def T186 : TI := ⟨Tryz.t186, Tryz.t186.desc⟩
noncomputable def T187 : TI := ⟨Tryz.t187, Tryz.t186.desc⟩
noncomputable def T188 : TI := ⟨Tryz.t188, Tryz.t188.desc⟩
noncomputable def T189 : TI := ⟨Tryz.t189, Tryz.t189.desc⟩
noncomputable def T190 : TI := ⟨Tryz.t190, Tryz.t190.desc⟩
noncomputable def T191 : TI := ⟨Tryz.t191, Tryz.t191.desc⟩
noncomputable def T192 : TI := ⟨Tryz.t192, Tryz.t192.desc⟩
noncomputable def T193 : TI := ⟨Tryz.t193, Tryz.t193.desc⟩
noncomputable def T194 : TI := ⟨Tryz.t194, Tryz.t193.desc⟩
noncomputable def T195 : TI := ⟨Tryz.t195, Tryz.t195.desc⟩
noncomputable def T196 : TI := ⟨Tryz.t196, Tryz.t196.desc⟩
noncomputable def T197 : TI := ⟨Tryz.t197, Tryz.t197.desc⟩
noncomputable def T198 : TI := ⟨Tryz.t198, Tryz.t198.desc⟩
noncomputable def T199 : TI := ⟨Tryz.t199, Tryz.t199.desc⟩
noncomputable def T200 : TI := ⟨Tryz.t200, Tryz.t200.desc⟩
noncomputable def T201 : TI := ⟨Tryz.t201, Tryz.t201.desc⟩
noncomputable def T202 : TI := ⟨Tryz.t202, Tryz.t202.desc⟩
noncomputable def T203 : TI := ⟨Tryz.t203, Tryz.t203.desc⟩
noncomputable def T204 : TI := ⟨Tryz.t204, Tryz.t204.desc⟩
noncomputable def T205 : TI := ⟨Tryz.t205, Tryz.t205.desc⟩
noncomputable def T206 : TI := ⟨Tryz.t206, Tryz.t206.desc⟩
noncomputable def T207 : TI := ⟨Tryz.t207, Tryz.t207.desc⟩
noncomputable def T208 : TI := ⟨Tryz.t208, Tryz.t208.desc⟩
noncomputable def T209 : TI := ⟨Tryz.t209, Tryz.t209.desc⟩
noncomputable def T210 : TI := ⟨Tryz.t210, Tryz.t210.desc⟩
noncomputable def T211 : TI := ⟨Tryz.t211, Tryz.t211.desc⟩
noncomputable def T212 : TI := ⟨Tryz.t212, Tryz.t212.desc⟩
noncomputable def T213 : TI := ⟨Tryz.t213, Tryz.t212.desc⟩
noncomputable def T214 : TI := ⟨Tryz.t214, Tryz.t214.desc⟩
noncomputable def T215 : TI := ⟨Tryz.t215, Tryz.t215.desc⟩
noncomputable def T216 : TI := ⟨Tryz.t216, Tryz.t216.desc⟩
noncomputable def T217 : TI := ⟨Tryz.t217, Tryz.t181.desc⟩
noncomputable def T218 : TI := ⟨Tryz.t218, Tryz.t218.desc⟩
noncomputable def T219 : TI := ⟨Tryz.t219, Tryz.t219.desc⟩
noncomputable def T220 : TI := ⟨Tryz.t220, Tryz.t220.desc⟩
noncomputable def T221 : TI := ⟨Tryz.t221, Tryz.t220.desc⟩
noncomputable def T222 : TI := ⟨Tryz.t222, Tryz.t222.desc⟩
noncomputable def T223 : TI := ⟨Tryz.t223, Tryz.t223.desc⟩
noncomputable def T224 : TI := ⟨Tryz.t224, Tryz.t224.desc⟩
noncomputable def T225 : TI := ⟨Tryz.t225, Tryz.t225.desc⟩
noncomputable def T226 : TI := ⟨Tryz.t226, Tryz.t226.desc⟩
noncomputable def T227 : TI := ⟨Tryz.t227, Tryz.t227.desc⟩
noncomputable def T228 : TI := ⟨Tryz.t228, Tryz.t228.desc⟩
noncomputable def T229 : TI := ⟨Tryz.t229, Tryz.t228.desc⟩
noncomputable def T230 : TI := ⟨Tryz.t230, Tryz.t230.desc⟩
noncomputable def T231 : TI := ⟨Tryz.t231, Tryz.t231.desc⟩
noncomputable def T232 : TI := ⟨Tryz.t232, Tryz.t232.desc⟩
noncomputable def T233 : TI := ⟨Tryz.t233, Tryz.t233.desc⟩
noncomputable def T234 : TI := ⟨Tryz.t234, Tryz.t234.desc⟩
noncomputable def T235 : TI := ⟨Tryz.t235, Tryz.t235.desc⟩
noncomputable def T236 : TI := ⟨Tryz.t236, Tryz.t236.desc⟩
noncomputable def T237 : TI := ⟨Tryz.t237, Tryz.t237.desc⟩
noncomputable def T238 : TI := ⟨Tryz.t238, Tryz.t238.desc⟩
noncomputable def T239 : TI := ⟨Tryz.t239, Tryz.t239.desc⟩
noncomputable def T240 : TI := ⟨Tryz.t240, Tryz.t240.desc⟩
noncomputable def T241 : TI := ⟨Tryz.t241, Tryz.t241.desc⟩
noncomputable def T242 : TI := ⟨Tryz.t242, Tryz.t242.desc⟩
noncomputable def T243 : TI := ⟨Tryz.t243, Tryz.t243.desc⟩
noncomputable def T244 : TI := ⟨Tryz.t244, Tryz.t244.desc⟩
noncomputable def T245 : TI := ⟨Tryz.t245, Tryz.t244.desc⟩
noncomputable def T246 : TI := ⟨Tryz.t246, Tryz.t246.desc⟩
noncomputable def T247 : TI := ⟨Tryz.t247, Tryz.t246.desc⟩
noncomputable def T248 : TI := ⟨Tryz.t248, Tryz.t248.desc⟩
noncomputable def T249 : TI := ⟨Tryz.t249, Tryz.t249.desc⟩
noncomputable def T250 : TI := ⟨Tryz.t250, Tryz.t250.desc⟩
noncomputable def T251 : TI := ⟨Tryz.t251, Tryz.t251.desc⟩
noncomputable def T252 : TI := ⟨Tryz.t252, Tryz.t252.desc⟩
noncomputable def T253 : TI := ⟨Tryz.t253, Tryz.t253.desc⟩
noncomputable def T254 : TI := ⟨Tryz.t254, Tryz.t254.desc⟩
noncomputable def T255 : TI := ⟨Tryz.t255, Tryz.t255.desc⟩
noncomputable def T256 : TI := ⟨Tryz.t256, Tryz.t256.desc⟩
noncomputable def T257 : TI := ⟨Tryz.t257, Tryz.t257.desc⟩
noncomputable def T258 : TI := ⟨Tryz.t258, Tryz.t258.desc⟩
noncomputable def T259 : TI := ⟨Tryz.t259, Tryz.t259.desc⟩
noncomputable def T260 : TI := ⟨Tryz.t260, Tryz.t260.desc⟩
noncomputable def T261 : TI := ⟨Tryz.t261, Tryz.t261.desc⟩
noncomputable def T262 : TI := ⟨Tryz.t262, Tryz.t262.desc⟩
noncomputable def T263 : TI := ⟨Tryz.t263, Tryz.t263.desc⟩
noncomputable def T264 : TI := ⟨Tryz.t264, Tryz.t264.desc⟩
noncomputable def T265 : TI := ⟨Tryz.t265, Tryz.t264.desc⟩
noncomputable def T266 : TI := ⟨Tryz.t266, Tryz.t266.desc⟩
noncomputable def T267 : TI := ⟨Tryz.t267, Tryz.t267.desc⟩
noncomputable def T268 : TI := ⟨Tryz.t268, Tryz.t268.desc⟩
noncomputable def T269 : TI := ⟨Tryz.t269, Tryz.t269.desc⟩
noncomputable def T270 : TI := ⟨Tryz.t270, Tryz.t270.desc⟩
noncomputable def T271 : TI := ⟨Tryz.t271, Tryz.t271.desc⟩
noncomputable def T272 : TI := ⟨Tryz.t272, Tryz.t271.desc⟩
noncomputable def T273 : TI := ⟨Tryz.t273, Tryz.t273.desc⟩
noncomputable def T274 : TI := ⟨Tryz.t274, Tryz.t274.desc⟩
noncomputable def T275 : TI := ⟨Tryz.t275, Tryz.t275.desc⟩
noncomputable def T276 : TI := ⟨Tryz.t276, Tryz.t276.desc⟩
noncomputable def T277 : TI := ⟨Tryz.t277, Tryz.t277.desc⟩
noncomputable def T278 : TI := ⟨Tryz.t278, Tryz.t277.desc⟩
noncomputable def T279 : TI := ⟨Tryz.t279, Tryz.t279.desc⟩
noncomputable def T280 : TI := ⟨Tryz.t280, Tryz.t280.desc⟩
noncomputable def T281 : TI := ⟨Tryz.t281, Tryz.t281.desc⟩
noncomputable def T282 : TI := ⟨Tryz.t282, Tryz.t282.desc⟩
noncomputable def T283 : TI := ⟨Tryz.t283, Tryz.t283.desc⟩
noncomputable def T284 : TI := ⟨Tryz.t284, Tryz.t284.desc⟩
noncomputable def T285 : TI := ⟨Tryz.t285, Tryz.t285.desc⟩
noncomputable def T286 : TI := ⟨Tryz.t286, Tryz.t286.desc⟩
noncomputable def T287 : TI := ⟨Tryz.t287, Tryz.t287.desc⟩
noncomputable def T288 : TI := ⟨Tryz.t288, Tryz.t288.desc⟩
noncomputable def T289 : TI := ⟨Tryz.t289, Tryz.t288.desc⟩
noncomputable def T290 : TI := ⟨Tryz.t290, Tryz.t290.desc⟩
noncomputable def T291 : TI := ⟨Tryz.t291, Tryz.t291.desc⟩
noncomputable def T292 : TI := ⟨Tryz.t292, Tryz.t292.desc⟩
noncomputable def T293 : TI := ⟨Tryz.t293, Tryz.t292.desc⟩
noncomputable def T294 : TI := ⟨Tryz.t294, Tryz.t294.desc⟩
noncomputable def T295 : TI := ⟨Tryz.t295, Tryz.t295.desc⟩
noncomputable def T296 : TI := ⟨Tryz.t296, Tryz.t296.desc⟩
noncomputable def T297 : TI := ⟨Tryz.t297, Tryz.t297.desc⟩
noncomputable def T298 : TI := ⟨Tryz.t298, Tryz.t298.desc⟩
noncomputable def T299 : TI := ⟨Tryz.t299, Tryz.t299.desc⟩
noncomputable def T300 : TI := ⟨Tryz.t300, Tryz.t299.desc⟩
noncomputable def T301 : TI := ⟨Tryz.t301, Tryz.t301.desc⟩
noncomputable def T302 : TI := ⟨Tryz.t302, Tryz.t302.desc⟩
noncomputable def T303 : TI := ⟨Tryz.t303, Tryz.t303.desc⟩
noncomputable def T304 : TI := ⟨Tryz.t304, Tryz.t304.desc⟩
noncomputable def T305 : TI := ⟨Tryz.t305, Tryz.t305.desc⟩
noncomputable def T306 : TI := ⟨Tryz.t306, Tryz.t306.desc⟩
noncomputable def T307 : TI := ⟨Tryz.t307, Tryz.t307.desc⟩
noncomputable def T308 : TI := ⟨Tryz.t308, Tryz.t308.desc⟩
noncomputable def T309 : TI := ⟨Tryz.t309, Tryz.t309.desc⟩
noncomputable def T310 : TI := ⟨Tryz.t310, Tryz.t310.desc⟩
noncomputable def T311 : TI := ⟨Tryz.t311, Tryz.t311.desc⟩
noncomputable def T312 : TI := ⟨Tryz.t312, Tryz.t312.desc⟩
noncomputable def T313 : TI := ⟨Tryz.t313, Tryz.t313.desc⟩
noncomputable def T314 : TI := ⟨Tryz.t314, Tryz.t314.desc⟩
noncomputable def T315 : TI := ⟨Tryz.t315, Tryz.t315.desc⟩
noncomputable def T316 : TI := ⟨Tryz.t316, Tryz.t316.desc⟩
noncomputable def T317 : TI := ⟨Tryz.t317, Tryz.t316.desc⟩
noncomputable def T318 : TI := ⟨Tryz.t318, Tryz.t318.desc⟩
noncomputable def T319 : TI := ⟨Tryz.t319, Tryz.t318.desc⟩
noncomputable def T320 : TI := ⟨Tryz.t320, Tryz.t320.desc⟩
noncomputable def T321 : TI := ⟨Tryz.t321, Tryz.t321.desc⟩
noncomputable def T322 : TI := ⟨Tryz.t322, Tryz.t322.desc⟩
noncomputable def T323 : TI := ⟨Tryz.t323, Tryz.t322.desc⟩
noncomputable def T324 : TI := ⟨Tryz.t324, Tryz.t324.desc⟩
noncomputable def T325 : TI := ⟨Tryz.t325, Tryz.t324.desc⟩
noncomputable def T326 : TI := ⟨Tryz.t326, Tryz.t326.desc⟩
noncomputable def T327 : TI := ⟨Tryz.t327, Tryz.t327.desc⟩
noncomputable def T328 : TI := ⟨Tryz.t328, Tryz.t328.desc⟩
noncomputable def T329 : TI := ⟨Tryz.t329, Tryz.t329.desc⟩
noncomputable def T330 : TI := ⟨Tryz.t330, Tryz.t330.desc⟩
noncomputable def T331 : TI := ⟨Tryz.t331, Tryz.t331.desc⟩
noncomputable def T332 : TI := ⟨Tryz.t332, Tryz.t332.desc⟩
noncomputable def T333 : TI := ⟨Tryz.t333, Tryz.t333.desc⟩
noncomputable def T334 : TI := ⟨Tryz.t334, Tryz.t334.desc⟩
noncomputable def T335 : TI := ⟨Tryz.t335, Tryz.t335.desc⟩
noncomputable def T336 : TI := ⟨Tryz.t336, Tryz.t336.desc⟩
noncomputable def T337 : TI := ⟨Tryz.t337, Tryz.t337.desc⟩
noncomputable def T338 : TI := ⟨Tryz.t338, Tryz.t338.desc⟩
noncomputable def T339 : TI := ⟨Tryz.t339, Tryz.t339.desc⟩
noncomputable def T340 : TI := ⟨Tryz.t340, Tryz.t340.desc⟩
noncomputable def T341 : TI := ⟨Tryz.t341, Tryz.t341.desc⟩
noncomputable def T342 : TI := ⟨Tryz.t342, Tryz.t342.desc⟩
noncomputable def T343 : TI := ⟨Tryz.t343, Tryz.t343.desc⟩
noncomputable def T344 : TI := ⟨Tryz.t344, Tryz.t344.desc⟩
noncomputable def T345 : TI := ⟨Tryz.t345, Tryz.t345.desc⟩
noncomputable def T346 : TI := ⟨Tryz.t346, Tryz.t346.desc⟩
noncomputable def T347 : TI := ⟨Tryz.t347, Tryz.t347.desc⟩
noncomputable def T348 : TI := ⟨Tryz.t348, Tryz.t348.desc⟩
noncomputable def T349 : TI := ⟨Tryz.t349, Tryz.t349.desc⟩
noncomputable def T350 : TI := ⟨Tryz.t350, Tryz.t349.desc⟩
noncomputable def T351 : TI := ⟨Tryz.t351, Tryz.t351.desc⟩
noncomputable def T352 : TI := ⟨Tryz.t352, Tryz.t352.desc⟩
noncomputable def T353 : TI := ⟨Tryz.t353, Tryz.t352.desc⟩
noncomputable def T354 : TI := ⟨Tryz.t354, Tryz.t5.desc⟩
noncomputable def T355 : TI := ⟨Tryz.t355, Tryz.t5.desc⟩
noncomputable def T356 : TI := ⟨Tryz.t356, Tryz.t356.desc⟩
noncomputable def T357 : TI := ⟨Tryz.t357, Tryz.t21.desc⟩
noncomputable def T358 : TI := ⟨Tryz.t358, Tryz.t21.desc⟩
noncomputable def T359 : TI := ⟨Tryz.t359, Tryz.t359.desc⟩
noncomputable def T360 : TI := ⟨Tryz.t360, Tryz.t359.desc⟩
noncomputable def T361 : TI := ⟨Tryz.t361, Tryz.t361.desc⟩
noncomputable def T362 : TI := ⟨Tryz.t362, Tryz.t361.desc⟩
noncomputable def T363 : TI := ⟨Tryz.t363, Tryz.t363.desc⟩
noncomputable def TT : Tr TI := (.n (some T0) (.n (some T1) (.n (some T3) (.n (some T7) (.n (some T15) (.n (some T31) (.n (some T63) (.n (some T127) (.n (some T255) .e .e) .e) (.n (some T191) (.n (some T319) .e .e) .e)) (.n (some T95) (.n (some T159) (.n (some T287) .e .e) .e) (.n (some T223) (.n (some T351) .e .e) .e))) (.n (some T47) (.n (some T79) (.n (some T143) (.n (some T271) .e .e) .e) (.n (some T207) (.n (some T335) .e .e) .e)) (.n (some T111) (.n (some T175) (.n (some T303) .e .e) .e) (.n (some T239) .e .e)))) (.n (some T23) (.n (some T39) (.n (some T71) (.n (some T135) (.n (some T263) .e .e) .e) (.n (some T199) (.n (some T327) .e .e) .e)) (.n (some T103) (.n (some T167) (.n (some T295) .e .e) .e) (.n (some T231) (.n (some T359) .e .e) .e))) (.n (some T55) (.n (some T87) (.n (some T151) (.n (some T279) .e .e) .e) (.n (some T215) (.n (some T343) .e .e) .e)) (.n (some T119) (.n (some T183) (.n (some T311) .e .e) .e) (.n (some T247) .e .e))))) (.n (some T11) (.n (some T19) (.n (some T35) (.n (some T67) (.n (some T131) (.n (some T259) .e .e) .e) (.n (some T195) (.n (some T323) .e .e) .e)) (.n (some T99) (.n (some T163) (.n (some T291) .e .e) .e) (.n (some T227) (.n (some T355) .e .e) .e))) (.n (some T51) (.n (some T83) (.n (some T147) (.n (some T275) .e .e) .e) (.n (some T211) (.n (some T339) .e .e) .e)) (.n (some T115) (.n (some T179) (.n (some T307) .e .e) .e) (.n (some T243) .e .e)))) (.n (some T27) (.n (some T43) (.n (some T75) (.n (some T139) (.n (some T267) .e .e) .e) (.n (some T203) (.n (some T331) .e .e) .e)) (.n (some T107) (.n (some T171) (.n (some T299) .e .e) .e) (.n (some T235) (.n (some T363) .e .e) .e))) (.n (some T59) (.n (some T91) (.n (some T155) (.n (some T283) .e .e) .e) (.n (some T219) (.n (some T347) .e .e) .e)) (.n (some T123) (.n (some T187) (.n (some T315) .e .e) .e) (.n (some T251) .e .e)))))) (.n (some T5) (.n (some T9) (.n (some T17) (.n (some T33) (.n (some T65) (.n (some T129) (.n (some T257) .e .e) .e) (.n (some T193) (.n (some T321) .e .e) .e)) (.n (some T97) (.n (some T161) (.n (some T289) .e .e) .e) (.n (some T225) (.n (some T353) .e .e) .e))) (.n (some T49) (.n (some T81) (.n (some T145) (.n (some T273) .e .e) .e) (.n (some T209) (.n (some T337) .e .e) .e)) (.n (some T113) (.n (some T177) (.n (some T305) .e .e) .e) (.n (some T241) .e .e)))) (.n (some T25) (.n (some T41) (.n (some T73) (.n (some T137) (.n (some T265) .e .e) .e) (.n (some T201) (.n (some T329) .e .e) .e)) (.n (some T105) (.n (some T169) (.n (some T297) .e .e) .e) (.n (some T233) (.n (some T361) .e .e) .e))) (.n (some T57) (.n (some T89) (.n (some T153) (.n (some T281) .e .e) .e) (.n (some T217) (.n (some T345) .e .e) .e)) (.n (some T121) (.n (some T185) (.n (some T313) .e .e) .e) (.n (some T249) .e .e))))) (.n (some T13) (.n (some T21) (.n (some T37) (.n (some T69) (.n (some T133) (.n (some T261) .e .e) .e) (.n (some T197) (.n (some T325) .e .e) .e)) (.n (some T101) (.n (some T165) (.n (some T293) .e .e) .e) (.n (some T229) (.n (some T357) .e .e) .e))) (.n (some T53) (.n (some T85) (.n (some T149) (.n (some T277) .e .e) .e) (.n (some T213) (.n (some T341) .e .e) .e)) (.n (some T117) (.n (some T181) (.n (some T309) .e .e) .e) (.n (some T245) .e .e)))) (.n (some T29) (.n (some T45) (.n (some T77) (.n (some T141) (.n (some T269) .e .e) .e) (.n (some T205) (.n (some T333) .e .e) .e)) (.n (some T109) (.n (some T173) (.n (some T301) .e .e) .e) (.n (some T237) .e .e))) (.n (some T61) (.n (some T93) (.n (some T157) (.n (some T285) .e .e) .e) (.n (some T221) (.n (some T349) .e .e) .e)) (.n (some T125) (.n (some T189) (.n (some T317) .e .e) .e) (.n (some T253) .e .e))))))) (.n (some T2) (.n (some T4) (.n (some T8) (.n (some T16) (.n (some T32) (.n (some T64) (.n (some T128) (.n (some T256) .e .e) .e) (.n (some T192) (.n (some T320) .e .e) .e)) (.n (some T96) (.n (some T160) (.n (some T288) .e .e) .e) (.n (some T224) (.n (some T352) .e .e) .e))) (.n (some T48) (.n (some T80) (.n (some T144) (.n (some T272) .e .e) .e) (.n (some T208) (.n (some T336) .e .e) .e)) (.n (some T112) (.n (some T176) (.n (some T304) .e .e) .e) (.n (some T240) .e .e)))) (.n (some T24) (.n (some T40) (.n (some T72) (.n (some T136) (.n (some T264) .e .e) .e) (.n (some T200) (.n (some T328) .e .e) .e)) (.n (some T104) (.n (some T168) (.n (some T296) .e .e) .e) (.n (some T232) (.n (some T360) .e .e) .e))) (.n (some T56) (.n (some T88) (.n (some T152) (.n (some T280) .e .e) .e) (.n (some T216) (.n (some T344) .e .e) .e)) (.n (some T120) (.n (some T184) (.n (some T312) .e .e) .e) (.n (some T248) .e .e))))) (.n (some T12) (.n (some T20) (.n (some T36) (.n (some T68) (.n (some T132) (.n (some T260) .e .e) .e) (.n (some T196) (.n (some T324) .e .e) .e)) (.n (some T100) (.n (some T164) (.n (some T292) .e .e) .e) (.n (some T228) (.n (some T356) .e .e) .e))) (.n (some T52) (.n (some T84) (.n (some T148) (.n (some T276) .e .e) .e) (.n (some T212) (.n (some T340) .e .e) .e)) (.n (some T116) (.n (some T180) (.n (some T308) .e .e) .e) (.n (some T244) .e .e)))) (.n (some T28) (.n (some T44) (.n (some T76) (.n (some T140) (.n (some T268) .e .e) .e) (.n (some T204) (.n (some T332) .e .e) .e)) (.n (some T108) (.n (some T172) (.n (some T300) .e .e) .e) (.n (some T236) .e .e))) (.n (some T60) (.n (some T92) (.n (some T156) (.n (some T284) .e .e) .e) (.n (some T220) (.n (some T348) .e .e) .e)) (.n (some T124) (.n (some T188) (.n (some T316) .e .e) .e) (.n (some T252) .e .e)))))) (.n (some T6) (.n (some T10) (.n (some T18) (.n (some T34) (.n (some T66) (.n (some T130) (.n (some T258) .e .e) .e) (.n (some T194) (.n (some T322) .e .e) .e)) (.n (some T98) (.n (some T162) (.n (some T290) .e .e) .e) (.n (some T226) (.n (some T354) .e .e) .e))) (.n (some T50) (.n (some T82) (.n (some T146) (.n (some T274) .e .e) .e) (.n (some T210) (.n (some T338) .e .e) .e)) (.n (some T114) (.n (some T178) (.n (some T306) .e .e) .e) (.n (some T242) .e .e)))) (.n (some T26) (.n (some T42) (.n (some T74) (.n (some T138) (.n (some T266) .e .e) .e) (.n (some T202) (.n (some T330) .e .e) .e)) (.n (some T106) (.n (some T170) (.n (some T298) .e .e) .e) (.n (some T234) (.n (some T362) .e .e) .e))) (.n (some T58) (.n (some T90) (.n (some T154) (.n (some T282) .e .e) .e) (.n (some T218) (.n (some T346) .e .e) .e)) (.n (some T122) (.n (some T186) (.n (some T314) .e .e) .e) (.n (some T250) .e .e))))) (.n (some T14) (.n (some T22) (.n (some T38) (.n (some T70) (.n (some T134) (.n (some T262) .e .e) .e) (.n (some T198) (.n (some T326) .e .e) .e)) (.n (some T102) (.n (some T166) (.n (some T294) .e .e) .e) (.n (some T230) (.n (some T358) .e .e) .e))) (.n (some T54) (.n (some T86) (.n (some T150) (.n (some T278) .e .e) .e) (.n (some T214) (.n (some T342) .e .e) .e)) (.n (some T118) (.n (some T182) (.n (some T310) .e .e) .e) (.n (some T246) .e .e)))) (.n (some T30) (.n (some T46) (.n (some T78) (.n (some T142) (.n (some T270) .e .e) .e) (.n (some T206) (.n (some T334) .e .e) .e)) (.n (some T110) (.n (some T174) (.n (some T302) .e .e) .e) (.n (some T238) .e .e))) (.n (some T62) (.n (some T94) (.n (some T158) (.n (some T286) .e .e) .e) (.n (some T222) (.n (some T350) .e .e) .e)) (.n (some T126) (.n (some T190) (.n (some T318) .e .e) .e) (.n (some T254) .e .e))))))))
noncomputable def F2 : AFn := ⟨match Tryz.f2.body with | some c => c | none => .skip, Tryz.f2.ntmps, Tryz.f2.results.toList⟩
noncomputable def F3 : AFn := ⟨match Tryz.f3.body with | some c => c | none => .skip, Tryz.f3.ntmps, Tryz.f3.results.toList⟩
noncomputable def F4 : AFn := ⟨match Tryz.f4.body with | some c => c | none => .skip, Tryz.f4.ntmps, Tryz.f4.results.toList⟩
noncomputable def F5 : AFn := ⟨match Tryz.f5.body with | some c => c | none => .skip, Tryz.f5.ntmps, Tryz.f5.results.toList⟩
noncomputable def F6 : AFn := ⟨match Tryz.f6.body with | some c => c | none => .skip, Tryz.f6.ntmps, Tryz.f6.results.toList⟩
noncomputable def F7 : AFn := ⟨match Tryz.f7.body with | some c => c | none => .skip, Tryz.f7.ntmps, Tryz.f7.results.toList⟩
noncomputable def F8 : AFn := ⟨match Tryz.f8.body with | some c => c | none => .skip, Tryz.f8.ntmps, Tryz.f8.results.toList⟩
noncomputable def F9 : AFn := ⟨match Tryz.f9.body with | some c => c | none => .skip, Tryz.f9.ntmps, Tryz.f9.results.toList⟩
noncomputable def F10 : AFn := ⟨match Tryz.f10.body with | some c => c | none => .skip, Tryz.f10.ntmps, Tryz.f10.results.toList⟩
noncomputable def F11 : AFn := ⟨match Tryz.f11.body with | some c => c | none => .skip, Tryz.f11.ntmps, Tryz.f11.results.toList⟩
noncomputable def F12 : AFn := ⟨match Tryz.f12.body with | some c => c | none => .skip, Tryz.f12.ntmps, Tryz.f12.results.toList⟩
noncomputable def F13 : AFn := ⟨match Tryz.f13.body with | some c => c | none => .skip, Tryz.f13.ntmps, Tryz.f13.results.toList⟩
noncomputable def F14 : AFn := ⟨match Tryz.f14.body with | some c => c | none => .skip, Tryz.f14.ntmps, Tryz.f14.results.toList⟩
noncomputable def F15 : AFn := ⟨match Tryz.f15.body with | some c => c | none => .skip, Tryz.f15.ntmps, Tryz.f15.results.toList⟩
noncomputable def F16 : AFn := ⟨match Tryz.f16.body with | some c => c | none => .skip, Tryz.f16.ntmps, Tryz.f16.results.toList⟩
noncomputable def F17 : AFn := ⟨match Tryz.f17.body with | some c => c | none => .skip, Tryz.f17.ntmps, Tryz.f17.results.toList⟩
noncomputable def F18 : AFn := ⟨match Tryz.f18.body with | some c => c | none => .skip, Tryz.f18.ntmps, Tryz.f18.results.toList⟩
noncomputable def F19 : AFn := ⟨match Tryz.f19.body with | some c => c | none => .skip, Tryz.f19.ntmps, Tryz.f19.results.toList⟩
noncomputable def F20 : AFn := ⟨match Tryz.f20.body with | some c => c | none => .skip, Tryz.f20.ntmps, Tryz.f20.results.toList⟩
noncomputable def F21 : AFn := ⟨match Tryz.f21.body with | some c => c | none => .skip, Tryz.f21.ntmps, Tryz.f21.results.toList⟩
noncomputable def F22 : AFn := ⟨match Tryz.f22.body with | some c => c | none => .skip, Tryz.f22.ntmps, Tryz.f22.results.toList⟩
noncomputable def F23 : AFn := ⟨match Tryz.f23.body with | some c => c | none => .skip, Tryz.f23.ntmps, Tryz.f23.results.toList⟩
noncomputable def F24 : AFn := ⟨match Tryz.f24.body with | some c => c | none => .skip, Tryz.f24.ntmps, Tryz.f24.results.toList⟩
noncomputable def F25 : AFn := ⟨match Tryz.f25.body with | some c => c | none => .skip, Tryz.f25.ntmps, Tryz.f25.results.toList⟩
noncomputable def F26 : AFn := ⟨match Tryz.f26.body with | some c => c | none => .skip, Tryz.f26.ntmps, Tryz.f26.results.toList⟩
noncomputable def F27 : AFn := ⟨match Tryz.f27.body with | some c => c | none => .skip, Tryz.f27.ntmps, Tryz.f27.results.toList⟩
noncomputable def F28 : AFn := ⟨match Tryz.f28.body with | some c => c | none => .skip, Tryz.f28.ntmps, Tryz.f28.results.toList⟩
noncomputable def F29 : AFn := ⟨match Tryz.f29.body with | some c => c | none => .skip, Tryz.f29.ntmps, Tryz.f29.results.toList⟩
noncomputable def F30 : AFn := ⟨match Tryz.f30.body with | some c => c | none => .skip, Tryz.f30.ntmps, Tryz.f30.results.toList⟩
noncomputable def F31 : AFn := ⟨match Tryz.f31.body with | some c => c | none => .skip, Tryz.f31.ntmps, Tryz.f31.results.toList⟩
noncomputable def F32 : AFn := ⟨match Tryz.f32.body with | some c => c | none => .skip, Tryz.f32.ntmps, Tryz.f32.results.toList⟩
noncomputable def F33 : AFn := ⟨match Tryz.f33.body with | some c => c | none => .skip, Tryz.f33.ntmps, Tryz.f33.results.toList⟩
noncomputable def F34 : AFn := ⟨match Tryz.f34.body with | some c => c | none => .skip, Tryz.f34.ntmps, Tryz.f34.results.toList⟩
noncomputable def F35 : AFn := ⟨match Tryz.f35.body with | some c => c | none => .skip, Tryz.f35.ntmps, Tryz.f35.results.toList⟩
noncomputable def F36 : AFn := ⟨match Tryz.f36.body with | some c => c | none => .skip, Tryz.f36.ntmps, Tryz.f36.results.toList⟩
noncomputable def F37 : AFn := ⟨match Tryz.f37.body with | some c => c | none => .skip, Tryz.f37.ntmps, Tryz.f37.results.toList⟩
noncomputable def F38 : AFn := ⟨match Tryz.f38.body with | some c => c | none => .skip, Tryz.f38.ntmps, Tryz.f38.results.toList⟩
noncomputable def F39 : AFn := ⟨match Tryz.f39.body with | some c => c | none => .skip, Tryz.f39.ntmps, Tryz.f39.results.toList⟩
noncomputable def F40 : AFn := ⟨match Tryz.f40.body with | some c => c | none => .skip, Tryz.f40.ntmps, Tryz.f40.results.toList⟩
noncomputable def F41 : AFn := ⟨match Tryz.f41.body with | some c => c | none => .skip, Tryz.f41.ntmps, Tryz.f41.results.toList⟩
noncomputable def F42 : AFn := ⟨match Tryz.f42.body with | some c => c | none => .skip, Tryz.f42.ntmps, Tryz.f42.results.toList⟩
noncomputable def F43 : AFn := ⟨match Tryz.f43.body with | some c => c | none => .skip, Tryz.f43.ntmps, Tryz.f43.results.toList⟩
noncomputable def F44 : AFn := ⟨match Tryz.f44.body with | some c => c | none => .skip, Tryz.f44.ntmps, Tryz.f44.results.toList⟩
noncomputable def F45 : AFn := ⟨match Tryz.f45.body with | some c => c | none => .skip, Tryz.f45.ntmps, Tryz.f45.results.toList⟩
noncomputable def F46 : AFn := ⟨match Tryz.f46.body with | some c => c | none => .skip, Tryz.f46.ntmps, Tryz.f46.results.toList⟩
noncomputable def F47 : AFn := ⟨match Tryz.f47.body with | some c => c | none => .skip, Tryz.f47.ntmps, Tryz.f47.results.toList⟩
noncomputable def F48 : AFn := ⟨match Tryz.f48.body with | some c => c | none => .skip, Tryz.f48.ntmps, Tryz.f48.results.toList⟩
noncomputable def F49 : AFn := ⟨match Tryz.f49.body with | some c => c | none => .skip, Tryz.f49.ntmps, Tryz.f49.results.toList⟩
noncomputable def F50 : AFn := ⟨match Tryz.f50.body with | some c => c | none => .skip, Tryz.f50.ntmps, Tryz.f50.results.toList⟩
noncomputable def F51 : AFn := ⟨match Tryz.f51.body with | some c => c | none => .skip, Tryz.f51.ntmps, Tryz.f51.results.toList⟩
noncomputable def F52 : AFn := ⟨match Tryz.f52.body with | some c => c | none => .skip, Tryz.f52.ntmps, Tryz.f52.results.toList⟩
noncomputable def F53 : AFn := ⟨match Tryz.f53.body with | some c => c | none => .skip, Tryz.f53.ntmps, Tryz.f53.results.toList⟩
noncomputable def F54 : AFn := ⟨match Tryz.f54.body with | some c => c | none => .skip, Tryz.f54.ntmps, Tryz.f54.results.toList⟩
noncomputable def F55 : AFn := ⟨match Tryz.f55.body with | some c => c | none => .skip, Tryz.f55.ntmps, Tryz.f55.results.toList⟩
noncomputable def F56 : AFn := ⟨match Tryz.f56.body with | some c => c | none => .skip, Tryz.f56.ntmps, Tryz.f56.results.toList⟩
noncomputable def F57 : AFn := ⟨match Tryz.f57.body with | some c => c | none => .skip, Tryz.f57.ntmps, Tryz.f57.results.toList⟩
noncomputable def F58 : AFn := ⟨match Tryz.f58.body with | some c => c | none => .skip, Tryz.f58.ntmps, Tryz.f58.results.toList⟩
noncomputable def F59 : AFn := ⟨match Tryz.f59.body with | some c => c | none => .skip, Tryz.f59.ntmps, Tryz.f59.results.toList⟩
noncomputable def F60 : AFn := ⟨match Tryz.f60.body with | some c => c | none => .skip, Tryz.f60.ntmps, Tryz.f60.results.toList⟩
noncomputable def F61 : AFn := ⟨match Tryz.f61.body with | some c => c | none => .skip, Tryz.f61.ntmps, Tryz.f61.results.toList⟩
noncomputable def F62 : AFn := ⟨match Tryz.f62.body with | some c => c | none => .skip, Tryz.f62.ntmps, Tryz.f62.results.toList⟩
noncomputable def F63 : AFn := ⟨match Tryz.f63.body with | some c => c | none => .skip, Tryz.f63.ntmps, Tryz.f63.results.toList⟩
noncomputable def F64 : AFn := ⟨match Tryz.f64.body with | some c => c | none => .skip, Tryz.f64.ntmps, Tryz.f64.results.toList⟩
noncomputable def F65 : AFn := ⟨match Tryz.f65.body with | some c => c | none => .skip, Tryz.f65.ntmps, Tryz.f65.results.toList⟩
noncomputable def F66 : AFn := ⟨match Tryz.f66.body with | some c => c | none => .skip, Tryz.f66.ntmps, Tryz.f66.results.toList⟩
noncomputable def F67 : AFn := ⟨match Tryz.f67.body with | some c => c | none => .skip, Tryz.f67.ntmps, Tryz.f67.results.toList⟩
noncomputable def F68 : AFn := ⟨match Tryz.f68.body with | some c => c | none => .skip, Tryz.f68.ntmps, Tryz.f68.results.toList⟩
noncomputable def F69 : AFn := ⟨match Tryz.f69.body with | some c => c | none => .skip, Tryz.f69.ntmps, Tryz.f69.results.toList⟩
noncomputable def F70 : AFn := ⟨match Tryz.f70.body with | some c => c | none => .skip, Tryz.f70.ntmps, Tryz.f70.results.toList⟩
noncomputable def F71 : AFn := ⟨match Tryz.f71.body with | some c => c | none => .skip, Tryz.f71.ntmps, Tryz.f71.results.toList⟩
noncomputable def F72 : AFn := ⟨match Tryz.f72.body with | some c => c | none => .skip, Tryz.f72.ntmps, Tryz.f72.results.toList⟩
noncomputable def F73 : AFn := ⟨match Tryz.f73.body with | some c => c | none => .skip, Tryz.f73.ntmps, Tryz.f73.results.toList⟩
noncomputable def F74 : AFn := ⟨match Tryz.f74.body with | some c => c | none => .skip, Tryz.f74.ntmps, Tryz.f74.results.toList⟩
noncomputable def F75 : AFn := ⟨match Tryz.f75.body with | some c => c | none => .skip, Tryz.f75.ntmps, Tryz.f75.results.toList⟩
noncomputable def F76 : AFn := ⟨match Tryz.f76.body with | some c => c | none => .skip, Tryz.f76.ntmps, Tryz.f76.results.toList⟩
noncomputable def F77 : AFn := ⟨match Tryz.f77.body with | some c => c | none => .skip, Tryz.f77.ntmps, Tryz.f77.results.toList⟩
noncomputable def F78 : AFn := ⟨match Tryz.f78.body with | some c => c | none => .skip, Tryz.f78.ntmps, Tryz.f78.results.toList⟩
noncomputable def F79 : AFn := ⟨match Tryz.f79.body with | some c => c | none => .skip, Tryz.f79.ntmps, Tryz.f79.results.toList⟩
noncomputable def F80 : AFn := ⟨match Tryz.f80.body with | some c => c | none => .skip, Tryz.f80.ntmps, Tryz.f80.results.toList⟩
noncomputable def F81 : AFn := ⟨match Tryz.f81.body with | some c => c | none => .skip, Tryz.f81.ntmps, Tryz.f81.results.toList⟩
noncomputable def F82 : AFn := ⟨match Tryz.f82.body with | some c => c | none => .skip, Tryz.f82.ntmps, Tryz.f82.results.toList⟩
noncomputable def F83 : AFn := ⟨match Tryz.f83.body with | some c => c | none => .skip, Tryz.f83.ntmps, Tryz.f83.results.toList⟩
noncomputable def F84 : AFn := ⟨match Tryz.f84.body with | some c => c | none => .skip, Tryz.f84.ntmps, Tryz.f84.results.toList⟩
noncomputable def F85 : AFn := ⟨match Tryz.f85.body with | some c => c | none => .skip, Tryz.f85.ntmps, Tryz.f85.results.toList⟩
noncomputable def F86 : AFn := ⟨match Tryz.f86.body with | some c => c | none => .skip, Tryz.f86.ntmps, Tryz.f86.results.toList⟩
noncomputable def F87 : AFn := ⟨match Tryz.f87.body with | some c => c | none => .skip, Tryz.f87.ntmps, Tryz.f87.results.toList⟩
noncomputable def F88 : AFn := ⟨match Tryz.f88.body with | some c => c | none => .skip, Tryz.f88.ntmps, Tryz.f88.results.toList⟩
noncomputable def F89 : AFn := ⟨match Tryz.f89.body with | some c => c | none => .skip, Tryz.f89.ntmps, Tryz.f89.results.toList⟩
noncomputable def F90 : AFn := ⟨match Tryz.f90.body with | some c => c | none => .skip, Tryz.f90.ntmps, Tryz.f90.results.toList⟩
noncomputable def F91 : AFn := ⟨match Tryz.f91.body with | some c => c | none => .skip, Tryz.f91.ntmps, Tryz.f91.results.toList⟩
noncomputable def F92 : AFn := ⟨match Tryz.f92.body with | some c => c | none => .skip, Tryz.f92.ntmps, Tryz.f92.results.toList⟩
noncomputable def F93 : AFn := ⟨match Tryz.f93.body with | some c => c | none => .skip, Tryz.f93.ntmps, Tryz.f93.results.toList⟩
noncomputable def F94 : AFn := ⟨match Tryz.f94.body with | some c => c | none => .skip, Tryz.f94.ntmps, Tryz.f94.results.toList⟩
noncomputable def F95 : AFn := ⟨match Tryz.f95.body with | some c => c | none => .skip, Tryz.f95.ntmps, Tryz.f95.results.toList⟩
noncomputable def F96 : AFn := ⟨match Tryz.f96.body with | some c => c | none => .skip, Tryz.f96.ntmps, Tryz.f96.results.toList⟩
noncomputable def F97 : AFn := ⟨match Tryz.f97.body with | some c => c | none => .skip, Tryz.f97.ntmps, Tryz.f97.results.toList⟩
noncomputable def F98 : AFn := ⟨match Tryz.f98.body with | some c => c | none => .skip, Tryz.f98.ntmps, Tryz.f98.results.toList⟩
noncomputable def F99 : AFn := ⟨match Tryz.f99.body with | some c => c | none => .skip, Tryz.f99.ntmps, Tryz.f99.results.toList⟩
noncomputable def F100 : AFn := ⟨match Tryz.f100.body with | some c => c | none => .skip, Tryz.f100.ntmps, Tryz.f100.results.toList⟩
noncomputable def F101 : AFn := ⟨match Tryz.f101.body with | some c => c | none => .skip, Tryz.f101.ntmps, Tryz.f101.results.toList⟩
noncomputable def F102 : AFn := ⟨match Tryz.f102.body with | some c => c | none => .skip, Tryz.f102.ntmps, Tryz.f102.results.toList⟩
noncomputable def F103 : AFn := ⟨match Tryz.f103.body with | some c => c | none => .skip, Tryz.f103.ntmps, Tryz.f103.results.toList⟩
noncomputable def F104 : AFn := ⟨match Tryz.f104.body with | some c => c | none => .skip, Tryz.f104.ntmps, Tryz.f104.results.toList⟩
noncomputable def F105 : AFn := ⟨match Tryz.f105.body with | some c => c | none => .skip, Tryz.f105.ntmps, Tryz.f105.results.toList⟩
noncomputable def F106 : AFn := ⟨match Tryz.f106.body with | some c => c | none => .skip, Tryz.f106.ntmps, Tryz.f106.results.toList⟩
noncomputable def F107 : AFn := ⟨match Tryz.f107.body with | some c => c | none => .skip, Tryz.f107.ntmps, Tryz.f107.results.toList⟩
noncomputable def F108 : AFn := ⟨match Tryz.f108.body with | some c => c | none => .skip, Tryz.f108.ntmps, Tryz.f108.results.toList⟩
noncomputable def F109 : AFn := ⟨match Tryz.f109.body with | some c => c | none => .skip, Tryz.f109.ntmps, Tryz.f109.results.toList⟩
noncomputable def F110 : AFn := ⟨match Tryz.f110.body with | some c => c | none => .skip, Tryz.f110.ntmps, Tryz.f110.results.toList⟩
noncomputable def F111 : AFn := ⟨match Tryz.f111.body with | some c => c | none => .skip, Tryz.f111.ntmps, Tryz.f111.results.toList⟩
noncomputable def F112 : AFn := ⟨match Tryz.f112.body with | some c => c | none => .skip, Tryz.f112.ntmps, Tryz.f112.results.toList⟩
noncomputable def F113 : AFn := ⟨match Tryz.f113.body with | some c => c | none => .skip, Tryz.f113.ntmps, Tryz.f113.results.toList⟩
noncomputable def F114 : AFn := ⟨match Tryz.f114.body with | some c => c | none => .skip, Tryz.f114.ntmps, Tryz.f114.results.toList⟩
noncomputable def F115 : AFn := ⟨match Tryz.f115.body with | some c => c | none => .skip, Tryz.f115.ntmps, Tryz.f115.results.toList⟩
noncomputable def F116 : AFn := ⟨match Tryz.f116.body with | some c => c | none => .skip, Tryz.f116.ntmps, Tryz.f116.results.toList⟩
noncomputable def F117 : AFn := ⟨match Tryz.f117.body with | some c => c | none => .skip, Tryz.f117.ntmps, Tryz.f117.results.toList⟩
noncomputable def F118 : AFn := ⟨match Tryz.f118.body with | some c => c | none => .skip, Tryz.f118.ntmps, Tryz.f118.results.toList⟩
noncomputable def F119 : AFn := ⟨match Tryz.f119.body with | some c => c | none => .skip, Tryz.f119.ntmps, Tryz.f119.results.toList⟩
noncomputable def F120 : AFn := ⟨match Tryz.f120.body with | some c => c | none => .skip, Tryz.f120.ntmps, Tryz.f120.results.toList⟩
noncomputable def F121 : AFn := ⟨match Tryz.f121.body with | some c => c | none => .skip, Tryz.f121.ntmps, Tryz.f121.results.toList⟩
noncomputable def F122 : AFn := ⟨match Tryz.f122.body with | some c => c | none => .skip, Tryz.f122.ntmps, Tryz.f122.results.toList⟩
noncomputable def F123 : AFn := ⟨match Tryz.f123.body with | some c => c | none => .skip, Tryz.f123.ntmps, Tryz.f123.results.toList⟩
noncomputable def F124 : AFn := ⟨match Tryz.f124.body with | some c => c | none => .skip, Tryz.f124.ntmps, Tryz.f124.results.toList⟩
noncomputable def F125 : AFn := ⟨match Tryz.f125.body with | some c => c | none => .skip, Tryz.f125.ntmps, Tryz.f125.results.toList⟩
noncomputable def F126 : AFn := ⟨match Tryz.f126.body with | some c => c | none => .skip, Tryz.f126.ntmps, Tryz.f126.results.toList⟩
noncomputable def F127 : AFn := ⟨match Tryz.f127.body with | some c => c | none => .skip, Tryz.f127.ntmps, Tryz.f127.results.toList⟩
noncomputable def F128 : AFn := ⟨match Tryz.f128.body with | some c => c | none => .skip, Tryz.f128.ntmps, Tryz.f128.results.toList⟩
noncomputable def F129 : AFn := ⟨match Tryz.f129.body with | some c => c | none => .skip, Tryz.f129.ntmps, Tryz.f129.results.toList⟩
noncomputable def F130 : AFn := ⟨match Tryz.f130.body with | some c => c | none => .skip, Tryz.f130.ntmps, Tryz.f130.results.toList⟩
noncomputable def F131 : AFn := ⟨match Tryz.f131.body with | some c => c | none => .skip, Tryz.f131.ntmps, Tryz.f131.results.toList⟩
noncomputable def F132 : AFn := ⟨match Tryz.f132.body with | some c => c | none => .skip, Tryz.f132.ntmps, Tryz.f132.results.toList⟩
noncomputable def F133 : AFn := ⟨match Tryz.f133.body with | some c => c | none => .skip, Tryz.f133.ntmps, Tryz.f133.results.toList⟩
noncomputable def F134 : AFn := ⟨match Tryz.f134.body with | some c => c | none => .skip, Tryz.f134.ntmps, Tryz.f134.results.toList⟩
noncomputable def F135 : AFn := ⟨match Tryz.f135.body with | some c => c | none => .skip, Tryz.f135.ntmps, Tryz.f135.results.toList⟩
noncomputable def F136 : AFn := ⟨match Tryz.f136.body with | some c => c | none => .skip, Tryz.f136.ntmps, Tryz.f136.results.toList⟩
noncomputable def F137 : AFn := ⟨match Tryz.f137.body with | some c => c | none => .skip, Tryz.f137.ntmps, Tryz.f137.results.toList⟩
noncomputable def F138 : AFn := ⟨match Tryz.f138.body with | some c => c | none => .skip, Tryz.f138.ntmps, Tryz.f138.results.toList⟩
noncomputable def F139 : AFn := ⟨match Tryz.f139.body with | some c => c | none => .skip, Tryz.f139.ntmps, Tryz.f139.results.toList⟩
noncomputable def F140 : AFn := ⟨match Tryz.f140.body with | some c => c | none => .skip, Tryz.f140.ntmps, Tryz.f140.results.toList⟩
noncomputable def F141 : AFn := ⟨match Tryz.f141.body with | some c => c | none => .skip, Tryz.f141.ntmps, Tryz.f141.results.toList⟩
noncomputable def F142 : AFn := ⟨match Tryz.f142.body with | some c => c | none => .skip, Tryz.f142.ntmps, Tryz.f142.results.toList⟩
noncomputable def F143 : AFn := ⟨match Tryz.f143.body with | some c => c | none => .skip, Tryz.f143.ntmps, Tryz.f143.results.toList⟩
noncomputable def F144 : AFn := ⟨match Tryz.f144.body with | some c => c | none => .skip, Tryz.f144.ntmps, Tryz.f144.results.toList⟩
noncomputable def F145 : AFn := ⟨match Tryz.f145.body with | some c => c | none => .skip, Tryz.f145.ntmps, Tryz.f145.results.toList⟩
noncomputable def F146 : AFn := ⟨match Tryz.f146.body with | some c => c | none => .skip, Tryz.f146.ntmps, Tryz.f146.results.toList⟩
noncomputable def F147 : AFn := ⟨match Tryz.f147.body with | some c => c | none => .skip, Tryz.f147.ntmps, Tryz.f147.results.toList⟩
noncomputable def F148 : AFn := ⟨match Tryz.f148.body with | some c => c | none => .skip, Tryz.f148.ntmps, Tryz.f148.results.toList⟩
noncomputable def F149 : AFn := ⟨match Tryz.f149.body with | some c => c | none => .skip, Tryz.f149.ntmps, Tryz.f149.results.toList⟩
noncomputable def F150 : AFn := ⟨match Tryz.f150.body with | some c => c | none => .skip, Tryz.f150.ntmps, Tryz.f150.results.toList⟩
noncomputable def F151 : AFn := ⟨match Tryz.f151.body with | some c => c | none => .skip, Tryz.f151.ntmps, Tryz.f151.results.toList⟩
noncomputable def F152 : AFn := ⟨match Tryz.f152.body with | some c => c | none => .skip, Tryz.f152.ntmps, Tryz.f152.results.toList⟩
noncomputable def F153 : AFn := ⟨match Tryz.f153.body with | some c => c | none => .skip, Tryz.f153.ntmps, Tryz.f153.results.toList⟩
noncomputable def F154 : AFn := ⟨match Tryz.f154.body with | some c => c | none => .skip, Tryz.f154.ntmps, Tryz.f154.results.toList⟩
noncomputable def F155 : AFn := ⟨match Tryz.f155.body with | some c => c | none => .skip, Tryz.f155.ntmps, Tryz.f155.results.toList⟩
noncomputable def F156 : AFn := ⟨match Tryz.f156.body with | some c => c | none => .skip, Tryz.f156.ntmps, Tryz.f156.results.toList⟩
noncomputable def F157 : AFn := ⟨match Tryz.f157.body with | some c => c | none => .skip, Tryz.f157.ntmps, Tryz.f157.results.toList⟩
noncomputable def F158 : AFn := ⟨match Tryz.f158.body with | some c => c | none => .skip, Tryz.f158.ntmps, Tryz.f158.results.toList⟩
noncomputable def F159 : AFn := ⟨match Tryz.f159.body with | some c => c | none => .skip, Tryz.f159.ntmps, Tryz.f159.results.toList⟩
noncomputable def F160 : AFn := ⟨match Tryz.f160.body with | some c => c | none => .skip, Tryz.f160.ntmps, Tryz.f160.results.toList⟩
noncomputable def F161 : AFn := ⟨match Tryz.f161.body with | some c => c | none => .skip, Tryz.f161.ntmps, Tryz.f161.results.toList⟩
noncomputable def F162 : AFn := ⟨match Tryz.f162.body with | some c => c | none => .skip, Tryz.f162.ntmps, Tryz.f162.results.toList⟩
noncomputable def F163 : AFn := ⟨match Tryz.f163.body with | some c => c | none => .skip, Tryz.f163.ntmps, Tryz.f163.results.toList⟩
noncomputable def F164 : AFn := ⟨match Tryz.f164.body with | some c => c | none => .skip, Tryz.f164.ntmps, Tryz.f164.results.toList⟩
noncomputable def F165 : AFn := ⟨match Tryz.f165.body with | some c => c | none => .skip, Tryz.f165.ntmps, Tryz.f165.results.toList⟩
noncomputable def F166 : AFn := ⟨match Tryz.f166.body with | some c => c | none => .skip, Tryz.f166.ntmps, Tryz.f166.results.toList⟩
noncomputable def F167 : AFn := ⟨match Tryz.f167.body with | some c => c | none => .skip, Tryz.f167.ntmps, Tryz.f167.results.toList⟩
noncomputable def F168 : AFn := ⟨match Tryz.f168.body with | some c => c | none => .skip, Tryz.f168.ntmps, Tryz.f168.results.toList⟩
noncomputable def F169 : AFn := ⟨match Tryz.f169.body with | some c => c | none => .skip, Tryz.f169.ntmps, Tryz.f169.results.toList⟩
noncomputable def F170 : AFn := ⟨match Tryz.f170.body with | some c => c | none => .skip, Tryz.f170.ntmps, Tryz.f170.results.toList⟩
noncomputable def F171 : AFn := ⟨match Tryz.f171.body with | some c => c | none => .skip, Tryz.f171.ntmps, Tryz.f171.results.toList⟩
noncomputable def F172 : AFn := ⟨match Tryz.f172.body with | some c => c | none => .skip, Tryz.f172.ntmps, Tryz.f172.results.toList⟩
noncomputable def F173 : AFn := ⟨match Tryz.f173.body with | some c => c | none => .skip, Tryz.f173.ntmps, Tryz.f173.results.toList⟩
noncomputable def F174 : AFn := ⟨match Tryz.f174.body with | some c => c | none => .skip, Tryz.f174.ntmps, Tryz.f174.results.toList⟩
noncomputable def F175 : AFn := ⟨match Tryz.f175.body with | some c => c | none => .skip, Tryz.f175.ntmps, Tryz.f175.results.toList⟩
noncomputable def F176 : AFn := ⟨match Tryz.f176.body with | some c => c | none => .skip, Tryz.f176.ntmps, Tryz.f176.results.toList⟩
noncomputable def F177 : AFn := ⟨match Tryz.f177.body with | some c => c | none => .skip, Tryz.f177.ntmps, Tryz.f177.results.toList⟩
noncomputable def F178 : AFn := ⟨match Tryz.f178.body with | some c => c | none => .skip, Tryz.f178.ntmps, Tryz.f178.results.toList⟩
noncomputable def F179 : AFn := ⟨match Tryz.f179.body with | some c => c | none => .skip, Tryz.f179.ntmps, Tryz.f179.results.toList⟩
noncomputable def F180 : AFn := ⟨match Tryz.f180.body with | some c => c | none => .skip, Tryz.f180.ntmps, Tryz.f180.results.toList⟩
noncomputable def F181 : AFn := ⟨match Tryz.f181.body with | some c => c | none => .skip, Tryz.f181.ntmps, Tryz.f181.results.toList⟩
noncomputable def F182 : AFn := ⟨match Tryz.f182.body with | some c => c | none => .skip, Tryz.f182.ntmps, Tryz.f182.results.toList⟩
noncomputable def F183 : AFn := ⟨match Tryz.f183.body with | some c => c | none => .skip, Tryz.f183.ntmps, Tryz.f183.results.toList⟩
noncomputable def F184 : AFn := ⟨match Tryz.f184.body with | some c => c | none => .skip, Tryz.f184.ntmps, Tryz.f184.results.toList⟩
noncomputable def F185 : AFn := ⟨match Tryz.f185.body with | some c => c | none => .skip, Tryz.f185.ntmps, Tryz.f185.results.toList⟩
noncomputable def F186 : AFn := ⟨match Tryz.f186.body with | some c => c | none => .skip, Tryz.f186.ntmps, Tryz.f186.results.toList⟩
noncomputable def F187 : AFn := ⟨match Tryz.f187.body with | some c => c | none => .skip, Tryz.f187.ntmps, Tryz.f187.results.toList⟩
noncomputable def F188 : AFn := ⟨match Tryz.f188.body with | some c => c | none => .skip, Tryz.f188.ntmps, Tryz.f188.results.toList⟩
noncomputable def F189 : AFn := ⟨match Tryz.f189.body with | some c => c | none => .skip, Tryz.f189.ntmps, Tryz.f189.results.toList⟩
noncomputable def F190 : AFn := ⟨match Tryz.f190.body with | some c => c | none => .skip, Tryz.f190.ntmps, Tryz.f190.results.toList⟩
noncomputable def F191 : AFn := ⟨match Tryz.f191.body with | some c => c | none => .skip, Tryz.f191.ntmps, Tryz.f191.results.toList⟩
noncomputable def F192 : AFn := ⟨match Tryz.f192.body with | some c => c | none => .skip, Tryz.f192.ntmps, Tryz.f192.results.toList⟩
noncomputable def F193 : AFn := ⟨match Tryz.f193.body with | some c => c | none => .skip, Tryz.f193.ntmps, Tryz.f193.results.toList⟩
noncomputable def F194 : AFn := ⟨match Tryz.f194.body with | some c => c | none => .skip, Tryz.f194.ntmps, Tryz.f194.results.toList⟩
noncomputable def F195 : AFn := ⟨match Tryz.f195.body with | some c => c | none => .skip, Tryz.f195.ntmps, Tryz.f195.results.toList⟩
noncomputable def F196 : AFn := ⟨match Tryz.f196.body with | some c => c | none => .skip, Tryz.f196.ntmps, Tryz.f196.results.toList⟩
noncomputable def F197 : AFn := ⟨match Tryz.f197.body with | some c => c | none => .skip, Tryz.f197.ntmps, Tryz.f197.results.toList⟩
noncomputable def F198 : AFn := ⟨match Tryz.f198.body with | some c => c | none => .skip, Tryz.f198.ntmps, Tryz.f198.results.toList⟩
noncomputable def F199 : AFn := ⟨match Tryz.f199.body with | some c => c | none => .skip, Tryz.f199.ntmps, Tryz.f199.results.toList⟩
noncomputable def F200 : AFn := ⟨match Tryz.f200.body with | some c => c | none => .skip, Tryz.f200.ntmps, Tryz.f200.results.toList⟩
noncomputable def F201 : AFn := ⟨match Tryz.f201.body with | some c => c | none => .skip, Tryz.f201.ntmps, Tryz.f201.results.toList⟩
noncomputable def F202 : AFn := ⟨match Tryz.f202.body with | some c => c | none => .skip, Tryz.f202.ntmps, Tryz.f202.results.toList⟩
noncomputable def F203 : AFn := ⟨match Tryz.f203.body with | some c => c | none => .skip, Tryz.f203.ntmps, Tryz.f203.results.toList⟩
noncomputable def F204 : AFn := ⟨match Tryz.f204.body with | some c => c | none => .skip, Tryz.f204.ntmps, Tryz.f204.results.toList⟩
noncomputable def F205 : AFn := ⟨match Tryz.f205.body with | some c => c | none => .skip, Tryz.f205.ntmps, Tryz.f205.results.toList⟩
noncomputable def F206 : AFn := ⟨match Tryz.f206.body with | some c => c | none => .skip, Tryz.f206.ntmps, Tryz.f206.results.toList⟩
noncomputable def F207 : AFn := ⟨match Tryz.f207.body with | some c => c | none => .skip, Tryz.f207.ntmps, Tryz.f207.results.toList⟩
noncomputable def F208 : AFn := ⟨match Tryz.f208.body with | some c => c | none => .skip, Tryz.f208.ntmps, Tryz.f208.results.toList⟩
noncomputable def F209 : AFn := ⟨match Tryz.f209.body with | some c => c | none => .skip, Tryz.f209.ntmps, Tryz.f209.results.toList⟩
noncomputable def F210 : AFn := ⟨match Tryz.f210.body with | some c => c | none => .skip, Tryz.f210.ntmps, Tryz.f210.results.toList⟩
noncomputable def F211 : AFn := ⟨match Tryz.f211.body with | some c => c | none => .skip, Tryz.f211.ntmps, Tryz.f211.results.toList⟩
noncomputable def F212 : AFn := ⟨match Tryz.f212.body with | some c => c | none => .skip, Tryz.f212.ntmps, Tryz.f212.results.toList⟩
noncomputable def F213 : AFn := ⟨match Tryz.f213.body with | some c => c | none => .skip, Tryz.f213.ntmps, Tryz.f213.results.toList⟩
noncomputable def F214 : AFn := ⟨match Tryz.f214.body with | some c => c | none => .skip, Tryz.f214.ntmps, Tryz.f214.results.toList⟩
noncomputable def F215 : AFn := ⟨match Tryz.f215.body with | some c => c | none => .skip, Tryz.f215.ntmps, Tryz.f215.results.toList⟩
noncomputable def F216 : AFn := ⟨match Tryz.f216.body with | some c => c | none => .skip, Tryz.f216.ntmps, Tryz.f216.results.toList⟩
noncomputable def F217 : AFn := ⟨match Tryz.f217.body with | some c => c | none => .skip, Tryz.f217.ntmps, Tryz.f217.results.toList⟩
noncomputable def F218 : AFn := ⟨match Tryz.f218.body with | some c => c | none => .skip, Tryz.f218.ntmps, Tryz.f218.results.toList⟩
noncomputable def F219 : AFn := ⟨match Tryz.f219.body with | some c => c | none => .skip, Tryz.f219.ntmps, Tryz.f219.results.toList⟩
noncomputable def F220 : AFn := ⟨match Tryz.f220.body with | some c => c | none => .skip, Tryz.f220.ntmps, Tryz.f220.results.toList⟩
noncomputable def F221 : AFn := ⟨match Tryz.f221.body with | some c => c | none => .skip, Tryz.f221.ntmps, Tryz.f221.results.toList⟩
noncomputable def F222 : AFn := ⟨match Tryz.f222.body with | some c => c | none => .skip, Tryz.f222.ntmps, Tryz.f222.results.toList⟩
noncomputable def F223 : AFn := ⟨match Tryz.f223.body with | some c => c | none => .skip, Tryz.f223.ntmps, Tryz.f223.results.toList⟩
noncomputable def F224 : AFn := ⟨match Tryz.f224.body with | some c => c | none => .skip, Tryz.f224.ntmps, Tryz.f224.results.toList⟩
noncomputable def F225 : AFn := ⟨match Tryz.f225.body with | some c => c | none => .skip, Tryz.f225.ntmps, Tryz.f225.results.toList⟩
noncomputable def F226 : AFn := ⟨match Tryz.f226.body with | some c => c | none => .skip, Tryz.f226.ntmps, Tryz.f226.results.toList⟩
noncomputable def F227 : AFn := ⟨match Tryz.f227.body with | some c => c | none => .skip, Tryz.f227.ntmps, Tryz.f227.results.toList⟩
noncomputable def F228 : AFn := ⟨match Tryz.f228.body with | some c => c | none => .skip, Tryz.f228.ntmps, Tryz.f228.results.toList⟩
noncomputable def F229 : AFn := ⟨match Tryz.f229.body with | some c => c | none => .skip, Tryz.f229.ntmps, Tryz.f229.results.toList⟩
noncomputable def F230 : AFn := ⟨match Tryz.f230.body with | some c => c | none => .skip, Tryz.f230.ntmps, Tryz.f230.results.toList⟩
noncomputable def F231 : AFn := ⟨match Tryz.f231.body with | some c => c | none => .skip, Tryz.f231.ntmps, Tryz.f231.results.toList⟩
noncomputable def F232 : AFn := ⟨match Tryz.f232.body with | some c => c | none => .skip, Tryz.f232.ntmps, Tryz.f232.results.toList⟩
noncomputable def F233 : AFn := ⟨match Tryz.f233.body with | some c => c | none => .skip, Tryz.f233.ntmps, Tryz.f233.results.toList⟩
noncomputable def F234 : AFn := ⟨match Tryz.f234.body with | some c => c | none => .skip, Tryz.f234.ntmps, Tryz.f234.results.toList⟩
noncomputable def F235 : AFn := ⟨match Tryz.f235.body with | some c => c | none => .skip, Tryz.f235.ntmps, Tryz.f235.results.toList⟩
noncomputable def F236 : AFn := ⟨match Tryz.f236.body with | some c => c | none => .skip, Tryz.f236.ntmps, Tryz.f236.results.toList⟩
noncomputable def F237 : AFn := ⟨match Tryz.f237.body with | some c => c | none => .skip, Tryz.f237.ntmps, Tryz.f237.results.toList⟩
noncomputable def F238 : AFn := ⟨match Tryz.f238.body with | some c => c | none => .skip, Tryz.f238.ntmps, Tryz.f238.results.toList⟩
noncomputable def F239 : AFn := ⟨match Tryz.f239.body with | some c => c | none => .skip, Tryz.f239.ntmps, Tryz.f239.results.toList⟩
noncomputable def F240 : AFn := ⟨match Tryz.f240.body with | some c => c | none => .skip, Tryz.f240.ntmps, Tryz.f240.results.toList⟩
noncomputable def F241 : AFn := ⟨match Tryz.f241.body with | some c => c | none => .skip, Tryz.f241.ntmps, Tryz.f241.results.toList⟩
noncomputable def F242 : AFn := ⟨match Tryz.f242.body with | some c => c | none => .skip, Tryz.f242.ntmps, Tryz.f242.results.toList⟩
noncomputable def F243 : AFn := ⟨match Tryz.f243.body with | some c => c | none => .skip, Tryz.f243.ntmps, Tryz.f243.results.toList⟩
noncomputable def F244 : AFn := ⟨match Tryz.f244.body with | some c => c | none => .skip, Tryz.f244.ntmps, Tryz.f244.results.toList⟩
noncomputable def F246 : AFn := ⟨match Tryz.f246.body with | some c => c | none => .skip, Tryz.f246.ntmps, Tryz.f246.results.toList⟩
noncomputable def F247 : AFn := ⟨match Tryz.f247.body with | some c => c | none => .skip, Tryz.f247.ntmps, Tryz.f247.results.toList⟩
noncomputable def F248 : AFn := ⟨match Tryz.f248.body with | some c => c | none => .skip, Tryz.f248.ntmps, Tryz.f248.results.toList⟩
noncomputable def F249 : AFn := ⟨match Tryz.f249.body with | some c => c | none => .skip, Tryz.f249.ntmps, Tryz.f249.results.toList⟩
noncomputable def F250 : AFn := ⟨match Tryz.f250.body with | some c => c | none => .skip, Tryz.f250.ntmps, Tryz.f250.results.toList⟩
noncomputable def F251 : AFn := ⟨match Tryz.f251.body with | some c => c | none => .skip, Tryz.f251.ntmps, Tryz.f251.results.toList⟩
noncomputable def F252 : AFn := ⟨match Tryz.f252.body with | some c => c | none => .skip, Tryz.f252.ntmps, Tryz.f252.results.toList⟩
noncomputable def F253 : AFn := ⟨match Tryz.f253.body with | some c => c | none => .skip, Tryz.f253.ntmps, Tryz.f253.results.toList⟩
noncomputable def F254 : AFn := ⟨match Tryz.f254.body with | some c => c | none => .skip, Tryz.f254.ntmps, Tryz.f254.results.toList⟩
noncomputable def F255 : AFn := ⟨match Tryz.f255.body with | some c => c | none => .skip, Tryz.f255.ntmps, Tryz.f255.results.toList⟩
noncomputable def F256 : AFn := ⟨match Tryz.f256.body with | some c => c | none => .skip, Tryz.f256.ntmps, Tryz.f256.results.toList⟩
noncomputable def F257 : AFn := ⟨match Tryz.f257.body with | some c => c | none => .skip, Tryz.f257.ntmps, Tryz.f257.results.toList⟩
noncomputable def F258 : AFn := ⟨match Tryz.f258.body with | some c => c | none => .skip, Tryz.f258.ntmps, Tryz.f258.results.toList⟩
noncomputable def F277 : AFn := ⟨match Tryz.f277.body with | some c => c | none => .skip, Tryz.f277.ntmps, Tryz.f277.results.toList⟩
noncomputable def F289 : AFn := ⟨match Tryz.f289.body with | some c => c | none => .skip, Tryz.f289.ntmps, Tryz.f289.results.toList⟩
noncomputable def FF : Tr AFn := (.n none (.n none (.n (some F3) (.n (some F7) (.n (some F15) (.n (some F31) (.n (some F63) (.n (some F127) (.n (some F255) .e .e) .e) (.n (some F191) .e .e)) (.n (some F95) (.n (some F159) (.n none .e .e) .e) (.n (some F223) .e .e))) (.n (some F47) (.n (some F79) (.n (some F143) (.n none .e .e) .e) (.n (some F207) .e .e)) (.n (some F111) (.n (some F175) .e .e) (.n (some F239) .e .e)))) (.n (some F23) (.n (some F39) (.n (some F71) (.n (some F135) (.n none .e .e) .e) (.n (some F199) .e .e)) (.n (some F103) (.n (some F167) .e .e) (.n (some F231) .e .e))) (.n (some F55) (.n (some F87) (.n (some F151) (.n none .e .e) .e) (.n (some F215) .e .e)) (.n (some F119) (.n (some F183) .e .e) (.n (some F247) .e .e))))) (.n (some F11) (.n (some F19) (.n (some F35) (.n (some F67) (.n (some F131) (.n none .e .e) .e) (.n (some F195) .e .e)) (.n (some F99) (.n (some F163) .e .e) (.n (some F227) .e .e))) (.n (some F51) (.n (some F83) (.n (some F147) (.n none .e .e) .e) (.n (some F211) .e .e)) (.n (some F115) (.n (some F179) .e .e) (.n (some F243) .e .e)))) (.n (some F27) (.n (some F43) (.n (some F75) (.n (some F139) (.n none .e .e) .e) (.n (some F203) .e .e)) (.n (some F107) (.n (some F171) .e .e) (.n (some F235) .e .e))) (.n (some F59) (.n (some F91) (.n (some F155) (.n none .e .e) .e) (.n (some F219) .e .e)) (.n (some F123) (.n (some F187) .e .e) (.n (some F251) .e .e)))))) (.n (some F5) (.n (some F9) (.n (some F17) (.n (some F33) (.n (some F65) (.n (some F129) (.n (some F257) .e .e) .e) (.n (some F193) .e .e)) (.n (some F97) (.n (some F161) (.n (some F289) .e .e) .e) (.n (some F225) .e .e))) (.n (some F49) (.n (some F81) (.n (some F145) (.n none .e .e) .e) (.n (some F209) .e .e)) (.n (some F113) (.n (some F177) .e .e) (.n (some F241) .e .e)))) (.n (some F25) (.n (some F41) (.n (some F73) (.n (some F137) (.n none .e .e) .e) (.n (some F201) .e .e)) (.n (some F105) (.n (some F169) .e .e) (.n (some F233) .e .e))) (.n (some F57) (.n (some F89) (.n (some F153) (.n none .e .e) .e) (.n (some F217) .e .e)) (.n (some F121) (.n (some F185) .e .e) (.n (some F249) .e .e))))) (.n (some F13) (.n (some F21) (.n (some F37) (.n (some F69) (.n (some F133) (.n none .e .e) .e) (.n (some F197) .e .e)) (.n (some F101) (.n (some F165) .e .e) (.n (some F229) .e .e))) (.n (some F53) (.n (some F85) (.n (some F149) (.n (some F277) .e .e) .e) (.n (some F213) .e .e)) (.n (some F117) (.n (some F181) .e .e) (.n none .e .e)))) (.n (some F29) (.n (some F45) (.n (some F77) (.n (some F141) (.n none .e .e) .e) (.n (some F205) .e .e)) (.n (some F109) (.n (some F173) .e .e) (.n (some F237) .e .e))) (.n (some F61) (.n (some F93) (.n (some F157) (.n none .e .e) .e) (.n (some F221) .e .e)) (.n (some F125) (.n (some F189) .e .e) (.n (some F253) .e .e))))))) (.n (some F2) (.n (some F4) (.n (some F8) (.n (some F16) (.n (some F32) (.n (some F64) (.n (some F128) (.n (some F256) .e .e) .e) (.n (some F192) .e .e)) (.n (some F96) (.n (some F160) (.n none .e .e) .e) (.n (some F224) .e .e))) (.n (some F48) (.n (some F80) (.n (some F144) (.n none .e .e) .e) (.n (some F208) .e .e)) (.n (some F112) (.n (some F176) .e .e) (.n (some F240) .e .e)))) (.n (some F24) (.n (some F40) (.n (some F72) (.n (some F136) (.n none .e .e) .e) (.n (some F200) .e .e)) (.n (some F104) (.n (some F168) .e .e) (.n (some F232) .e .e))) (.n (some F56) (.n (some F88) (.n (some F152) (.n none .e .e) .e) (.n (some F216) .e .e)) (.n (some F120) (.n (some F184) .e .e) (.n (some F248) .e .e))))) (.n (some F12) (.n (some F20) (.n (some F36) (.n (some F68) (.n (some F132) (.n none .e .e) .e) (.n (some F196) .e .e)) (.n (some F100) (.n (some F164) .e .e) (.n (some F228) .e .e))) (.n (some F52) (.n (some F84) (.n (some F148) (.n none .e .e) .e) (.n (some F212) .e .e)) (.n (some F116) (.n (some F180) .e .e) (.n (some F244) .e .e)))) (.n (some F28) (.n (some F44) (.n (some F76) (.n (some F140) (.n none .e .e) .e) (.n (some F204) .e .e)) (.n (some F108) (.n (some F172) .e .e) (.n (some F236) .e .e))) (.n (some F60) (.n (some F92) (.n (some F156) (.n none .e .e) .e) (.n (some F220) .e .e)) (.n (some F124) (.n (some F188) .e .e) (.n (some F252) .e .e)))))) (.n (some F6) (.n (some F10) (.n (some F18) (.n (some F34) (.n (some F66) (.n (some F130) (.n (some F258) .e .e) .e) (.n (some F194) .e .e)) (.n (some F98) (.n (some F162) .e .e) (.n (some F226) .e .e))) (.n (some F50) (.n (some F82) (.n (some F146) (.n none .e .e) .e) (.n (some F210) .e .e)) (.n (some F114) (.n (some F178) .e .e) (.n (some F242) .e .e)))) (.n (some F26) (.n (some F42) (.n (some F74) (.n (some F138) (.n none .e .e) .e) (.n (some F202) .e .e)) (.n (some F106) (.n (some F170) .e .e) (.n (some F234) .e .e))) (.n (some F58) (.n (some F90) (.n (some F154) (.n none .e .e) .e) (.n (some F218) .e .e)) (.n (some F122) (.n (some F186) .e .e) (.n (some F250) .e .e))))) (.n (some F14) (.n (some F22) (.n (some F38) (.n (some F70) (.n (some F134) (.n none .e .e) .e) (.n (some F198) .e .e)) (.n (some F102) (.n (some F166) .e .e) (.n (some F230) .e .e))) (.n (some F54) (.n (some F86) (.n (some F150) (.n none .e .e) .e) (.n (some F214) .e .e)) (.n (some F118) (.n (some F182) .e .e) (.n (some F246) .e .e)))) (.n (some F30) (.n (some F46) (.n (some F78) (.n (some F142) (.n none .e .e) .e) (.n (some F206) .e .e)) (.n (some F110) (.n (some F174) .e .e) (.n (some F238) .e .e))) (.n (some F62) (.n (some F94) (.n (some F158) (.n none .e .e) .e) (.n (some F222) .e .e)) (.n (some F126) (.n (some F190) .e .e) (.n (some F254) .e .e))))))))

noncomputable def tiOf (P : Program) (i : Nat) : TI := ⟨(P.info? i).getD default, (P.underlying i).getD default⟩
noncomputable def fnOf (P : Program) (i : Nat) : Option AFn := match P.funcs[i]? with
  | some fn => (match fn.body with | some c => some ⟨c, fn.ntmps, fn.results.toList⟩ | none => none)
  | none => none
noncomputable def setO {α : Type} (l : List (Option α)) : Nat → Tr α → Tr α :=
  List.rec (motive := fun _ => Nat → Tr α → Tr α) (fun _ t => t) (fun a _ ih k t => ih (k + 1) (t.set k a)) l
theorem setO_cons {α : Type} (a : Option α) (l : List (Option α)) (k : Nat) (t : Tr α) : setO (a :: l) k t = setO l (k + 1) (t.set k a) := rfl
theorem get_setO {α : Type} : ∀ (l : List (Option α)) (t : Tr α) (k i : Nat) (x : α), (setO l k t).get i = some x → (k ≤ i ∧ l[i - k]? = some (some x)) ∨ t.get i = some x
  | [], t, k, i, x, h => .inr h
  | a :: l, t, k, i, x, h => by
    rw [setO_cons] at h
    rcases get_setO l _ _ _ _ h with ⟨h1, h2⟩ | h1
    · refine .inl ⟨by omega, ?_⟩
      rw [show i - k = i - (k + 1) + 1 by omega]
      simpa using h2
    · rw [get_set] at h1
      split at h1
      · rename_i e; subst e; exact .inl ⟨Nat.le_refl _, by simp [h1]⟩
      · exact .inr h1
theorem TT_eq : TT = setO ((List.range 364).map fun i => some (tiOf Tryz.prog i)) 0 .e := by kernel_rfl
theorem FF_eq : FF = setO ((List.range 290).map fun i => fnOf Tryz.prog i) 0 .e := by kernel_rfl
theorem tys_some : (List.range 364).all (fun i => (Tryz.prog.info? i).isSome && (Tryz.prog.underlying i).isSome) = true := by kernel_rfl
theorem names_ok : (List.range 290).all (fun i => match Tryz.prog.funcs[i]? with | some fn => !(fn.name == "runtime.NumGoroutine") | none => true) = true := by kernel_rfl
theorem tab_tys : Tys Tryz.prog TT := by
  intro t x h
  rw [TT_eq] at h
  rcases get_setO _ _ _ _ _ h with ⟨_, h1⟩ | h1
  · rw [Nat.sub_zero, List.getElem?_map] at h1
    cases hr : (List.range 364)[t]? with
    | none => rw [hr] at h1; cases h1
    | some j =>
      have hj : j = t := by
        have := List.getElem?_eq_some_iff.1 hr
        obtain ⟨h2, h3⟩ := this
        simpa using h3.symm
      subst hj
      rw [hr] at h1
      simp only [Option.map_some, Option.some.injEq] at h1
      subst h1
      have := List.all_eq_true.1 tys_some _ (List.mem_of_getElem? hr)
      rw [Bool.and_eq_true, Option.isSome_iff_exists, Option.isSome_iff_exists] at this
      obtain ⟨⟨a, ha⟩, b, hb⟩ := this
      simp [tiOf, ha, hb]
  · cases h1
theorem tab_fns : ∀ f x, FF.get f = some x → ∃ fn, Tryz.prog.funcs[f]? = some fn ∧ fn.body = some x.body ∧ fn.ntmps = x.ntmps ∧ fn.results.toList = x.results ∧ (fn.name == "runtime.NumGoroutine") = false := by
  intro f x h
  rw [FF_eq] at h
  rcases get_setO _ _ _ _ _ h with ⟨_, h1⟩ | h1
  · rw [Nat.sub_zero, List.getElem?_map] at h1
    cases hr : (List.range 290)[f]? with
    | none => rw [hr] at h1; cases h1
    | some j =>
      have hj : j = f := by
        have := List.getElem?_eq_some_iff.1 hr
        obtain ⟨h2, h3⟩ := this
        simpa using h3.symm
      subst hj
      rw [hr] at h1
      simp only [Option.map_some, Option.some.injEq] at h1
      have hn := List.all_eq_true.1 names_ok _ (List.mem_of_getElem? hr)
      unfold fnOf at h1
      split at h1
      · rename_i fn hfn
        split at h1
        · rename_i c hc
          injection h1 with h1
          subst h1
          rw [hfn] at hn
          exact ⟨fn, hfn, hc, rfl, rfl, by simpa using hn⟩
        · cases h1
      · cases h1
  · cases h1
theorem tab_calls : ∀ f x, FF.get f = some x → ∀ args w, (callFunc f args).run Tryz.prog w = .ok (.enter f args) w := by
  intro f x h args w
  obtain ⟨fn, h1, h2, _, _, h5⟩ := tab_fns f x h
  have h6 : ¬ fn.name = "runtime.NumGoroutine" := fun e => by rw [e] at h5; simp at h5
  simp [callFunc, h1, h2, h6]
theorem tab_mixed : Tryz.prog.follows .mixedOrders = true := by kernel_rfl
theorem prOk {C : Ctx} (hT : C.T = TT) (hF : C.F = FF) (hI : ∀ f g, C.I f = some g → ∀ args m nx v m' nx', g args m nx = some (v, m', nx') → Dom m m' nx ∧ ∀ (E : Em) (w : World) (ar : Array Value), RH E m.get w → E.fresh nx → E.v = C.V → RVs E args ar.toList →
    (callFunc f ar).run Tryz.prog w = .ok (.enter f ar) w ∧ Calls Tryz.prog f ar w (fun e w' => ∃ v', e = .returned v' ∧ Eff E m nx w v m' nx' v' w')) : PrOk Tryz.prog C :=
  ⟨by rw [hT]; exact tab_tys, fun f x h => by
    rw [hF] at h
    obtain ⟨fn, h1, h2, h3, h4, _⟩ := tab_fns f x h
    exact ⟨fn, h1, h2, h3, h4⟩, fun f x h => by rw [hF] at h; exact tab_calls f x h, tab_mixed, hI⟩
/-! Where a piece of a function lies. -/
noncomputable def cat (c : Code) (p : List Nat) : Code :=
  List.rec (motive := fun _ => Code → Code) (fun c => c) (fun i _ r c => match c with
    | .seq a b => Nat.rec (motive := fun _ => Code) (r a) (fun _ _ => r b) i
    | .cond _ a b => Nat.rec (motive := fun _ => Code) (r a) (fun _ _ => r b) i
    | .block _ a => r a
    | .loop a => r a
    | .scope a => r a
    | .rangeFunc _ _ a b => Nat.rec (motive := fun _ => Code) (r a) (fun _ _ => r b) i
    | c => c) p c
def opsOf : Code → Array Oper
  | .region _ ops _ => ops
  | _ => #[]
noncomputable def planD (ops : Array Oper) : Plan := match planOf TT ops with | some p => p | none => ⟨#[], [], .e, .e, []⟩
end Go.Ev
namespace Go.Proofs
open Go.RowKit
def stp (D : Int) : Int := bits BinOp.xor IntKind.u32 (D / 2) (bits BinOp.and IntKind.u32 2197175160 (-bits BinOp.and IntKind.u32 D 1 % 4294967296))
def xb (C n : Int) : Int := bits BinOp.xor IntKind.u32 C (n % 4294967296)
def it8 (k : Nat) (c : Int) : Int := Nat.rec c (fun _ r => stp r) k
def crcL (c : Int) (l : List Int) : Int := l.foldl (fun c n => it8 8 (xb c n)) c
def crcF (bs : List Int) : Int := bits BinOp.xor IntKind.u32 IntKind.u32.max (crcL 4294967295 bs)
theorem it8_succ (k : Nat) (c : Int) : it8 (k + 1) c = stp (it8 k c) := rfl
theorem crcL_snoc (c : Int) (l : List Int) (k : Nat) (h : k < l.length) : crcL c (l.take (k + 1)) = it8 8 (xb (crcL c (l.take k)) l[k]) := by
  rw [List.take_succ_eq_append_getElem h]
  unfold crcL
  rw [List.foldl_append]; rfl
set_option maxHeartbeats 400000 in
theorem sum_any (b off : Nat) (bs : List Int) (cap : Nat) (w : World) (hlen : bs.length ≤ 1000000)
    (hc : ∀ k, k < bs.length → w.cell? ⟨b, off + k, none⟩ = some (.int .u8 (bs.getD k 0))) :
    Calls Tryz.prog 64 #[.slice (some ⟨b, off, none⟩) bs.length cap] w fun e w' => e = .returned (.int .u32 (crcF bs)) ∧ w' = w := by
  go_enter Tryz.func64, Tryz.ntmps64
  go_wp2
  go_loop [3, 8] (fun c i => ∃ k : Nat, k ≤ bs.length ∧ i = .int .i64 k ∧ c = .int .u32 (crcL 4294967295 (bs.take k))) (fun _ i => bs.length - (intOf i).toNat)
  case atStart => exact ⟨0, Nat.zero_le _, rfl, rfl⟩
  case round =>
    obtain ⟨k, hk, rfl, rfl⟩ := hrel
    by_cases hlt : k < bs.length
    · have hcell := hc k hlt
      have hsn := crcL_snoc 4294967295 bs k hlt
      generalize hC : crcL 4294967295 (bs.take k) = C at hsn
      clear hC
      have HS := Lib.hid hsn
      clear hsn
      clear hc
      go_wp2
      go_loop [3, 16] (fun c j => ∃ q : Nat, q ≤ 8 ∧ j = .int .i64 q ∧ c = .int .u32 (it8 q (xb C bs[k]))) (fun _ j => 8 - (intOf j).toNat)
      case atStart => exact ⟨0, Nat.zero_le _, rfl, rfl⟩
      case round =>
        obtain ⟨q, hq, rfl, rfl⟩ := hrel
        have hst := it8_succ q (xb C bs[k])
        have h8 : q = 8 → it8 q (xb C bs[k]) = it8 8 (xb C bs[k]) := fun e => by rw [e]
        generalize it8 q (xb C bs[k]) = D at hst h8
        have HT := Lib.hid hst
        have H8 := Lib.hid h8
        clear hst h8
        by_cases hlt2 : q < 8
        · go_wp2
          go_round
          case rel => exact ⟨q + 1, by omega, by go_num, by rw [HT.out]; rfl⟩
          case measure => simp [intOf]; omega
        · have hq8 : q = 8 := by omega
          go_wp2
          go_round
          case rel => exact ⟨k + 1, by omega, by go_num, by rw [HS.out, H8.out hq8]⟩
          case measure => simp [intOf]; omega
    · have hkk : k = bs.length := by omega
      have HK := Lib.hid hkk
      clear hkk hc
      go_wp2
      go_ret
      refine ⟨?_, rfl⟩
      show Ending.returned (.int .u32 (bits BinOp.xor IntKind.u32 IntKind.u32.max (crcL 4294967295 (List.take k bs)))) = _
      rw [HK.out, List.take_length]
      rfl
set_option maxHeartbeats 400000 in
theorem sum_nil (w : World) : Calls Tryz.prog 64 #[.slice none 0 0] w fun e w' => e = .returned (.int .u32 (crcF [])) ∧ w' = w := by
  go_enter Tryz.func64, Tryz.ntmps64
  go_wp2
  go_loop [3, 8] (fun c i => i = .int .i64 0 ∧ c = .int .u32 (crcL 4294967295 [])) (fun _ i => 0 - (intOf i).toNat)
  case atStart => exact ⟨rfl, rfl⟩
  case round =>
    obtain ⟨rfl, rfl⟩ := hrel
    go_wp2
    go_ret
    exact ⟨rfl, rfl⟩
set_option maxHeartbeats 400000 in
theorem sum_zero (ad : Addr) (cap : Nat) (w : World) : Calls Tryz.prog 64 #[.slice (some ad) 0 cap] w fun e w' => e = .returned (.int .u32 (crcF [])) ∧ w' = w := by
  go_enter Tryz.func64, Tryz.ntmps64
  go_wp2
  go_loop [3, 8] (fun c i => i = .int .i64 0 ∧ c = .int .u32 (crcL 4294967295 [])) (fun _ i => 0 - (intOf i).toNat)
  case atStart => exact ⟨rfl, rfl⟩
  case round =>
    obtain ⟨rfl, rfl⟩ := hrel
    go_wp2
    go_ret
    exact ⟨rfl, rfl⟩
end Go.Proofs
namespace Go.Ev
open Go.Proofs
set_option linter.unusedVariables false
set_option linter.unusedSimpArgs false

/-! octet.Sum answers a symbol: a number made of the bytes. -/
noncomputable def seL (l : List AV) : Option SE :=
  List.rec (motive := fun _ => Option SE) (some .nil) (fun x _ r => match ivl x with
    | some ⟨k, _, _, e⟩ => (match Nat.beq (ik k) 4, r with | true, some q => some (.cons e q) | _, _ => none)
    | none => none) l
theorem seL_cons (x : AV) (l : List AV) : seL (x :: l) = (match ivl x with
    | some ⟨k, _, _, e⟩ => (match Nat.beq (ik k) 4, seL l with | true, some q => some (.cons e q) | _, _ => none)
    | none => none) := rfl
noncomputable def sumE (r : Option SE) (m : Tr AObj) (nx : Nat) : Option (AV × Tr AObj × Nat) := match r with
  | some e => some (.unk .u32 0 4294967295 (.app 0 e), m, nx)
  | none => none
noncomputable def sumG (args : List AV) (m : Tr AObj) (nx : Nat) : Option (AV × Tr AObj × Nat) :=
  match args with
  | [x] => (match x with
    | .nils => sumE (some .nil) m nx
    | .sl b off len _ _ => (match Nat.ble len 1000000, m.get b with
      | true, some (.cells c _) => (match c.gets len off with
        | some l => sumE (seL l) m nx
        | none => none)
      | _, _ => none)
    | _ => none)
  | _ => none

theorem seL_sound {E : Em} : ∀ {l : List AV} {us : List Value} {e : SE}, seL l = some e → RVs E l us → us = ((e.ev E.v).2).map (Value.int .u8)
  | [], us, e, h, hr => by
    have h : some SE.nil = some e := h
    injection h with h
    subst h
    cases hr
    rfl
  | x :: l, us, e, h, hr => by
    rw [seL_cons] at h
    split at h
    · rename_i k lo hi e1 hi1
      split at h
      · rename_i q hk hq
        injection h with h
        subst h
        cases hr with
        | cons _ w _ ws a b =>
          obtain ⟨n, rfl, _, _, h3⟩ := ivl_sound hi1 a
          have hk8 : k = .u8 := ik_inj (b := .u8) hk
          subst hk8
          rw [seL_sound hq b]
          simp only [SE.ev, List.map_cons, h3]
      · cases h
    · cases h

theorem crcF_range (bs : List Int) : 0 ≤ crcF bs ∧ crcF bs ≤ 4294967295 := by
  have h1 := wrap_range .u32
  unfold crcF bits
  split <;> exact h1 _

theorem call64 (ar : Array Value) (w : World) : (callFunc 64 ar).run Tryz.prog w = .ok (.enter 64 ar) w := Tryz.call64 ar w

theorem sumG_ok {C : Ctx} (hV : C.V.val 0 = crcF) : ∀ args m nx v m' nx', sumG args m nx = some (v, m', nx') → Dom m m' nx ∧ ∀ (E : Em) (w : World) (ar : Array Value), RH E m.get w → E.fresh nx → E.v = C.V → RVs E args ar.toList →
    (callFunc 64 ar).run Tryz.prog w = .ok (.enter 64 ar) w ∧ Calls Tryz.prog 64 ar w (fun e w' => ∃ v', e = .returned v' ∧ Eff E m nx w v m' nx' v' w') := by
  intro args m nx v m' nx' h
  -- what comes of a symbol
  have fin : ∀ (r : Option SE), sumE r m nx = some (v, m', nx') → ∃ e, r = some e ∧ m' = m ∧ nx' = nx ∧ v = .unk .u32 0 4294967295 (.app 0 e) := by
    intro r hr
    unfold sumE at hr
    split at hr
    · rename_i e
      injection hr with hr
      injection hr with e1 e2
      injection e2 with e2 e3
      exact ⟨e, rfl, e2.symm, e3.symm, e1.symm⟩
    · cases hr
  have eff : ∀ (E : Em) (w w' : World) (e : Ending) (se : SE) (bs : List Int), RH E m.get w → E.fresh nx → E.v = C.V → (se.ev E.v).2 = bs → (e = .returned (.int .u32 (crcF bs)) ∧ w' = w) →
      ∃ v', e = .returned v' ∧ Eff E m nx w (.unk .u32 0 4294967295 (.app 0 se)) m nx v' w' := by
    rintro E w w' e se bs hm hf hv hb ⟨rfl, rfl⟩
    refine ⟨_, rfl, E, hf, Nat.le_refl _, fun _ _ => rfl, hm, Gone.refl _ _ _, ?_⟩
    obtain ⟨r1, r2⟩ := crcF_range bs
    exact .unk _ _ _ _ _ (by simp only [SE.ev]; rw [hb, hv, hV]) r1 r2
  unfold sumG at h
  split at h
  · rename_i x
    split at h
    · obtain ⟨e, he, rfl, rfl, rfl⟩ := fin _ h
      injection he with he
      subst he
      refine ⟨fun _ _ h => .inl h, fun E w ar hm hf hv hr => ⟨call64 _ _, ?_⟩⟩
      have har : ar = #[.slice none 0 0] := by
        have : ∀ (q : List Value), RVs E [.nils] q → q = [.slice none 0 0] := by
          intro q hq
          cases hq with
          | cons _ u _ us a b => cases b; rw [a.nils_inv]
        rw [← Array.toList_inj]
        exact this _ hr
      subst har
      exact (sum_nil w).mono fun e w' he => eff E w w' e .nil [] hm hf hv rfl he
    · rename_i b off len cap z
      split at h
      · rename_i c ro hlen hb
        split at h
        · rename_i l hg
          obtain ⟨e, he, rfl, rfl, rfl⟩ := fin _ h
          refine ⟨fun _ _ h => .inl h, fun E w ar hm hf hv hr => ⟨call64 _ _, ?_⟩⟩
          have hlen := Nat.le_of_ble_eq_true hlen
          obtain ⟨u, har, hu⟩ : ∃ u, ar = #[u] ∧ RV E (.sl b off len cap z) u := by
            have : ∀ (q : List Value), RVs E [.sl b off len cap z] q → ∃ u, q = [u] ∧ RV E (.sl b off len cap z) u := by
              intro q hq
              cases hq with
              | cons _ u _ us a b => cases b; exact ⟨u, rfl, a⟩
            obtain ⟨u, h1, h2⟩ := this _ hr
            exact ⟨u, by rw [← Array.toList_inj]; exact h1, h2⟩
          obtain ⟨lo, ad, cc, k1, k2, k3, k4, k5, rfl⟩ := hu.sl_inv
          subst har
          obtain ⟨_, us, hl1, hl2, hl3⟩ := hm.cells hb hg k1
          have hus := seL_sound he hl2
          have hbl : ((e.ev E.v).2).length = len := by
            have := congrArg List.length hus
            rw [List.length_map] at this
            omega
          have hcell : ∀ (blk o : Nat), ad = ⟨blk, o, none⟩ → ∀ k, k < ((e.ev E.v).2).length → w.cell? ⟨blk, o + k, none⟩ = some (.int .u8 (((e.ev E.v).2).getD k 0)) := by
            intro blk o had k hk
            rcases k5 with h5 | h5
            · rw [had] at h5
              injection h5 with h6 h7
              subst h6 h7
              have := hl3 k (by omega)
              rw [show lo.base + off + k = lo.base + (off + k) by omega, this, hus, List.getElem?_map]
              rw [List.getD_eq_getElem?_getD, List.getElem?_eq_getElem hk]
              rfl
            · omega
          obtain ⟨blk, o, pth⟩ := ad
          have hpth : pth = none ∨ len = 0 := by
            rcases k5 with h5 | h5
            · injection h5 with _ _ h8; exact .inl h8
            · exact .inr (by omega)
          rcases hpth with rfl | h0
          · have := (sum_any blk o ((e.ev E.v).2) cc w (by omega) (hcell blk o rfl)).mono fun en w' he => eff E w w' en e _ hm hf hv rfl he
            rw [hbl] at this
            exact this
          · have hnil : (e.ev E.v).2 = [] := List.eq_nil_of_length_eq_zero (by omega)
            subst h0
            exact (sum_zero ⟨blk, o, pth⟩ cc w).mono fun en w' he => eff E w w' en e [] hm hf hv hnil he
        · cases h
      · cases h
    · cases h
  · cases h
end Go.Ev
namespace Go.Ev
open Go.Proofs
set_option linter.unusedVariables false
set_option linter.unusedSimpArgs false

/-! What the runs stand in. -/
noncomputable def I0 : FuncId → Option (List AV → Tr AObj → Nat → Option (AV × Tr AObj × Nat)) := fun f => match Nat.beq f 64 with | true => some sumG | false => none
noncomputable def C0 (V : SV) : Ctx := ⟨8, V, TT, FF, I0⟩
theorem ok0 (V : SV) (hV : V.val 0 = crcF) : PrOk Tryz.prog (C0 V) := prOk rfl rfl fun f g h => by
  have h : (match Nat.beq f 64 with | true => some sumG | false => none) = some g := h
  split at h
  · rename_i hf
    have hf := Nat.eq_of_beq_eq_true hf
    subst hf
    injection h with h
    subst h
    exact sumG_ok hV
  · cases h

theorem Sim.any' {C : Ctx} {s s' : AState} (id : Nat) (ops : Array Oper) (k : List Item) (n : Nat)
    (h1 : s = ⟨⟨s.fr.fn, .no, .code (.region id ops true) :: k, s.fr.t, s.fr.nt, s.fr.ds, false, s.fr.dfr, s.fr.round⟩, s.cs, s.m, s.nx⟩)
    (h2 : s' = ⟨⟨s.fr.fn, .no, k, s'.fr.t, s.fr.nt, s.fr.ds, false, s.fr.dfr, s.fr.round⟩, s.cs, s'.m, s'.nx⟩)
    (h : anyOk C ops s.fr.nt s'.fr.t s'.m s'.nx n 0 s.fr.t s.m s.nx = true) : Sim C s s' := by
  have := Sim.any (C := C) (fn := s.fr.fn) (id := id) (k := k) (ds := s.fr.ds) (dfr := s.fr.dfr) (round := s.fr.round) (cs := s.cs) n h
  rw [← h1, ← h2] at this
  exact this

namespace L
abbrev i (n : Nat) : AV := .int .i64 (.ofNat n)
abbrev b (n : Nat) : AV := .int .u8 (.ofNat n)
abbrev u (n : Nat) : AV := .int .u64 (.ofNat n)
abbrev l {α : Type} (a : α) : Tr α := .n (some a) .e .e
abbrev n {α : Type} (a : α) (x y : Tr α) : Tr α := .n (some a) x y
def ns : List Nat → SE → SE
  | [], e => e
  | a :: l, e => .cons (.num (.ofNat a)) (ns l e)
end L
end Go.Ev
